/- The abstract interpreter over the model's Code: the operations on data, each under a name of its own. -/
import GoSem.Claims
import Derived.Control
set_option linter.unusedVariables false
set_option linter.unusedSimpArgs false
set_option linter.unnecessarySimpa false
set_option linter.unusedSectionVars false
namespace Go.Vi
noncomputable def qG {α:Type} (x:α): { y:α // y=x } :=Classical.choice ⟨⟨x,rfl⟩⟩
noncomputable def qQ (k:IntKind) (x y:Int):Int:=(qG (α:=IntKind→Int→Int→Int) fun k x y=>k.wrap (x+y)).1 k x y
theorem qk3 (k:IntKind) (x y:Int):qQ k x y=(k.wrap (x+y)):=by unfold qQ; rw [(qG _).2]
noncomputable def qO (k:IntKind) (x y:Int):Int:=(qG (α:=IntKind→Int→Int→Int) fun k x y=>k.wrap (x - y)).1 k x y
theorem qi6 (k:IntKind) (x y:Int):qO k x y=(k.wrap (x - y)):=by unfold qO; rw [(qG _).2]
noncomputable def qmn (k:IntKind) (x y:Int):Int:=(qG (α:=IntKind→Int→Int→Int) fun k x y=>k.wrap (x * y)).1 k x y
theorem qed (k:IntKind) (x y:Int):qmn k x y=(k.wrap (x * y)):=by unfold qmn; rw [(qG _).2]
noncomputable def qom (k:IntKind) (x y:Int):Int:=(qG (α:=IntKind→Int→Int→Int) fun k x y=>k.wrap (x.tdiv y)).1 k x y
theorem qia (k:IntKind) (x y:Int):qom k x y=(k.wrap (x.tdiv y)):=by unfold qom; rw [(qG _).2]
noncomputable def irem (x y:Int):Int:=(qG (α:=Int→Int→Int) fun x y=>x.tmod y).1 x y
theorem qnN (x y:Int):irem x y=(x.tmod y):=by unfold irem; rw [(qG _).2]
noncomputable def ineg (k:IntKind) (x:Int):Int:=(qG (α:=IntKind→Int→Int) fun k x=>k.wrap (0 - x)).1 k x
theorem qnr (k:IntKind) (x:Int):ineg k x=(k.wrap (0 - x)):=by unfold ineg; rw [(qG _).2]
noncomputable def qcr (k:IntKind) (x:Int):Int:=(qG (α:=IntKind→Int→Int) fun k x=>k.wrap x).1 k x
theorem qeu (k:IntKind) (x:Int):qcr k x=(k.wrap x):=by unfold qcr; rw [(qG _).2]
noncomputable def qux (k:IntKind) (x y:Int):Int:=(qG (α:=IntKind→Int→Int→Int) fun k x y=>k.wrap ((BitVec.ofInt k.bits x&&& BitVec.ofInt k.bits y).toNat:Int)).1 k x y
theorem qk2 (k:IntKind) (x y:Int):qux k x y=(k.wrap ((BitVec.ofInt k.bits x&&& BitVec.ofInt k.bits y).toNat:Int)):=by unfold qux; rw [(qG _).2]
noncomputable def bor (k:IntKind) (x y:Int):Int:=(qG (α:=IntKind→Int→Int→Int) fun k x y=>k.wrap ((BitVec.ofInt k.bits x|||BitVec.ofInt k.bits y).toNat:Int)).1 k x y
theorem qpK (k:IntKind) (x y:Int):bor k x y=(k.wrap ((BitVec.ofInt k.bits x|||BitVec.ofInt k.bits y).toNat:Int)):=by unfold bor; rw [(qG _).2]
noncomputable def qil (k:IntKind) (x y:Int):Int:=(qG (α:=IntKind→Int→Int→Int) fun k x y=>k.wrap ((BitVec.ofInt k.bits x ^^^ BitVec.ofInt k.bits y).toNat:Int)).1 k x y
theorem qkX (k:IntKind) (x y:Int):qil k x y=(k.wrap ((BitVec.ofInt k.bits x ^^^ BitVec.ofInt k.bits y).toNat:Int)):=by unfold qil; rw [(qG _).2]
noncomputable def qnH (k:IntKind) (x y:Int):Int:=(qG (α:=IntKind→Int→Int→Int) fun k x y=>k.wrap ((BitVec.ofInt k.bits x&&& ~~~ BitVec.ofInt k.bits y).toNat:Int)).1 k x y
theorem qlP (k:IntKind) (x y:Int):qnH k x y=(k.wrap ((BitVec.ofInt k.bits x&&& ~~~ BitVec.ofInt k.bits y).toNat:Int)):=by unfold qnH; rw [(qG _).2]
noncomputable def qjV (k:IntKind) (x y:Int):Int:=(qG (α:=IntKind→Int→Int→Int) fun k x y=>k.wrap (x * 2^ (min y.toNat k.bits))).1 k x y
theorem qk6 (k:IntKind) (x y:Int):qjV k x y=(k.wrap (x * 2^ (min y.toNat k.bits))):=by unfold qjV; rw [(qG _).2]
noncomputable def qi4 (k:IntKind) (x y:Int):Int:=(qG (α:=IntKind→Int→Int→Int) fun k x y=>x.fdiv (2^ (min y.toNat k.bits))).1 k x y
theorem qjR (k:IntKind) (x y:Int):qi4 k x y=(x.fdiv (2^ (min y.toNat k.bits))):=by unfold qi4; rw [(qG _).2]
noncomputable def eqI (x y:Int):Bool:=(qG (α:=Int→Int→Bool) fun x y=>x == y).1 x y
theorem qn0 (x y:Int):eqI x y=(x == y):=by unfold eqI; rw [(qG _).2]
noncomputable def neI (x y:Int):Bool:=(qG (α:=Int→Int→Bool) fun x y=>x != y).1 x y
theorem qnT (x y:Int):neI x y=(x != y):=by unfold neI; rw [(qG _).2]
noncomputable def ltI (x y:Int):Bool:=(qG (α:=Int→Int→Bool) fun x y=>decide (x<y)).1 x y
theorem qa0 (x y:Int):ltI x y=(decide (x<y)):=by unfold ltI; rw [(qG _).2]
noncomputable def leI (x y:Int):Bool:=(qG (α:=Int→Int→Bool) fun x y=>decide (x≤y)).1 x y
theorem qba (x y:Int):leI x y=(decide (x≤y)):=by unfold leI; rw [(qG _).2]
noncomputable def qvp (x y:Int):Int:=(qG (α:=Int→Int→Int) fun x y=>if y > x then y else x).1 x y
theorem qno (x y:Int):qvp x y=((if y > x then y else x)):=by unfold qvp; rw [(qG _).2]
noncomputable def minI (x y:Int):Int:=(qG (α:=Int→Int→Int) fun x y=>if y<x then y else x).1 x y
theorem qkZ (x y:Int):minI x y=((if y<x then y else x)):=by unfold minI; rw [(qG _).2]
noncomputable def eqB (x y:Bool):Bool:=(qG (α:=Bool→Bool→Bool) fun x y=>x == y).1 x y
theorem qnp (x y:Bool):eqB x y=(x == y):=by unfold eqB; rw [(qG _).2]
noncomputable def eqS (x y:List UInt8):Bool:=(qG (α:=(List UInt8)→(List UInt8)→Bool) fun x y=>x == y).1 x y
theorem qpP (x y:List UInt8):eqS x y=(x == y):=by unfold eqS; rw [(qG _).2]
noncomputable def qfY (x y:List UInt8):Bool:=(qG (α:=(List UInt8)→(List UInt8)→Bool) fun x y=>Op.bytesLess x y).1 x y
theorem qoc (x y:List UInt8):qfY x y=(Op.bytesLess x y):=by unfold qfY; rw [(qG _).2]
noncomputable def qn {α:Type} (xs:List α):Int:=(qG (α:=(List α)→Int) fun xs=>(xs.length:Int)).1 xs
theorem qi {α:Type} (xs:List α):qn xs=((xs.length:Int)):=by unfold qn; rw [(qG _).2]
noncomputable def qh {α:Type} (xs:List α) (i:Int) (d:α):α:=(qG (α:=(List α)→Int→α→α) fun xs i d=>xs.getD i.toNat d).1 xs i d
theorem qb8 {α:Type} (xs:List α) (i:Int) (d:α):qh xs i d=(xs.getD i.toNat d):=by unfold qh; rw [(qG _).2]
noncomputable def qbN {α:Type} (xs:List α) (i:Int) (x:α):List α:=(qG (α:=(List α)→Int→α→(List α)) fun xs i x=>xs.set i.toNat x).1 xs i x
theorem qcd {α:Type} (xs:List α) (i:Int) (x:α):qbN xs i x=(xs.set i.toNat x):=by unfold qbN; rw [(qG _).2]
noncomputable def qf3 {α:Type} (xs ys:List α):List α:=(qG (α:=(List α)→(List α)→(List α)) fun xs ys=>xs++ys).1 xs ys
theorem qbE {α:Type} (xs ys:List α):qf3 xs ys=(xs++ys):=by unfold qf3; rw [(qG _).2]
noncomputable def qau {α:Type} (xs:List α) (lo hi:Int):List α:=(qG (α:=(List α)→Int→Int→(List α)) fun xs lo hi=>(xs.take hi.toNat).drop lo.toNat).1 xs lo hi
theorem qb4 {α:Type} (xs:List α) (lo hi:Int):qau xs lo hi=((xs.take hi.toNat).drop lo.toNat):=by unfold qau; rw [(qG _).2]
noncomputable def qqY {α:Type} (n:Int) (x:α):List α:=(qG (α:=Int→α→(List α)) fun n x=>List.replicate n.toNat x).1 n x
theorem qjG {α:Type} (n:Int) (x:α):qqY n x=(List.replicate n.toNat x):=by unfold qqY; rw [(qG _).2]
noncomputable def cpyN {α:Type} (lo hi:Int) (ys:List α):Int:=(qG (α:=Int→Int→(List α)→Int) fun lo hi ys=>((min ys.length (hi - lo).toNat:Nat):Int)).1 lo hi ys
theorem cpyN_def {α:Type} (lo hi:Int) (ys:List α):cpyN lo hi ys=(((min ys.length (hi - lo).toNat:Nat):Int)):=by unfold cpyN; rw [(qG _).2]
noncomputable def cpyL {α:Type} (xs:List α) (lo hi:Int) (ys:List α):List α:=(qG (α:=(List α)→Int→Int→(List α)→(List α)) fun xs lo hi ys=>xs.take lo.toNat++ys.take (min ys.length (hi - lo).toNat)++xs.drop (lo.toNat+min ys.length (hi - lo).toNat)).1 xs lo hi ys
theorem cpyL_def {α:Type} (xs:List α) (lo hi:Int) (ys:List α):cpyL xs lo hi ys=(xs.take lo.toNat++ys.take (min ys.length (hi - lo).toNat)++xs.drop (lo.toNat+min ys.length (hi - lo).toNat)):=by unfold cpyL; rw [(qG _).2]
noncomputable def qcc (b:UInt8):Int:=(qG (α:=UInt8→Int) fun b=>(b.toNat:Int)).1 b
theorem qe9 (b:UInt8):qcc b=((b.toNat:Int)):=by unfold qcc; rw [(qG _).2]
noncomputable def qeL (xs:List UInt8):List Int:=(qG (α:=(List UInt8)→(List Int)) fun xs=>xs.map qcc).1 xs
theorem qdj (xs:List UInt8):qeL xs=(xs.map qcc):=by unfold qeL; rw [(qG _).2]
noncomputable def qui (xs:List Int):List UInt8:=(qG (α:=(List Int)→(List UInt8)) fun xs=>xs.map fun n=>UInt8.ofNat n.toNat).1 xs
theorem qlN (xs:List Int):qui xs=(xs.map fun n=>UInt8.ofNat n.toNat):=by unfold qui; rw [(qG _).2]
noncomputable def inB (i n:Int):Bool:=(qG (α:=Int→Int→Bool) fun i n=>decide (0≤i)&&decide (i<n)).1 i n
theorem qcz (i n:Int):inB i n=(decide (0≤i)&&decide (i<n)):=by unfold inB; rw [(qG _).2]
noncomputable def inS (lo hi n:Int):Bool:=(qG (α:=Int→Int→Int→Bool) fun lo hi n=>decide (0≤lo)&&(decide (lo≤hi)&&decide (hi≤n))).1 lo hi n
theorem qkq (lo hi n:Int):inS lo hi n=(decide (0≤lo)&&(decide (lo≤hi)&&decide (hi≤n))):=by unfold inS; rw [(qG _).2]
noncomputable def quZ (n:Int) (b:Nat):Bool:=(qG (α:=Int→Nat→Bool) fun n b=>decide (0≤n)&&decide (n * (b:Int)≤140737488355328)).1 n b
theorem qnZ (n:Int) (b:Nat):quZ n b=(decide (0≤n)&&decide (n * (b:Int)≤140737488355328)):=by unfold quZ; rw [(qG _).2]
noncomputable def qcI (n m:Int) (b:Nat):Bool:=(qG (α:=Int→Int→Nat→Bool) fun n m b=>decide ((n+m) * (b:Int)≤140737488355328)).1 n m b
theorem qjF (n m:Int) (b:Nat):qcI n m b=(decide ((n+m) * (b:Int)≤140737488355328)):=by unfold qcI; rw [(qG _).2]
noncomputable def qw {α:Type} (x:Option α):Bool:=(qG (α:=(Option α)→Bool) fun x=>x.isSome).1 x
theorem qgb {α:Type} (x:Option α):qw x=(x.isSome):=by unfold qw; rw [(qG _).2]
noncomputable def qp {α:Type} (x:Option α) (d:α):α:=(qG (α:=(Option α)→α→α) fun x d=>x.getD d).1 x d
theorem qk0 {α:Type} (x:Option α) (d:α):qp x d=(x.getD d):=by unfold qp; rw [(qG _).2]
noncomputable def qW {α β:Type} (x:α) (f:α→β):β:=(qG (α:=α→(α→β)→β) fun x f=>f x).1 x f
theorem qI {α β:Type} (x:α) (f:α→β):qW x f=f x:=by unfold qW; rw [(qG _).2]
noncomputable def qhf {α β:Type} (f:α→β) (x:Option α):Option β:=(qG (α:=(α→β)→(Option α)→Option β) fun f x=>x.map f).1 f x
theorem qce {α β:Type} (f:α→β) (x:Option α):qhf f x=(x.map f):=by unfold qhf; rw [(qG _).2]
noncomputable def qtt {α:Type} (x y:Option α):Option α:=(qG (α:=(Option α)→(Option α)→(Option α)) fun x y=>open Classical in if x=y then x else none).1 x y
open Classical in
theorem qo9 {α:Type} (x y:Option α):qtt x y=(if x=y then x else none):=by unfold qtt; rw [(qG _).2]
open Classical in
noncomputable def qfr {α β:Type} (xs:List (α×β)) (k:α):Nat:=xs.findIdx fun p=>decide (p.1=k)
def qp5 {α β:Type} (xs:List (α×β)) (i:Nat) (v:β):List (α×β):=match xs[i]? with
 |some p=>xs.set i (p.1,v)
 |none=>xs
noncomputable def quI {α β:Type} (xs:List (α×β)) (k:α):Bool:=(qG (α:=List (α×β)→α→Bool) fun xs k=>decide (qfr xs k<xs.length)).1 xs k
theorem qk9 {α β:Type} (xs:List (α×β)) (k:α):quI xs k=decide (qfr xs k<xs.length):=by unfold quI; rw [(qG _).2]
noncomputable def qhn {α β:Type} (xs:List (α×β)) (k:α) (d:β):β:=(qG (α:=List (α×β)→α→β→β) fun xs k d=>((xs[qfr xs k]?).map (·.2)).getD d).1 xs k d
theorem qjQ {α β:Type} (xs:List (α×β)) (k:α) (d:β):qhn xs k d=((xs[qfr xs k]?).map (·.2)).getD d:=by unfold qhn; rw [(qG _).2]
noncomputable def ment {α β:Type} (xs:List (α×β)) (k:α) (d:β):List (α×β):=(qG (α:=List (α×β)→α→β→List (α×β)) fun xs k d=>if qfr xs k<xs.length then xs else xs++[(k,d)]).1 xs k d
theorem ment_def {α β:Type} (xs:List (α×β)) (k:α) (d:β):ment xs k d=if qfr xs k<xs.length then xs else xs++[(k,d)]:=by unfold ment; rw [(qG _).2]
noncomputable def mpos {α β:Type} (xs:List (α×β)) (k:α):Int:=(qG (α:=List (α×β)→α→Int) fun xs k=>(qfr xs k:Int)).1 xs k
theorem mpos_def {α β:Type} (xs:List (α×β)) (k:α):mpos xs k=(qfr xs k:Int):=by unfold mpos; rw [(qG _).2]
noncomputable def mset {α β:Type} (xs:List (α×β)) (i:Int) (v:β):List (α×β):=(qG (α:=List (α×β)→Int→β→List (α×β)) fun xs i v=>qp5 xs i.toNat v).1 xs i v
theorem mset_def {α β:Type} (xs:List (α×β)) (i:Int) (v:β):mset xs i v=qp5 xs i.toNat v:=by unfold mset; rw [(qG _).2]
noncomputable def qmh {α β:Type} (xs:List (α×β)) (k:α) (v:β):List (α×β):=(qG (α:=List (α×β)→α→β→List (α×β)) fun xs k v=>if qfr xs k<xs.length then qp5 xs (qfr xs k) v else xs++[(k,v)]).1 xs k v
theorem qjN {α β:Type} (xs:List (α×β)) (k:α) (v:β):qmh xs k v=if qfr xs k<xs.length then qp5 xs (qfr xs k) v else xs++[(k,v)]:=by unfold qmh; rw [(qG _).2]
def qZ {S R:Type} (n:Nat) (step:(S→Option R)→S→Option R):S→Option R:=
 match n with
 |0=>fun _=>none
 |n+1=>step (qZ n step)
end Go.Vi
