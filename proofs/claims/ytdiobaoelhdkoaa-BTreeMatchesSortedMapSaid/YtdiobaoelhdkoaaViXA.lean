import GoSem.Claims
import Derived.Control
import Derived.Below
import Derived.Laws.AppendOwn
import Derived.Laws.OwnMore
import Derived.Laws.Slices
import Derived.WalkKit
set_option linter.unusedVariables false
set_option linter.unusedSimpArgs false
set_option linter.unnecessarySimpa false
set_option linter.unusedSectionVars false
open Bool renaming and_eq_true → zad
open List renaming Sublist → zaU, append_nil → zaO, drop_eq_getElem_cons → zaB, drop_of_length_le → zaI, drop_zero → zaN, eq_nil_of_length_eq_zero → zaz, getElem?_eq_getElem → zac, length_append → zag, mem_append → zaf, mem_append_left → zab, mem_append_right → zaa, mem_cons_of_mem → zaj, mem_cons_self → zar, nodup_append → zai, nodup_cons → zaJ, nodup_nil → zaA, replicate → zaT, take_append_drop → zay, take_of_length_le → zan
open Nat renaming add_mul → zaS, le_refl → zax, lt_of_lt_of_le → zaq
open Option renaming map_eq_some_iff → zao
namespace Go.Vi
noncomputable def qW {α:Type}(x:α): { y:α // y=x } :=Classical.choice ⟨⟨x,rfl⟩⟩
noncomputable def qaj (k:IntKind) (x y:Int):Int:=(qW (α:=IntKind→Int→Int→Int) fun k x y=>k.wrap (x+y)).1 k x y
theorem qjW (k:IntKind) (x y:Int):qaj k x y=(k.wrap (x+y)):=by grind [qaj]
noncomputable def qaF (k:IntKind) (x y:Int):Int:=(qW (α:=IntKind→Int→Int→Int) fun k x y=>k.wrap (x-y)).1 k x y
theorem qjY (k:IntKind) (x y:Int):qaF k x y=(k.wrap (x-y)):=by grind [qaF]
noncomputable def qoc (k:IntKind) (x y:Int):Int:=(qW (α:=IntKind→Int→Int→Int) fun k x y=>k.wrap (x*y)).1 k x y
theorem qhe (k:IntKind) (x y:Int):qoc k x y=(k.wrap (x*y)):=by grind [qoc]
noncomputable def qth (k:IntKind) (x y:Int):Int:=(qW (α:=IntKind→Int→Int→Int) fun k x y=>k.wrap (x.tdiv y)).1 k x y
theorem qnd (k:IntKind) (x y:Int):qth k x y=(k.wrap (x.tdiv y)):=by grind [qth]
noncomputable def irem (x y:Int):Int:=(qW (α:=Int→Int→Int) fun x y=>x.tmod y).1 x y
theorem qql (x y:Int):irem x y=(x.tmod y):=by grind [irem]
noncomputable def ineg (k:IntKind) (x:Int):Int:=(qW (α:=IntKind→Int→Int) fun k x=>k.wrap (0-x)).1 k x
theorem qqc (k:IntKind) (x:Int):ineg k x=(k.wrap (0-x)):=by grind [ineg]
noncomputable def qcE (k:IntKind) (x:Int):Int:=(qW (α:=IntKind→Int→Int) fun k x=>k.wrap x).1 k x
theorem qiF (k:IntKind) (x:Int):qcE k x=(k.wrap x):=by grind [qcE]
noncomputable def band (k:IntKind) (x y:Int):Int:=(qW (α:=IntKind→Int→Int→Int) fun k x y=>k.wrap ((BitVec.ofInt k.bits x&&& BitVec.ofInt k.bits y).toNat:Int)).1 k x y
theorem qqs (k:IntKind) (x y:Int):band k x y=(k.wrap ((BitVec.ofInt k.bits x&&& BitVec.ofInt k.bits y).toNat:Int)):=by grind [band]
noncomputable def bor (k:IntKind) (x y:Int):Int:=(qW (α:=IntKind→Int→Int→Int) fun k x y=>k.wrap ((BitVec.ofInt k.bits x|||BitVec.ofInt k.bits y).toNat:Int)).1 k x y
theorem qsx (k:IntKind) (x y:Int):bor k x y=(k.wrap ((BitVec.ofInt k.bits x|||BitVec.ofInt k.bits y).toNat:Int)):=by grind [bor]
noncomputable def bxor (k:IntKind) (x y:Int):Int:=(qW (α:=IntKind→Int→Int→Int) fun k x y=>k.wrap ((BitVec.ofInt k.bits x ^^^ BitVec.ofInt k.bits y).toNat:Int)).1 k x y
theorem qj4 (k:IntKind) (x y:Int):bxor k x y=(k.wrap ((BitVec.ofInt k.bits x ^^^ BitVec.ofInt k.bits y).toNat:Int)):=by grind [bxor]
noncomputable def qmV (k:IntKind) (x y:Int):Int:=(qW (α:=IntKind→Int→Int→Int) fun k x y=>k.wrap ((BitVec.ofInt k.bits x&&& ~~~ BitVec.ofInt k.bits y).toNat:Int)).1 k x y
theorem qkQ (k:IntKind) (x y:Int):qmV k x y=(k.wrap ((BitVec.ofInt k.bits x&&& ~~~ BitVec.ofInt k.bits y).toNat:Int)):=by grind [qmV]
noncomputable def shlI (k:IntKind) (x y:Int):Int:=(qW (α:=IntKind→Int→Int→Int) fun k x y=>k.wrap (x*2^ (min y.toNat k.bits))).1 k x y
theorem qqr (k:IntKind) (x y:Int):shlI k x y=(k.wrap (x*2^ (min y.toNat k.bits))):=by grind [shlI]
noncomputable def qlZ (k:IntKind) (x y:Int):Int:=(qW (α:=IntKind→Int→Int→Int) fun k x y=>x.fdiv (2^ (min y.toNat k.bits))).1 k x y
theorem qnz (k:IntKind) (x y:Int):qlZ k x y=(x.fdiv (2^ (min y.toNat k.bits))):=by grind [qlZ]
noncomputable def eqI (x y:Int):Bool:=(qW (α:=Int→Int→Bool) fun x y=>x==y).1 x y
theorem qcc (x y:Int):eqI x y=(x==y):=by grind [eqI]
noncomputable def neI (x y:Int):Bool:=(qW (α:=Int→Int→Bool) fun x y=>x !=y).1 x y
theorem qkd (x y:Int):neI x y=(x !=y):=by grind [neI]
noncomputable def ltI (x y:Int):Bool:=(qW (α:=Int→Int→Bool) fun x y=>decide (x<y)).1 x y
theorem qbz (x y:Int):ltI x y=(decide (x<y)):=by grind [ltI]
noncomputable def leI (x y:Int):Bool:=(qW (α:=Int→Int→Bool) fun x y=>decide (x≤y)).1 x y
theorem qdZ (x y:Int):leI x y=(decide (x≤y)):=by grind [leI]
noncomputable def qnI (x y:Int):Int:=(qW (α:=Int→Int→Int) fun x y=>if y > x then y else x).1 x y
theorem qiq (x y:Int):qnI x y=((if y > x then y else x)):=by grind [qnI]
noncomputable def qo9 (x y:Int):Int:=(qW (α:=Int→Int→Int) fun x y=>if y<x then y else x).1 x y
theorem qe8 (x y:Int):qo9 x y=((if y<x then y else x)):=by grind [qo9]
noncomputable def eqB (x y:Bool):Bool:=(qW (α:=Bool→Bool→Bool) fun x y=>x==y).1 x y
theorem qlo (x y:Bool):eqB x y=(x==y):=by grind [eqB]
noncomputable def eqS (x y:List UInt8):Bool:=(qW (α:=(List UInt8)→(List UInt8)→Bool) fun x y=>x==y).1 x y
theorem qpn (x y:List UInt8):eqS x y=(x==y):=by grind [eqS]
noncomputable def qnS (x y:List UInt8):Bool:=(qW (α:=(List UInt8)→(List UInt8)→Bool) fun x y=>Op.bytesLess x y).1 x y
theorem qoZ (x y:List UInt8):qnS x y=(Op.bytesLess x y):=by grind [qnS]
noncomputable def qn {α:Type}(xs:List α):Int:=(qW (α:=(List α)→Int) fun xs=>(xs.length:Int)).1 xs
theorem qv {α:Type}(xs:List α):qn xs=((xs.length:Int)):=by grind [qn]
noncomputable def qJ {α:Type}(xs:List α) (i:Int) (d:α):α:=(qW (α:=(List α)→Int→α→α) fun xs i d=>xs.getD i.toNat d).1 xs i d
theorem qhk {α:Type}(xs:List α) (i:Int) (d:α):qJ xs i d=(xs.getD i.toNat d):=by grind [qJ]
noncomputable def qdz {α:Type}(xs:List α) (i:Int) (x:α):List α:=(qW (α:=(List α)→Int→α→(List α)) fun xs i x=>xs.set i.toNat x).1 xs i x
theorem qbv {α:Type}(xs:List α) (i:Int) (x:α):qdz xs i x=(xs.set i.toNat x):=by grind [qdz]
noncomputable def ql0 {α:Type}(xs ys:List α):List α:=(qW (α:=(List α)→(List α)→(List α)) fun xs ys=>xs++ys).1 xs ys
theorem qfU {α:Type}(xs ys:List α):ql0 xs ys=(xs++ys):=by grind [ql0]
noncomputable def qb6 {α:Type}(xs:List α) (lo hi:Int):List α:=(qW (α:=(List α)→Int→Int→(List α)) fun xs lo hi=>(xs.take hi.toNat).drop lo.toNat).1 xs lo hi
theorem qeL {α:Type}(xs:List α) (lo hi:Int):qb6 xs lo hi=((xs.take hi.toNat).drop lo.toNat):=by grind [qb6]
noncomputable def qtn {α:Type}(n:Int) (x:α):List α:=(qW (α:=Int→α→(List α)) fun n x=>zaT n.toNat x).1 n x
theorem qka {α:Type}(n:Int) (x:α):qtn n x=(zaT n.toNat x):=by grind [qtn]
noncomputable def qpk (b:UInt8):Int:=(qW (α:=UInt8→Int) fun b=>(b.toNat:Int)).1 b
theorem qgK (b:UInt8):qpk b=((b.toNat:Int)):=by grind [qpk]
noncomputable def qkZ (xs:List UInt8):List Int:=(qW (α:=(List UInt8)→(List Int)) fun xs=>xs.map qpk).1 xs
theorem qfA (xs:List UInt8):qkZ xs=(xs.map qpk):=by grind [qkZ]
noncomputable def qtT (xs:List Int):List UInt8:=(qW (α:=(List Int)→(List UInt8)) fun xs=>xs.map fun n=>UInt8.ofNat n.toNat).1 xs
theorem qkY (xs:List Int):qtT xs=(xs.map fun n=>UInt8.ofNat n.toNat):=by grind [qtT]
noncomputable def inB (i n:Int):Bool:=(qW (α:=Int→Int→Bool) fun i n=>decide (0≤i)&&decide (i<n)).1 i n
theorem qf4 (i n:Int):inB i n=(decide (0≤i)&&decide (i<n)):=by grind [inB]
noncomputable def inS (lo hi n:Int):Bool:=(qW (α:=Int→Int→Int→Bool) fun lo hi n=>decide (0≤lo)&&(decide (lo≤hi)&&decide (hi≤n))).1 lo hi n
theorem qhS (lo hi n:Int):inS lo hi n=(decide (0≤lo)&&(decide (lo≤hi)&&decide (hi≤n))):=by grind [inS]
noncomputable def room (n:Int) (b:Nat):Bool:=(qW (α:=Int→Nat→Bool) fun n b=>decide (0≤n)&&decide (n*(b:Int)≤140737488355328)).1 n b
theorem qqd (n:Int) (b:Nat):room n b=(decide (0≤n)&&decide (n*(b:Int)≤140737488355328)):=by grind [room]
noncomputable def qc1 (n m:Int) (b:Nat):Bool:=(qW (α:=Int→Int→Nat→Bool) fun n m b=>decide ((n+m)*(b:Int)≤140737488355328)).1 n m b
theorem qgY (n m:Int) (b:Nat):qc1 n m b=(decide ((n+m)*(b:Int)≤140737488355328)):=by grind [qc1]
noncomputable def qp {α:Type}(x:Option α):Bool:=(qW (α:=(Option α)→Bool) fun x=>x.isSome).1 x
theorem qaI {α:Type}(x:Option α):qp x=(x.isSome):=by grind [qp]
noncomputable def qy {α:Type}(x:Option α) (d:α):α:=(qW (α:=(Option α)→α→α) fun x d=>x.getD d).1 x d
theorem qbh {α:Type}(x:Option α) (d:α):qy x d=(x.getD d):=by grind [qy]
noncomputable def qT {α β:Type}(x:α) (f:α→β):β:=(qW (α:=α→(α→β)→β) fun x f=>f x).1 x f
theorem qak {α β:Type}(x:α) (f:α→β):qT x f=f x:=by grind [qT]
noncomputable def qbl {α β:Type}(_tag:Nat) (x:α) (f:α→β):β:=(qW (α:=α→(α→β)→β) fun x f=>f x).1 x f
theorem qdn {α β:Type}(n:Nat) (x:α) (f:α→β):qbl n x f=f x:=by grind [qbl]
noncomputable def qkj {α β:Type}(f:α→β) (x:Option α):Option β:=(qW (α:=(α→β)→(Option α)→Option β) fun f x=>x.map f).1 f x
theorem qeE {α β:Type}(f:α→β) (x:Option α):qkj f x=(x.map f):=by grind [qkj]
noncomputable def qtV {α:Type}(x y:Option α):Option α:=(qW (α:=(Option α)→(Option α)→(Option α)) fun x y=>open Classical in if x=y then x else none).1 x y
open Classical in
theorem qnN {α:Type}(x y:Option α):qtV x y=(if x=y then x else none):=by grind [qtV]
open Classical in
noncomputable def qjm {α β:Type}(xs:List (α×β)) (k:α):Nat:=xs.findIdx fun p=>decide (p.1=k)
def qvv {α β:Type}(xs:List (α×β)) (i:Nat) (v:β):List (α×β):=match xs[i]? with
 |some p=>xs.set i (p.1,v)
 |none=>xs
noncomputable def quB {α β:Type}(xs:List (α×β)) (k:α):Bool:=(qW (α:=List (α×β)→α→Bool) fun xs k=>decide (qjm xs k<xs.length)).1 xs k
theorem qna {α β:Type}(xs:List (α×β)) (k:α):quB xs k=decide (qjm xs k<xs.length):=by grind [quB]
noncomputable def qu5 {α β:Type}(xs:List (α×β)) (k:α) (d:β):β:=(qW (α:=List (α×β)→α→β→β) fun xs k d=>((xs[qjm xs k]?).map (·.2)).getD d).1 xs k d
theorem qp2 {α β:Type}(xs:List (α×β)) (k:α) (d:β):qu5 xs k d=((xs[qjm xs k]?).map (·.2)).getD d:=by grind [qu5]
noncomputable def qvB {α β:Type}(xs:List (α×β)) (k:α) (v:β):List (α×β):=(qW (α:=List (α×β)→α→β→List (α×β)) fun xs k v=>if qjm xs k<xs.length then qvv xs (qjm xs k) v else xs++[(k,v)]).1 xs k v
theorem qqu {α β:Type}(xs:List (α×β)) (k:α) (v:β):qvB xs k v=if qjm xs k<xs.length then qvv xs (qjm xs k) v else xs++[(k,v)]:=by grind [qvB]
def qaE {S R:Type}(n:Nat) (step:(S→Option R)→S→Option R):S→Option R:=
 match n with
 |0=>fun _=>none
 |n+1=>step (qaE n step)
noncomputable def qX (x y:Int):Int:=(qW (α:=Int→Int→Int) fun x y=>x+y).1 x y
theorem qed (x y:Int):qX x y=x+y:=by grind [qX]
noncomputable def qaS (x y:Int):Int:=(qW (α:=Int→Int→Int) fun x y=>x-y).1 x y
theorem qdF (x y:Int):qaS x y=x-y:=by grind [qaS]
noncomputable def qN {α:Type}(rows:List (Option (List α))) (id:Int):Option (List α):=(qW (α:=List (Option (List α))→Int→Option (List α)) fun rows id=>if 0≤id then(rows[id.toNat]?).join else none).1 rows id
theorem qa9 {α:Type}(rows:List (Option (List α))) (id:Int):qN rows id=if 0≤id then(rows[id.toNat]?).join else none:=by grind [qN]
noncomputable def qdD {α:Type}(rows:List (Option (List α))) (id:Int) (xs:List α):List (Option (List α)):=(qW (α:=List (Option (List α))→Int→List α→List (Option (List α))) fun rows id xs=>rows.set id.toNat (some xs)).1 rows id xs
theorem qec {α:Type}(rows:List (Option (List α))) (id:Int) (xs:List α):qdD rows id xs=rows.set id.toNat (some xs):=by grind [qdD]
noncomputable def qdc {α:Type}(rows:List (Option (List α))) (xs:List α):List (Option (List α)):=(qW (α:=List (Option (List α))→List α→List (Option (List α))) fun rows xs=>rows++[some xs]).1 rows xs
theorem qbW {α:Type}(rows:List (Option (List α))) (xs:List α):qdc rows xs=rows++[some xs]:=by grind [qdc]
def qqK {α:Type}(rows:List (Option (List α))) (s:Int×(Int×Int)) (ys:List α):Option (List (Option (List α))×(Int×(Int×Int))):=
 if ys.length=0 then some (rows,s)
 else if s.1= -1 then some (rows++[some ys],((rows.length:Int),(0,(ys.length:Int))))
 else match(if 0≤s.1 then(rows[s.1.toNat]?).join else none)with
  |none=>none
  |some xs=>if s.2.2+ys.length≤xs.length then some (rows.set s.1.toNat (some (xs.take s.2.2.toNat++ys++xs.drop (s.2.2.toNat+ys.length))),(s.1,(s.2.1,s.2.2+ys.length)))
   else if s.2.2=xs.length∧s.2.1=0 then some (rows.set s.1.toNat none++[some (xs++ys)],((rows.length:Int),(0,s.2.2+ys.length)))
   else if s.2.1=0∧0≤s.2.2 then some (rows.set s.1.toNat none++[some (xs.take s.2.2.toNat++ys)],((rows.length:Int),(0,s.2.2+ys.length)))else none
noncomputable def qfF {α:Type}(rows:List (Option (List α))) (s:Int×(Int×Int)) (ys:List α):Option (List (Option (List α))×(Int×(Int×Int))):=(qW (α:=List (Option (List α))→(Int×(Int×Int))→List α→Option (List (Option (List α))×(Int×(Int×Int)))) qqK).1 rows s ys
theorem qj2 {α:Type}(rows:List (Option (List α))) (s:Int×(Int×Int)) (ys:List α):qfF rows s ys=qqK rows s ys:=by unfold qfF;rw[(qW _).2]
def qra {α:Type}(rows:List (Option (List α))) (s:Int×(Int×Int)) (d:α):Option (List (Option (List α))):=
 if s.1= -1 then some rows else(if 0≤s.1 then(rows[s.1.toNat]?).join else none).map fun xs=>rows.set s.1.toNat (some (xs.take s.2.1.toNat++(zaT (s.2.2.toNat-s.2.1.toNat) d++xs.drop s.2.2.toNat)))
noncomputable def qrC {α:Type}(rows:List (Option (List α))) (s:Int×(Int×Int)) (d:α):Option (List (Option (List α))):=(qW (α:=List (Option (List α))→(Int×(Int×Int))→α→Option (List (Option (List α)))) qra).1 rows s d
theorem qmR {α:Type}(rows:List (Option (List α))) (s:Int×(Int×Int)) (d:α):qrC rows s d=qra rows s d:=by unfold qrC;rw[(qW _).2]
def hrdL {α:Type}(rows ro:List (Option (List α))) (id:Int):Option (List α):=match(if 0≤id then(rows[id.toNat]?).join else none)with
 |some xs=>some xs
 |none=>if 0≤id then(ro[id.toNat]?).join else none
noncomputable def hrd {α:Type}(rows ro:List (Option (List α))) (id:Int):Option (List α):=(qW (α:=List (Option (List α))→List (Option (List α))→Int→Option (List α)) hrdL).1 rows ro id
theorem qvS {α:Type}(rows ro:List (Option (List α))) (id:Int):hrd rows ro id=hrdL rows ro id:=by unfold hrd;rw[(qW _).2]
def qkU {α:Type}(rows:List (Option (List α))) (s:Int×(Int×Int)) (ys:List α) (ro:List (Option (List α))):List (Option (List α)):=
 if ys.length=0 then ro
 else if s.1= -1 then ro
 else match(if 0≤s.1 then(rows[s.1.toNat]?).join else none)with
  |none=>ro
  |some xs=>if s.2.2+ys.length≤xs.length∨s.2.2<xs.length then[]else(ro++zaT (s.1.toNat+1-ro.length) none).set s.1.toNat (some xs)
noncomputable def qjL {α:Type}(rows:List (Option (List α))) (s:Int×(Int×Int)) (ys:List α) (ro:List (Option (List α))):List (Option (List α)):=(qW (α:=List (Option (List α))→(Int×(Int×Int))→List α→List (Option (List α))→List (Option (List α))) qkU).1 rows s ys ro
theorem qgF {α:Type}(rows:List (Option (List α))) (s:Int×(Int×Int)) (ys:List α) (ro:List (Option (List α))):qjL rows s ys ro=qkU rows s ys ro:=by unfold qjL;rw[(qW _).2]
noncomputable def qmF {α:Type}(x y:Option (List α)):Bool:=(qW (α:=(Option (List α))→(Option (List α))→Bool) fun x y=>open Classical in decide (x=y)).1 x y
theorem qqw {α:Type}(x y:Option (List α)):qmF x y=(open Classical in decide (x=y)):=by grind [qmF]
theorem qsX {α:Type}{x y:Option (List α)}(h:qmF x y=true):x=y:=by grind [qqw]
theorem qcz {α:Type}(x:Option (List α)):qmF x x=true:=by rw[qqw];simp
noncomputable def qcJ {α:Type}(rows:List (Option (List α))) (s:Int×(Int×Int)):Option (List α):=(qW (α:=List (Option (List α))→(Int×(Int×Int))→Option (List α)) fun rows s=>if s.1= -1 then some []else((if 0≤s.1 then(rows[s.1.toNat]?).join else none).map fun xs=>(xs.take s.2.2.toNat).drop s.2.1.toNat)).1 rows s
theorem qls {α:Type}(rows:List (Option (List α))) (s:Int×(Int×Int)):qcJ rows s=if s.1= -1 then some []else((if 0≤s.1 then(rows[s.1.toNat]?).join else none).map fun xs=>(xs.take s.2.2.toNat).drop s.2.1.toNat):=by grind [qcJ]
end Go.Vi
namespace Go.Vi
noncomputable section
inductive Ty where
 |int (k:IntKind)
 |bool
 |str
 |unit
 |pair (a b:Ty)
 |slice (e:Ty)
 |arr (n:Nat) (e:Ty)
 |err
 |opt (e:Ty)
 |map (k v:Ty)
 |ptr (k sz:Nat)
 |sl (k sz:Nat)
 deriving DecidableEq,Inhabited
@[reducible] def Ty.den:Ty→Type
 |.int _=>Int
 |.bool=>Bool
 |.str=>List UInt8
 |.unit=>Unit
 |.pair a b=>a.den×b.den
 |.slice e=>List e.den
 |.arr _ e=>List e.den
 |.err=>Bool
 |.opt e=>Option e.den
 |.map k v=>List (k.den×v.den)
 |.ptr _ _=>Int×Int
 |.sl _ _=>Int×(Int×Int)
def Ty.dflt:(t:Ty)→t.den
 |.int _=>(0:Int)
 |.bool=>false
 |.str=>([]:List UInt8)
 |.unit=>()
 |.pair a b=>(a.dflt,b.dflt)
 |.slice _=>[]
 |.arr n e=>zaT n e.dflt
 |.err=>true
 |.opt _=>none
 |.map _ _=>[]
 |.ptr _ _=>((-1:Int),(0:Int))
 |.sl _ _=>((-1:Int),((0:Int),(0:Int)))
def Ty.size:Ty→Nat
 |.unit=>0
 |.pair a b=>a.size+b.size
 |.arr n e=>n*e.size
 |_=>1
def Ty.agg:Ty→Bool
 |.unit=>true
 |.pair _ _=>true
 |.arr _ _=>true
 |_=>false
def Ty.flat:Ty→Bool
 |.pair a b=>a.flat&&b.flat
 |.slice _=>false
 |.opt _=>false
 |.map _ _=>false
 |.ptr _ _=>false
 |.sl _ _=>false
 |.arr _ e=>e.flat
 |_=>true
def Ty.plain:Ty→Bool
 |.pair a b=>a.plain&&b.plain
 |.ptr _ _=>false
 |.sl _ _=>false
 |_=>true
def Ty.noArr:Ty→Bool
 |.pair a b=>a.noArr&&b.noArr
 |.arr _ _=>false
 |_=>true
def Ty.as {t:Ty}(u:Ty) (x:t.den):Option u.den:=if h:t=u then some (h▸x)else none
def Ty.whole {t:Ty}(u:Ty) (x:t.den) (off:Nat):Option u.den:=if off=0 then Ty.as u x else none
def Ty.sub:(t:Ty)→t.den→Nat→(u:Ty)→Option u.den
 |.pair a b,x,off,u=>match Ty.whole (t:= .pair a b) u x off with
  |some y=>some y
  |none=>if off<a.size then a.sub x.1 off u else b.sub x.2 (off-a.size) u
 |.arr n e,x,off,u=>match Ty.whole (t:= .arr n e) u x off with
  |some y=>some y
  |none=>if off<n*e.size then e.sub (qJ x (Int.ofNat (off/e.size)) e.dflt) (off%e.size) u else none
 |.int k,x,off,u=>Ty.whole (t:= .int k) u x off
 |.bool,x,off,u=>Ty.whole (t:= .bool) u x off
 |.str,x,off,u=>Ty.whole (t:= .str) u x off
 |.unit,x,off,u=>Ty.whole (t:= .unit) u x off
 |.slice e,x,off,u=>Ty.whole (t:= .slice e) u x off
 |.err,x,off,u=>Ty.whole (t:= .err) u x off
 |.opt e,x,off,u=>Ty.whole (t:= .opt e) u x off
 |.map k v,x,off,u=>Ty.whole (t:= .map k v) u x off
 |.ptr k z,x,off,u=>Ty.whole (t:= .ptr k z) u x off
 |.sl k z,x,off,u=>Ty.whole (t:= .sl k z) u x off
def Ty.upd:(t:Ty)→t.den→Nat→(u:Ty)→u.den→Option t.den
 |.pair a b,x,off,u,y=>match Ty.whole (t:=u) (.pair a b) y off with
  |some z=>some z
  |none=>if off<a.size then(match a.upd x.1 off u y with
    |some z=>some (z,x.2)
    |none=>none)else(match b.upd x.2 (off-a.size) u y with
    |some z=>some (x.1,z)
    |none=>none)
 |.arr n e,x,off,u,y=>match Ty.whole (t:=u) (.arr n e) y off with
  |some z=>some z
  |none=>if off<n*e.size then(match e.upd (qJ x (Int.ofNat (off/e.size)) e.dflt) (off%e.size) u y with
    |some z=>some (qdz x (Int.ofNat (off/e.size)) z)
    |none=>none)else none
 |.int k,_,off,u,y=>Ty.whole (t:=u) (.int k) y off
 |.bool,_,off,u,y=>Ty.whole (t:=u) .bool y off
 |.str,_,off,u,y=>Ty.whole (t:=u) .str y off
 |.unit,_,off,u,y=>Ty.whole (t:=u) .unit y off
 |.slice e,_,off,u,y=>Ty.whole (t:=u) (.slice e) y off
 |.err,_,off,u,y=>Ty.whole (t:=u) .err y off
 |.opt e,_,off,u,y=>Ty.whole (t:=u) (.opt e) y off
 |.map k v,_,off,u,y=>Ty.whole (t:=u) (.map k v) y off
 |.ptr k z,_,off,u,y=>Ty.whole (t:=u) (.ptr k z) y off
 |.sl k z,_,off,u,y=>Ty.whole (t:=u) (.sl k z) y off
def Ty.put:(t:Ty)→t.den→Nat→(u:Ty)→u.den→Option ((t:Ty)×t.den)
 |.pair a b,x,off,u,y=>if(off=0∧a.size+b.size=u.size)∧u.agg=true then some ⟨u,y⟩else if off<a.size then(match a.put x.1 off u y with
   |some r=>some ⟨.pair r.1 b,(r.2,x.2)⟩
   |none=>none)else(match b.put x.2 (off-a.size) u y with
   |some r=>some ⟨.pair a r.1,(x.1,r.2)⟩
   |none=>none)
 |.arr _ _,_,_,_,_=>none
 |t,_,off,u,y=>if off=0∧t.size=u.size then some ⟨u,y⟩else none
def Ty.eqb:(t:Ty)→t.den→t.den→Bool
 |.int _,(x:Int),(y:Int)=>eqI x y
 |.bool,(x:Bool),(y:Bool)=>eqB x y
 |.str,(x:List UInt8),(y:List UInt8)=>eqS x y
 |.pair a .unit,x,y=>a.eqb x.1 y.1
 |.pair a b,x,y=>a.eqb x.1 y.1&&b.eqb x.2 y.2
 |_,_,_=>true
def Ty.comparable:Ty→Bool
 |.int _=>true
 |.bool=>true
 |.str=>true
 |.unit=>true
 |.pair a b=>a.comparable&&b.comparable
 |_=>false
inductive BC where
 |val (t:Ty) (x:t.den)
 |own (et:Nat) (e:Ty) (xs:List e.den)
 |pair (a b:BC)
 |hole (n:Nat)
def BC.size:BC→Nat
 |.val t _=>t.size
 |.own _ _ _=>1
 |.pair a b=>a.size+b.size
 |.hole n=>n
def BC.freeze:BC→BC
 |.own _ e xs=>.val (.slice e) xs
 |.pair a b=>.pair a.freeze b.freeze
 |c=>c
def BC.get:BC→Nat→(u:Ty)→Option (u.den×Bool)
 |.val t x,off,u=>(t.sub x off u).map fun y=>(y,false)
 |.own _ e xs,off,u=>if off=0 then(Ty.as (t:= .slice e) u xs).map fun y=>(y,true)else none
 |.pair a b,off,u=>
  match off,u with
  |0,.pair ua ub=>if a.size=ua.size then(match a.get 0 ua,b.get 0 ub with
    |some (x,f),some (y,g)=>some ((x,y),f||g)
    |_,_=>none)else a.get 0 (.pair ua ub)
  |off,u=>if off<a.size then a.get off u else b.get (off-a.size) u
 |.hole _,_,_=>none
def Ty.isPair:Ty→Bool
 |.pair _ _=>true
 |_=>false
def BC.isPair:BC→Bool
 |.pair _ _=>true
 |.val t _=>t.isPair
 |_=>false
def BC.putVal:(t:Ty)→t.den→Nat→BC→Option BC
 |.pair a b,x,off,new=>
  if off<a.size then(if off=0∧a.size=new.size∧a.isPair=new.isPair then some (.pair new (.val b x.2))else(BC.putVal a x.1 off new).map (fun z=>.pair z (.val b x.2)))
  else(if off=a.size∧b.size=new.size∧b.isPair=new.isPair then some (.pair (.val a x.1) new)else(BC.putVal b x.2 (off-a.size) new).map (fun z=>.pair (.val a x.1) z))
 |_,_,_,_=>none
def BC.put:BC→Nat→BC→Option BC
 |.val t x,off,new=>
  match new with
  |.val u y=>(t.upd x off u y).map (.val t)
  |new=>if off=0∧t.size=new.size∧t.isPair=new.isPair then some new else BC.putVal t x off new
 |.own _ _ _,off,new=>if off=0∧new.size=1 then some new else none
 |.pair a b,off,new=>
  if off=0∧a.size+b.size=new.size∧(b.size≠0∨new.isPair=true)then some new
  else if off<a.size then(a.put off new).map (fun z=>.pair z b)else(b.put (off-a.size) new).map (fun z=>.pair a z)
 |.hole n,off,new=>if off=0∧n=new.size then some new else none
def BC.row:BC→Nat→Option (Nat×((e:Ty)×List e.den))
 |.own et e xs,off=>if off=0 then some (et,⟨e,xs⟩)else none
 |.pair a b,off=>if off<a.size then a.row off else b.row (off-a.size)
 |_,_=>none
def BC.swap:BC→Nat→BC→Option BC
 |.own _ _ _,off,n=>if off=0 then some n else none
 |.pair a b,off,n=>if off<a.size then(a.swap off n).map (fun z=>.pair z b)else(b.swap (off-a.size) n).map (fun z=>.pair a z)
 |_,_,_=>none
inductive qcb where
 |val (t:Ty)
 |own (et:Nat) (e:Ty)
 |pair (a b:qcb)
 |hole (n:Nat)
 deriving DecidableEq
@[reducible] def qcb.den:qcb→Type
 |.val t=>t.den
 |.own _ e=>List e.den
 |.pair a b=>a.den×b.den
 |.hole _=>Unit
def qcb.un:(b:qcb)→b.den→BC
 |.val t,x=>.val t x
 |.own et e,xs=>.own et e xs
 |.pair a b,x=>.pair (a.un x.1) (b.un x.2)
 |.hole n,_=>.hole n
def qcb.dflt:(b:qcb)→b.den
 |.val t=>t.dflt
 |.own _ _=>[]
 |.pair a b=>(a.dflt,b.dflt)
 |.hole _=>()
def qcb.flat:qcb→Bool
 |.val t=>t.flat
 |.own _ e=>e.flat
 |.pair a b=>a.flat&&b.flat
 |.hole _=>true
def BC.fit:(b:qcb)→BC→Option b.den
 |.val t,c=>if c.size=t.size then(match c.get 0 t with
  |some r=>some r.1
  |none=>none)else none
 |.own et e,c=>match c with
  |.own et' e' xs=>if et=et' then Ty.as (t:= .slice e') (.slice e) xs else none
  |_=>none
 |.pair a b,c=>match c with
  |.pair c d=>(match BC.fit a c,BC.fit b d with
   |some x,some y=>some (x,y)
   |_,_=>none)
  |.val (.pair ta tb) x=>(match BC.fit a (.val ta x.1),BC.fit b (.val tb x.2)with
   |some x,some y=>some (x,y)
   |_,_=>none)
  |_=>none
 |.hole _,_=>none
@[reducible] def denL:List Ty→Type
 |[]=>Unit
 |t::r=>t.den×denL r
@[reducible] def hden:List (Nat×Nat×Ty)→Type
 |[]=>Unit
 |q::r=>List (Option (List q.2.2.den))×hden r
inductive qoQ where
 |val (t:Ty) (x:t.den)
 |own (et:Nat) (e:Ty) (xs:List e.den)
 |gone
 |nz (e:Ty) (xs:List e.den)
structure qQ where
 k:Nat
 et:Nat
 e:Ty
 rows:List (Option (List e.den))
def qcy (k:Nat):List qQ→Option qQ
 |[]=>none
 |p::ps=>if p.k=k then some p else qcy k ps
def qcg (k:Nat) (ps:List qQ):Option qQ:=match decide (k<100)with
 |true=>qcy k ps
 |false=>none
def qgs (et:Nat):List qQ→List qQ
 |[]=>[]
 |p::ps=>(match decide (100≤p.k)&&decide (p.et=et)with
  |true=> { p with rows:=[] }
  |false=>p)::qgs et ps
def pset (q:qQ):List qQ→List qQ
 |[]=>[]
 |p::ps=>if p.k=q.k then q::ps else p::pset q ps
inductive AV where
 |undef
 |val (t:Ty) (x:t.den)
 |own (et:Nat) (e:Ty) (xs:List e.den)
 |agg (c:BC)
 |box (c:BC)
 |ref (s v:Nat)
 |bref (s v off:Nat) (u:Ty)
 |pbox (s v off:Nat)
 |pip (k off:Nat)
 |prow (s v:Nat) (fo:Option Nat) (sz:Nat) (i:Int) (off:Nat)
 |osl (s v:Nat) (fo:Option Nat) (sz:Nat) (lo hi:Int)
 |view (t:Ty) (x:t.den) (off:Nat)
 |tup (cs:List qoQ)
 |grd (s v:Nat) (want:Bool) (a:AV)
 |fn (f:Nat) (caps:List qoQ)
 |fnv (ps rs:List Ty) (φ:denL ps→Option (denL rs))
 |amb (w m:Bool)
 |parr (s:Nat) (v:Option Nat) (off n:Nat) (e:Ty) (i:Int) (o2:Nat)
 |nilr (et:Nat) (e:Ty)
 |nz (e:Ty) (xs:List e.den)
 |mp (k v:Ty) (xs:List (k.den×v.den))
 |hv (t:Ty) (x:t.den)
 |hbox (t:Ty) (x:t.den)
 |hown (et:Nat) (e:Ty) (xs:List e.den)
 |heap (ps:List qQ)
 |hp (k sz:Nat) (id i:Int) (off:Nat)
 |htup (ts:List Ty) (y:denL ts)
 |hclo (f:Nat) (cs:List Ty) (y:denL cs)
 |hfnv (ks:List (Nat×Nat×Ty)) (ts us:List Ty) (φ:hden ks→denL ts→Option (hden ks×denL us))
 |hls (ks:List (Nat×Nat×Ty)) (φ:hden ks→denL [.int .i64,.int .i64]→Option (hden ks×denL [.bool])) (ψ:hden ks→denL [.int .i64,.int .i64]→Option (hden ks×denL [])) (j:Nat)
 |hifc (t k sz:Nat) (s:Int×(Int×Int))
def AV.isHeap:AV→Bool
 |.heap _=>true
 |_=>false
def AV.rowAt (fo:Option Nat):AV→Option (Nat×((e:Ty)×List e.den))
 |.own et e xs=>match fo with
  |none=>some (et,⟨e,xs⟩)
  |some _=>none
 |.box c=>match fo with
  |some o=>c.row o
  |none=>none
 |_=>none
def AV.swapRow (n:BC) (fo:Option Nat):AV→Option AV
 |.own _ _ _=>match fo,n with
  |none,.own et e xs=>some (.own et e xs)
  |none,.hole _=>some .undef
  |_,_=>none
 |.box c=>match fo with
  |some o=>(c.swap o n).map .box
  |none=>none
 |_=>none
abbrev Ent:=Nat×AV
abbrev St:=List Ent
inductive Q (α:Type) where
 |ret (a:α)
 |fail
 |get (s:Nat) (k:Ent→Q α)
def Q.bind {α β:Type}:Q α→(α→Q β)→Q β
 |.ret a,f=>f a
 |.fail,_=>.fail
 |.get s k,f=>.get s fun e=>(k e).bind f
instance:Monad Q where
 pure:=Q.ret
 bind:=Q.bind
def Q.opt {α:Type}:Option α→Q α
 |some a=>.ret a
 |none=>.fail
def Q.run {α:Type}(lk:Nat→Ent):Q α→Option α
 |.ret a=>some a
 |.fail=>none
 |.get s k=>(k (lk s)).run lk
def Q.log {α:Type}(lk:Nat→Ent):Q α→List Nat
 |.ret _=>[]
 |.fail=>[]
 |.get s k=>s::(k (lk s)).log lk
inductive PM where
 |val (t:Ty)
 |own (et:Nat) (e:Ty)
 |io (t:Ty)
 |fn (ps rs:List Ty)
 |nil (et:Nat) (e:Ty)
 |rd (t:Ty)
 |ior (et:Nat) (e:Ty)
 |iob (b:qcb)
 deriving DecidableEq
@[reducible] def PM.den:PM→Type
 |.val t=>t.den
 |.own _ e=>List e.den
 |.io t=>t.den
 |.fn ps rs=>denL ps→Option (denL rs)
 |.nil _ _=>Unit
 |.rd t=>t.den
 |.ior _ e=>List e.den
 |.iob b=>b.den
@[reducible] def PMs.den:List PM→Type
 |[]=>Unit
 |p::r=>p.den×PMs.den r
@[reducible] def PMs.ioDen:List PM→Type
 |[]=>Unit
 |.io t::r=>t.den×PMs.ioDen r
 |.ior _ e::r=>List e.den×PMs.ioDen r
 |.iob b::r=>b.den×PMs.ioDen r
 |_::r=>PMs.ioDen r
inductive RM where
 |val (t:Ty)
 |own (et:Nat) (e:Ty)
 |nz (e:Ty)
 deriving DecidableEq
@[reducible] def RM.den:RM→Type
 |.val t=>t.den
 |.own _ e=>List e.den
 |.nz e=>List e.den
@[reducible] def RMs.den:List RM→Type
 |[]=>Unit
 |r::rs=>r.den×RMs.den rs
def RM.dflt:(r:RM)→r.den
 |.val t=>t.dflt
 |.own _ _=>[]
 |.nz _=>[]
def RMs.dflt:(rs:List RM)→RMs.den rs
 |[]=>()
 |r::rs=>(r.dflt,RMs.dflt rs)
def PMs.yg:(ps:List PM)→PMs.ioDen ps
 |[]=>()
 |.io t::r=>(t.dflt,PMs.yg r)
 |.val _::r=>PMs.yg r
 |.own _ _::r=>PMs.yg r
 |.fn _ _::r=>PMs.yg r
 |.nil _ _::r=>PMs.yg r
 |.rd _::r=>PMs.yg r
 |.ior _ _::r=>([],PMs.yg r)
 |.iob b::r=>(b.dflt,PMs.yg r)
structure qH where
 ps:List PM
 rs:List RM
 sem:PMs.den ps→Option (RMs.den rs×PMs.ioDen ps)
def qR:(ks:List (Nat×Nat×Ty))→hden ks→List qQ
 |[],_=>[]
 |q::r,x=>⟨q.1,q.2.1,q.2.2,x.1⟩::qR r x.2
inductive HM where
 |v (t:Ty)
 |fn (ts us:List Ty)
 |hfn (ts us:List Ty)
 |ls
 |ifc (t k sz:Nat)
 deriving DecidableEq
@[reducible] def HM.den (ks:List (Nat×Nat×Ty)):HM→Type
 |.v t=>t.den
 |.fn ts us=>denL ts→Option (denL us)
 |.hfn ts us=>hden ks→denL ts→Option (hden ks×denL us)
 |.ls=>(hden ks→denL [.int .i64,.int .i64]→Option (hden ks×denL [.bool]))×(hden ks→denL [.int .i64,.int .i64]→Option (hden ks×denL []))
 |.ifc _ _ _=>Int×(Int×Int)
@[reducible] def HMs.den (ks:List (Nat×Nat×Ty)):List HM→Type
 |[]=>Unit
 |m::r=>m.den ks×HMs.den ks r
structure qaX where
 ks:List (Nat×Nat×Ty)
 ps:List HM
 rs:List Ty
 sem:hden ks→HMs.den ks ps→Option (hden ks×denL rs)
abbrev qo5:=Nat→Option ((t:Ty)×t.den)
structure Env where
 ty:Nat→Option Ty
 etid:Nat→Nat
 off:Nat→Nat→Option Nat
 fty:Nat→Nat→Nat
 zero:Nat→Option BC
 bytes:Nat→Nat
 eqok:Nat→Bool
 fn:Nat→Option qH
 pins:List Nat
 ownz:Bool
 tabs:qo5
 rf:List Nat
 nzr:Bool:=false
 tk:List Nat:=[]
 hon:Bool:=false
 hs:Nat:=0
 hty:Nat→Option Ty:=fun _=>none
 hob:Nat→Option Nat:=fun _=>none
 hfn:Nat→Option qaX:=fun _=>none
 hks:List (Nat×Nat×Ty):=[]
 hpar:Option ((t:Ty)×t.den):=none
 hxs:List Nat:=[]
 hlst:Option (Nat×Nat×Nat):=none
end
end Go.Vi
namespace Go.Vi
noncomputable section
def qj (σ:St) (s:Nat):Ent:=σ.getD s (0,.undef)
abbrev qdU:=List (Nat×Nat×Bool×Bool)
def lit (w b:Bool):Bool:=match w with
 |true=>b
 |false=> !b
def qhp:qdU→Bool
 |[]=>true
 |[(_,_,w,b)]=>lit w b
 |(_,_,w,b)::r=>lit w b&&qhp r
def qcx:Nat→Nat→Bool→Q qdU
 |0,_,_=>.fail
 |n+1,s,want=>.get s fun e=>match e.2 with
  |.val .bool b=>.ret [(s,e.1,want,b)]
  |.grd s2 v2 w2 (.val .bool b)=>(qcx n s2 w2).bind fun r=>match r with
   |(s3,v3,w3,b3)::r'=>if v3=v2 then .ret ((s,e.1,want,b)::(s3,v3,w3,b3)::r')else .fail
   |[]=>.fail
  |_=>.fail
def qnZ (s v:Nat) (w:Bool):qdU→Bool
 |[]=>false
 |(s',v',w',_)::r=>(s==s'&&v==v'&&w==w')||qnZ s v w r
def qav (p:qdU):AV→AV
 |.grd s v w a=>if qnZ s v w p then qav p a else .undef
 |a=>a
def qpa (c:Operand) (v:Nat) (w b:Bool) (p:qdU):qdU:=match c with
 |.tmp t=>(t,v,w,b)::p
 |_=>p
structure Op1 where
 s:Option Nat
 v:Nat
 a:AV
def Ty.dec:(t:Ty)→List Value→Option (t.den×List Value)
 |.int k,cs=>match cs with
  |.int k' n::r=>if k=k'∧k.min≤n∧n≤k.max then some (n,r)else none
  |_=>none
 |.bool,cs=>match cs with
  |.bool b::r=>some (b,r)
  |_=>none
 |.str,cs=>match cs with
  |.string s::r=>if s.data.toList.length≤1048576 then some (s.data.toList,r)else none
  |_=>none
 |.unit,r=>some ((),r)
 |.pair a b,cs=>match a.dec cs with
  |some (x,r)=>match b.dec r with
   |some (y,r')=>some ((x,y),r')
   |none=>none
  |none=>none
 |.slice _,cs=>match cs with
  |.slice none 0 0::r=>some ([],r)
  |_=>none
 |.arr _ _,_=>none
 |.err,cs=>match cs with
  |.nilIface::r=>some (true,r)
  |_=>none
 |.opt _,cs=>match cs with
  |.pointer none::r=>some (none,r)
  |_=>none
 |.map _ _,_=>none
 |.ptr _ _,_=>none
 |.sl _ _,_=>none
def qkH (E:Env) (tid:Nat) (c:Value):Option AV:=
 match c with
 |.int k n=>if k.min≤n∧n≤k.max then some (.val (.int k) n)else none
 |.bool b=>some (.val .bool b)
 |.string s=>if s.data.toList.length≤1048576 then some (.val .str s.data.toList)else none
 |.slice none 0 0=>match E.hty tid with
  |some (.sl k sz)=>some (.hv (.sl k sz) (-1,(0,0)))
  |_=>(match E.ty tid with
   |some (.slice e)=>(match E.nzr with
    |true=>some (.nilr (E.etid tid) e)
    |false=>some (.own (E.etid tid) e []))
   |_=>none)
 |.nilIface=>match E.ty tid with
  |some .err=>some (.val .err true)
  |_=>none
 |.pointer none=>match E.hty tid with
  |some (.ptr k sz)=>some (.hv (.ptr k sz) (-1,0))
  |_=>(match E.ty tid with
   |some (.opt e)=>some (.val (.opt e) none)
   |_=>none)
 |.agg cs=>match E.ty tid with
  |some t=>if t.agg then(match t.dec cs.toList with
   |some (x,[])=>some (.val t x)
   |_=>none)else none
  |none=>none
 |_=>none
def opd (E:Env) (p:qdU) (tid:Nat):Operand→Q Op1
 |.tmp t=>.get t fun e=>.ret ⟨some t,e.1,qav p e.2⟩
 |.const c=>match qkH E tid c with
  |some a=>.ret ⟨none,0,a⟩
  |none=>.fail
 |.func f=>.ret ⟨none,0,.fn f []⟩
 |.global g=>match E.tabs g with
  |some r=>.ret ⟨none,0,.view r.1 r.2 0⟩
  |none=>.fail
structure VR where
 t:Ty
 x:t.den
 ow:List Nat
def qlE (o:Op1):Q VR:=
 match o.a with
 |.val t x=>.ret ⟨t,x,[]⟩
 |.own _ e xs=>.ret ⟨.slice e,xs,o.s.toList⟩
 |.nilr _ e=>.ret ⟨.slice e,[],[]⟩
 |.nz e xs=>.ret ⟨.slice e,xs,[]⟩
 |.ref s v=>.get s fun e=>if e.1=v then(match e.2 with
  |.own _ e xs=>.ret ⟨.slice e,xs,[s]⟩
  |.val t x=>.ret ⟨t,x,[]⟩
  |_=>.fail)else .fail
 |.bref s v off u=>.get s fun e=>if e.1=v then(match e.2 with
  |.box c=>match c.get off u with
   |some (x,f)=>.ret ⟨u,x,if f then[s]else[]⟩
   |none=>.fail
  |_=>.fail)else .fail
 |.osl _ _ _ _ _ _=>.fail
 |_=>.fail
def toVal (u:Ty) (o:Op1):Q (u.den×List Nat):=
 match o.a with
 |.agg c=>if c.size=u.size∧u.agg=true then(match c.get 0 u with
  |some (x,f)=>.ret (x,if f then o.s.toList else[])
  |none=>.fail)else .fail
 |.view t x off=>(match u with
  |.opt e=>if off=0 then(match Ty.as (t:=t) e x with
   |some y=>.ret (some y,[])
   |none=>.fail)else .fail
  |_=>.fail)
 |_=>(qlE o).bind fun r=>match Ty.as u r.x with
  |some x=>.ret (x,r.ow)
  |none=>.fail
def qhq (o:Op1):Q (IntKind×Int):=
 (qlE o).bind fun r=>match r with
  |⟨.int k,n,_⟩=>.ret (k,n)
  |_=>.fail
def qoQ.freeze:qoQ→qoQ
 |.own _ e xs=>.val (.slice e) xs
 |c=>c
def AV.freeze:AV→AV
 |.own _ e xs=>.val (.slice e) xs
 |.box c=>.box c.freeze
 |.agg c=>.agg c.freeze
 |.mp _ _ _=>.undef
 |.hbox _ _=>.undef
 |.hown _ _ _=>.undef
 |.heap _=>.undef
 |.tup cs=>.tup (cs.map qoQ.freeze)
 |a=>a
def AV.unowned:AV→Bool
 |.own _ _ _=>false
 |.agg _=>false
 |.box _=>false
 |.tup _=>false
 |.mp _ _ _=>false
 |.hbox _ _=>false
 |.hown _ _ _=>false
 |.heap _=>false
 |_=>true
def AV.mentions:AV→List (Nat×Nat)
 |.ref s v=>[(s,v)]
 |.bref s v _ _=>[(s,v)]
 |.pbox s v _=>[(s,v)]
 |.prow s v _ _ _ _=>[(s,v)]
 |.osl s v _ _ _ _=>[(s,v)]
 |.parr s (some v) _ _ _ _ _=>[(s,v)]
 |.grd s v _ a=>(s,v)::a.mentions
 |_=>[]
def AV.isUndef:AV→Bool
 |.undef=>true
 |_=>false
structure U where
 s:Nat
 bump:Bool
 a:AV
structure Eff where
 upd:List U
 chk:List Bool
def qbO:List Nat→Q (List U)
 |[]=>.ret []
 |s::r=>.get s fun e=>(qbO r).bind fun us=>.ret (⟨s,false,e.2.freeze⟩::us)
def qaL (o:Oper) (a:AV):List U:=match o.dst with
 |some d=>[⟨d,true,a⟩]
 |none=>[]
def okE (us:List U):Q Eff:= .ret ⟨us,[]⟩
def qpj (op:BinOp) (k:IntKind) (x y:Int):AV×List Bool:=
 match op with
 |.add=>(.val (.int k) (qaj k x y),[])
 |.sub=>(.val (.int k) (qaF k x y),[])
 |.mul=>(.val (.int k) (qoc k x y),[])
 |.quo=>(.val (.int k) (qth k x y),[neI y 0])
 |.rem=>(.val (.int k) (irem x y),[neI y 0])
 |.and=>(.val (.int k) (band k x y),[])
 |.or=>(.val (.int k) (bor k x y),[])
 |.xor=>(.val (.int k) (bxor k x y),[])
 |.andNot=>(.val (.int k) (qmV k x y),[])
 |.eql=>(.val .bool (eqI x y),[])
 |.neq=>(.val .bool (neI x y),[])
 |.lss=>(.val .bool (ltI x y),[])
 |.leq=>(.val .bool (leI x y),[])
 |.gtr=>(.val .bool (ltI y x),[])
 |.geq=>(.val .bool (leI y x),[])
 |.shl=>(.val (.int k) (shlI k x y),[leI 0 y])
 |.shr=>(.val (.int k) (qlZ k x y),[leI 0 y])
def quT (op:BinOp) (x y:List UInt8):Option (AV×List Bool):=
 match op with
 |.add=>some (.val .str (ql0 x y),[qc1 (qn x) (qn y) 1])
 |.eql=>some (.val .bool (eqS x y),[])
 |.neq=>some (.val .bool (!(eqS x y)),[])
 |.lss=>some (.val .bool (qnS x y),[])
 |.leq=>some (.val .bool (qnS x y||eqS x y),[])
 |.gtr=>some (.val .bool (!(qnS x y||eqS x y)),[])
 |.geq=>some (.val .bool (!(qnS x y)),[])
 |_=>none
def qlq:BinOp→Bool
 |.shl=>true
 |.shr=>true
 |_=>false
def binE (E:Env) (op:BinOp) (tid:Nat) (x y:VR):Option (AV×List Bool):=
 match x,y with
 |⟨.int k,a,_⟩,⟨.int k',b,_⟩=>if qlq op||k=k' then some (qpj op k a b)else none
 |⟨.str,a,_⟩,⟨.str,b,_⟩=>quT op a b
 |⟨.bool,a,_⟩,⟨.bool,b,_⟩=>if E.ty tid=some .bool then(match op with
  |.eql=>some (.val .bool (eqB a b),[])
  |.neq=>some (.val .bool (!(eqB a b)),[])
  |_=>none)else none
 |⟨t,a,_⟩,⟨u,b,_⟩=>if t.agg=true∧E.eqok tid=true∧E.ty tid=some t then(match Ty.as (t:=u) t b with
  |some b=>(match op with
   |.eql=>some (.val .bool (t.eqb a b),[])
   |.neq=>some (.val .bool (!(t.eqb a b)),[])
   |_=>none)
  |none=>none)else none
def unE (op:UnOp) (x:VR):Option AV:=
 match op,x with
 |.neg,⟨.int k,n,_⟩=>some (.val (.int k) (ineg k n))
 |.not,⟨.bool,b,_⟩=>some (.val .bool (!b))
 |.xor,⟨.int k,n,_⟩=>some (.val (.int k) (bxor k (if k.signed then -1 else k.max) n))
 |_,_=>none
def qf1:List Nat→Bool
 |[]=>true
 |a::r=> !r.contains a&&qf1 r
structure qrB (ps:List PM) where
 x:PMs.den ps
 ow:List Nat
 gone:List Nat
 ios:List Nat
 chk:List Bool
@[reducible] def valPs:List Ty→List PM
 |[]=>[]
 |t::r=>.val t::valPs r
@[reducible] def valRs:List Ty→List RM
 |[]=>[]
 |t::r=>.val t::valRs r
def toPs:(ts:List Ty)→denL ts→PMs.den (valPs ts)
 |[],_=>()
 |_::r,x=>(x.1,toPs r x.2)
def qqF:(ts:List Ty)→RMs.den (valRs ts)→denL ts
 |[],_=>()
 |_::r,x=>(x.1,qqF r x.2)
def qsT:(ts:List Ty)→denL ts→RMs.den (valRs ts)
 |[],_=>()
 |_::r,x=>(x.1,qsT r x.2)
def qoL:(ts:List Ty)→PMs.den (valPs ts)→denL ts
 |[],_=>()
 |_::r,x=>(x.1,qoL r x.2)
def denL.dflt:(ts:List Ty)→denL ts
 |[]=>()
 |t::r=>(t.dflt,denL.dflt r)
def quH (E:Env) (ts us:List Ty):AV→Option (denL ts→Option (denL us))
 |.fnv ts' us' φ=>if h:ts'=ts∧us'=us then some (h.1▸h.2▸φ)else none
 |.fn f []=>(match E.fn f with
  |some C=>if h:C.ps=valPs ts∧C.rs=valRs us then some (fun x=>qkj (fun y=>qqF us (h.2▸y.1)) (C.sem (h.1▸toPs ts x)))else none
  |none=>none)
 |_=>none
def apart (a b:List Nat):Bool:=a.all fun x=> !b.contains x
@[reducible] def rdPs:List Ty→List PM
 |[]=>[]
 |t::r=>.rd t::rdPs r
def toRd:(us:List Ty)→denL us→PMs.den (rdPs us)
 |[],_=>()
 |_::r,y=>(y.1,toRd r y.2)
def qm5:(ts us:List Ty)→denL ts→denL us→PMs.den (valPs ts++rdPs us)
 |[],us,_,y=>toRd us y
 |_::r,us,x,y=>(x.1,qm5 r us x.2 y)
def qmW:List PM→Option (List Ty×List Ty)
 |[]=>some ([],[])
 |.val t::r=>(match qmW r with
  |some q=>some (t::q.1,q.2)
  |none=>none)
 |.rd t::r=>(match qmW r with
  |some q=>some (q.1,t::q.2)
  |none=>none)
 |_=>none
def qsI:List RM→Option (List Ty)
 |[]=>some []
 |.val t::r=>(match qsI r with
  |some q=>some (t::q)
  |none=>none)
 |_=>none
def qfQ:List Operand→List Nat
 |[]=>[]
 |.tmp s::r=>s::qfQ r
 |_::r=>qfQ r
def qpV:(us:List Ty)→List Operand→Q (denL us×List U)
 |[],[]=>.ret ((),[])
 |u::us,.tmp s::r=>.get s fun e=>(qpV us r).bind fun q=>match e.2 with
  |.box c=>if c.size=u.size then(match c.get 0 u with
   |some (x,_)=>.ret ((x,q.1),⟨s,true,.view u x 0⟩::q.2)
   |none=>.fail)else .fail
  |.view t y off=>(match t.sub y off u with
   |some x=>.ret ((x,q.1),q.2)
   |none=>.fail)
  |_=>.fail
 |_,_=>.fail
def cloE (E:Env) (o:Oper) (f:Nat) (caps:List Operand):Q Eff:=
 match E.fn f with
 |some C=>(match qmW C.ps,qsI C.rs with
  |some (ts,us),some vs=>if h:C.ps=valPs ts++rdPs us∧C.rs=valRs vs then(qpV us caps).bind fun q=>
    if qf1 (qfQ caps)&&apart o.dst.toList (qfQ caps)then .ret ⟨q.2++qaL o (.fnv ts vs (fun x=>qkj (fun y=>qqF vs (h.2▸y.1)) (C.sem (h.1▸qm5 ts us x q.1)))),[]⟩else .fail
   else .fail
  |_,_=>.fail)
 |none=>.fail
def mapO {α β:Type}(f:α→Option β):List α→Option (List β)
 |[]=>some []
 |x::xs=>match f x,mapO f xs with
  |some y,some ys=>some (y::ys)
  |_,_=>none
noncomputable def qgq (ps:List qQ):(t:Ty)→(t':Ty)→t'.den→Option t.den
 |.pair a b,.pair a' b',x=>(match qgq ps a a' x.1,qgq ps b b' x.2 with
  |some u,some v=>some (u,v)
  |_,_=>none)
 |.slice e,.sl k sz,s=>if s.1= -1 then some []else(match qcg k ps with
  |some q=>if(s.2.1=0∨s.2.1<s.2.2)∧sz=q.e.size∧q.e.size=e.size then(match qN q.rows s.1 with
   |some xs=>mapO (qgq ps e q.e) ((xs.take s.2.2.toNat).drop s.2.1.toNat)
   |none=>none)else none
  |none=>none)
 |.opt e,.ptr k sz,x=>if x.1= -1 then some none else(match qcg k ps with
  |some q=>if sz=q.e.size∧q.e.size=e.size∧0<sz then(match qN q.rows x.1 with
   |some xs=>(qgq ps e q.e (qJ xs x.2 q.e.dflt)).map some
   |none=>none)else none
  |none=>none)
 |t,t',x=>if t.plain=true then Ty.as (t:=t') t x else none
noncomputable def qfS (ps:List qQ) (t t':Ty) (x:t'.den):Option t.den:=(qW (α:=List qQ→(t t':Ty)→t'.den→Option t.den) qgq).1 ps t t' x
theorem qnC (ps:List qQ) (t t':Ty) (x:t'.den):qfS ps t t' x=qgq ps t t' x:=by unfold qfS;rw[(qW _).2]
noncomputable def hvpL (ps:List qQ) (t:Ty) (k sz:Nat) (x:Int×Int):Option t.den:=match qcg k ps with
 |some q=>if sz=q.e.size∧q.e.size=t.size∧0≤x.1 then(match qN q.rows x.1 with
  |some xs=>qgq ps t q.e (qJ xs x.2 q.e.dflt)
  |none=>none)else none
 |none=>none
noncomputable def hvp (ps:List qQ) (t:Ty) (k sz:Nat) (x:Int×Int):Option t.den:=(qW (α:=List qQ→(t:Ty)→(k sz:Nat)→(Int×Int)→Option t.den) hvpL).1 ps t k sz x
theorem qvw (ps:List qQ) (t:Ty) (k sz:Nat) (x:Int×Int):hvp ps t k sz x=hvpL ps t k sz x:=by unfold hvp;rw[(qW _).2]
def qfK (E:Env):Q (List qQ):= .get E.hs fun e=>match e.2 with
 |.heap ps=>.ret ps
 |_=>.fail
noncomputable def argV (E:Env) (t:Ty) (o:Op1):Q (t.den×List Nat×List Bool):=
 match E.hon,o.a with
 |true,.hv t' y=>if t'.agg=t.agg then(qfK E).bind fun ps=>.ret (qy (qfS ps t t' y) t.dflt,[E.hs],[qp (qfS ps t t' y)])else .fail
 |_,_=>(toVal t o).bind fun x=>.ret (x.1,x.2,[])
noncomputable def qnk (ps:List qQ):(us:List Ty)→(cs:List Ty)→denL cs→Option (denL us×List Bool)
 |[],[],_=>some ((),[])
 |u::us,.ptr k sz::cs,y=>(qnk ps us cs y.2).map fun r=>((qy (hvp ps u k sz y.1) u.dflt,r.1),qp (hvp ps u k sz y.1)::r.2)
 |_,_,_=>none
noncomputable def qsH (E:Env) (ps:List qQ) (ts us:List Ty) (f:Nat) (cs:List Ty) (y:denL cs):Option ((denL ts→Option (denL us))×List Bool):=
 match E.fn f with
 |some C=>(match qmW C.ps with
  |some (_,rds)=>if h:C.ps=valPs ts++rdPs rds∧C.rs=valRs us then(qnk ps rds cs y).map fun r=>(fun x=>qkj (fun z=>qqF us (h.2▸z.1)) (C.sem (h.1▸qm5 ts rds x r.1)),r.2)else none
  |none=>none)
 |none=>none
noncomputable def quW (E:Env) (ts us:List Ty) (a:AV):Q ((denL ts→Option (denL us))×List Nat×List Bool):=
 match E.hon,a with
 |true,.hclo f cs y=>(qfK E).bind fun ps=>(match qsH E ps ts us f cs y with
  |some r=>.ret (r.1,[E.hs],r.2)
  |none=>.fail)
 |_,a=>(match quH E ts us a with
  |some φ=>.ret (φ,[],[])
  |none=>.fail)
def qao (E:Env):(ps:List PM)→List Op1→Q (qrB ps)
 |[],[]=>.ret ⟨(),[],[],[],[]⟩
 |.val t::ps,o::os=>(argV E t o).bind fun x=>(qao E ps os).bind fun r=>.ret ⟨(x.1,r.x),x.2.1++r.ow,r.gone,r.ios,x.2.2++r.chk⟩
 |.own et e::ps,o::os=>
  match o.s,o.a with
  |some s,.own et' e' xs=>if et=et' then(match Ty.as (t:= .slice e') (.slice e) xs with
   |some xs=>(qao E ps os).bind fun r=>.ret ⟨(xs,r.x),r.ow,s::r.gone,r.ios,r.chk⟩
   |none=>.fail)else .fail
  |none,.own et' e' xs=>if et=et' then(match Ty.as (t:= .slice e') (.slice e) xs with
   |some xs=>(qao E ps os).bind fun r=>.ret ⟨(xs,r.x),r.ow,r.gone,r.ios,r.chk⟩
   |none=>.fail)else .fail
  |_,.ref s v=>.get s fun en=>if en.1=v then(match en.2 with
   |.own et' e' xs=>if et=et' then(match Ty.as (t:= .slice e') (.slice e) xs with
    |some xs=>(qao E ps os).bind fun r=>.ret ⟨(xs,r.x),r.ow,s::r.gone,r.ios,r.chk⟩
    |none=>.fail)else .fail
   |_=>.fail)else .fail
  |_,_=>.fail
 |.ior et e::ps,o::os=>
  match o.s,o.a with
  |some s,.own et' e' xs=>if et=et' then(match Ty.as (t:= .slice e') (.slice e) xs with
   |some xs=>(qao E ps os).bind fun r=>.ret ⟨(xs,r.x),r.ow,r.gone,s::r.ios,r.chk⟩
   |none=>.fail)else .fail
  |_,.ref s v=>.get s fun en=>if en.1=v then(match en.2 with
   |.own et' e' xs=>if et=et' then(match Ty.as (t:= .slice e') (.slice e) xs with
    |some xs=>(qao E ps os).bind fun r=>.ret ⟨(xs,r.x),r.ow,r.gone,s::r.ios,r.chk⟩
    |none=>.fail)else .fail
   |_=>.fail)else .fail
  |_,_=>.fail
 |.io t::ps,o::os=>
  match o.s,o.a with
  |some s,.box c=>(match(if c.size=t.size then c.get 0 t else none)with
   |some (x,_)=>(qao E ps os).bind fun r=>.ret ⟨(x,r.x),r.ow,r.gone,s::r.ios,r.chk⟩
   |none=>.fail)
  |_,.pip s 0=>.get s fun en=>(match en.2 with
   |.box c=>(match(if c.size=t.size then c.get 0 t else none)with
    |some (x,_)=>(qao E ps os).bind fun r=>.ret ⟨(x,r.x),r.ow,r.gone,s::r.ios,r.chk⟩
    |none=>.fail)
   |_=>.fail)
  |_,.pbox s v 0=>.get s fun en=>if en.1=v then(match en.2 with
   |.box c=>(match(if c.size=t.size then c.get 0 t else none)with
    |some (x,_)=>(qao E ps os).bind fun r=>.ret ⟨(x,r.x),r.ow,r.gone,s::r.ios,r.chk⟩
    |none=>.fail)
   |_=>.fail)else .fail
  |_,_=>.fail
 |.iob b::ps,o::os=>
  match o.s,o.a with
  |some s,.box c=>(match c.fit b with
   |some x=>(qao E ps os).bind fun r=>.ret ⟨(x,r.x),r.ow,r.gone,s::r.ios,r.chk⟩
   |none=>.fail)
  |_,.pip s 0=>.get s fun en=>(match en.2 with
   |.box c=>(match c.fit b with
    |some x=>(qao E ps os).bind fun r=>.ret ⟨(x,r.x),r.ow,r.gone,s::r.ios,r.chk⟩
    |none=>.fail)
   |_=>.fail)
  |_,.pbox s v 0=>.get s fun en=>if en.1=v then(match en.2 with
   |.box c=>(match c.fit b with
    |some x=>(qao E ps os).bind fun r=>.ret ⟨(x,r.x),r.ow,r.gone,s::r.ios,r.chk⟩
    |none=>.fail)
   |_=>.fail)else .fail
  |_,_=>.fail
 |.nil et e::ps,o::os=>(match o.s,o.a with
  |_,.nilr et' e'=>if et'=et∧e'=e then(qao E ps os).bind fun r=>.ret ⟨((),r.x),r.ow,r.gone,r.ios,r.chk⟩else .fail
  |none,.own et' e' []=>if et'=et∧e'=e then(qao E ps os).bind fun r=>.ret ⟨((),r.x),r.ow,r.gone,r.ios,r.chk⟩else .fail
  |_,_=>.fail)
 |.rd t::ps,o::os=>(match o.a with
  |.view t' y off=>(match t'.sub y off t with
   |some x=>(qao E ps os).bind fun r=>.ret ⟨(x,r.x),r.ow,r.gone,r.ios,r.chk⟩
   |none=>.fail)
  |_=>.fail)
 |.fn ts us::ps,o::os=>(quW E ts us o.a).bind fun φ=>(qao E ps os).bind fun r=>.ret ⟨(φ.1,r.x),φ.2.1++r.ow,r.gone,r.ios,φ.2.2++r.chk⟩
 |_,_=>.fail
def qcU:(rs:List RM)→RMs.den rs→List qoQ
 |[],_=>[]
 |.val t::rs,y=>.val t y.1::qcU rs y.2
 |.own et e::rs,y=>.own et e y.1::qcU rs y.2
 |.nz e::rs,y=>.nz e y.1::qcU rs y.2
def qhT (rs:List RM) (y:RMs.den rs):AV:=match rs,y with
 |[.val t],y=>.val t y.1
 |[.own et e],y=>.own et e y.1
 |[.nz e],y=>.nz e y.1
 |rs,y=>.tup (qcU rs y)
def RMs.flat:List RM→Bool
 |[]=>true
 |.val t::r=>t.flat&&RMs.flat r
 |.own _ e::r=>e.flat&&RMs.flat r
 |.nz _::_=>false
def PMs.ye:List PM→Bool
 |[]=>true
 |.io t::r=>t.flat&&PMs.ye r
 |.ior _ e::r=>e.flat&&PMs.ye r
 |.iob b::r=>b.flat&&PMs.ye r
 |_::r=>PMs.ye r
def qet:(ps:List PM)→PMs.ioDen ps→List Nat→List U
 |.io t::ps,y,s::ss=>⟨s,true,.box (.val t y.1)⟩::qet ps y.2 ss
 |.ior et e::ps,y,s::ss=>⟨s,true,.own et e y.1⟩::qet ps y.2 ss
 |.iob b::ps,y,s::ss=>⟨s,true,.box (b.un y.1)⟩::qet ps y.2 ss
 |.val _::ps,y,ss=>qet ps y ss
 |.own _ _::ps,y,ss=>qet ps y ss
 |.fn _ _::ps,y,ss=>qet ps y ss
 |.nil _ _::ps,y,ss=>qet ps y ss
 |.rd _::ps,y,ss=>qet ps y ss
 |_,_,_=>[]
def qvG (E:Env) (o:Oper) (C:qH) (os:List Op1):Q Eff:=
 (qao E C.ps os).bind fun A=>
  if qf1 (A.gone++A.ios)&&apart A.ow (A.gone++A.ios)&&apart o.dst.toList (A.gone++A.ios)then
   (if RMs.flat C.rs&&PMs.ye C.ps then Q.ret []else qbO A.ow).bind fun fz=>
    let y:=qy (C.sem A.x) (RMs.dflt C.rs,PMs.yg C.ps)
    .ret ⟨fz++(A.gone.map (fun s=>⟨s,true,.undef⟩)++qet C.ps y.2 A.ios++qaL o (qhT C.rs y.1)),A.chk++[qp (C.sem A.x)]⟩
  else .fail
def qvt (E:Env) (o:Oper) (ts us:List Ty) (φ:denL ts→Option (denL us)) (os:List Op1):Q Eff:=
 (qao E (valPs ts) os).bind fun A=>
  (if RMs.flat (valRs us)then Q.ret []else qbO A.ow).bind fun fz=>
   .ret ⟨fz++qaL o (qhT (valRs us) (qsT us (qy (φ (qoL ts A.x)) (denL.dflt us)))),A.chk++[qp (φ (qoL ts A.x))]⟩
def qtg (E:Env) (p:qdU):List Operand→List Nat→Q (List Op1)
 |[],_=>.ret []
 |x::xs,ts=>(opd E p (ts.headD 0) x).bind fun a=>(qtg E p xs ts.tail).bind fun r=>.ret (a::r)
def qu7 (o:Op1):Q (((e:Ty)×List e.den)×List Nat):=
 match o.a with
 |.own _ e xs=>.ret (⟨e,xs⟩,o.s.toList)
 |.nilr _ e=>.ret (⟨e,[]⟩,[])
 |.nz e xs=>.ret (⟨e,xs⟩,[])
 |.val (.slice e) xs=>.ret (⟨e,xs⟩,[])
 |.ref s v=>.get s fun en=>if en.1=v then(match en.2 with
  |.own _ e xs=>.ret (⟨e,xs⟩,[s])
  |.val (.slice e) xs=>.ret (⟨e,xs⟩,[])
  |_=>.fail)else .fail
 |.bref s v off u=>if u.agg=false then .get s fun en=>if en.1=v then(match en.2.rowAt (some off)with
  |some r=>.ret (r.2,[s])
  |none=>.fail)else .fail else .fail
 |_=>.fail
def qj3 (x:Op1):Q (Option (Nat×AV)×Nat×((e:Ty)×List e.den)):=
 match x.a with
 |.own et e xs=>.ret (x.s.map (fun s=>(s,.undef)),et,⟨e,xs⟩)
 |.nilr et e=>.ret (none,et,⟨e,[]⟩)
 |.ref s v=>.get s fun en=>if en.1=v then(match en.2 with
  |.own et e xs=>.ret (some (s,.undef),et,⟨e,xs⟩)
  |_=>.fail)else .fail
 |.bref s v off u=>if u.agg=false then .get s fun en=>if en.1=v then(match en.2.rowAt (some off),en.2.swapRow (.hole 1) (some off)with
  |some r,some a=>.ret (some (s,a),r.1,r.2)
  |_,_=>.fail)else .fail else .fail
 |_=>.fail
def qvK (r:Option (Nat×AV)):List U:=r.toList.map fun p=>⟨p.1,true,p.2⟩
def qpx (E:Env) (o:Oper) (tid:Nat) (x y:Op1):Q Eff:=
 (qj3 x).bind fun r=>(qu7 y).bind fun q=>match o.dst with
  |some d=>if E.ty tid=some (.slice r.2.2.1)∧r.2.1=E.etid tid∧E.bytes r.2.1≠0∧r.2.2.1.size≠0∧apart q.2 (r.1.map (·.1)).toList=true∧r.1.map (·.1)≠some d then(match Ty.as (t:= .slice q.1.1) (.slice r.2.2.1) q.1.2 with
   |some ys=>.ret ⟨qvK r.1++[⟨d,true,.own r.2.1 r.2.2.1 (ql0 r.2.2.2 ys)⟩],[qc1 (qn r.2.2.2) (qn ys) (E.bytes r.2.1)]⟩
   |none=>.fail)else .fail
  |none=>.fail
def qpQ (E:Env) (o:Oper) (tid tid':Nat) (x y:Op1):Q Eff:=
 (qj3 x).bind fun r=>(toVal .str y).bind fun q=>match o.dst with
  |some d=>if E.ty tid=some (.slice r.2.2.1)∧r.2.1=E.etid tid∧E.bytes r.2.1=1∧E.ty tid'=some .str∧r.1.map (·.1)≠some d then(match Ty.as (t:= .slice r.2.2.1) (.slice (.int .u8)) r.2.2.2 with
   |some xs=>.ret ⟨qvK r.1++[⟨d,true,.own r.2.1 (.int .u8) (ql0 xs (qkZ q.1))⟩],[qc1 (qn xs) (qn q.1) 1]⟩
   |none=>.fail)else .fail
  |none=>.fail
def qpJ:Option Ty→Bool
 |some (.int _)=>true
 |_=>false
def qpw (E:Env) (o:Oper) (tid tid':Nat) (x y:Op1):Q Eff:=
 match x.a with
 |.nilr et e=>(qhq y).bind fun n=>if E.ty tid=some (.slice e)∧et=E.etid tid∧e.size≠0∧E.bytes et≠0∧qpJ (E.ty tid')=true then .ret ⟨qaL o (.own et e (qtn n.2 e.dflt)),[ltI 0 n.2,room n.2 (E.bytes et)]⟩else .fail
 |_=>.fail
def qne (f:Int→Int→Int) (k:IntKind):Int→List Op1→Q Int
 |n,[]=>.ret n
 |n,o::os=>(qhq o).bind fun m=>if m.1=k then qne f k (f n m.2) os else .fail
def qnc (E:Env) (o:Oper) (b:Builtin) (ts:List Nat) (os:List Op1):Q Eff:=
 match b,os with
 |.len,[x]=>(qlE x).bind fun r=>match r,ts with
  |⟨.slice e,xs,_⟩,t::_=>if E.ty t=some (.slice e)then okE (qaL o (.val (.int .i64) (qn xs)))else .fail
  |⟨.str,xs,_⟩,t::_=>if E.ty t=some .str then okE (qaL o (.val (.int .i64) (qn xs)))else .fail
  |_,_=>.fail
 |.append,[x,y]=>match ts with
  |[t,t']=>if t=t' then qpx E o t x y else if qpJ (E.ty t')=true then qpw E o t t' x y else qpQ E o t t' x y
  |_=>.fail
 |.cap,[x]=>(match x.a,ts with
  |.nilr _ e,t::_=>if E.ty t=some (.slice e)then okE (qaL o (.val (.int .i64) 0))else .fail
  |_,_=>.fail)
 |.clear,[x]=>(match x.a,ts with
  |.osl s v fo sz lo hi,t::_=>if o.dst.isSome then .fail else .get s fun en=>if en.1=v then(match en.2.rowAt fo with
   |some (et,⟨e,xs⟩)=>if e.size=sz∧e.size≠0∧E.ty t=some (.slice e)then(match en.2.swapRow (.own et e (ql0 (qb6 xs 0 lo) (ql0 (qtn (qaF .i64 hi lo) e.dflt) (qb6 xs hi (qn xs))))) fo with
    |some a=>okE [⟨s,false,a⟩]
    |none=>.fail)else .fail
   |none=>.fail)else .fail
  |_,_=>.fail)
 |.max,x::r=>(qhq x).bind fun m=>(qne qnI m.1 m.2 r).bind fun n=>okE (qaL o (.val (.int m.1) n))
 |.min,x::r=>(qhq x).bind fun m=>(qne qo9 m.1 m.2 r).bind fun n=>okE (qaL o (.val (.int m.1) n))
 |_,_=>.fail
def qf7 (o:Op1):Option (Nat×Option Nat×Nat):=match o.s,o.a with
 |some s,.box _=>some (s,some o.v,0)
 |_,.pbox s v off=>some (s,some v,off)
 |_,.pip k off=>some (k,none,off)
 |_,_=>none
def vOk (e:Nat):Option Nat→Bool
 |some v=>decide (e=v)
 |none=>true
def qpq (s off:Nat):Option Nat→AV
 |some v=>.pbox s v off
 |none=>.pip s off
def qrw (pins:List Nat) (o:Oper) (assign:Bool) (x:Op1):Q Eff:=
 match x.s,x.a with
 |some s,.own et e xs=>
  if assign then(match o.dst with
   |some d=>if s=d then .fail else .get d fun en=>okE [⟨d,true,.own et e xs⟩,⟨s,true,.ref d (en.1+1)⟩]
   |none=>.fail)
  else okE (qaL o (.ref s x.v))
 |some s,.mp k v xs=>
  if assign then(match o.dst with
   |some d=>if s=d then .fail else .get d fun en=>okE [⟨d,true,.mp k v xs⟩,⟨s,true,.ref d (en.1+1)⟩]
   |none=>.fail)
  else okE (qaL o (.ref s x.v))
 |some s,.box c=>
  if pins.contains s then okE (qaL o (.pip s 0))
  else if assign then(match o.dst with
   |some d=>if s=d then .fail else .get d fun en=>okE [⟨d,true,.box c⟩,⟨s,true,.pbox d (en.1+1) 0⟩]
   |none=>.fail)
  else okE (qaL o (.pbox s x.v 0))
 |some s,.agg c=>match o.dst with
  |some d=>if s=d then .fail else okE [⟨d,true,.agg c⟩,⟨s,true,.undef⟩]
  |none=>.fail
 |some s,.tup cs=>match o.dst with
  |some d=>if s=d then .fail else okE [⟨d,true,.tup cs⟩,⟨s,true,.undef⟩]
  |none=>.fail
 |none,.own et e xs=>okE (qaL o (.own et e xs))
 |_,.ref s v=>if assign&&o.dst==some s then(.get s fun en=>if en.1=v then okE []else .fail)else okE (qaL o (.ref s v))
 |_,a=>if a.unowned then okE (qaL o a)else .fail
def BC.sound:BC→Bool
 |.hole _=>false
 |.pair a b=>a.sound&&b.sound
 |_=>true
def qgD (t:Ty) (x:Op1):Q (BC×List Nat×List U):=
 match x.s,x.a with
 |some s,.own et e xs=>if t=.slice e then .ret (.own et e xs,[],[⟨s,true,.undef⟩])else .fail
 |none,.own et e xs=>if t=.slice e then .ret (.own et e xs,[],[])else .fail
 |some s,.agg c=>if c.size=t.size∧c.sound=true then .ret (c,[],[⟨s,true,.undef⟩])else .fail
 |_,_=>(toVal t x).bind fun r=>.ret (.val t r.1,r.2,[])
def boxE (E:Env) (o:Oper) (tid:Nat) (x:Op1):Q Eff:=
 match E.ty tid,o.dst with
 |some t,some d=>(qgD t x).bind fun c=>if c.2.1.isEmpty&& !(c.2.2.map (·.s)).contains d then okE (c.2.2++[⟨d,true,.box c.1⟩])else .fail
 |_,_=>.fail
def qug (E:Env) (o:Oper) (t:Ty) (s:Nat) (a:AV) (off:Nat):Option (Q Eff):=
 match o.dst,a.rowAt (some off),a.swapRow (.hole 1) (some off)with
 |some d,some (et,⟨e,xs⟩),some a'=>if E.tk.contains d=true∧d≠s∧t.agg=false then some (okE [⟨s,true,a'⟩,⟨d,true,.own et e xs⟩])else none
 |_,_,_=>none
def quS (E:Env) (o:Oper) (tid:Nat) (p:Op1):Q Eff:=
 match E.ty tid with
 |none=>.fail
 |some t=>match qf7 p with
  |some (s,v,off)=>.get s fun en=>if vOk en.1 v=true then(match en.2 with
   |.box c=>(match c.get off t with
    |some (x,false)=>okE (qaL o (.val t x))
    |some (_,true)=>(match qug E o t s (.box c) off with
     |some q=>q
     |none=>okE (qaL o (.bref s en.1 off t)))
    |none=>.fail)
   |_=>.fail)else .fail
  |none=>match p.a with
   |.prow s v fo sz i off=>.get s fun en=>if en.1=v then(match en.2.rowAt fo with
    |some (_,⟨e,xs⟩)=>if e.size=sz then(match e.sub (qJ xs i e.dflt) off t with
     |some x=>okE (qaL o (.val t x))
     |none=>.fail)else .fail
    |none=>.fail)else .fail
   |.view t' x off=>(match t'.sub x off t with
    |some y=>okE (qaL o (.val t y))
    |none=>.fail)
   |.parr s v off n e i o2=>.get s fun en=>if vOk en.1 v=true then(match en.2 with
    |.box c=>(match c.get off (.arr n e)with
     |some (xs,false)=>(match e.sub (qJ xs i e.dflt) o2 t with
      |some y=>okE (qaL o (.val t y))
      |none=>.fail)
     |_=>.fail)
    |_=>.fail)else .fail
   |_=>.fail
def qs0 (E:Env) (tid:Nat) (p x:Op1):Q Eff:=
 match E.ty tid with
 |none=>.fail
 |some t=>match qf7 p with
  |some (s,v,off)=>(qgD t x).bind fun n=>if n.2.1.isEmpty&& !(n.2.2.map (·.s)).contains s then(.get s fun en=>if vOk en.1 v=true then(match en.2 with
   |.box c=>(match c.put off n.1 with
    |some c'=>okE (n.2.2++[⟨s,true,.box c'⟩])
    |none=>.fail)
   |_=>.fail)else .fail)else .fail
  |none=>match p.a with
   |.prow s v fo sz i off=>(toVal t x).bind fun r=>if r.2.contains s=true then .fail else(qbO r.2).bind fun fz=>(.get s fun en=>if en.1=v then(match en.2.rowAt fo with
    |some (et,⟨e,xs⟩)=>if e.size=sz then(match e.upd (qJ xs i e.dflt) off t r.1 with
     |some y=>(match en.2.swapRow (.own et e (qdz xs i y)) fo with
      |some a=>okE (fz++[⟨s,false,a⟩])
      |none=>.fail)
     |none=>.fail)else .fail
    |none=>.fail)else .fail)
   |.parr s v off n e i o2=>(toVal t x).bind fun r=>if r.2.isEmpty then(.get s fun en=>if vOk en.1 v=true then(match en.2 with
    |.box c=>(match c.get off (.arr n e)with
     |some (xs,false)=>(match e.upd (qJ xs i e.dflt) o2 t r.1 with
      |some y=>(match c.put off (.val (.arr n e) (qdz xs i y))with
       |some c'=>okE [⟨s,true,.box c'⟩]
       |none=>.fail)
      |none=>.fail)
     |_=>.fail)
    |_=>.fail)else .fail)else .fail
   |_=>.fail
def qvU (o:Oper) (off:Nat) (p:Op1):Q Eff:=
 match qf7 p with
 |some (s,v,b)=>.get s fun en=>if vOk en.1 v=true then okE (qaL o (qpq s (b+off) v))else .fail
 |none=>match p.a with
  |.prow s v fo sz i b=>.get s fun en=>if en.1=v then okE (qaL o (.prow s v fo sz i (b+off)))else .fail
  |.view t x b=>okE (qaL o (.view t x (b+off)))
  |.parr s v b n e i o2=>.get s fun en=>if vOk en.1 v=true then okE (qaL o (.parr s v b n e i (o2+off)))else .fail
  |_=>.fail
def qmt (E:Env) (o:Oper) (tid:Nat) (x ix:Op1):Q Eff:=
 (qhq ix).bind fun i=>match E.ty tid with
  |some (.slice e0)=>match x.s,x.a with
   |some s,.own _ e xs=>if e.size=e0.size then .ret ⟨qaL o (.prow s x.v none e.size i.2 0),[inB i.2 (qn xs)]⟩else .fail
   |_,.ref s v=>.get s fun en=>if en.1=v then(match en.2 with
    |.own _ e xs=>if e.size=e0.size then .ret ⟨qaL o (.prow s v none e.size i.2 0),[inB i.2 (qn xs)]⟩else .fail
    |.val (.slice e) xs=>if e.size=e0.size then .ret ⟨qaL o (.view e (qJ xs i.2 e.dflt) 0),[inB i.2 (qn xs)]⟩else .fail
    |_=>.fail)else .fail
   |_,.val (.slice e) xs=>if e.size=e0.size then .ret ⟨qaL o (.view e (qJ xs i.2 e.dflt) 0),[inB i.2 (qn xs)]⟩else .fail
   |_,.bref s v off u=>if u.agg=false then .get s fun en=>if en.1=v then(match en.2.rowAt (some off)with
    |some (_,⟨e,xs⟩)=>if e.size=e0.size then .ret ⟨qaL o (.prow s v (some off) e.size i.2 0),[inB i.2 (qn xs)]⟩else .fail
    |none=>.fail)else .fail else .fail
   |_,_=>.fail
  |some (.arr n e0)=>if n<2 then .fail else(match qf7 x with
   |some (s,v,b)=>.get s fun en=>if vOk en.1 v=true then .ret ⟨qaL o (.parr s v b n e0 i.2 0),[inB i.2 n]⟩else .fail
   |none=>(match x.a with
    |.view t y off=>(match t.sub y off (.arr n e0)with
     |some ys=>.ret ⟨qaL o (.view e0 (qJ ys i.2 e0.dflt) 0),[inB i.2 n]⟩
     |none=>.fail)
    |_=>.fail))
  |_=>.fail
def qfh (b:Option Op1) (d:Int):Q Int:=match b with
 |some b=>(qhq b).bind fun i=>.ret i.2
 |none=>.ret d
structure Site where
 s:Nat
 v:Nat
 fo:Option Nat
 et:Nat
 e:Ty
 xs:List e.den
def qsn (x:Op1):Q Site:=match x.s,x.a with
 |some s,.own et e xs=>.ret ⟨s,x.v,none,et,e,xs⟩
 |_,.ref s v=>.get s fun en=>if en.1=v then(match en.2 with
  |.own et e xs=>.ret ⟨s,v,none,et,e,xs⟩
  |_=>.fail)else .fail
 |_,.bref s v off u=>if u.agg=false then .get s fun en=>if en.1=v then(match en.2.rowAt (some off)with
  |some r=>.ret ⟨s,v,some off,r.1,r.2.1,r.2.2⟩
  |none=>.fail)else .fail else .fail
 |_,_=>.fail
def qlh (E:Env) (o:Oper) (tid:Nat) (x:Op1) (lo hi:Option Op1):Q Eff:=
 (qlE x).bind fun r=>match r with
 |⟨.str,xs,_⟩=>(qfh lo 0).bind fun l=>(qfh hi (qn xs)).bind fun h=>
  if E.ty tid=some .str then .ret ⟨qaL o (.val .str (qb6 xs l h)),[inS l h (qn xs)]⟩else .fail
 |⟨.slice e,xs,[]⟩=>(qfh lo 0).bind fun l=>(qfh hi (qn xs)).bind fun h=>
  if E.ty tid=some (.slice e)then .ret ⟨qaL o (.val (.slice e) (qb6 xs l h)),[inS l h (qn xs)]⟩else .fail
 |⟨.slice _,_,_::_⟩=>(qsn x).bind fun q=>(qfh lo 0).bind fun l=>(qfh hi (qn q.xs)).bind fun h=>
  if E.ty tid=some (.slice q.e)then .ret ⟨qaL o (.osl q.s q.v q.fo q.e.size l h),[inS l h (qn q.xs)]⟩else .fail
 |_=>.fail
def qte (E:Env) (o:Oper) (tid:Nat) (x:Op1) (s v d:Nat) (hi:Option Op1):Q Eff:=
 .get s fun en=>if en.1=v then(match en.2 with
  |.own et e xs=>if d≠s∧E.ty tid=some (.slice e)then(qfh hi (qn xs)).bind fun h=>.ret ⟨[⟨s,true,.undef⟩,⟨d,true,.own et e (qb6 xs 0 h)⟩],[inS 0 h (qn xs)]⟩else .fail
  |_=>qlh E o tid x none hi)else .fail
def cutE (E:Env) (o:Oper) (tid:Nat) (x:Op1) (hi:Option Op1):Option (Q Eff):=
 match x.s,x.a,o.dst with
 |some s,.own et e xs,some d=>if d≠s∧E.ty tid=some (.slice e)then some ((qfh hi (qn xs)).bind fun h=>.ret ⟨[⟨s,true,.undef⟩,⟨d,true,.own et e (qb6 xs 0 h)⟩],[inS 0 h (qn xs)]⟩)else none
 |_,.nilr et e,_=>if E.ty tid=some (.slice e)then some ((qfh hi 0).bind fun h=>.ret ⟨qaL o (.nilr et e),[inS 0 h 0]⟩)else none
 |_,.ref s v,some d=>some (qte E o tid x s v d hi)
 |_,_,_=>none
def qaa:Ty→List Nat
 |.pair a b=>a.size::qaa b
 |_=>[]
def qp9 (a b:Ty):BC→Option (BC×BC)
 |.pair c d=>if c.size=a.size then some (c,d)else none
 |.val (.pair a' b') x=>if a'.size=a.size then some (.val a' x.1,.val b' x.2)else none
 |_=>none
def qgx (z:BC) (t:Ty) (i:Nat):List (Nat×Op1)→Q (BC×List Nat)
 |ps=>match t with
  |.pair a b=>(match qp9 a b z with
   |some (za,zb)=>(match ps.find? (fun p=>p.1==i)with
    |some p=>(qgD a p.2).bind fun c=>if c.2.1.isEmpty then(qgx zb b (i+1) ps).bind fun r=>.ret (pairBC c.1 r.1,c.2.2.map (·.s)++r.2)else .fail
    |none=>(qgx zb b (i+1) ps).bind fun r=>.ret (pairBC za r.1,r.2))
   |none=>.fail)
  |.unit=>.ret (.val .unit (),[])
  |_=>.fail
where
 pairBC:BC→BC→BC
  |.val a x,.val b y=>.val (.pair a b) (x,y)
  |c,d=>.pair c d
def qiL (e:Ty):Nat→List Op1→Q (List e.den×List Nat)
 |0,[]=>.ret ([],[])
 |n+1,o::os=>(toVal e o).bind fun x=>(qiL e n os).bind fun r=>.ret (x.1::r.1,x.2++r.2)
 |_,_=>.fail
def qhM:Nat→List (Nat×Op1)→Bool
 |_,[]=>true
 |i,p::ps=>p.1==i&&qhM (i+1) ps
def qpb (c:BC):AV:=
 match c with
 |.val t x=>.val t x
 |c=>.agg c
def qfH (E:Env) (p:qdU) (tid:Nat→Nat):List (Nat×Operand)→Q (List (Nat×Op1))
 |[]=>.ret []
 |(i,x)::r=>(opd E p (tid i) x).bind fun a=>(qfH E p tid r).bind fun q=>.ret ((i,a)::q)
def convE (E:Env) (o:Oper) (src dst:Nat) (x:Op1):Q Eff:=
 match E.ty src,E.ty dst with
 |some (.int _),some (.int k)=>(qhq x).bind fun n=>okE (qaL o (.val (.int k) (qcE k n.2)))
 |some .str,some .str=>(toVal .str x).bind fun s=>okE (qaL o (.val .str s.1))
 |some (.slice (.int .u8)),some .str=>if E.ty (E.etid src)=some (.int .u8)then((toVal (.slice (.int .u8)) x).bind fun s=>okE (qaL o (.val .str (qtT s.1))))else .fail
 |some .str,some (.slice (.int .u8))=>if E.ty (E.etid dst)=some (.int .u8)then((toVal .str x).bind fun s=>okE (qaL o (.val (.slice (.int .u8)) (qkZ s.1))))else .fail
 |_,_=>.fail
def qon (op:BinOp) (y:Operand):Bool:=match op,y with
 |.eql,.const (.slice none 0 0)=>true
 |.neq,.const (.slice none 0 0)=>true
 |_,_=>false
def qpy (op:BinOp) (y:Operand):Bool:=match op,y with
 |.eql,.const .nilIface=>true
 |.neq,.const .nilIface=>true
 |_,_=>false
def qsG:Option Ty→Bool
 |some .err=>true
 |_=>false
def qky (op:BinOp) (y:Operand):Bool:=match op,y with
 |.eql,.const (.pointer none)=>true
 |.neq,.const (.pointer none)=>true
 |_,_=>false
def qsb:Option Ty→Bool
 |some (.opt _)=>true
 |_=>false
def qoU:Option Ty→Bool
 |some (.slice _)=>true
 |_=>false
def quI:BinOp→Bool
 |.eql=>true
 |.neq=>true
 |_=>false
def qel:BinOp→Bool
 |.eql=>true
 |_=>false
structure MV where
 s:Nat
 k:Ty
 v:Ty
 xs:List (k.den×v.den)
def qtv (o:Op1):Q MV:=
 match o.s,o.a with
 |some s,.mp k v xs=>.ret ⟨s,k,v,xs⟩
 |_,.ref s v=>.get s fun en=>if en.1=v then(match en.2 with
  |.mp k v xs=>.ret ⟨s,k,v,xs⟩
  |_=>.fail)else .fail
 |_,_=>.fail
def qrX (E:Env) (o:Oper) (t:Nat) (m k:Op1) (ok:Bool):Q Eff:=
 (qtv m).bind fun M=>(toVal M.k k).bind fun q=>if E.ty t=some (.map M.k M.v)then(match ok with
  |false=>okE (qaL o (.val M.v (qu5 M.xs q.1 M.v.dflt)))
  |true=>okE (qaL o (.tup [.val M.v (qu5 M.xs q.1 M.v.dflt),.val .bool (quB M.xs q.1)])))else .fail
def ql8 (E:Env) (t:Nat) (m k x:Op1):Q Eff:=
 (qtv m).bind fun M=>(toVal M.k k).bind fun q=>(toVal M.v x).bind fun r=>if E.ty t=some (.map M.k M.v)∧M.s∉r.2 then
  (if M.v.flat then Q.ret []else qbO r.2).bind fun fz=>okE (fz++[⟨M.s,false,.mp M.k M.v (qvB M.xs q.1 r.1)⟩])else .fail
def qqx (E:Env) (o:Oper) (t:Nat):Q Eff:=
 match E.ty t with
 |some (.map k v)=>okE (qaL o (.mp k v []))
 |_=>.fail
def qdR (E:Env) (p:qdU) (o:Oper):Q Eff:=
 match o.op with
 |.move x=>(opd E p o.type x).bind fun x=>qrw E.pins o false x
 |.assign x=>(opd E p o.type x).bind fun x=>qrw E.pins o true x
 |.pick c a b=>(opd E p 0 c).bind fun cv=>(qlE cv).bind fun cr=>match cr with
  |⟨.bool,bc,_⟩=>
   (opd E (qpa c cv.v true bc p) o.type a).bind fun a=>(qlE a).bind fun ar=>(opd E (qpa c cv.v false bc p) o.type b).bind fun b=>(qlE b).bind fun br=>
    match Ty.as (t:=br.t) ar.t br.x with
    |some y=>if ar.ow.isEmpty&&br.ow.isEmpty then okE (qaL o (.val ar.t (bif bc then ar.x else y)))else .fail
    |none=>.fail
  |_=>.fail
 |.alloc t=>match E.zero t with
  |some c=>okE (qaL o (.box c))
  |none=>.fail
 |.box t x=>(opd E p t x).bind fun x=>boxE E o t x
 |.build t parts=>(qfH E p (fun _=>0) parts.toList).bind fun ps=>match E.ty t with
  |some (.arr n e)=>if qhM 0 ps&&(decide (0<n*e.size)&&decide ((E.zero t).map BC.size=some (n*e.size)))then(qiL e n (ps.map (·.2))).bind fun r=>(if e.flat then Q.ret []else qbO r.2).bind fun fz=>okE (fz++qaL o (.val (.arr n e) r.1))else .fail
  |some T=>(qgx (if E.ownz=true then(E.zero t).getD (.val T T.dflt)else .val T T.dflt) T 0 ps).bind fun r=>(match o.dst with
   |some d=>if qf1 (d::r.2)&&qf1 (ps.map (·.1))&&ps.all (fun q=>decide (q.1<(qaa T).length))then okE (r.2.map (fun s=>⟨s,true,.undef⟩)++[⟨d,true,qpb r.1⟩])else .fail
   |none=>.fail)
  |none=>.fail
 |.buildSlice t n parts=>(qfH E p (fun _=>E.etid t) parts.toList).bind fun ps=>match E.ty t with
  |some (.slice e)=>if n=0∧parts.size=0 then okE (qaL o (.own (E.etid t) e []))else if qhM 0 ps&&decide (n*e.size≤16777216)&&decide (0<n*e.size)then(qiL e n (ps.map (·.2))).bind fun r=>(if e.flat then Q.ret []else qbO r.2).bind fun fz=>okE (fz++qaL o (.own (E.etid t) e r.1))else .fail
  |_=>.fail
 |.load t a=>(opd E p 0 a).bind fun a=>quS E o t a
 |.store t a x=>if o.dst.isSome then .fail else(opd E p 0 a).bind fun a=>(opd E p t x).bind fun x=>qs0 E t a x
 |.nilCheck x=>(opd E p 0 x).bind fun x=>match qf7 x with
  |some (s,v,off)=>.get s fun en=>if vOk en.1 v=true then okE (qaL o (qpq s off v))else .fail
  |none=>match x.a with
   |.prow s v fo sz i b=>.get s fun en=>if en.1=v then okE (qaL o (.prow s v fo sz i b))else .fail
   |.view t y b=>okE (qaL o (.view t y b))
   |.val (.opt e) y=>.ret ⟨qaL o (.view e (qy y e.dflt) 0),[qp y]⟩
   |_=>.fail
 |.binOp op t x y _=>if qon op y&&qoU (E.ty t)then(opd E p t x).bind fun x=>(match x.a with
   |.nz _ xs=>okE (qaL o (.val .bool (bif qel op then eqI (qn xs) 0 else !(eqI (qn xs) 0))))
   |_=>(qlE x).bind fun x=>(match x with
    |⟨.slice _,xs,_⟩=>okE (qaL o (.amb (qel op) (eqI (qn xs) 0)))
    |_=>.fail))else if qpy op y&&qsG (E.ty t)then(opd E p t x).bind fun x=>(qlE x).bind fun x=>(match x with
   |⟨.err,b,_⟩=>okE (qaL o (.val .bool (bif qel op then b else !b)))
   |_=>.fail)else if qky op y&&qsb (E.ty t)then(opd E p t x).bind fun x=>(qlE x).bind fun x=>(match x with
   |⟨.opt _,z,_⟩=>okE (qaL o (.val .bool (bif qel op then !(qp z)else qp z)))
   |_=>.fail)else(opd E p t x).bind fun x=>(opd E p t y).bind fun y=>(qlE x).bind fun x=>(qlE y).bind fun y=>match binE E op t x y with
  |some (a,c)=>.ret ⟨qaL o a,c⟩
  |none=>.fail
 |.unOp op _ x=>(opd E p o.type x).bind fun x=>(qlE x).bind fun x=>match unE op x with
  |some a=>okE (qaL o a)
  |none=>.fail
 |.convert s d x=>(opd E p s x).bind fun x=>convE E o s d x
 |.slice t x lo hi none=>(opd E p t x).bind fun x=>match lo,hi with
  |none,none=>(match cutE E o t x none with
   |some q=>q
   |none=>qlh E o t x none none)
  |some l,none=>(opd E p 0 l).bind fun l=>qlh E o t x (some l) none
  |none,some h=>(opd E p 0 h).bind fun h=>(match cutE E o t x (some h)with
   |some q=>q
   |none=>qlh E o t x none (some h))
  |some l,some h=>(opd E p 0 l).bind fun l=>(opd E p 0 h).bind fun h=>qlh E o t x (some l) (some h)
 |.fieldAddr t x f=>(opd E p 0 x).bind fun x=>match E.off t f with
  |some off=>qvU o off x
  |none=>.fail
 |.field t x f=>(opd E p t x).bind fun x=>match E.ty t,E.off t f,E.ty (E.fty t f)with
  |some t,some off,some u=>(toVal t x).bind fun r=>match t.sub r.1 off u with
   |some y=>(if u.flat then Q.ret []else qbO r.2).bind fun fz=>okE (fz++qaL o (.val u y))
   |none=>.fail
  |_,_,_=>.fail
 |.indexAddr t x ix=>(opd E p t x).bind fun x=>(opd E p 0 ix).bind fun ix=>qmt E o t x ix
 |.index t x ix=>(opd E p t x).bind fun x=>(opd E p 0 ix).bind fun ix=>(qhq ix).bind fun i=>(qlE x).bind fun r=>match r with
  |⟨.str,xs,_⟩=>if E.ty t=some .str then .ret ⟨qaL o (.val (.int .u8) (qpk (qJ xs i.2 0))),[inB i.2 (qn xs)]⟩else .fail
  |⟨.arr n e,xs,[]⟩=>if E.ty t=some (.arr n e)∧E.ty (E.etid t)=some e then .ret ⟨qaL o (.val e (qJ xs i.2 e.dflt)),[inB i.2 n]⟩else .fail
  |_=>.fail
 |.extract x i=>match x with
  |.tmp t=>.get t fun en=>match qav p en.2 with
   |.tup cs=>match cs[i]? with
    |some (.val t x)=>okE (qaL o (.val t x))
    |some (.own et e xs)=>(match o.dst with
     |some d=>if d=t then .fail else okE [⟨t,true,.tup (cs.set i .gone)⟩,⟨d,true,.own et e xs⟩]
     |none=>.fail)
    |_=>.fail
   |_=>.fail
  |_=>.fail
 |.makeSlice t l c=>(opd E p 0 l).bind fun l=>(opd E p 0 c).bind fun c=>(qhq l).bind fun n=>(qhq c).bind fun m=>match E.ty t with
  |some (.slice e)=>if E.bytes (E.etid t)≠0 then .ret ⟨qaL o (.own (E.etid t) e (qtn n.2 e.dflt)),[leI 0 n.2,leI n.2 m.2,room m.2 (E.bytes (E.etid t))]⟩else .fail
  |_=>.fail
 |.makeMap t r=>if r.isNone then qqx E o t else .fail
 |.lookup t m k ok=>(opd E p 0 m).bind fun m=>(opd E p 0 k).bind fun k=>qrX E o t m k ok
 |.mapUpdate t m k x=>if o.dst.isSome then .fail else(opd E p 0 m).bind fun m=>(opd E p 0 k).bind fun k=>(opd E p (E.etid t) x).bind fun x=>ql8 E t m k x
 |.makeFunc fn first caps=>match fn with
  |.func f=>if first.isEmpty then cloE E o f caps.toList else .fail
  |_=>.fail
 |.call c=>match c.callee with
  |.builtin b=>(qtg E p c.args.toList c.argTypes.toList).bind fun os=>qnc E o b c.argTypes.toList os
  |.value f=>match f with
   |.func f=>(match E.fn f with
    |some C=>(qtg E p c.args.toList c.argTypes.toList).bind fun os=>qvG E o C os
    |none=>.fail)
   |.tmp t=>.get t fun e=>(match qav p e.2 with
    |.fnv ts us φ=>(qtg E p c.args.toList c.argTypes.toList).bind fun os=>qvt E o ts us φ os
    |_=>.fail)
   |_=>.fail
  |_=>.fail
 |_=>.fail
def qoI:List (Nat×Nat)→Q Unit
 |[]=>.ret ()
 |m::r=>.get m.1 fun en=>if m.2≤en.1 then qoI r else .fail
def qkC (s:Nat):List U→Nat
 |[]=>0
 |u::r=>match u.s==s&&u.bump with
  |true=>qkC s r+1
  |false=>qkC s r
def qo2 (d:List Nat) (u:U):Bool:=match u.a with
 |.box _=> !d.contains u.s
 |_=>false
def qfc (us:List U) (d:List Nat):List Nat→Q (List U)
 |[]=>.ret []
 |t::r=>.get t fun e=>match e.2 with
  |.pbox s v off=>if us.any (fun u=>u.s==s&&qo2 d u)&& !us.any (fun u=>u.s==t)&& !d.contains s&& !d.contains t&&s !=t then .get s fun e2=>(match e2.2 with
    |.box _=>if e2.1=v then(qfc us d r).bind fun l=>.ret (⟨t,true,.pbox s (v+qkC s us) off⟩::l)else qfc us d r
    |_=>qfc us d r)else qfc us d r
  |_=>qfc us d r
def qhN (E:Env) (o:Oper) (f:Eff):Q Eff:=match E.rf with
 |[]=>.ret f
 |l=>if f.upd.any (qo2 o.dst.toList)then(qfc f.upd o.dst.toList l).bind fun us=>.ret ⟨f.upd++us,f.chk⟩else .ret f
def vty (E:Env) (t:Nat):Option Ty:=match E.hty t with
 |some u=>some u
 |none=>E.ty t
def qmK (x:Op1):Option (Nat×Nat×Int×Int×Nat):=match x.a with
 |.hp k sz id i off=>some (k,sz,id,i,off)
 |.hv (.ptr k sz) y=>some (k,sz,y.1,y.2,0)
 |_=>none
def qqt (x:Op1):Option (Nat×Nat×(Int×(Int×Int))):=match x.a with
 |.hv (.sl k sz) y=>some (k,sz,y)
 |_=>none
def qjy (t:Ty) (x:t.den):AV:=match t.plain with
 |true=>.val t x
 |false=>.hv t x
def qmg (x:Op1):Option (Nat×Option Nat×Nat):=match x.s,x.a with
 |some s,.hbox _ _=>some (s,some x.v,0)
 |_,.pbox s v off=>some (s,some v,off)
 |_,.pip k off=>some (k,none,off)
 |_,_=>none
def qgZ (e:Ty) (p:qQ):Option (List (Option (List e.den))):=if h:p.e=e then some (h▸p.rows)else none
def qkn (k:Nat) (ps:List qQ) (p:qQ) (id:Int):Option (List p.e.den):=match qcy (100+k) ps with
 |some r=>(match qgZ p.e r with
  |some ro=>hrd p.rows ro id
  |none=>qN p.rows id)
 |none=>qN p.rows id
def roApp (k:Nat) (q:qQ) (s:Int×(Int×Int)) (ys:List q.e.den) (ps:List qQ):List qQ:=match qcy (100+k) ps with
 |some r=>(match qgZ q.e r with
  |some ro=>pset { k:=100+k,et:=q.et,e:=q.e,rows:=qjL q.rows s ys ro } ps
  |none=>ps)
 |none=>ps
def qtj (k et:Nat) (e:Ty) (ps:List qQ):Bool:=ps.all fun r=>decide (r.k<100)||(match decide (r.k=100+k)with
 |true=>decide (r.et=et)&&decide (r.e=e)
 |false=> !(decide (r.et=et)))
def qoH (E:Env) (o:Oper) (tid:Nat) (x:Op1):Q (Option Eff):=
 match qmK x with
 |some (k,sz,id,i,off)=>(qfK E).bind fun ps=>(match vty E tid,qcg k ps with
  |some t,some p=>if p.e.size=sz then(match p.e.sub (qJ (qy (qkn k ps p id) []) i p.e.dflt) off t with
   |some y=>.ret (some ⟨qaL o (qjy t y),[qp (qkn k ps p id)]⟩)
   |none=>.fail)else .fail
  |_,_=>.fail)
 |none=>(match qmg x with
  |some (s,v,off)=>.get s fun en=>(match en.2 with
   |.hbox T y=>if vOk en.1 v=true then(match(vty E tid).bind (fun t=>(T.sub y off t).map fun z=>qjy t z)with
    |some a=>.ret (some ⟨qaL o a,[]⟩)
    |none=>(match(E.ty tid).bind (fun t=>(T.sub y off t).map fun z=>qjy t z)with
     |some a=>.ret (some ⟨qaL o a,[]⟩)
     |none=>.fail))else .fail
   |_=>.ret none)
  |none=>.ret none)
def qpX (E:Env) (k sz:Nat) (x:Op1) (ps:List qQ):Q ((Int×(Int×Int))×List qQ×List U):=
 match x.s,x.a with
 |some s,.own et e ys=>(match qcg k ps with
  |some q=>if q.et=et∧e.size=sz∧s≠E.hs then(match Ty.as (t:= .slice e) (.slice q.e) ys with
   |some ys=>.ret ((qn q.rows,(0,qn ys)),pset { q with rows:=qdc q.rows ys } ps,[⟨s,true,.undef⟩])
   |none=>.fail)else .fail
  |none=>.fail)
 |some s,.hown et e ys=>(match qcg k ps with
  |some q=>if q.et=et∧e.size=sz∧s≠E.hs then(match Ty.as (t:= .slice e) (.slice q.e) ys with
   |some ys=>.ret ((qn q.rows,(0,qn ys)),pset { q with rows:=qdc q.rows ys } ps,[⟨s,true,.undef⟩])
   |none=>.fail)else .fail
  |none=>.fail)
 |none,.own _ _ []=>.ret ((-1,(0,0)),ps,[])
 |_,.nilr _ _=>.ret ((-1,(0,0)),ps,[])
 |_,.hv (.sl k' sz') y=>if k'=k∧sz'=sz then .ret (y,ps,[])else .fail
 |_,_=>.fail
def qoi (E:Env) (x:Op1) (ps:List qQ):(t:Ty)→Q (t.den×List qQ×List U)
 |.sl k sz=>qpX E k sz x ps
 |.ptr k sz=>(match x.s,x.a with
  |_,.hv t' y=>(match Ty.as (t:=t') (.ptr k sz) y with
   |some y=>.ret (y,ps,[])
   |none=>.fail)
  |_,.hp k' sz' id i 0=>if k'=k∧sz'=sz then .ret ((id,i),ps,[])else .fail
  |none,.val (.opt _) none=>.ret ((-1,0),ps,[])
  |_,_=>.fail)
 |t=>(match x.a with
  |.hv t' y=>(match Ty.as (t:=t') t y with
   |some y=>.ret (y,ps,[])
   |none=>.fail)
  |_=>(toVal t x).bind fun r=>if r.2.isEmpty=true then .ret (r.1,ps,[])else .fail)
def qjx (E:Env) (tid:Nat) (x:Op1) (ps:List qQ):Q (((t:Ty)×t.den)×List qQ×List U):=
 match x.a with
 |.hv t' y=>if some t'=E.hty tid∨some t'=E.ty tid then .ret (⟨t',y⟩,ps,[])else .fail
 |.val t' y=>if some t'=E.hty tid∨some t'=E.ty tid then .ret (⟨t',y⟩,ps,[])else .fail
 |_=>(match vty E tid with
  |some t=>(qoi E x ps t).bind fun c=>.ret (⟨t,c.1⟩,c.2)
  |none=>.fail)
def qnt:AV→Bool
 |.hv _ _=>true
 |.val _ _=>true
 |_=>false
def qtA (o:Oper) (T:Ty) (y:T.den):Q (Option Eff):=match o.dst with
 |some d=>.ret (some ⟨[⟨d,true,.hbox T y⟩],[]⟩)
 |none=>.fail
def qpl (E:Env) (tid:Nat) (p x:Op1):Q (Option Eff):=
 match qmK p with
 |some (k,sz,id,i,off)=>(qfK E).bind fun ps=>(match vty E tid with
  |some t=>(qoi E x ps t).bind fun c=>(match qcg k c.2.1 with
   |some q=>if q.e.size=sz∧q.e.noArr=true then(match q.e.upd (qJ (qy (qN q.rows id) []) i q.e.dflt) off t c.1 with
    |some z=>.ret (some ⟨c.2.2++[⟨E.hs,true,.heap (pset { q with rows:=qdD q.rows id (qdz (qy (qN q.rows id) []) i z) } (qgs q.et c.2.1))⟩],[qp (qN q.rows id)]⟩)
    |none=>.fail)else .fail
   |none=>.fail)
  |none=>.fail)
 |none=>(match qmg p with
  |some (s,v,off)=>.get s fun en=>(match en.2 with
   |.hbox T y=>if vOk en.1 v=true∧s≠E.hs then if qnt x.a=true then(qjx E tid x []).bind fun c=>(match T.put y off c.1.1 c.1.2 with
     |some z=>.ret (some ⟨[⟨s,true,.hbox z.1 z.2⟩],[]⟩)
     |none=>.fail)else(qfK E).bind fun ps=>(qjx E tid x ps).bind fun c=>if(c.2.2.map (·.s)).contains s then .fail else(match T.put y off c.1.1 c.1.2 with
     |some z=>if c.2.2.isEmpty=true then .ret (some ⟨[⟨s,true,.hbox z.1 z.2⟩],[]⟩)else .ret (some ⟨c.2.2++[⟨E.hs,true,.heap c.2.1⟩,⟨s,true,.hbox z.1 z.2⟩],[]⟩)
     |none=>.fail)else .fail
   |_=>.ret none)
  |none=>.ret none)
def qqm (o:Oper) (off:Nat) (x:Op1):Q (Option Eff):=
 match qmK x with
 |some (k,sz,id,i,b)=>.ret (some ⟨qaL o (.hp k sz id i (b+off)),[leI 0 id]⟩)
 |none=>(match qmg x with
  |some (s,v,b)=>.get s fun en=>(match en.2 with
   |.hbox _ _=>if vOk en.1 v=true then .ret (some ⟨qaL o (qpq s (b+off) v),[]⟩)else .fail
   |_=>.ret none)
  |none=>.ret none)
def qpA (o:Oper) (x ix:Op1):Q (Option Eff):=
 match qqt x with
 |some (k,sz,s)=>(qhq ix).bind fun i=>.ret (some ⟨qaL o (.hp k sz s.1 (qX s.2.1 i.2) 0),[inB i.2 (qaS s.2.2 s.2.1)]⟩)
 |none=>.ret none
def qvO (o:Oper) (x:Op1):Q (Option Eff):=
 match qqt x with
 |some (_,_,s)=>.ret (some ⟨qaL o (.val (.int .i64) (qaS s.2.2 s.2.1)),[]⟩)
 |none=>.ret none
def qji (E:Env) (o:Oper) (x:Op1) (lo hi:Option Op1):Q (Option Eff):=
 match qqt x with
 |some (k,sz,s)=>(qfh lo 0).bind fun l=>(qfh hi (qaS s.2.2 s.2.1)).bind fun h=>
  if apart o.dst.toList E.hxs=true then .ret (some ⟨qaL o (.hv (.sl k sz) (s.1,(qX s.2.1 l,qX s.2.1 h))),[inS l h (qaS s.2.2 s.2.1)]⟩)
  else(qfK E).bind fun ps=>(match qcg k ps with
   |some q=>.ret (some ⟨qaL o (.hv (.sl k sz) (s.1,(qX s.2.1 l,qX s.2.1 h))),[inS l h (qaS (qn (qy (qN q.rows s.1) [])) s.2.1),qp (qN q.rows s.1),leI s.2.1 0]⟩)
   |none=>.fail)
 |none=>.ret none
def qm0 (E:Env) (p:qdU) (o:Oper) (t:Nat) (x lo hi mx:Operand):Q (Option Eff):=(opd E p t x).bind fun x=>(match qqt x,E.hty t with
 |some (_,sz,s),some (.sl _ sz')=>if sz=sz' then(opd E p 0 lo).bind fun l=>(opd E p 0 hi).bind fun h=>(opd E p 0 mx).bind fun m=>(qhq l).bind fun l=>(qhq h).bind fun h=>(qhq m).bind fun m=>
  .ret (some ⟨qaL o .undef,[inS l.2 h.2 m.2,leI m.2 (qaS s.2.2 s.2.1)]⟩)else .fail
 |some _,_=>.fail
 |none,_=>.ret none)
def qpv (E:Env) (o:Oper) (t:Nat) (x:Op1):Q (Option Eff):=
 match qqt x with
 |some (k,sz,s)=>(qfK E).bind fun ps=>(match E.hty t,qcg k ps with
  |some (.sl k' sz'),some q=>if(k'=k∧sz'=sz∧q.e.size=sz)∧q.et=E.etid t∧E.hty (E.etid t)=some q.e∧0<sz∧o.dst.isSome=false then .ret (some ⟨[⟨E.hs,true,.heap (pset { q with rows:=qy (qrC q.rows s q.e.dflt) q.rows } (qgs q.et ps))⟩],[qp (qrC q.rows s q.e.dflt)]⟩)else .fail
  |_,_=>.fail)
 |none=>.ret none
def qtZ (E:Env) (o:Oper) (t:Nat) (T:Ty) (y:T.den) (ps:List qQ) (us:List U):Q (Option Eff):=
 match o.dst with
 |some d=>if d≠E.hs∧(us.map (·.s)).contains d=false then(match E.hob d with
  |some k=>(match qcg k ps with
   |some q=>if q.et=t then(match Ty.as (t:=T) q.e y with
    |some y=>.ret (some ⟨us++[⟨E.hs,true,.heap (pset { q with rows:=qdc q.rows [y] } ps)⟩,⟨d,true,.hv (.ptr k T.size) (qn q.rows,0)⟩],[]⟩)
    |none=>.fail)else .fail
   |none=>.fail)
  |none=>if us.isEmpty=true then .ret (some ⟨[⟨d,true,.hbox T y⟩],[]⟩)else .ret (some ⟨us++[⟨E.hs,true,.heap ps⟩,⟨d,true,.hbox T y⟩],[]⟩))else .fail
 |none=>.fail
def qqb (E:Env) (o:Oper):Bool:=match o.dst with
 |some d=>(E.hob d).isSome
 |none=>false
def qpH (E:Env) (o:Oper) (t:Nat):Q (Option Eff):=
 match E.hty t with
 |some T=>if T.plain=true∧qqb E o=false then .ret none else if qqb E o=false then qtA o T T.dflt else(qfK E).bind fun ps=>qtZ E o t T T.dflt ps []
 |none=>.ret none
def qtE (E:Env) (o:Oper) (t:Nat) (x:Op1):Q (Option Eff):=
 match E.hty t with
 |some T=>if T.plain=true∧qqb E o=false then .ret none else if qqb E o=false∧qnt x.a=true then(qjx E t x []).bind fun c=>qtA o c.1.1 c.1.2 else(qfK E).bind fun ps=>(qjx E t x ps).bind fun c=>qtZ E o t c.1.1 c.1.2 c.2.1 c.2.2
 |none=>.ret none
def qpR (E:Env) (o:Oper) (t f:Nat) (x:Op1):Q (Option Eff):=
 match x.a with
 |.hv T y=>(match E.hty t,E.off t f,vty E (E.fty t f)with
  |some T',some off,some u=>if T'=T then(match T.sub y off u with
   |some z=>.ret (some ⟨qaL o (qjy u z),[]⟩)
   |none=>.fail)else .fail
  |_,_,_=>.fail)
 |_=>.ret none
def qo8 (q:qQ) (y:Op1):Option (List q.e.den×List Bool):=
 match y.a with
 |.own _ e ys=>(Ty.as (t:= .slice e) (.slice q.e) ys).map fun z=>(z,[])
 |.hown _ e ys=>(Ty.as (t:= .slice e) (.slice q.e) ys).map fun z=>(z,[])
 |.nilr _ _=>some ([],[])
 |.hv (.sl k sz) s=>if k=q.k∧sz=q.e.size then some (qy (qcJ q.rows s) [],[qp (qcJ q.rows s)])else none
 |_=>none
def quU (E:Env) (o:Oper) (t k sz:Nat) (x y:Op1):Q (Option Eff):=
 match o.dst with
 |some d=>(qfK E).bind fun ps=>(qpX E k sz x ps).bind fun c=>(match qcg k c.2.1 with
  |some q=>if(q.et=E.etid t∧q.e.size=sz∧0<sz)∧0<E.bytes q.et∧d≠E.hs∧((c.2.2.map (·.s)).contains d=false∧qtj k q.et q.e c.2.1=true)then(match qo8 q y with
   |some ys=>.ret (some ⟨c.2.2++[⟨E.hs,true,.heap (pset { q with rows:=(qy (qfF q.rows c.1 ys.1) (q.rows,c.1)).1 } (roApp k q c.1 ys.1 c.2.1))⟩,⟨d,true,.hv (.sl k sz) (qy (qfF q.rows c.1 ys.1) (q.rows,c.1)).2⟩],ys.2++[qp (qfF q.rows c.1 ys.1),leI c.1.2.1 0,qc1 c.1.2.2 (qn ys.1) (E.bytes q.et)]⟩)
   |none=>.fail)else .fail
  |none=>.fail)
 |none=>.fail
def qsg (x:Op1):Option (Nat×Nat×(Int×Int)):=match x.a with
 |.hv (.ptr k sz) y=>some (k,sz,y)
 |_=>none
def qvi (E:Env) (p:qdU) (o:Oper) (op:BinOp) (t:Nat) (x y:Operand):Q (Option Eff):=
 match E.hty t with
 |some (.ptr k sz)=>if qky op y=true then(opd E p t x).bind fun x=>(match qsg x with
   |some r=>.ret (some ⟨qaL o (.val .bool (bif qel op then eqI r.2.2.1 (-1)else !(eqI r.2.2.1 (-1)))),[]⟩)
   |none=>.fail)
  else if quI op=true then(opd E p t x).bind fun x=>(opd E p t y).bind fun y=>(match qsg x,qsg y with
   |some r,some s=>if r.1=k∧s.1=k∧r.2.1=sz∧s.2.1=sz∧0<sz then .ret (some ⟨qaL o (.val .bool (bif qel op then(eqI r.2.2.1 s.2.2.1&&eqI r.2.2.2 s.2.2.2)else !(eqI r.2.2.1 s.2.2.1&&eqI r.2.2.2 s.2.2.2))),[(eqI r.2.2.1 s.2.2.1||(eqI r.2.2.1 (-1)||eqI s.2.2.1 (-1)))]⟩)else .fail
   |_,_=>.fail)
  else .fail
 |some (.sl k sz)=>if qon op y=true then(opd E p t x).bind fun x=>(match qqt x with
   |some r=>.ret (some ⟨qaL o (.val .bool (bif qel op then eqI r.2.2.1 (-1)else !(eqI r.2.2.1 (-1)))),[(eqI r.2.2.1 (-1)||(ltI r.2.2.2.1 r.2.2.2.2||ltI 0 r.2.2.2.1))]⟩)
   |none=>.ret none)
  else .ret none
 |_=>.ret none
def qlk (E:Env) (ps:List qQ):(t:Ty)→Nat→List (Nat×Op1)→Q (t.den×List qQ×List U)
 |.pair a b,i,qs=>(match qs.find? (fun p=>p.1==i)with
  |some p=>(qoi E p.2 ps a).bind fun c=>(qlk E c.2.1 b (i+1) qs).bind fun r=>.ret ((c.1,r.1),r.2.1,c.2.2++r.2.2)
  |none=>(qlk E ps b (i+1) qs).bind fun r=>.ret ((a.dflt,r.1),r.2))
 |.unit,_,_=>.ret ((),ps,[])
 |_,_,_=>.fail
def qkL (E:Env) (ps:List qQ) (e:Ty):Nat→List Op1→Q (List e.den×List qQ×List U)
 |0,[]=>.ret ([],ps,[])
 |n+1,o::os=>(qoi E o ps e).bind fun c=>(qkL E c.2.1 e n os).bind fun r=>.ret (c.1::r.1,r.2.1,c.2.2++r.2.2)
 |_,_=>.fail
def qub (E:Env) (o:Oper) (av:AV) (ps:List qQ) (us:List U):Q (Option Eff):=
 match o.dst with
 |some d=>if(d≠E.hs∧(us.map (·.s)).contains d=false)∧qf1 (us.map (·.s))=true then .ret (some ⟨us++[⟨E.hs,true,.heap ps⟩,⟨d,true,av⟩],[]⟩)else .fail
 |none=>.fail
def qmN (E:Env) (p:qdU) (o:Oper) (t:Nat) (parts:List (Nat×Operand)):Q (Option Eff):=
 match E.hty t with
 |some T=>if T.plain=true then .ret none else(qfH E p (fun i=>E.fty t i) parts).bind fun qs=>(qfK E).bind fun ps=>(qlk E ps T 0 qs).bind fun r=>
   if qf1 (qs.map (·.1))&&qs.all (fun q=>decide (q.1<(qaa T).length))then(if r.2.2.isEmpty=true then .ret (some ⟨qaL o (.hv T r.1),[]⟩)else qub E o (.hv T r.1) r.2.1 r.2.2)else .fail
 |none=>.ret none
def qvC (E:Env) (p:qdU) (o:Oper) (t n:Nat) (parts:List (Nat×Operand)):Q (Option Eff):=
 match E.hty t with
 |some (.sl k sz)=>(qfH E p (fun _=>E.etid t) parts).bind fun qs=>(qfK E).bind fun ps=>(match qcg k ps with
  |some q=>if q.e.plain=true then .ret none else if n=0∧parts.isEmpty=true∧q.et=E.etid t then .ret (some ⟨qaL o (.own q.et q.e []),[]⟩)else if(qhM 0 qs&&decide (n*sz≤16777216)&&decide (0<n*sz))=true∧q.et=E.etid t∧q.e.size=sz then(qkL E ps q.e n (qs.map (·.2))).bind fun r=>if r.2.2.isEmpty=true then .ret (some ⟨qaL o (.hown q.et q.e r.1),[]⟩)else qub E o (.hown q.et q.e r.1) r.2.1 r.2.2 else .fail
  |none=>.fail)
 |_=>.ret none
def qjg:(ks:List (Nat×Nat×Ty))→List qQ→Option (hden ks)
 |[],[]=>some ()
 |q::r,p::ps=>if p.k=q.1∧p.et=q.2.1 then(match qgZ q.2.2 p,qjg r ps with
  |some x,some y=>some (x,y)
  |_,_=>none)else none
 |_,_=>none
@[reducible] def appL:List Ty→List Ty→List Ty
 |[],us=>us
 |t::ts,us=>t::appL ts us
def appD:(ts us:List Ty)→denL ts→denL us→denL (appL ts us)
 |[],_,_,y=>y
 |_::ts,us,x,y=>(x.1,appD ts us x.2 y)
@[reducible] def valH:List Ty→List HM
 |[]=>[]
 |t::r=>.v t::valH r
def qnK (ks:List (Nat×Nat×Ty)):(ts:List Ty)→denL ts→HMs.den ks (valH ts)
 |[],_=>()
 |_::r,x=>(x.1,qnK ks r x.2)
def ofHs (ks:List (Nat×Nat×Ty)):(ts:List Ty)→HMs.den ks (valH ts)→denL ts
 |[],_=>()
 |_::r,x=>(x.1,ofHs ks r x.2)
def tsOf:List HM→List Ty→Option (List Ty)
 |ms,cs=>if ms=valH cs then some []else(match ms with
  |.v t::r=>(tsOf r cs).map (t:: ·)
  |_=>none)
def qmp:List Ty→Bool
 |[]=>true
 |t::r=>t.plain&&qmp r
def qrG (E:Env) (ks:List (Nat×Nat×Ty)) (ts us:List Ty):AV→Option (hden ks→denL ts→Option (hden ks×denL us))
 |.hfnv ks' ts' us' φ=>if h:ks'=ks∧ts'=ts∧us'=us then some (h.1▸h.2.1▸h.2.2▸φ)else none
 |.hclo f cs y=>(match E.hfn f with
  |some ⟨ks',ps',rs',sem⟩=>if h:ks'=ks∧ps'=valH (appL ts cs)∧rs'=us then some (h.1▸h.2.2▸fun p x=>sem p (h.2.1▸qnK ks' (appL ts cs) (appD ts cs x y)))else none
  |none=>none)
 |a=>if qmp ts&&qmp us then(quH E ts us a).map fun φ=>fun p x=>qkj (fun y=>(p,y)) (φ x)else none
def qns (E:Env) (a:AV):AV:=match a with
 |.fn f []=>(match E.hfn f with
  |some _=>.hclo f [] ()
  |none=>a)
 |_=>a
def qgv (E:Env) (ks:List (Nat×Nat×Ty)) (ps:List qQ):(ms:List HM)→List Op1→Q (HMs.den ks ms×List qQ×List U)
 |[],[]=>.ret ((),ps,[])
 |.v t::ms,o::os=>(qoi E o ps t).bind fun c=>(qgv E ks c.2.1 ms os).bind fun r=>.ret ((c.1,r.1),r.2.1,c.2.2++r.2.2)
 |.fn ts us::ms,o::os=>(match quH E ts us o.a with
  |some φ=>(qgv E ks ps ms os).bind fun r=>.ret ((φ,r.1),r.2)
  |none=>.fail)
 |.hfn ts us::ms,o::os=>(match qrG E ks ts us (qns E o.a)with
  |some φ=>(qgv E ks ps ms os).bind fun r=>.ret ((φ,r.1),r.2)
  |none=>.fail)
 |.ls::ms,o::os=>(match o.a with
  |.hls ks' φ ψ 0=>if h:ks'=ks then(qgv E ks ps ms os).bind fun r=>.ret ((h▸ (φ,ψ),r.1),r.2)else .fail
  |_=>.fail)
 |.ifc t k sz::ms,o::os=>(match o.a with
  |.hifc t' k' sz' s=>if t'=t∧k'=k∧sz'=sz then(qgv E ks ps ms os).bind fun r=>.ret ((s,r.1),r.2)else .fail
  |_=>.fail)
 |_,_=>.fail
def qmC:(rs:List Ty)→denL rs→AV
 |[t],y=>qjy t y.1
 |rs,y=>.htup rs y
def qrh (E:Env) (o:Oper) (ks:List (Nat×Nat×Ty)) (ms:List HM) (rs:List Ty) (sem:hden ks→HMs.den ks ms→Option (hden ks×denL rs)) (os:List Op1):Q (Option Eff):=
 (qfK E).bind fun ps=>(qgv E ks ps ms os).bind fun A=>if qf1 (A.2.2.map (·.s))=true then(match qjg ks A.2.1 with
  |some h=>(match o.dst with
   |some d=>if d≠E.hs∧(A.2.2.map (·.s)).contains d=false then .ret (some ⟨A.2.2++[⟨E.hs,true,.heap (qR ks (qy (sem h A.1) (h,denL.dflt rs)).1)⟩,⟨d,true,qmC rs (qy (sem h A.1) (h,denL.dflt rs)).2⟩],[qp (sem h A.1)]⟩)else .fail
   |none=>.ret (some ⟨A.2.2++[⟨E.hs,true,.heap (qR ks (qy (sem h A.1) (h,denL.dflt rs)).1)⟩],[qp (sem h A.1)]⟩))
  |none=>.fail)else .fail
def qoM:List Operand→Q (Option ((cs:List Ty)×denL cs))
 |[]=>.ret (some ⟨[],()⟩)
 |.tmp s::r=>.get s fun e=>(match e.2 with
  |.hv (.ptr k sz) y=>(qoM r).bind fun q=>(match q with
   |some q=>.ret (some ⟨.ptr k sz::q.1,(y,q.2)⟩)
   |none=>.ret none)
  |_=>.ret none)
 |_::_=>.ret none
def quy (o:Oper) (f:Nat) (caps:List Operand):Q (Option Eff):=
 match caps with
 |[]=>.ret none
 |_=>(qoM caps).bind fun q=>(match q with
  |some q=>.ret (some ⟨qaL o (.hclo f q.1 q.2),[]⟩)
  |none=>.ret none)
def qsz (o:Oper) (p:qdU) (t i:Nat):Q (Option Eff):= .get t fun en=>(match qav p en.2 with
 |.htup ts y=>(match htupAt ts y i with
  |some r=>.ret (some ⟨qaL o (qjy r.1 r.2),[]⟩)
  |none=>.fail)
 |_=>.ret none)
where
 htupAt:(ts:List Ty)→denL ts→Nat→Option ((t:Ty)×t.den)
  |t::_,y,0=>some ⟨t,y.1⟩
  |_::ts,y,n+1=>htupAt ts y.2 n
  |[],_,_=>none
def parOf (E:Env) (x:Operand):Option ((t:Ty)×t.den):=match x with
 |.tmp s=>if s=E.hs then E.hpar else none
 |_=>none
def hop (E:Env) (p:qdU) (o:Oper):Q (Option Eff):=
 match o.op with
 |.load t a=>(opd E p 0 a).bind fun a=>qoH E o t a
 |.store t a x=>if o.dst.isSome then .ret none else(opd E p 0 a).bind fun a=>(match qmK a,qmg a with
  |none,none=>.ret none
  |_,_=>(opd E p t x).bind fun x=>qpl E t a x)
 |.nilCheck x=>(opd E p 0 x).bind fun x=>qqm o 0 x
 |.fieldAddr t x f=>(match E.off t f with
  |some n=>(opd E p 0 x).bind fun x=>qqm o n x
  |none=>.ret none)
 |.indexAddr t x ix=>(opd E p t x).bind fun x=>(match qqt x with
  |some r=>(match E.hty t with
   |some (.sl _ sz)=>if r.2.1=sz then(opd E p 0 ix).bind fun i=>qpA o x i else .fail
   |_=>.fail)
  |none=>.ret none)
 |.alloc t=>qpH E o t
 |.box t x=>(match parOf E x with
  |some r=>(qfK E).bind fun _=>(qtE E o t ⟨none,0,qjy r.1 r.2⟩).bind fun q=>(match q with
   |some f=>.ret (some f)
   |none=>(boxE E o t ⟨none,0,qjy r.1 r.2⟩).bind fun f=>.ret (some f))
  |none=>(match E.hty t with
   |some _=>(opd E p t x).bind fun x=>qtE E o t x
   |none=>.ret none))
 |.field t x f=>(opd E p t x).bind fun x=>qpR E o t f x
 |.slice t x lo hi none=>(opd E p t x).bind fun x=>(match qqt x,E.hty t with
  |some r,some (.sl _ sz)=>if r.2.1=sz then(match lo,hi with
   |none,none=>qji E o x none none
   |some l,none=>(opd E p 0 l).bind fun l=>qji E o x (some l) none
   |none,some h=>(opd E p 0 h).bind fun h=>qji E o x none (some h)
   |some l,some h=>(opd E p 0 l).bind fun l=>(opd E p 0 h).bind fun h=>qji E o x (some l) (some h))else .fail
  |some _,_=>.fail
  |none,_=>.ret none)
 |.slice t x (some lo) (some hi) (some m)=>qm0 E p o t x lo hi m
 |.call c=>(match c.callee with
  |.builtin .clear=>(match c.args.toList,c.argTypes.toList with
   |[x],[t]=>(match E.hty t with
    |some (.sl _ _)=>(opd E p t x).bind fun x=>qpv E o t x
    |_=>.ret none)
   |_,_=>.ret none)
  |.builtin .len=>(match c.args.toList with
   |[x]=>(match E.hty (c.argTypes.toList.headD 0),c.argTypes.toList with
    |some (.sl _ _),[t]=>(opd E p t x).bind fun x=>qvO o x
    |_,_=>.ret none)
   |_=>.ret none)
  |.builtin .append=>(match c.args.toList,c.argTypes.toList with
   |[x,y],[t,t']=>(match E.hty t with
    |some (.sl k sz)=>if t=t' then(opd E p t x).bind fun x=>(opd E p t y).bind fun y=>quU E o t k sz x y else .fail
    |_=>.ret none)
   |_,_=>.ret none)
  |.value (.func f)=>(match E.hfn f with
   |some C=>(qtg E p c.args.toList c.argTypes.toList).bind fun os=>qrh E o C.ks C.ps C.rs C.sem os
   |none=>.ret none)
  |.value (.tmp t)=>.get t fun e=>(match qav p e.2 with
   |.hfnv ks ts us φ=>(qtg E p c.args.toList c.argTypes.toList).bind fun os=>qrh E o ks (valH ts) us (fun h x=>φ h (ofHs ks ts x)) os
   |.hclo f cs y=>(match E.hfn f with
    |some C=>(match tsOf C.ps cs with
     |some ts=>(match qrG E C.ks ts C.rs (.hclo f cs y)with
      |some φ=>(qtg E p c.args.toList c.argTypes.toList).bind fun os=>qrh E o C.ks (valH ts) C.rs (fun h x=>φ h (ofHs C.ks ts x)) os
      |none=>.fail)
     |none=>.fail)
    |none=>.ret none)
   |_=>.ret none)
  |_=>.ret none)
 |.makeFunc fn first caps=>(match fn with
  |.func f=>if first.isEmpty then quy o f caps.toList else .ret none
  |_=>.ret none)
 |.extract x i=>(match x with
  |.tmp t=>qsz o p t i
  |_=>.ret none)
 |.binOp op t x y _=>qvi E p o op t x y
 |.build t parts=>qmN E p o t parts.toList
 |.buildSlice t n parts=>qvC E p o t n parts.toList
 |.makeInterface t x=>(opd E p t x).bind fun x=>(match qqt x,E.hty t with
  |some r,some (.sl k sz)=>if r.1=k∧r.2.1=sz then .ret (some ⟨qaL o (.hifc t r.1 r.2.1 r.2.2),[]⟩)else .ret none
  |_,_=>.ret none)
 |_=>.ret none
def quG (o:Oper) (x:Op1):Option Eff:=match x.a with
 |.hls ks φ ψ 0=>some ⟨qaL o (.hls ks φ ψ 1),[]⟩
 |_=>none
def qsa (o:Oper) (f:Nat) (x:Op1):Option Eff:=match x.a with
 |.hls ks φ ψ 1=>if f≤1 then some ⟨qaL o (.hls ks φ ψ (f+2)),[]⟩else none
 |_=>none
def qsP (o:Oper) (t t0 t1 t2:Nat) (x:Op1):Option Eff:=match x.a with
 |.hls ks φ ψ 1=>if t=t0 then some ⟨qaL o (.hls ks φ ψ 0),[]⟩else none
 |.hls ks φ _ 2=>if t=t1 then some ⟨qaL o (.hfnv ks _ _ φ),[]⟩else none
 |.hls ks _ ψ 3=>if t=t2 then some ⟨qaL o (.hfnv ks _ _ ψ),[]⟩else none
 |_=>none
def quz (E:Env) (p:qdU) (o:Oper):Q (Option Eff):=match E.hlst with
 |none=>.ret none
 |some (t0,t1,t2)=>(match o.op with
  |.box t x=>if t=t0 then(opd E p t x).bind fun x=>.ret (quG o x)else .ret none
  |.fieldAddr t x f=>if t=t0 then(opd E p 0 x).bind fun x=>.ret (qsa o f x)else .ret none
  |.load t x=>if t=t0∨t=t1∨t=t2 then(opd E p 0 x).bind fun x=>.ret (qsP o t t0 t1 t2 x)else .ret none
  |_=>.ret none)
def qm9 (E:Env) (p:qdU) (o:Oper):Q Eff:=match E.hon with
 |false=>qdR E p o
 |true=>(quz E p o).bind fun r=>(match r with
  |some f=>.ret f
  |none=>(hop E p o).bind fun r=>(match r with
   |some f=>.ret f
   |none=>qdR E p o))
def qi8 (c:Bool):List qQ→List qQ→Option (List qQ)
 |[],[]=>some []
 |p::ps,q::qs=>if p.k=q.k∧p.et=q.et then(match qgZ p.e q,qi8 c ps qs with
  |some x,some r=>some ({ p with rows:=bif c then x else p.rows } ::r)
  |_,_=>none)else none
 |_,_=>none
def qdg (E:Env) (g:Option (Nat×Bool)) (o:Oper):Q Eff:=
 match g with
 |none=>(qm9 E [] o).bind fun f=>qhN E o f
 |some (s,w)=>(qcx 8 s w).bind fun p=>(qm9 E p o).bind fun f=>match f.upd,o.dst,p with
  |[⟨d,true,a⟩],some d',(s',v',w',_)::_=>if d=d'∧a.freeze.unowned=true∧a.freeze.isUndef=false∧p.all (fun q=>q.1 !=d)=true then(qoI a.freeze.mentions).bind fun _=>.ret ⟨[⟨d,true,.grd s' v' w' a.freeze⟩],f.chk.map fun c=> !(qhp p)||c⟩else .fail
  |[⟨t,true,.heap ps'⟩,⟨d,true,a⟩],some d',(s',v',w',_)::_=>if d=d'∧a.freeze.unowned=true∧a.freeze.isUndef=false∧p.all (fun q=>q.1 !=d)=true∧(p.all (fun q=>q.1 !=t)=true∧d≠t)then .get t fun e=>(match e.2 with
   |.heap ps=>(match qi8 (qhp p) ps ps' with
    |some r=>(qoI a.freeze.mentions).bind fun _=>.ret ⟨[⟨t,true,.heap r⟩,⟨d,true,.grd s' v' w' a.freeze⟩],f.chk.map fun c=> !(qhp p)||c⟩
    |none=>.fail)
   |_=>.fail)else .fail
  |_,_,_=>.fail
def qG (σ:St) (u:U):St:=σ.set u.s ((if u.bump then(qj σ u.s).1+1 else(qj σ u.s).1),u.a)
def qh (σ:St) (us:List U):St:=us.foldl qG σ
def qeW (ops:Array Oper) (o:Oper):Option (Option (Nat×Bool)):=
 match o.guard with
 |none=>some none
 |some (j,w)=>match(ops[j]?).bind (·.dst)with
  |some d=>some (some (d,w))
  |none=>none
structure qcw where
 rd:List Nat
 us:List U
def qcw.wr (f:qcw):List Nat:=f.us.map (·.s)
def qdH (E:Env) (wr:List Nat) (ops:Array Oper):List Oper→St→List Bool→List qcw→Option (St×List Bool×List qcw)
 |[],σ,c,fs=>some (σ,c,fs)
 |o::r,σ,c,fs=>match qeW ops o with
  |none=>none
  |some g=>match(qdg E g o).run (qj σ)with
   |none=>none
   |some f=>if f.upd.all (fun u=>wr.contains u.s&&decide (u.s<σ.length))then
     qdH E wr ops r (qh σ f.upd) (c++f.chk) ({ rd:=(qdg E g o).log (qj σ),us:=f.upd } ::fs)
    else none
def qbk (o:Oper):List Nat:=(o.after.toList.filter (Region.binds .any)).map (·.on)
def qfD (ms:List Nat) (es:List Nat):Nat:=es.foldl (fun m j=>m|||(1 <<< j)|||ms.getD j 0) 0
def qe0 (f g:qcw):Bool:=apart f.wr (g.rd++g.wr)&&apart g.wr f.rd
def qmJ (m:Nat) (f:qcw):Nat→List qcw→Bool
 |_,[]=>true
 |j,g::r=>(m.testBit j||qe0 f g)&&qmJ m f (j+1) r
def qgX:List Oper→List qcw→List Nat→List qcw→Bool
 |[],[],_,_=>true
 |o::os,f::fs,ms,done=>(qbk o).all (fun j=>decide (j<ms.length))&&(qmJ (qfD ms (qbk o)) f 0 done&&qgX os fs (ms++[qfD ms (qbk o)]) (done++[f]))
 |_,_,_,_=>false
def qfC:AV→Bool
 |.own _ _ _=>true
 |_=>false
def qft (o:Oper):Option Nat:=match o.guard,o.op with
 |none,.move (.tmp s)=>some s
 |_,_=>none
def qn5 (σ:St) (fl:List qcw) (s:Nat):Bool:=qfC (qj σ s).2&&fl.all (fun f=>f.us.all (fun u=>u.s !=s||(!u.bump&&qfC u.a)))
def qgn:AV→Bool
 |.box _=>true
 |_=>false
def qlC (pins:List Nat) (σ:St) (fl:List qcw) (s:Nat):Bool:=pins.contains s&&(qgn (qj σ s).2&&fl.all (fun f=>f.us.all (fun u=>u.s !=s||qgn u.a)))
def qgo (pins:List Nat) (σ:St) (fl:List qcw):List Oper→List qcw→List qcw
 |o::os,f::fs=>(match qft o with
  |some s=>if(qn5 σ fl s||qlC pins σ fl s)=true then { f with rd:=[] }else f
  |none=>f)::qgo pins σ fl os fs
 |_,_=>[]
def qaV (l:List qcw) (σ:St):St:=l.foldl (fun σ f=>qh σ f.us) σ
def qbR:List Oper→List Nat→List Nat
 |[],ms=>ms
 |o::os,ms=>qbR os (ms++[qfD ms (qbk o)])
def qle (E:Env) (τ:St) (o:Oper):Option (Nat×Int):=match E.hon,E.hlst,o.guard,o.op with
 |true,none,none,.load _ (.tmp s)=>(match qmK ⟨some s,(qj τ s).1,qav [] (qj τ s).2⟩with
  |some (k,_,id,_,_)=>if s=E.hs then none else some (k,id)
  |none=>none)
 |_,_,_,_=>none
def qlV (k:Nat) (id:Int) (ps:List qQ):Option ((e:Ty)×Option (List e.den)):=(qcg k ps).map fun q=>⟨q.e,qkn k ps q id⟩
def qdd (E:Env) (k:Nat) (id:Int) (τ:St):Option ((e:Ty)×Option (List e.den)):=match(qj τ E.hs).2 with
 |.heap ps=>qlV k id ps
 |_=>none
def qdS (E:Env) (k:Nat) (id:Int) (τ τ':St):Bool:=match qdd E k id τ,qdd E k id τ' with
 |some a,some b=>if h:b.1=a.1 then qmF a.2 (h▸b.2)else false
 |_,_=>false
def qmk (E:Env) (σ:St) (ms:List Nat) (fl:List qcw) (i k:Nat) (id:Int):Nat→List qcw→List Bool
 |_,[]=>[]
 |j,g::r=>if g.wr.contains E.hs&&(j !=i&& !(if j<i then(ms.getD i 0).testBit j else(ms.getD j 0).testBit i))then qdS E k id (qaV (fl.take j) σ) (qaV (fl.take (j+1)) σ)::qmk E σ ms fl i k id (j+1) r
  else qmk E σ ms fl i k id (j+1) r
def qic (E:Env) (σ:St) (ms:List Nat) (fl:List qcw):Nat→List Oper→List qcw→List qcw×List Bool
 |i,o::os,f::fs=>(match qle E (qaV (fl.take i) σ) o with
  |some (k,id)=>if f.wr.contains E.hs then(f::(qic E σ ms fl (i+1) os fs).1,(qic E σ ms fl (i+1) os fs).2)else(match qmk E σ ms fl i k id 0 fl with
   |[]=>(f::(qic E σ ms fl (i+1) os fs).1,(qic E σ ms fl (i+1) os fs).2)
   |c=>({ f with rd:=f.rd.filter (· !=E.hs) } ::(qic E σ ms fl (i+1) os fs).1,c++(qic E σ ms fl (i+1) os fs).2))
  |none=>(f::(qic E σ ms fl (i+1) os fs).1,(qic E σ ms fl (i+1) os fs).2))
 |_,_,_=>([],[])
def qfd (E:Env) (ops:List Oper) (σ:St) (fl:List qcw):List qcw×List Bool:=match E.hon with
 |true=>qic E σ (qbR ops []) fl 0 ops (qgo E.pins σ fl ops fl)
 |false=>(qgo E.pins σ fl ops fl,[])
def qdx (E:Env) (wr:List Nat) (ops:Array Oper) (draw:Bool) (σ:St):Option (St×List Bool×List Nat):=
 match qdH E wr ops ops.toList σ [] []with
 |some (σ',c,fs)=>(match draw with
  |false=>some (σ',c,fs.flatMap (·.wr))
  |true=>if qgX ops.toList (qfd E ops.toList σ fs.reverse).1 [] []then some (σ',c++(qfd E ops.toList σ fs.reverse).2,fs.flatMap (·.wr))else none)
 |none=>none
inductive qex where
 |val (t:Ty)
 |own (et:Nat) (e:Ty)
 |box (b:qcb)
 |mp (k v:Ty)
 |hv (t:Ty)
 |hbox (t:Ty)
 |heap (ks:List (Nat×Nat×Ty))
@[reducible] def qex.den:qex→Type
 |.val t=>t.den
 |.own _ e=>List e.den
 |.box b=>b.den
 |.mp k v=>List (k.den×v.den)
 |.hv t=>t.den
 |.hbox t=>t.den
 |.heap ks=>hden ks
def qex.un:(s:qex)→s.den→AV
 |.val t,x=>.val t x
 |.own et e,xs=>.own et e xs
 |.box b,x=>.box (b.un x)
 |.mp k v,xs=>.mp k v xs
 |.hv t,x=>.hv t x
 |.hbox t,x=>.hbox t x
 |.heap ks,x=>.heap (qR ks x)
def BC.toVal:(t:Ty)→BC→Option t.den
 |t,.val u x=>Ty.as (t:=u) t x
 |.pair a b,.pair c d=>match BC.toVal a c,BC.toVal b d with
  |some x,some y=>some (x,y)
  |_,_=>none
 |_,_=>none
def BC.toShape:(b:qcb)→BC→Option b.den
 |.val t,c=>c.toVal t
 |.own et e,.own et' e' xs=>if et=et' then Ty.as (t:= .slice e') (.slice e) xs else none
 |.pair a b,.pair c d=>match BC.toShape a c,BC.toShape b d with
  |some x,some y=>some (x,y)
  |_,_=>none
 |.hole n,.hole m=>if n=m then some ()else none
 |_,_=>none
def AV.toShape:(s:qex)→AV→Option s.den
 |.val t,.val u x=>Ty.as (t:=u) t x
 |.own et e,.own et' e' xs=>if et=et' then Ty.as (t:= .slice e') (.slice e) xs else none
 |.box b,.box c=>c.toShape b
 |.mp k v,.mp k' v' xs=>if h:k'=k∧v'=v then some (h.1▸h.2▸xs)else none
 |.hv t,.hv u x=>Ty.as (t:=u) t x
 |.hv (.ptr k sz),.hp k' sz' id i off=>if k=k'∧sz=sz'∧off=0 then some (id,i)else none
 |.hbox t,.hbox u x=>Ty.as (t:=u) t x
 |.heap ks,.heap ps=>qjg ks ps
 |_,_=>none
structure qmT where
 id:Nat
 wr:List Nat
 live:List (Nat×qex)
structure qog where
 loops:List qmT
 lets:List (Nat×List Nat)
 frz:List (Nat×List Nat)
@[reducible] def liveDen:List (Nat×qex)→Type
 |[]=>Unit
 |p::r=>p.2.den×liveDen r
def qph:(l:List (Nat×qex))→St→Option (liveDen l)
 |[],_=>some ()
 |p::r,σ=>match(qj σ p.1).2.toShape p.2,qph r σ with
  |some x,some y=>some (x,y)
  |_,_=>none
def qfw:(l:List (Nat×qex))→liveDen l→St→St
 |[],_,σ=>σ
 |p::r,x,σ=>qfw r x.2 (σ.set p.1 ((qj σ p.1).1,p.2.un x.1))
def qgi (A:qmT) (σ:St) (p:liveDen A.live):St:=
 qfw A.live p (A.wr.foldl (fun σ s=>σ.set s ((qj σ s).1+1,.undef)) σ)
def qiJ (l:List Nat) (σ:St):St:=l.foldl (fun σ s=>qG σ ⟨s,false,(qj σ s).2.freeze⟩) σ
def qgg:Code→Option Nat
 |.region id _ _=>some id
 |.seq a b=>(qgg a).orElse fun _=>qgg b
 |.cond _ a b=>(qgg a).orElse fun _=>qgg b
 |.block _ a=>qgg a
 |.loop a=>qgg a
 |_=>none
def calm (ops:Array Oper):Bool:=ops.toList.all fun o=>match o.op with
 |.panic _=>false
 |_=>true
def qmv:Code→Bool
 |.skip=>true
 |.region _ ops _=>calm ops
 |.seq a b=>qmv a&&qmv b
 |.cond _ a b=>qmv a&&qmv b
 |_=>false
def qiu (b:Bool):List qQ→List qQ→Option (List qQ)
 |[],[]=>some []
 |p::ps,q::qs=>if p.k=q.k∧p.et=q.et then(match qgZ p.e q,qiu b ps qs with
  |some r,some rs=>some (⟨p.k,p.et,p.e,bif b then p.rows else r⟩::rs)
  |_,_=>none)else none
 |_,_=>none
def qgl (b:Bool) (x y:AV):AV:=
 match x,y with
 |.val t x,.val u y=>match Ty.as (t:=u) t y with
  |some y=>.val t (bif b then x else y)
  |none=>.undef
 |.own et e xs,.own et' e' ys=>if et=et' then(match Ty.as (t:= .slice e') (.slice e) ys with
  |some ys=>.own et e (bif b then xs else ys)
  |none=>.undef)else .undef
 |.box c,.box d=>match joinB b c d with
  |some r=>.box r
  |none=>.undef
 |.mp k v xs,.mp k' v' ys=>if h:k'=k∧v'=v then .mp k v (bif b then xs else(h.1▸h.2▸ys:List (k.den×v.den)))else .undef
 |.hv t x,.hv u y=>(match Ty.as (t:=u) t y with
  |some y=>.hv t (bif b then x else y)
  |none=>.undef)
 |.hbox t x,.hbox u y=>(match Ty.as (t:=u) t y with
  |some y=>.hbox t (bif b then x else y)
  |none=>.undef)
 |.hp k sz id i off,.hp k' sz' id' i' off'=>if k=k'∧sz=sz'∧off=off' then .hp k sz (bif b then id else id') (bif b then i else i') off else .undef
 |.heap ps,.heap qs=>(match qiu b ps qs with
  |some rs=>.heap rs
  |none=>.undef)
 |.nilr et e,.own et' e' ys=>if et=et' then(match Ty.as (t:= .slice e') (.slice e) ys with
  |some ys=>.own et e (bif b then[]else ys)
  |none=>.undef)else .undef
 |.own et e xs,.nilr et' e'=>if et=et'∧e=e' then .own et e (bif b then xs else[])else .undef
 |.nilr et e,.nilr et' e'=>if et=et'∧e=e' then .nilr et e else .undef
 |.nz e xs,.nz e' ys=>(match Ty.as (t:= .slice e') (.slice e) ys with
  |some ys=>.nz e (bif b then xs else ys)
  |none=>.undef)
 |.nz e xs,.val (.slice e') ys=>(match Ty.as (t:= .slice e') (.slice e) ys with
  |some ys=>.val (.slice e) (bif b then xs else ys)
  |none=>.undef)
 |.val (.slice e) xs,.nz e' ys=>(match Ty.as (t:= .slice e') (.slice e) ys with
  |some ys=>.val (.slice e) (bif b then xs else ys)
  |none=>.undef)
 |_,_=>.undef
where
 joinB (b:Bool):BC→BC→Option BC
  |.val t x,.val u y=>match Ty.as (t:=u) t y with
   |some y=>some (.val t (bif b then x else y))
   |none=>none
  |.own et e xs,.own et' e' ys=>if et=et' then(match Ty.as (t:= .slice e') (.slice e) ys with
   |some ys=>some (.own et e (bif b then xs else ys))
   |none=>none)else none
  |.pair a c,.pair a' c'=>match joinB b a a',joinB b c c' with
   |some x,some y=>if a.size=a'.size then some (.pair x y)else none
   |_,_=>none
  |.hole n,.hole m=>if n=m then some (.hole n)else none
  |_,_=>none
def qlz (b:Bool) (ds:List Nat) (σ σ1 σ2:St):St:=
 ds.foldl (fun τ s=>τ.set s (max (qj σ1 s).1 (qj σ2 s).1+1,qgl b (qj σ1 s).2 (qj σ2 s).2)) σ
def mism (x y:AV):Bool:=
 match x,y with
 |.own _ _ _,.val _ _=>true
 |.box c,.box d=>(qgl.joinB true c d).isNone
 |_,_=>false
def qlX (σ1 σ2:St):List Nat→List Nat
 |[]=>[]
 |s::r=>match mism (qj σ1 s).2 (qj σ2 s).2 with
  |true=>s::qlX σ1 σ2 r
  |false=>qlX σ1 σ2 r
def joinFz (b:Bool) (ds:List Nat) (σ σ1 σ2:St):St:=qlz b ds σ (qiJ (qlX σ1 σ2 ds) σ1) (qiJ (qlX σ2 σ1 ds) σ2)
def AV.refit (s:qex) (a:AV):AV:=match s,a with
 |.box b,.box c=>(match c.fit b with
  |some x=>.box (b.un x)
  |none=>(AV.box c).freeze)
 |_,a=>a.freeze
def qtb:List (Nat×qex)→St→St
 |[],σ=>σ
 |p::r,σ=>qtb r (match((qj σ p.1).2.toShape p.2).isNone with
  |true=>qG σ ⟨p.1,false,(qj σ p.1).2.refit p.2⟩
  |false=>σ)
def qvb:List Bool→Bool
 |[]=>true
 |[a]=>a
 |a::r=>a&&qvb r
def qpt (b:Bool) (c d:List Bool):List Bool:=match c,d with
 |[],[]=>[]
 |c,d=>[bif b then qvb c else qvb d]
def andThen {R:Type}(c:List Bool) (r:Option R):Option R:=match c with
 |[]=>r
 |c=>bif qvb c then r else none
def qeO:List (Nat×List Nat)→Option Nat→List Nat
 |_,none=>[]
 |[],_=>[]
 |(i,l)::r,some j=>match decEq i j with
  |isTrue _=>l
  |isFalse _=>qeO r (some j)
def qkM (σ:St) (s:Nat):St:=match(qj σ s).2 with
 |.box (.val t x)=>qG σ ⟨s,true,.view t x 0⟩
 |_=>σ
def qnE (l:List Nat) (σ:St):St:=l.foldl qkM σ
def regE (E:Env) (frz:List (Nat×List Nat)) (wr:List Nat) (id:Nat) (ops:Array Oper) (d:Bool) (σ:St):Option (St×List Bool×List Nat):=
 match qeO frz (some id)with
 |[]=>qdx E wr ops d σ
 |fz=>if fz.all wr.contains&&(qeO frz (some (id+2000000000))).all fz.contains then(match qdx E wr ops d (qnE (qeO frz (some (id+2000000000))) (qiJ fz σ))with
  |some (σ',c,ds)=>some (σ',c,fz++ds)
  |none=>none)else none
def qqX (E:Env) (frz:List (Nat×List Nat)) (wr:List Nat):Code→St→Option (St×List Bool×List Nat)
 |.skip,σ=>some (σ,[],[])
 |.region id ops d,σ=>regE E frz wr id ops d σ
 |.seq a b,σ=>match qqX E frz wr a σ with
  |some (σ1,c1,d1)=>match qqX E frz wr b σ1 with
   |some (σ2,c2,d2)=>some (σ2,c1++c2,d1++d2)
   |none=>none
  |none=>none
 |.cond c a b,σ=>match Q.run (qj σ) ((opd E [] 0 c).bind qlE)with
  |some ⟨.bool,x,_⟩=>match qqX E frz wr a σ,qqX E frz wr b σ with
   |some (σ1,c1,d1),some (σ2,c2,d2)=>some (joinFz x (d1++d2) σ σ1 σ2,qpt x c1 c2,d1++d2)
   |_,_=>none
  |_=>none
 |_,_=>none
structure K (R:Type) where
 n:St→Option R
 e:Nat→St→Option R
 r:St→Option R
def qlc {R:Type}(tag:Nat):Nat→List qQ→(List qQ→Option R)→Option R
 |0,p::ps,k=>qbl tag p.rows fun r=>k ({ p with rows:=r } ::ps)
 |n+1,p::ps,k=>qlc tag n ps fun qs=>k (p::qs)
 |_,[],k=>k []
@[reducible] def ksOf:List qQ→List (Nat×Nat×Ty)
 |[]=>[]
 |p::ps=>(p.k,p.et,p.e)::ksOf ps
def toHd:(ps:List qQ)→hden (ksOf ps)
 |[]=>()
 |p::ps=>(p.rows,toHd ps)
def qpD {R:Type}(tag:Nat) (ps:List qQ) (k:List qQ→Option R):Option R:=qbl tag (toHd ps) fun h=>k (qR (ksOf ps) h)
def qdp {R:Type}(tag:Nat):List Nat→St→(St→Option R)→Option R
 |[],σ,k=>k σ
 |s::r,σ,k=>if 1000000≤s then(match qj σ (s%1000000)with
  |(v,.heap ps)=>(match s/1000000 with
   |90=>qpD (tag*100+90) ps fun ps=>qdp tag r (σ.set (s%1000000) (v,.heap ps)) k
   |n=>qlc (tag*100+n) (n-1) ps fun ps=>qdp tag r (σ.set (s%1000000) (v,.heap ps)) k)
  |_=>qdp tag r σ k)else match qj σ s with
  |(v,.val t x)=>qT x fun y=>qdp tag r (σ.set s (v,.val t y)) k
  |(v,.own et e xs)=>qT xs fun ys=>qdp tag r (σ.set s (v,.own et e ys)) k
  |(v,.box (.val t x))=>qT x fun y=>qdp tag r (σ.set s (v,.box (.val t y))) k
  |(v,.hv t x)=>qT x fun y=>qdp tag r (σ.set s (v,.hv t y)) k
  |_=>qdp tag r σ k
def qu6 (c:Operand) (σ:St):Option (Bool×Bool):=match c with
 |.tmp t=>(match(qj σ t).2 with
  |.amb w m=>some (w,m)
  |_=>none)
 |_=>none
def qnJ (E:Env) (N:Nat) (anns:qog) {R:Type}:Code→List Nat→St→K R→Option R
 |.skip,_,σ,k=>k.n σ
 |.region id ops d,wr,σ,k=>qdp id (qeO anns.lets (some id)) σ fun σ=>match regE E anns.frz wr id ops d σ with
  |some (σ',c,_)=>andThen c (k.n σ')
  |none=>none
 |.seq a b,wr,σ,k=>qnJ E N anns a wr σ { k with n:=fun σ'=>qnJ E N anns b wr σ' k }
 |.cond c a b,wr,σ,k=>qdp (((qgg (.cond c a b)).getD 0)+1000000) (qeO anns.lets ((qgg (.cond c a b)).map (· +1000000))) σ fun σ=>match qu6 c σ with
  |some (w,m)=>bif m then qtV (qnJ E N anns a wr σ k) (qnJ E N anns b wr σ k)else(match w with
   |true=>qnJ E N anns b wr σ k
   |false=>qnJ E N anns a wr σ k)
  |none=>match Q.run (qj σ) ((opd E [] 0 c).bind qlE)with
  |some ⟨.bool,x,_⟩=>
   if qmv a&&qmv b then(match qqX E anns.frz wr (.cond c a b) σ with
    |some (σ',ch,_)=>andThen ch (k.n σ')
    |none=>none)
   else bif x then qnJ E N anns a wr σ k else qnJ E N anns b wr σ k
  |_=>none
 |.block id a,wr,σ,k=>qnJ E N anns a wr σ { k with e:=fun i σ'=>if i=id then k.n σ' else k.e i σ' }
 |.exit id,_,σ,k=>k.e id σ
 |.ret,_,σ,k=>k.r σ
 |.loop a,wr,σ,k=>match(qgg a).bind (fun id=>anns.loops.find? (fun A=>A.id==id))with
  |some A=>if A.wr.all wr.contains&&A.live.all (fun p=>A.wr.contains p.1)&&qf1 (A.live.map (·.1))then(match qph A.live (qtb A.live σ)with
    |some p=>qaE N (fun ih p=>qnJ E N anns a A.wr (qgi A σ p) { k with n:=fun σ'=>match qph A.live (qtb A.live σ')with
     |some q=>ih q
     |none=>none }) p
    |none=>none)else none
  |none=>none
 |_,_,_,_=>none
def qmy (pin:List Nat) (l:List Oper):Bool:=l.all fun o=>apart o.dst.toList pin
def qhy (pin:List Nat):Code→Bool
 |.region _ ops _=>qmy pin ops.toList
 |.seq a b=>qhy pin a&&qhy pin b
 |.cond _ a b=>qhy pin a&&qhy pin b
 |.block _ a=>qhy pin a
 |.loop a=>qhy pin a
 |.skip=>true
 |.exit _=>true
 |.ret=>true
 |_=>false
def qcI:List PM→Nat→List Nat
 |[],_=>[]
 |.io _::r,k=>k::qcI r (k+1)
 |.val _::r,k=>qcI r (k+1)
 |.own _ _::r,k=>qcI r (k+1)
 |.fn _ _::r,k=>qcI r (k+1)
 |.nil _ _::r,k=>qcI r (k+1)
 |.rd _::r,k=>qcI r (k+1)
 |.ior _ _::r,k=>k::qcI r (k+1)
 |.iob _::r,k=>k::qcI r (k+1)
def qb1:List PM→Nat→List Nat
 |[],_=>[]
 |.io _::r,k=>k::qb1 r (k+1)
 |.val _::r,k=>qb1 r (k+1)
 |.own _ _::r,k=>qb1 r (k+1)
 |.fn _ _::r,k=>qb1 r (k+1)
 |.nil _ _::r,k=>qb1 r (k+1)
 |.rd _::r,k=>qb1 r (k+1)
 |.ior _ _::r,k=>qb1 r (k+1)
 |.iob _::r,k=>k::qb1 r (k+1)
def qdB:List PM→Nat→List Nat
 |[],_=>[]
 |.ior _ _::r,k=>k::qdB r (k+1)
 |.iob _::r,k=>k::qdB r (k+1)
 |.io _::r,k=>qdB r (k+1)
 |.val _::r,k=>qdB r (k+1)
 |.own _ _::r,k=>qdB r (k+1)
 |.fn _ _::r,k=>qdB r (k+1)
 |.nil _ _::r,k=>qdB r (k+1)
 |.rd _::r,k=>qdB r (k+1)
def qvP:(p:PM)→p.den→AV
 |.val t,x=>.val t x
 |.own et e,xs=>.own et e xs
 |.io t,x=>.box (.val t x)
 |.fn ps rs,φ=>.fnv ps rs φ
 |.nil et e,_=>.nilr et e
 |.rd t,x=>.view t x 0
 |.ior et e,xs=>.own et e xs
 |.iob b,x=>.box (b.un x)
def qbo:(ps:List PM)→PMs.den ps→St
 |[],_=>[]
 |p::ps,x=>(0,qvP p x.1)::qbo ps x.2
def qd6 (fn:Func) (ps:List PM) (x:PMs.den ps):St:=qbo ps x++zaT (fn.ntmps-ps.length) (0,.undef)
def qjo (E:Env) (r:RM) (v:ResultVar):Q (r.den×List Nat):=
 match r,v with
 |.val u,.cell a t=>.get a fun en=>match en.2 with
  |.box c=>if E.ty t=some u∧c.size=u.size then(match c.get 0 u with
   |some (x,f)=>.ret (x,if f then[a]else[])
   |none=>.fail)else .fail
  |_=>.fail
 |.val t,.tmp s=>.get s fun en=>toVal t ⟨some s,en.1,en.2⟩
 |.own et e,.tmp s=>.get s fun en=>match en.2 with
  |.own et' e' xs=>if et=et' then(match Ty.as (t:= .slice e') (.slice e) xs with
   |some xs=>.ret (xs,[s])
   |none=>.fail)else .fail
  |.ref s' v=>.get s' fun en=>if en.1=v then(match en.2 with
   |.own et' e' xs=>if et=et' then(match Ty.as (t:= .slice e') (.slice e) xs with
    |some xs=>.ret (xs,[s'])
    |none=>.fail)else .fail
   |_=>.fail)else .fail
  |_=>.fail
 |.nz e,.tmp s=>.get s fun en=>match en.2 with
  |.nilr _ _=>.ret ([],[])
  |.nz e' xs=>(match Ty.as (t:= .slice e') (.slice e) xs with
   |some xs=>.ret (xs,[])
   |none=>.fail)
  |.val (.slice e') xs=>(match Ty.as (t:= .slice e') (.slice e) xs with
   |some xs=>.ret (xs,[])
   |none=>.fail)
  |_=>.fail
 |_,_=>.fail
def nzC:List RM→List ResultVar→Q (List Bool)
 |.nz _::rs,.tmp s::vs=>.get s fun en=>match en.2 with
  |.val (.slice _) xs=>(nzC rs vs).bind fun l=>.ret (neI (qn xs) 0::l)
  |_=>nzC rs vs
 |_::rs,_::vs=>nzC rs vs
 |_,_=>.ret []
def qiR (E:Env):(rs:List RM)→List ResultVar→Q (RMs.den rs×List Nat×List Nat)
 |[],[]=>.ret ((),[],[])
 |r::rs,v::vs=>(qjo E r v).bind fun x=>(qiR E rs vs).bind fun q=>match r with
  |.own _ _=>.ret ((x.1,q.1),x.2++q.2.1,q.2.2)
  |.val _=>.ret ((x.1,q.1),q.2.1,x.2++q.2.2)
  |.nz _=>.ret ((x.1,q.1),q.2.1,q.2.2)
 |_,_=>.fail
def qfM:(ps:List PM)→Nat→Q (PMs.ioDen ps)
 |[],_=>.ret ()
 |.io t::ps,s=>.get s fun en=>match en.2 with
  |.box c=>match(if c.size=t.size then c.get 0 t else none)with
   |some (x,_)=>(qfM ps (s+1)).bind fun r=>.ret (x,r)
   |none=>.fail
  |_=>.fail
 |.val _::ps,s=>qfM ps (s+1)
 |.own _ _::ps,s=>qfM ps (s+1)
 |.fn _ _::ps,s=>qfM ps (s+1)
 |.nil _ _::ps,s=>qfM ps (s+1)
 |.rd _::ps,s=>qfM ps (s+1)
 |.iob b::ps,s=>.get s fun en=>match en.2 with
  |.box c=>(match c.fit b with
   |some x=>(qfM ps (s+1)).bind fun r=>.ret (x,r)
   |none=>.fail)
  |_=>.fail
 |.ior et e::ps,s=>.get s fun en=>match en.2 with
  |.own et' e' xs=>if et=et' then(match Ty.as (t:= .slice e') (.slice e) xs with
   |some x=>(qfM ps (s+1)).bind fun r=>.ret (x,r)
   |none=>.fail)else .fail
  |_=>.fail
def qnP (E:Env) (fn:Func) (ps:List PM) (rs:List RM) (σ:St):Option (RMs.den rs×PMs.ioDen ps):=
 match(qiR E rs fn.results.toList).run (qj σ),(qfM ps 0).run (qj σ),(nzC rs fn.results.toList).run (qj σ)with
 |some (y,gone,ow),some z,some c=>if qf1 gone&&apart ow gone&&apart (gone++ow) (qdB ps 0)then andThen c (some (y,z))else none
 |_,_,_=>none
def kFin (E:Env) (fn:Func) (ps:List PM) (rs:List RM):K (RMs.den rs×PMs.ioDen ps):=
 { n:=qnP E fn ps rs,e:=fun _ _=>none,r:=qnP E fn ps rs }
def runF (E:Env) (N:Nat) (anns:qog) (fn:Func) (ps:List PM) (rs:List RM) (x:PMs.den ps):Option (RMs.den rs×PMs.ioDen ps):=
 match fn.body with
 |some c=>if qhy (qcI ps 0) c&&decide (ps.length≤fn.ntmps)then qnJ { E with pins:=qb1 ps 0,rf:=qeO anns.frz (some 1000000007),nzr:=rs.any (fun r=>match r with|.nz _=>true|_=>false) } N anns c (List.range fn.ntmps) (qd6 fn ps x) (kFin E fn ps rs)else none
 |none=>none
def qtr (ks:List (Nat×Nat×Ty)):(m:HM)→m.den ks→AV
 |.v t,x=>qjy t x
 |.fn ts us,φ=>.fnv ts us φ
 |.hfn ts us,φ=>.hfnv ks ts us φ
 |.ls,φ=>.hls ks φ.1 φ.2 0
 |.ifc t k sz,s=>.hifc t k sz s
def qca (ks:List (Nat×Nat×Ty)):(ms:List HM)→HMs.den ks ms→St
 |[],_=>[]
 |m::ms,x=>(0,qtr ks m x.1)::qca ks ms x.2
def qhO (ks:List (Nat×Nat×Ty)):(ms:List HM)→HMs.den ks ms→Nat→Option ((t:Ty)×t.den)
 |.v t::_,x,0=>if t.agg then some ⟨t,x.1⟩else none
 |_::ms,x,n+1=>qhO ks ms x.2 n
 |_,_,_=>none
def qmX (fn:Func) (ks:List (Nat×Nat×Ty)) (ms:List HM) (x:HMs.den ks ms) (s:Nat):Bool:=decide (s<fn.ntmps)&&(decide (ms.length≤fn.ntmps)&&(decide (ms.length≤s)||(qhO ks ms x s).isSome))
def qeb (fn:Func) (ks:List (Nat×Nat×Ty)) (ms:List HM) (p:hden ks) (x:HMs.den ks ms) (s:Nat):St:=(qca ks ms x++zaT (fn.ntmps-ms.length) ((0,.undef):Ent)).set s (0,.heap (qR ks p))
def qu9 (E:Env) (ps:List qQ) (t:Ty) (o:Op1):Q (t.den×List qQ×List U×List Nat):=
 match t.plain with
 |true=>(toVal t o).bind fun r=>.ret (r.1,ps,[],r.2)
 |false=>(qoi E o ps t).bind fun c=>.ret (c.1,c.2.1,c.2.2,[])
def qmH (E:Env) (ps:List qQ) (t:Ty):ResultVar→Q (t.den×List qQ×List U×List Nat)
 |.tmp s=>.get s fun en=>qu9 E ps t ⟨some s,en.1,en.2⟩
 |.cell a t'=>.get a fun en=>(match en.2 with
  |.hbox T y=>if E.hty t'=some t∨E.ty t'=some t then(match Ty.as (t:=T) t y with
   |some y=>.ret (y,ps,[],[])
   |none=>.fail)else .fail
  |.box c=>if E.ty t'=some t∧c.size=t.size then(match c.get 0 t with
   |some (x,f)=>.ret (x,ps,[],if f then[a]else[])
   |none=>.fail)else .fail
  |_=>.fail)
def qmO (E:Env):(rs:List Ty)→List qQ→List ResultVar→Q (denL rs×List qQ×List U×List Nat)
 |[],ps,[]=>.ret ((),ps,[],[])
 |t::rs,ps,v::vs=>(qmH E ps t v).bind fun c=>(qmO E rs c.2.1 vs).bind fun r=>.ret ((c.1,r.1),r.2.1,c.2.2.1++r.2.2.1,c.2.2.2++r.2.2.2)
 |_,_,_=>.fail
def qkc (E:Env) (fn:Func) (ks:List (Nat×Nat×Ty)) (rs:List Ty) (σ:St):Option (hden ks×denL rs):=
 match((qfK E).bind fun ps=>qmO E rs ps fn.results.toList).run (qj σ)with
 |some A=>if qf1 (A.2.2.1.map (·.s))&&apart A.2.2.2 (E.hs::A.2.2.1.map (·.s))then(match qjg ks A.2.1 with
  |some p=>some (p,A.1)
  |none=>none)else none
 |none=>none
def hEnv (E:Env) (anns:qog) (ks:List (Nat×Nat×Ty)) (ms:List HM) (x:HMs.den ks ms):Env:= { E with pins:=[],rf:=qeO anns.frz (some 1000000007),nzr:=false,hon:=true,hks:=ks,hpar:=qhO ks ms x E.hs }
def runH (E:Env) (N:Nat) (anns:qog) (fn:Func) (ks:List (Nat×Nat×Ty)) (ms:List HM) (rs:List Ty) (p:hden ks) (x:HMs.den ks ms):Option (hden ks×denL rs):=
 match fn.body with
 |some c=>if qhy [] c&&qmX fn ks ms x E.hs then qnJ (hEnv E anns ks ms x) N anns c (List.range fn.ntmps) (qeb fn ks ms p x E.hs) { n:=qkc (hEnv E anns ks ms x) fn ks rs,e:=fun _ _=>none,r:=qkc (hEnv E anns ks ms x) fn ks rs }else none
 |none=>none
def qn6:(ks:List (Nat×Nat×Ty))→hden ks
 |[]=>()
 |_::r=>([],qn6 r)
def qt4 (E:Env) (t:Ty):ResultVar→Q (t.den×List Nat×List Bool)
 |.tmp s=>.get s fun en=>argV E t ⟨some s,en.1,en.2⟩
 |.cell a t'=>.get a fun en=>(match en.2 with
  |.hbox T y=>if(E.hty t'=some T∨E.ty t'=some T)∧T.agg=t.agg then(qfK E).bind fun ps=>.ret (qy (qfS ps t T y) t.dflt,[E.hs],[qp (qfS ps t T y)])else .fail
  |.box c=>if E.ty t'=some t∧c.size=t.size then(match c.get 0 t with
   |some (x,f)=>.ret (x,if f then[a]else[],[])
   |none=>.fail)else .fail
  |_=>.fail)
def qsF (E:Env):(rs:List Ty)→List ResultVar→Q (denL rs×List Bool)
 |[],[]=>.ret ((),[])
 |t::rs,v::vs=>(qt4 E t v).bind fun c=>(qsF E rs vs).bind fun r=>.ret ((c.1,r.1),c.2.2++r.2)
 |_,_=>.fail
def qtY (E:Env) (fn:Func) (rs:List Ty) (σ:St):Option (denL rs):=
 match(qsF E rs fn.results.toList).run (qj σ)with
 |some A=>andThen A.2 (some A.1)
 |none=>none
def runT (E:Env) (N:Nat) (anns:qog) (fn:Func) (ks:List (Nat×Nat×Ty)) (ts us:List Ty) (x:denL ts):Option (denL us):=
 match fn.body with
 |some c=>if qhy [] c&&(qmp ts&&qmX fn ks (valH ts) (qnK ks ts x) E.hs)then qnJ (hEnv E anns ks (valH ts) (qnK ks ts x)) N anns c (List.range fn.ntmps) (qeb fn ks (valH ts) (qn6 ks) (qnK ks ts x) E.hs) { n:=qtY (hEnv E anns ks (valH ts) (qnK ks ts x)) fn us,e:=fun _ _=>none,r:=qtY (hEnv E anns ks (valH ts) (qnK ks ts x)) fn us }else none
 |none=>none
end
end Go.Vi
namespace Go.Vi
theorem qx (b off n:Nat):(⟨b,off,none⟩:Addr).add n=⟨b,off+n,none⟩:=by
 grind [Addr.add]
theorem qbi (a:Addr) (i j:Nat):(a.add i).add j=a.add (i+j):=by
 grind [Addr.add]
theorem qam (a:Addr) (n:Nat):(a.add n).block=a.block:=by grind [Addr.add]
def qem (w:World) (a:Addr) (cs:List Value):Prop:=∀j u,cs[j]? =some u→w.cell? (a.add j)=some u
def qdJ {α:Type}(w:World) (F:Nat→Prop) (R:α→List Value→Prop) (sz:Nat) (xs:List α) (v:Value):Prop:=
 (v=.slice none 0 0∧xs=[])∨
 ∃a cap,v=.slice (some a) xs.length cap∧xs.length≤cap∧cap≤maxLen∧
  ∀i x,xs[i]? =some x→F a.block∧a.block<w.heap.size∧∃cs,qem w (a.add (i*sz)) cs∧R x cs
def qs6 {α:Type}(w:World) (F:Nat→Prop) (R:α→List Value→Prop) (x:Option α) (v:Value):Prop:=
 (x=none∧v=.pointer none)∨∃y a cs,x=some y∧v=.pointer (some a)∧F a.block∧a.block<w.heap.size∧qem w a cs∧R y cs
def Rep (w:World) (F:Nat→Prop):(t:Ty)→t.den→List Value→Prop
 |.int k,n,cs=>cs=[.int k n]∧k.has n
 |.bool,b,cs=>cs=[.bool b]
 |.str,s,cs=>cs=[.string ⟨s.toArray⟩]∧s.length≤maxLen
 |.unit,_,cs=>cs=[]
 |.pair a b,x,cs=>∃c1 c2,cs=c1++c2∧Rep w F a x.1 c1∧Rep w F b x.2 c2
 |.slice e,xs,cs=>∃v,cs=[v]∧qdJ w F (Rep w F e) e.size xs v
 |.opt e,x,cs=>∃v,cs=[v]∧qs6 w F (Rep w F e) x v
 |.map _ _,_,_=>False
 |.ptr _ _,_,_=>False
 |.sl _ _,_,_=>False
 |.err,b,cs=>∃v,cs=[v]∧((b=true∧v=.nilIface)∨(b=false∧∃t x,v=.iface t x))
 |.arr n e,xs,cs=>xs.length=n∧∃css:List (List Value),css.length=n∧cs=css.flatten∧∀(i:Nat) (x:e.den) (c:List Value),xs[i]? =some x→css[i]? =some c→Rep w F e x c
theorem qdj {css:List (List Value)}{sz:Nat}(h:∀c∈css,c.length=sz):css.flatten.length=css.length*sz:=by
 induction css with
 |nil=>simp
 |cons c r ih=>
  grind
theorem Rep.length {w:World}{F:Nat→Prop}: {t:Ty}→{x:t.den}→{cs:List Value}→Rep w F t x cs→cs.length=t.size
 |.int _,_,_,h=>by rw[h.1];rfl
 |.bool,_,_,h=>by rw[show _=_ from h];rfl
 |.str,_,_,h=>by rw[h.1];rfl
 |.unit,_,_,h=>by rw[show _=_ from h];rfl
 |.pair a b,_,_,⟨c1,c2,hc,h1,h2⟩=>by rw[hc,zag,h1.length,h2.length];rfl
 |.slice _,_,_,⟨v,hc,_⟩=>by rw[hc];rfl
 |.err,_,_,⟨v,hc,_⟩=>by rw[hc];rfl
 |.opt _,_,_,⟨v,hc,_⟩=>by rw[hc];rfl
 |.map _ _,_,_,h=>h.elim
 |.ptr _ _,_,_,h=>h.elim
 |.sl _ _,_,_,h=>h.elim
 |.arr n e,xs,_,⟨hl,css,hcl,hc,hx⟩=>by
  rw[hc,qdj (sz:=e.size),hcl]
  ·rfl
  ·intro c hm;obtain⟨i,hi,rfl⟩:=List.getElem_of_mem hm;have hix:i<xs.length:=by omega
   exact(hx i xs[i] css[i] (zac hix) (zac hi)).length
theorem Rep.keep {w w':World}{F F':Nat→Prop}(hF:∀b,F b→b<w.heap.size→F' b∧b<w'.heap.size∧w'.heap[b]? =w.heap[b]?):
  {t:Ty}→{x:t.den}→{cs:List Value}→Rep w F t x cs→Rep w' F' t x cs
 |.int _,_,_,h=>h
 |.bool,_,_,h=>h
 |.str,_,_,h=>h
 |.err,_,_,h=>h
 |.unit,_,_,h=>h
 |.map _ _,_,_,h=>h.elim
 |.ptr _ _,_,_,h=>h.elim
 |.sl _ _,_,_,h=>h.elim
 |.opt e,x,_,⟨v,hc,h⟩=>⟨v,hc,by
   rcases h with h|⟨y,a,cs,h1,h2,h3,h4,h5,h6⟩
   ·exact .inl h
   ·obtain⟨g1,g2,g3⟩:=hF _ h3 h4;exact .inr ⟨y,a,cs,h1,h2,g1,g2,fun j u hu=>by
     rw[←h5 j u hu];grind [World.cell?_of_block,qam],h6.keep hF⟩⟩
 |.pair a b,_,_,⟨c1,c2,hc,h1,h2⟩=>⟨c1,c2,hc,h1.keep hF,h2.keep hF⟩
 |.slice e,xs,_,⟨v,hc,h⟩=>⟨v,hc,by
   rcases h with h|⟨a,cap,hv,hl,hm,hx⟩
   ·exact .inl h
   ·refine .inr ⟨a,cap,hv,hl,hm,fun i x hi=>?_⟩;obtain⟨h1,h2,cs,h3,h4⟩:=hx i x hi;obtain⟨g1,g2,g3⟩:=hF _ h1 h2;refine⟨g1,g2,cs,fun j u hu=>?_,h4.keep hF⟩;rw[←h3 j u hu];grind [World.cell?_of_block,qam]⟩
 |.arr n e,xs,_,⟨hl,css,hcl,hc,hx⟩=>⟨hl,css,hcl,hc,fun i x c hi hci=>(hx i x c hi hci).keep hF⟩
theorem Rep.flat {w w':World}{F F':Nat→Prop}: {t:Ty}→{x:t.den}→{cs:List Value}→t.flat=true→Rep w F t x cs→Rep w' F' t x cs
 |.int _,_,_,_,h=>h
 |.bool,_,_,_,h=>h
 |.str,_,_,_,h=>h
 |.err,_,_,_,h=>h
 |.unit,_,_,_,h=>h
 |.pair a b,_,_,hf,⟨c1,c2,hc,h1,h2⟩=>by
  have hf:a.flat=true∧b.flat=true:=by simpa[Ty.flat]using hf
  exact⟨c1,c2,hc,h1.flat hf.1,h2.flat hf.2⟩
 |.slice _,_,_,hf,_=>by simp[Ty.flat]at hf
 |.opt _,_,_,hf,_=>by simp[Ty.flat]at hf
 |.map _ _,_,_,hf,_=>by simp[Ty.flat]at hf
 |.ptr _ _,_,_,hf,_=>by simp[Ty.flat]at hf
 |.sl _ _,_,_,hf,_=>by simp[Ty.flat]at hf
 |.arr n e,xs,_,hf,⟨hl,css,hcl,hc,hx⟩=>⟨hl,css,hcl,hc,fun i x c hi hci=>(hx i x c hi hci).flat hf⟩
theorem Ty.yd {t u:Ty}{x:t.den}{y:u.den}(h:Ty.as u x=some y):∃e:t=u,e▸x=y:=by
 grind [Ty.as]
theorem Rep.as {w:World}{F:Nat→Prop}{t u:Ty}{x:t.den}{y:u.den}{cs:List Value}(h:Ty.as u x=some y) (hr:Rep w F t x cs):Rep w F u y cs:=by
 grind [Ty.yd]
theorem qaW {css:List (List Value)}{sz i:Nat}{c:List Value}(h:∀c∈css,c.length=sz) (hi:css[i]? =some c):
  (css.flatten.drop (i*sz)).take sz=c∧i*sz+sz≤css.flatten.length:=by
 induction css generalizing i with
 |nil=>simp at hi
 |cons d r ih=>
  have hd:d.length=sz:=h d (by simp);cases i with
  |zero=>
   grind
  |succ i=>
   simp at hi;have:=ih (fun c hc=>h c (by simp[hc])) hi;rw[List.flatten_cons,zaS,Nat.one_mul];refine⟨?_,?_⟩
   ·simp_all [List.drop_append,zaI]
   grind
theorem qiP {c1 c2:List Value}{off n:Nat}(h:off+n≤c1.length):((c1++c2).drop off).take n=(c1.drop off).take n:=by
 grind
theorem qbU {c1 c2:List Value}{off n:Nat}(h:c1.length≤off):((c1++c2).drop off).take n=(c2.drop (off-c1.length)).take n:=by
 grind [List.drop_append,zaI]
theorem qeo {α:Type}{xs:List α}{i:Int}{d x:α}(h:xs[i.toNat]? =some x):qJ xs i d=x:=by grind [qhk]
theorem Ty.yk {t u:Ty}{x:t.den}{off:Nat}{y:u.den}(h:Ty.whole u x off=some y):off=0∧Ty.as u x=some y:=by
 grind [Ty.whole]
theorem Ty.yf (t:Ty) (x:t.den):Ty.whole (t:=t) t x 0=some x:=by simp[Ty.whole,Ty.as]
theorem Ty.yv:(t:Ty)→(x:t.den)→t.sub x 0 t=some x
 |.int k,x=>Ty.yf (.int k) x
 |.bool,x=>Ty.yf .bool x
 |.str,x=>Ty.yf .str x
 |.unit,x=>Ty.yf .unit x
 |.slice e,x=>Ty.yf (.slice e) x
 |.err,x=>Ty.yf .err x
 |.opt e,x=>Ty.yf (.opt e) x
 |.map k v,x=>Ty.yf (.map k v) x
 |.ptr k v,x=>Ty.yf (.ptr k v) x
 |.sl k v,x=>Ty.yf (.sl k v) x
 |.pair a b,x=>by simp only[Ty.sub,Ty.yf]
 |.arr n e,x=>by simp only[Ty.sub,Ty.yf]
theorem Rep.whole {w:World}{F:Nat→Prop}{t u:Ty}{x:t.den}{off:Nat}{y:u.den}{cs:List Value}(hr:Rep w F t x cs) (h:Ty.whole u x off=some y):
  off+u.size≤cs.length∧Rep w F u y ((cs.drop off).take u.size):=by
 obtain⟨rfl,h⟩:=Ty.yk h;have hr:=Rep.as h hr;have:=hr.length;grind
theorem qqB {α:Type}{xs:List α}{k n:Nat}(hk:k<n) (hl:xs.length=n) (d:α):qJ xs (Int.ofNat k) d=xs[k]'(by omega):=by
 have:xs[(Int.ofNat k).toNat]? =some (xs[k]'(by omega)):=by
  grind
 exact qeo this
theorem qj9 {w:World}{F:Nat→Prop}{e:Ty}{xs:List e.den}{css:List (List Value)}(hl:xs.length=css.length)
  (hx:∀(i:Nat) (x:e.den) (c:List Value),xs[i]? =some x→css[i]? =some c→Rep w F e x c):∀c∈css,c.length=e.size:=by
 intro c hm;obtain⟨i,hi,rfl⟩:=List.getElem_of_mem hm;exact(hx i (xs[i]'(by omega)) css[i] (zac (by omega)) (zac hi)).length
theorem Rep.sub {w:World}{F:Nat→Prop}: {t:Ty}→{x:t.den}→{cs:List Value}→{off:Nat}→{u:Ty}→{y:u.den}→Rep w F t x cs→t.sub x off u=some y→
  off+u.size≤cs.length∧Rep w F u y ((cs.drop off).take u.size)
 |.int _,_,_,_,_,_,h,hs=>h.whole hs
 |.bool,_,_,_,_,_,h,hs=>h.whole hs
 |.str,_,_,_,_,_,h,hs=>h.whole hs
 |.unit,_,_,_,_,_,h,hs=>h.whole hs
 |.slice e,_,_,_,_,_,h,hs=>h.whole hs
 |.err,_,_,_,_,_,h,hs=>Rep.whole (t:= .err) h hs
 |.opt e,_,_,_,_,_,h,hs=>Rep.whole (t:= .opt e) h hs
 |.map _ _,_,_,_,_,_,h,_=>h.elim
 |.ptr _ _,_,_,_,_,_,h,_=>h.elim
 |.sl _ _,_,_,_,_,_,h,_=>h.elim
 |.pair a b,x,cs,off,u,y,h,hs=>by
  simp only[Ty.sub]at hs;cases hz:Ty.whole (t:= .pair a b) u x off with
  |some z=>
   rw[hz]at hs;injection hs with hs;subst hs;exact Rep.whole h hz
  |none=>
   rw[hz]at hs;obtain⟨c1,c2,rfl,h1,h2⟩:=h;simp only at hs;split at hs
   ·obtain⟨g1,g2⟩:=h1.sub hs;grind
   ·obtain⟨g1,g2⟩:=h2.sub hs;have hl:=h1.length;grind [qbU]
 |.arr n e,xs,cs,off,u,y,h,hs=>by
  simp only[Ty.sub]at hs;cases hz:Ty.whole (t:= .arr n e) u xs off with
  |some z=>
   rw[hz]at hs;injection hs with hs;subst hs;exact Rep.whole h hz
  |none=>
   rw[hz]at hs;simp only at hs;split at hs
   ·rename_i hlt;obtain⟨hl,css,hcl,rfl,hx⟩:=h;have hpos:0<e.size:=by
     grind
    have hidx:off/e.size<n:=by simp_all [Nat.div_lt_iff_lt_mul]
    rw[qqB hidx hl]at hs;have hc:css[off/e.size]? =some (css[off/e.size]'(by omega)):=zac (by omega);have hre:=hx (off/e.size) _ _ (zac (by omega)) hc;obtain⟨g1,g2⟩:=hre.sub hs;have hall:=qj9 (by omega) hx;obtain⟨k1,k2⟩:=qaW hall hc;grind [Nat.div_add_mod,List.drop_take,List.drop_drop]
   ·cases hs
theorem qiB {c1 c2 ds:List Value}{off n:Nat}(h:off+n≤c1.length) (hd:ds.length=n):
  (c1++c2).take off++ds++(c1++c2).drop (off+n)=(c1.take off++ds++c1.drop (off+n))++c2:=by
 grind
theorem qgV {c1 c2 ds:List Value}{off n:Nat}(h:c1.length≤off):
  (c1++c2).take off++ds++(c1++c2).drop (off+n)=c1++(c2.take (off-c1.length)++ds++c2.drop (off-c1.length+n)):=by
 rw[List.take_append,List.drop_append,zan h,zaI (by omega)];grind
theorem qlx {l ds:List Value}{q r n sz:Nat}(h:q+sz≤l.length) (hn:r+n≤sz) (hd:ds.length=n):
  l.take (q+r)++ds++l.drop (q+r+n)=l.take q++(((l.drop q).take sz).take r++ds++((l.drop q).take sz).drop (r+n))++l.drop (q+sz):=by
 have hA:(l.take q).length=q:=by grind
 have hB:((l.drop q).take sz).length=sz:=by grind
 have hl:l=l.take q++((l.drop q).take sz++l.drop (q+sz)):=by
  grind [zay]
 have e1:= @qgV (l.take q) ((l.drop q).take sz++l.drop (q+sz)) ds (q+r) n (by omega);have e2:= @qiB ((l.drop q).take sz) (l.drop (q+sz)) ds r n (by omega) hd;rw[←hl,hA,show q+r-q=r by omega,e2]at e1;grind
theorem Rep.putWhole {w:World}{F:Nat→Prop}{t u:Ty}{x:t.den}{off:Nat}{y:u.den}{z:t.den}{cs ds:List Value}(hr:Rep w F t x cs) (hy:Rep w F u y ds) (h:Ty.whole (t:=u) t y off=some z):
  off+u.size≤cs.length∧Rep w F t z (cs.take off++ds++cs.drop (off+u.size)):=by
 obtain⟨rfl,h⟩:=Ty.yk h;obtain⟨rfl,rfl⟩:=Ty.yd h;have:=hr.length;grind
theorem qlr {css:List (List Value)}{sz i:Nat}{d:List Value}(h:∀c∈css,c.length=sz) (hi:i<css.length):
  (css.set i d).flatten=css.flatten.take (i*sz)++d++css.flatten.drop (i*sz+sz):=by
 induction css generalizing i with
 |nil=>simp at hi
 |cons c r ih=>
  have hc:c.length=sz:=h c (by simp);cases i with
  |zero=>simp[hc]
  |succ i=>
   simp_all [zaS,List.take_append,List.drop_append,zan]
theorem Rep.upd {w:World}{F:Nat→Prop}: {t:Ty}→{x:t.den}→{cs:List Value}→{off:Nat}→{u:Ty}→{y:u.den}→{z:t.den}→{ds:List Value}→Rep w F t x cs→Rep w F u y ds→t.upd x off u y=some z→
  off+u.size≤cs.length∧Rep w F t z (cs.take off++ds++cs.drop (off+u.size))
 |.int _,_,_,_,_,_,_,_,h,hy,hs=>h.putWhole hy hs
 |.bool,_,_,_,_,_,_,_,h,hy,hs=>h.putWhole hy hs
 |.str,_,_,_,_,_,_,_,h,hy,hs=>h.putWhole hy hs
 |.unit,_,_,_,_,_,_,_,h,hy,hs=>h.putWhole hy hs
 |.slice e,_,_,_,_,_,_,_,h,hy,hs=>h.putWhole hy hs
 |.err,_,_,_,_,_,_,_,h,hy,hs=>Rep.putWhole (t:= .err) h hy hs
 |.opt e,_,_,_,_,_,_,_,h,hy,hs=>Rep.putWhole (t:= .opt e) h hy hs
 |.map _ _,_,_,_,_,_,_,_,h,_,_=>h.elim
 |.ptr _ _,_,_,_,_,_,_,_,h,_,_=>h.elim
 |.sl _ _,_,_,_,_,_,_,_,h,_,_=>h.elim
 |.pair a b,x,cs,off,u,y,z,ds,h,hy,hs=>by
  simp only[Ty.upd]at hs;cases hz:Ty.whole (t:=u) (.pair a b) y off with
  |some z'=>
   rw[hz]at hs;injection hs with hs;subst hs;exact Rep.putWhole h hy hz
  |none=>
   rw[hz]at hs;obtain⟨c1,c2,rfl,h1,h2⟩:=h;simp only at hs;have hdl:=hy.length;split at hs
   ·split at hs
    ·rename_i z' hz';injection hs with hs;subst hs;obtain⟨g1,g2⟩:=h1.upd hy hz';exact⟨by grind,_,c2,qiB g1 hdl,g2,h2⟩
    ·cases hs
   ·split at hs
    ·rename_i z' hz';injection hs with hs;subst hs;obtain⟨g1,g2⟩:=h2.upd hy hz';have hl:=h1.length;rw[←hl]at g1 g2;exact⟨by grind,c1,_,qgV (by omega),h1,g2⟩
    ·cases hs
 |.arr n e,xs,cs,off,u,y,z,ds,h,hy,hs=>by
  simp only[Ty.upd]at hs;cases hz:Ty.whole (t:=u) (.arr n e) y off with
  |some z'=>
   rw[hz]at hs;injection hs with hs;subst hs;exact Rep.putWhole h hy hz
  |none=>
   rw[hz]at hs;simp only at hs;split at hs
   ·rename_i hlt;split at hs
    ·rename_i z' hz';injection hs with hs;subst hs;obtain⟨hl,css,hcl,rfl,hx⟩:=h;have hpos:0<e.size:=by
      grind
     have hidx:off/e.size<n:=by simp_all [Nat.div_lt_iff_lt_mul]
     rw[qqB hidx hl]at hz';have hc:css[off/e.size]? =some (css[off/e.size]'(by omega)):=zac (by omega);have hre:=hx (off/e.size) _ _ (zac (by omega)) hc;obtain⟨g1,g2⟩:=hre.upd hy hz';have hall:=qj9 (by omega) hx;obtain⟨k1,k2⟩:=qaW hall hc;have hdm:off=off/e.size*e.size+off%e.size:=by grind [Nat.div_add_mod]
     have hcl':(css[off/e.size]'(by omega)).length=e.size:=hall _ (List.getElem_mem _);rw[hcl']at g1;have hdl:=hy.length;refine⟨by omega,by simp[qbv,hl],css.set (off/e.size) ((css[off/e.size]'(by omega)).take (off%e.size)++ds++(css[off/e.size]'(by omega)).drop (off%e.size+u.size)),by simp[hcl],?_,?_⟩
     ·rw[qlr hall (by omega)];have:=qlx (l:=css.flatten) (ds:=ds) (q:=off/e.size*e.size) (r:=off%e.size) (n:=u.size) (sz:=e.size) k2 (by omega) hdl;rw[←hdm,k1]at this;exact this
     ·intro i x' c' hi hc';simp only[qbv]at hi;grind
    ·cases hs
   ·cases hs
end Go.Vi
namespace Go.Vi
open Go.RowKit
def q9 (w:World) (F:Nat→Prop) (t:Ty) (x:t.den) (v:Value):Prop:=
 Rep w F t x v.cells.toList∧(t.agg=true→∃cs,v=.agg cs)∧(t.agg=false→∀cs,v≠ .agg cs)
def qO (w:World) (F:Nat→Prop) (et:Nat) (e:Ty) (xs:List e.den) (v:Value) (bs:List Nat):Prop:=
 ∃cells,w.ownsRow 0 et e.size v xs.length cells∧bs=v.ownBlock.toList∧∀(i:Nat) (x:e.den),xs[i]? =some x→Rep w F e x ((cells.drop (i*e.size)).take e.size)
def qaz (w:World) (F:Nat→Prop):BC→List Value→List Nat→Prop
 |.val t x,cs,bs=>bs=[]∧Rep w F t x cs
 |.own et e xs,cs,bs=>∃v,cs=[v]∧qO w F et e xs v bs
 |.pair a b,cs,bs=>∃c1 c2 b1 b2,cs=c1++c2∧bs=b1++b2∧qaz w F a c1 b1∧qaz w F b c2 b2
 |.hole n,cs,bs=>bs=[]∧cs.length=n
def qta (w:World) (F:Nat→Prop):qoQ→Value→List Nat→Prop
 |.val t x,v,bs=>bs=[]∧q9 w F t x v
 |.own et e xs,v,bs=>qO w F et e xs v bs
 |.gone,_,bs=>bs=[]
 |.nz e xs,v,bs=>bs=[]∧q9 w F (.slice e) xs v∧(xs=[]→v=.slice none 0 0)
def qaB (w:World) (F:Nat→Prop):List qoQ→List Value→List Nat→Prop
 |[],vs,bs=>vs=[]∧bs=[]
 |c::cs,vs,bs=>∃v r b1 b2,vs=v::r∧bs=b1++b2∧qta w F c v b1∧qaB w F cs r b2
def qct (w:World) (F:Nat→Prop):(ts:List Ty)→denL ts→List Value→Prop
 |[],_,vs=>vs=[]
 |t::ts,x,vs=>∃v r,vs=v::r∧q9 w F t x.1 v∧qct w F ts x.2 r
def qcG:List Value→Value
 |[v]=>v
 |vs=>.tuple vs.toArray
structure qaA (O:Nat→Prop) (w w':World):Prop where
 os:w'.os=w.os
 tape:w'.tape=w.tape
 output:w'.output=w.output
 size:w.heap.size≤w'.heap.size
 block:∀k,k<w.heap.size→¬O k→w'.heap[k]? =w.heap[k]?
theorem qef (w:World) (o:Obj) (k:Nat) (h:k<w.heap.size):(w.alloc o).heap[k]? =w.heap[k]? :=by
 show(w.heap.push o)[k]? =_;grind
theorem qaA.refl (O:Nat→Prop) (w:World):qaA O w w:=⟨rfl,rfl,rfl,zax _,fun _ _ _=>rfl⟩
theorem qaA.trans {O:Nat→Prop}{a b c:World}(h:qaA O a b) (k:qaA O b c):qaA O a c:=
 ⟨k.os.trans h.os,k.tape.trans h.tape,k.output.trans h.output,Nat.le_trans h.size k.size,fun i hi ho=>(k.block i (zaq hi h.size) ho).trans (h.block i hi ho)⟩
theorem qaA.mono {O O':Nat→Prop}{a b:World}(h:qaA O a b) (hO:∀k,O k→O' k):qaA O' a b:=⟨h.os,h.tape,h.output,h.size,fun k hk ho=>h.block k hk fun h'=>ho (hO k h')⟩
theorem qaA.alloc (O:Nat→Prop) (w:World) (o:Obj):qaA O w (w.alloc o):=⟨rfl,rfl,rfl,by simp,fun k hk _=>qef w o k hk⟩
theorem qaA.drew {O:Nat→Prop}{a b:World}(h:qaA O a b):qaA O a b.drew:=⟨h.os,h.tape,h.output,h.size,h.block⟩
theorem qaA.yt {w w':World}{row:Option Nat}(h:w.grownBy w' row):qaA (fun k=>some k=row) w w':=⟨h.os,h.tape,h.output,h.size,fun k hk ho=>h.block k hk ho⟩
def qjC (P:Program) (w:World) (F:Nat→Prop) (ps rs:List Ty) (φ:denL ps→Option (denL rs)) (v:Value):Prop:=
 ∃(f:Nat) (caps:Array Value),v=.func (.func f) #[] caps∧(∀as w',(callFunc f as).run P w'=.ok (.enter f as) w')∧
  ∀(w':World) (F':Nat→Prop) (x:denL ps) (y:denL rs) (as:List Value),
   (∀b,F b→b<w.heap.size→F' b∧b<w'.heap.size∧w'.heap[b]? =w.heap[b]?)→qct w' F' ps x as→φ x=some y→
   Calls P f (as.toArray++caps) w' fun e w''=>∃vs,e=.returned (qcG vs)∧qct w'' (fun b=>F' b∨w'.heap.size≤b) rs y vs∧qaA (fun _=>False) w' w''
structure Own where
 f:Nat→List Nat
 gh:Nat→Nat→Option Value
instance:CoeFun Own (fun _=>Nat→List Nat):=⟨Own.f⟩
def qaJ (a b:Nat→Nat→Option Value):Prop:=∀k i v,a k i=some v→b k i=some v
theorem qaJ.refl (a:Nat→Nat→Option Value):qaJ a a:=fun _ _ _ h=>h
structure Pn where
 f:Nat→Option Nat
 par:Option ((t:Ty)×t.den)
instance:CoeFun Pn (fun _=>Nat→Option Nat):=⟨Pn.f⟩
structure Sit where
 P:Program
 ver:Nat→Nat
 tm:Nat→Value
 w:World
 F:Nat→Prop
 own:Nat→List Nat
 gh:Nat→Nat→Option Value
 pn:Pn
def ptr (b off:Nat):Value:= .pointer (some ⟨b,off,none⟩)
def qe7 (X:Sit) (s:Nat) (fo:Option Nat) (v:Value):Prop:=
 match fo with
 |none=>X.tm s=v
 |some o=>∃b,b∈X.own s∧X.tm s=ptr b 0∧X.w.cell? ⟨b,o,none⟩=some v
def qtS (w:World) (b off:Nat) (u:Ty) (v:Value):Prop:=
 (u.agg=true∧∃cs:List Value,v=.agg cs.toArray∧cs.length=u.size∧qem w ⟨b,off,none⟩ cs)∨(u.agg=false∧w.cell? ⟨b,off,none⟩=some v)
def keyV:(k:Ty)→k.den→Value
 |.int kk,n=>.int kk n
 |.bool,b=>.bool b
 |.str,s=>.string ⟨(s:List UInt8).toArray⟩
 |_,_=>undef
def Ty.key:Ty→Bool
 |.int _=>true
 |.bool=>true
 |.str=>true
 |_=>false
def qiA (w:World) (F:Nat→Prop) (k t:Ty) (xs:List (k.den×t.den)) (v:Value) (bs:List Nat):Prop:=
 ∃(b:Nat) (es:Array MapEntry),v=.map (some b)∧bs=[b]∧w.heap[b]? =some (.map es es.size)∧es.size=xs.length∧k.key=true∧
  ∀(i:Nat) (e:MapEntry) (p:k.den×t.den),es[i]? =some e→xs[i]? =some p→e.key=keyV k p.1∧e.born=i∧q9 w F t p.2 e.val
theorem qiA.keep {w w':World}{F F':Nat→Prop}(hF:∀b,F b→b<w.heap.size→F' b∧b<w'.heap.size∧w'.heap[b]? =w.heap[b]?) {k t:Ty}{xs:List (k.den×t.den)}{v:Value}{bs:List Nat}
  (hb:∀b∈bs,b<w.heap.size→w'.heap[b]? =w.heap[b]?) (h:qiA w F k t xs v bs):qiA w' F' k t xs v bs:=by
 obtain⟨b,es,h1,h2,h3,h4,h5,h6⟩:=h;refine⟨b,es,h1,h2,?_,h4,h5,fun i e p hi hp=>?_⟩
 ·grind
 ·obtain⟨g1,g2,g3⟩:=h6 i e p hi hp;exact⟨g1,g2,g3.1.keep hF,g3.2⟩
def qkN (gh:Nat→Nat→Option Value) (k sz:Nat) (x:Int×Int) (v:Value):Prop:=
 (x.1= -1∧x.2=0∧v=.pointer none)∨(0≤x.1∧0≤x.2∧∃g n cap,gh k x.1.toNat=some (.slice (some ⟨g,0,none⟩) n cap)∧x.2<(n:Int)∧v=ptr g (x.2.toNat*sz))
def HdOk (ad:Option Addr) (n cap:Nat):Prop:=n≤cap∧cap≤maxLen∧(n=0∨∃g,ad=some ⟨g,0,none⟩)
def qe2 (gh:Nat→Nat→Option Value) (k sz:Nat) (x:Int×(Int×Int)) (v:Value):Prop:=
 (x.1= -1∧x.2.1=0∧x.2.2=0∧v=.slice none 0 0)∨(0≤x.1∧0≤x.2.1∧x.2.1≤x.2.2∧∃ad n cap,gh k x.1.toNat=some (.slice ad n cap)∧HdOk ad n cap∧x.2.2≤(n:Int)∧(v=sliced ad x.2.1.toNat x.2.2.toNat cap sz∨(0<x.2.1∧x.2.1=x.2.2∧∃A c,v=.slice (some A) 0 c)))
def qa6 (w:World) (F:Nat→Prop) (gh:Nat→Nat→Option Value):(t:Ty)→t.den→List Value→Prop
 |.pair a b,x,cs=>∃c1 c2,cs=c1++c2∧qa6 w F gh a x.1 c1∧qa6 w F gh b x.2 c2
 |.ptr k sz,x,cs=>∃v,cs=[v]∧qkN gh k sz x v
 |.sl k sz,x,cs=>∃v,cs=[v]∧qe2 gh k sz x v
 |.int k,x,cs=>Rep w F (.int k) x cs
 |.bool,x,cs=>Rep w F .bool x cs
 |.str,x,cs=>Rep w F .str x cs
 |.unit,x,cs=>Rep w F .unit x cs
 |.slice e,x,cs=>Rep w F (.slice e) x cs
 |.arr n e,x,cs=>Rep w F (.arr n e) x cs
 |.err,x,cs=>Rep w F .err x cs
 |.opt e,x,cs=>Rep w F (.opt e) x cs
 |.map k v,x,cs=>Rep w F (.map k v) x cs
def qb3 (w:World) (F:Nat→Prop) (gh:Nat→Nat→Option Value) (t:Ty) (x:t.den) (v:Value):Prop:=
 qa6 w F gh t x v.cells.toList∧(t.agg=true→∃cs,v=.agg cs)∧(t.agg=false→∀cs,v≠ .agg cs)
def qI (w:World) (F:Nat→Prop) (gh:Nat→Nat→Option Value) (et:Nat) (e:Ty) (xs:List e.den) (v:Value) (bs:List Nat):Prop:=
 ∃cells,w.ownsRow 0 et e.size v xs.length cells∧bs=v.ownBlock.toList∧∀(i:Nat) (x:e.den),xs[i]? =some x→qa6 w F gh e x ((cells.drop (i*e.size)).take e.size)
def qbA (w:World) (F:Nat→Prop) (gh:Nat→Nat→Option Value) (p:qQ) (bs:List Nat):Prop:=
 ∃bss:List (List Nat),bs=bss.flatten∧bss.length=p.rows.length∧(∀i,p.rows.length≤i→gh p.k i=none)∧
  ∀(i:Nat) (r:Option (List p.e.den)) (b:List Nat),p.rows[i]? =some r→bss[i]? =some b→∃hd,gh p.k i=some hd∧match r with
   |none=>b=[]
   |some xs=>qI w F gh p.et p.e xs hd b
def qtI (w:World) (F:Nat→Prop) (gh:Nat→Nat→Option Value) (p:qQ) (bs:List Nat):Prop:=(p.k<100∧qbA w F gh p bs)∨(100≤p.k∧bs=[])
def qbC (w:World) (F:Nat→Prop) (gh:Nat→Nat→Option Value):List qQ→List Nat→Prop
 |[],bs=>bs=[]
 |p::ps,bs=>∃b1 b2,bs=b1++b2∧qtI w F gh p b1∧qbC w F gh ps b2
def qgp (ps:List qQ) (gh:Nat→Nat→Option Value) (k et n b:Nat):Prop:=∃p∈ps,p.k=k∧p.et=et∧∃(j:Nat) (ys:List p.e.den) (hd:Value),p.rows[j]? =some (some ys)∧gh k j=some hd∧b∈hd.ownBlock.toList∧n≤ys.length
def qjF (w:World) (F:Nat→Prop) (gh:Nat→Nat→Option Value) (bs:List Nat) (ps:List qQ) (r:qQ):Prop:=
 ∀(i:Nat) (xs:List r.e.den),r.rows[i]? =some (some xs)→∃hd,gh (r.k-100) i=some hd∧qI w F gh r.et r.e xs hd hd.ownBlock.toList∧∀b∈hd.ownBlock.toList,F b∨(b∈bs∧qgp ps gh (r.k-100) r.et xs.length b)
def qhX (w:World) (F:Nat→Prop) (gh:Nat→Nat→Option Value) (bs:List Nat) (ps:List qQ):Prop:=∀r∈ps,100≤r.k→qjF w F gh bs ps r
def qL (w:World) (F:Nat→Prop) (gh:Nat→Nat→Option Value) (ps:List qQ) (bs:List Nat):Prop:=qbC w F gh ps bs∧qhX w F gh bs ps
def qba (w:World) (F:Nat→Prop) (gh:Nat→Nat→Option Value):(ts:List Ty)→denL ts→List Value→Prop
 |[],_,vs=>vs=[]
 |t::ts,x,vs=>∃v r,vs=v::r∧qb3 w F gh t x.1 v∧qba w F gh ts x.2 r
def qmA (w:World) (F:Nat→Prop) (bs bs':List Nat) (b:Nat):Prop:=(F b∨b∈bs∨w.heap.size≤b)∧b∉bs'
def qmY (w:World) (F:Nat→Prop) (gh:Nat→Nat→Option Value) (ks:List (Nat×Nat×Ty)) (bs:List Nat) (us:List Ty) (p:hden ks) (y:denL us) (e:Ending) (w':World):Prop:=
 ∃vs gh' bs',e=.returned (qcG vs)∧qaJ gh gh'∧bs'.Nodup∧(∀b∈bs',(b∈bs∨w.heap.size≤b)∧b<w'.heap.size)∧
  qL w' (qmA w F bs bs') gh' (qR ks p) bs'∧qba w' (qmA w F bs bs') gh' us y vs∧qaA (fun b=>b∈bs) w w'
def Runs (P:Program) (f:Nat) (as:Array Value) (w:World) (Q:Ending→World→Prop):Prop:=
 ((callFunc f as).run P w=.ok (.enter f as) w∧Calls P f as w Q)∨∃v w',(callFunc f as).run P w=.ok (.value v) w'∧Q (.returned v) w'
def qdT (P:Program) (w:World) (F:Nat→Prop) (gh:Nat→Nat→Option Value) (ks:List (Nat×Nat×Ty)) (ts us:List Ty) (φ:hden ks→denL ts→Option (hden ks×denL us)) (v:Value):Prop:=
 ∃(f:Nat) (caps:Array Value),v=.func (.func f) #[] caps∧
  ∀(w':World) (F':Nat→Prop) (gh':Nat→Nat→Option Value) (p:hden ks) (bs:List Nat) (x:denL ts) (p':hden ks) (y:denL us) (as:List Value),
   (∀b,F b→b<w.heap.size→F' b∧b<w'.heap.size∧w'.heap[b]? =w.heap[b]?)→qaJ gh gh'→(ks.map (·.1)).Nodup→qL w' F' gh' (qR ks p) bs→(∀b∈bs,¬F' b∧b<w'.heap.size)→bs.Nodup→qba w' F' gh' ts x as→φ p x=some (p',y)→
   Runs P f (as.toArray++caps) w' (qmY w' F' gh' ks bs us p' y)
def qS (X:Sit):AV→Value→List Nat→Prop
 |.undef,_,_=>True
 |.val t x,v,bs=>bs=[]∧q9 X.w X.F t x v
 |.own et e xs,v,bs=>qO X.w X.F et e xs v bs
 |.agg c,v,bs=>∃cs:List Value,v=.agg cs.toArray∧qaz X.w X.F c cs bs
 |.box c,v,bs=>∃(b:Nat) (cs:List Value) (bs':List Nat) (te:Nat),v=ptr b 0∧X.w.heap[b]? =some (.cells cs.toArray te (0,0))∧qaz X.w X.F c cs bs'∧bs=b::bs'
 |.ref s v0,v,bs=>bs=[]∧(X.ver s=v0→X.tm s=v)
 |.bref s v0 off u,v,bs=>bs=[]∧(X.ver s=v0→∃b,b∈X.own s∧X.tm s=ptr b 0∧qtS X.w b off u v)
 |.pbox s v0 off,v,bs=>bs=[]∧(X.ver s=v0→∃b,X.tm s=ptr b 0∧v=ptr b off)
 |.pip k off,v,bs=>bs=[]∧∃b,X.pn k=some b∧v=ptr b off
 |.prow s v0 fo sz i off,v,bs=>bs=[]∧(X.ver s=v0→∃g n cap,qe7 X s fo (.slice (some ⟨g,0,none⟩) n cap)∧0≤i∧i<(n:Int)∧v=ptr g (i.toNat*sz+off))
 |.osl s v0 fo sz lo hi,v,bs=>bs=[]∧(X.ver s=v0→∃ad n cap,qe7 X s fo (.slice ad n cap)∧0≤lo∧lo≤hi∧hi≤(n:Int)∧v=sliced ad lo.toNat hi.toNat cap sz)
 |.view t x off,v,bs=>bs=[]∧∃(a:Addr) (cs:List Value),v=.pointer (some (a.add off))∧X.F a.block∧a.block<X.w.heap.size∧qem X.w a cs∧Rep X.w X.F t x cs
 |.tup cs,v,bs=>∃vs:List Value,v=.tuple vs.toArray∧qaB X.w X.F cs vs bs
 |.grd s v0 want a,v,bs=>bs=[]∧a.isHeap=false∧(X.ver s=v0→(X.tm s=.bool want→qS X a v [])∧(X.tm s≠ .bool want→v=undef))
 |.fn f caps,v,bs=>bs=[]∧∃vs:List Value,v=.func (.func f) #[] vs.toArray∧qaB X.w X.F caps vs []
 |.fnv ps rs φ,v,bs=>bs=[]∧qjC X.P X.w X.F ps rs φ v
 |.nilr _ _,v,bs=>bs=[]∧v=.slice none 0 0
 |.nz e xs,v,bs=>bs=[]∧q9 X.w X.F (.slice e) xs v∧(xs=[]→v=.slice none 0 0)
 |.mp k t xs,v,bs=>qiA X.w X.F k t xs v bs
 |.hv t x,v,bs=>bs=[]∧qb3 X.w X.F X.gh t x v
 |.hbox t x,v,bs=>∃(b:Nat) (cs:List Value) (te:Nat),v=ptr b 0∧X.w.heap[b]? =some (.cells cs.toArray te (0,0))∧qa6 X.w X.F X.gh t x cs∧bs=[b]
 |.hown et e xs,v,bs=>qI X.w X.F X.gh et e xs v bs
 |.heap ps,v,bs=>(ps.map (·.k)).Nodup∧qL X.w X.F X.gh ps bs∧(∀b,v≠ptr b 0)∧∀r,X.pn.par=some r→qb3 X.w X.F X.gh r.1 r.2 v
 |.hp k sz id i off,v,bs=>bs=[]∧0≤id∧0≤i∧∃g n cap,X.gh k id.toNat=some (.slice (some ⟨g,0,none⟩) n cap)∧i<(n:Int)∧v=ptr g (i.toNat*sz+off)
 |.htup ts y,v,bs=>bs=[]∧∃vs:List Value,v=.tuple vs.toArray∧qba X.w X.F X.gh ts y vs
 |.hclo f cs y,v,bs=>bs=[]∧∃vs:List Value,v=.func (.func f) #[] vs.toArray∧qba X.w X.F X.gh cs y vs
 |.hfnv ks ts us φ,v,bs=>bs=[]∧qdT X.P X.w X.F X.gh ks ts us φ v
 |.hls ks φ ψ j,v,bs=>bs=[]∧∃v1 v2,qdT X.P X.w X.F X.gh ks _ _ φ v1∧qdT X.P X.w X.F X.gh ks _ _ ψ v2∧(match j with
  |0=>v=.agg #[v1,v2]
  |j+1=>∃b te,v=ptr b (j-1)∧X.F b∧b<X.w.heap.size∧X.w.heap[b]? =some (.cells #[v1,v2] te (0,0)))
 |.hifc t k sz s,v,bs=>bs=[]∧∃v',v=.iface t v'∧qe2 X.gh k sz s v'
 |.amb w m,v,bs=>bs=[]∧∃b,v=.bool b∧(b=w→m=true)
 |.parr s v0 off n e i o2,v,bs=>bs=[]∧0≤i∧i<(n:Int)∧(match v0 with
  |some v0=>X.ver s=v0→∃b,X.tm s=ptr b 0∧v=ptr b (off+i.toNat*e.size+o2)
  |none=>∃b,X.pn s=some b∧v=ptr b (off+i.toNat*e.size+o2))
def qcN (T:qo5) (w:World) (F:Nat→Prop):Prop:=∀g r,T g=some r→F g∧g<w.heap.size∧∃(cs:List Value) (te:Nat) (fz:Nat×Nat),w.heap[g]? =some (.cells cs.toArray te fz)∧Rep w F r.1 r.2 cs
theorem qcN.none {w:World}{F:Nat→Prop}:qcN (fun _=>none) w F:=fun _ _ h=>by cases h
structure Ctx where
 P:Program
 w0:World
 O:Nat→Prop
 G:Nat→Prop
 pn:Pn
 T:qo5
 hT:qcN T w0 fun b=>G b∧¬O b
 hs:Nat
 gh0:Nat→Nat→Option Value
class Tabbed (E:Env) (C:Ctx):Prop where
 eq:E.tabs=C.T
 hs:E.hs=C.hs
 par:C.pn.par=E.hpar
def Ctx.base (C:Ctx) (b:Nat):Prop:=C.G b∨C.O b∨C.w0.heap.size≤b
def Ctx.free (C:Ctx) (w:World) (own:Own) (b:Nat):Prop:=C.base b∧b<w.heap.size∧∀s,b∉own s
structure qK (C:Ctx) (σ:St) (tm:Array Value) (w:World) (own:Own):Prop where
 size:tm.size=σ.length
 ghs:qaJ C.gh0 own.gh
 kept:qaA C.O C.w0 w
 mine:∀s b,b∈own s→(C.O b∨C.w0.heap.size≤b)∧b<w.heap.size
 nodup:∀s,(own s).Nodup
 apart:∀s s' b,b∈own s→b∈own s'→s=s'
 outside:∀s,σ.length≤s→own s=[]
 rep:∀s,s<σ.length→qS { P:=C.P,ver:=fun s=>(qj σ s).1,tm:=fun s=>tm.getD s undef,w,F:=C.free w own,own,gh:=own.gh,pn:=C.pn } (qj σ s).2 (tm.getD s undef) (own s)
 wf:∀s,∀m∈(qj σ s).2.mentions,m.2≤(qj σ m.1).1
 hat:∀s,(qj σ s).2.isHeap=true→s=C.hs
theorem qcN.keep {T:qo5}{w w':World}{F F':Nat→Prop}(hF:∀b,F b→b<w.heap.size→F' b∧b<w'.heap.size∧w'.heap[b]? =w.heap[b]?) (h:qcN T w F):qcN T w' F':=fun g r hr=>by
 obtain⟨h1,h2,cs,te,fz,h3,h4⟩:=h g r hr;obtain⟨g1,g2,g3⟩:=hF g h1 h2;exact⟨g1,g2,cs,te,fz,by grind,h4.keep hF⟩
theorem qqI {T:qo5}{w:World}{F:Nat→Prop}(h:qcN T w F) {g:Nat}{r:(t:Ty)×t.den}(hr:T g=some r):F g∧g<w.heap.size∧∃cs:List Value,qem w ⟨g,0,none⟩ cs∧Rep w F r.1 r.2 cs:=by
 obtain⟨h1,h2,cs,te,fz,h3,h4⟩:=h g r hr;refine⟨h1,h2,cs,fun j u hj=>?_,h4⟩;grind [Addr.add,World.cell?]
theorem qK.tabs {C:Ctx}{σ:St}{tm:Array Value}{w:World}{own:Own}(h:qK C σ tm w own):qcN C.T w (C.free w own):=
 C.hT.keep fun b hb hlt=>⟨⟨.inl hb.1,zaq hlt h.kept.size,fun s hs=>by
  rcases(h.mine s b hs).1 with ho|ho;all_goals grind⟩,zaq hlt h.kept.size,h.kept.block b hlt hb.2⟩
theorem qK.tabsE {C:Ctx}{E:Env} [tb:Tabbed E C] {σ:St}{tm:Array Value}{w:World}{own:Own}(h:qK C σ tm w own):qcN E.tabs w (C.free w own):=by
 rw[tb.eq];exact h.tabs
theorem q9.keep {w w':World}{F F':Nat→Prop}(hF:∀b,F b→b<w.heap.size→F' b∧b<w'.heap.size∧w'.heap[b]? =w.heap[b]?) {t:Ty}{x:t.den}{v:Value}(h:q9 w F t x v):q9 w' F' t x v:=
 ⟨h.1.keep hF,h.2⟩
theorem qO.keep {w w':World}{F F':Nat→Prop}(hF:∀b,F b→b<w.heap.size→F' b∧b<w'.heap.size∧w'.heap[b]? =w.heap[b]?) {et:Nat}{e:Ty}{xs:List e.den}{v:Value}{bs:List Nat}
  (hb:∀b∈bs,b<w.heap.size→w'.heap[b]? =w.heap[b]?) (h:qO w F et e xs v bs):qO w' F' et e xs v bs:=by
 obtain⟨cells,ho,hbs,hx⟩:=h;refine⟨cells,⟨ho.1,?_⟩,hbs,fun i x hi=>(hx i x hi).keep hF⟩;rcases ho.2 with h|⟨g,cap,cur,rfl,h1,h2,h3⟩;all_goals grind [Value.ownBlock]
theorem qO.nil_ (w:World) (F:Nat→Prop) (et:Nat) (e:Ty):qO w F et e [] (.slice none 0 0) []:=
 ⟨[],World.ownsRow_nil _ _ _ _,rfl,fun i x hi=>by cases hi⟩
theorem qaz.keep {w w':World}{F F':Nat→Prop}(hF:∀b,F b→b<w.heap.size→F' b∧b<w'.heap.size∧w'.heap[b]? =w.heap[b]?): {c:BC}→{cs:List Value}→{bs:List Nat}→
  (hb:∀b∈bs,b<w.heap.size→w'.heap[b]? =w.heap[b]?)→qaz w F c cs bs→qaz w' F' c cs bs
 |.val _ _,_,_,_,h=>⟨h.1,h.2.keep hF⟩
 |.own _ _ _,_,_,hb,⟨v,h1,h2⟩=>⟨v,h1,h2.keep hF hb⟩
 |.pair _ _,_,_,hb,⟨c1,c2,b1,b2,h1,h2,h3,h4⟩=>⟨c1,c2,b1,b2,h1,h2,h3.keep hF (fun b hm=>hb b (by grind)),h4.keep hF (fun b hm=>hb b (by grind))⟩
 |.hole _,_,_,_,h=>h
theorem qaB.keep {w w':World}{F F':Nat→Prop}(hF:∀b,F b→b<w.heap.size→F' b∧b<w'.heap.size∧w'.heap[b]? =w.heap[b]?): {c:List qoQ}→{cs:List Value}→{bs:List Nat}→
  (hb:∀b∈bs,b<w.heap.size→w'.heap[b]? =w.heap[b]?)→qaB w F c cs bs→qaB w' F' c cs bs
 |[],_,_,_,h=>h
 |c::_,_,_,hb,⟨v,r,b1,b2,h1,h2,h3,h4⟩=>⟨v,r,b1,b2,h1,h2,(match c,h3 with
   |.val _ _,h3=>⟨h3.1,h3.2.keep hF⟩
   |.own _ _ _,h3=>qO.keep hF (fun b hm=>hb b (by grind)) h3
   |.gone,h3=>h3
   |.nz _ _,h3=>⟨h3.1,h3.2.1.keep hF,h3.2.2⟩),qaB.keep hF (fun b hm=>hb b (by grind)) h4⟩
theorem qjC.keep {P:Program}{w w':World}{F F':Nat→Prop}(hF:∀b,F b→b<w.heap.size→F' b∧b<w'.heap.size∧w'.heap[b]? =w.heap[b]?) {ps rs:List Ty}{φ:denL ps→Option (denL rs)}{v:Value}
  (h:qjC P w F ps rs φ v):qjC P w' F' ps rs φ v:=by
 obtain⟨f,caps,hv,hc,h⟩:=h;refine⟨f,caps,hv,hc,fun w2 F2 x y as hk hr hy=>h w2 F2 x y as (fun b hb hs=>?_) hr hy⟩;grind
theorem qa6.keep {w w':World}{F F':Nat→Prop}{gh gh':Nat→Nat→Option Value}(hF:∀b,F b→b<w.heap.size→F' b∧b<w'.heap.size∧w'.heap[b]? =w.heap[b]?) (hg:qaJ gh gh'):
  {t:Ty}→{x:t.den}→{cs:List Value}→qa6 w F gh t x cs→qa6 w' F' gh' t x cs
 |.pair a b,_,_,⟨c1,c2,hc,h1,h2⟩=>⟨c1,c2,hc,h1.keep hF hg,h2.keep hF hg⟩
 |.ptr _ _,_,_,⟨v,hc,h⟩=>⟨v,hc,h.imp id fun ⟨h0,h1,g,n,cap,h2,h3⟩=>⟨h0,h1,g,n,cap,hg _ _ _ h2,h3⟩⟩
 |.sl _ _,_,_,⟨v,hc,h⟩=>⟨v,hc,h.imp id fun ⟨h0,h1,h1',ad,n,cap,h2,h3⟩=>⟨h0,h1,h1',ad,n,cap,hg _ _ _ h2,h3⟩⟩
 |.int _,_,_,h=>Rep.keep hF h
 |.bool,_,_,h=>Rep.keep (t:= .bool) hF h
 |.str,_,_,h=>Rep.keep (t:= .str) hF h
 |.unit,_,_,h=>Rep.keep (t:= .unit) hF h
 |.slice e,_,_,h=>Rep.keep (t:= .slice e) hF h
 |.arr n e,_,_,h=>Rep.keep (t:= .arr n e) hF h
 |.err,_,_,h=>Rep.keep (t:= .err) hF h
 |.opt e,_,_,h=>Rep.keep (t:= .opt e) hF h
 |.map k v,_,_,h=>Rep.keep (t:= .map k v) hF h
theorem qb3.keep {w w':World}{F F':Nat→Prop}{gh gh':Nat→Nat→Option Value}(hF:∀b,F b→b<w.heap.size→F' b∧b<w'.heap.size∧w'.heap[b]? =w.heap[b]?) (hg:qaJ gh gh') {t:Ty}{x:t.den}{v:Value}
  (h:qb3 w F gh t x v):qb3 w' F' gh' t x v:=⟨h.1.keep hF hg,h.2⟩
theorem qba.keep {w w':World}{F F':Nat→Prop}{gh gh':Nat→Nat→Option Value}(hF:∀b,F b→b<w.heap.size→F' b∧b<w'.heap.size∧w'.heap[b]? =w.heap[b]?) (hg:qaJ gh gh'): {ts:List Ty}→{x:denL ts}→{vs:List Value}→
  qba w F gh ts x vs→qba w' F' gh' ts x vs
 |[],_,_,h=>h
 |_::_,_,_,⟨v,r,h1,h2,h3⟩=>⟨v,r,h1,h2.keep hF hg,h3.keep hF hg⟩
theorem qaJ.trans {a b c:Nat→Nat→Option Value}(h:qaJ a b) (k:qaJ b c):qaJ a c:=fun i j v hv=>k i j v (h i j v hv)
theorem qe2.mono {gh gh':Nat→Nat→Option Value}(hg:qaJ gh gh') {k sz:Nat}{s:Int×(Int×Int)}{v:Value}(h:qe2 gh k sz s v):qe2 gh' k sz s v:=
 h.imp id fun ⟨h0,h1,h2,ad,n,cap,h3,h4⟩=>⟨h0,h1,h2,ad,n,cap,hg _ _ _ h3,h4⟩
theorem qdT.keep {P:Program}{w w':World}{F F':Nat→Prop}{gh gh':Nat→Nat→Option Value}(hF:∀b,F b→b<w.heap.size→F' b∧b<w'.heap.size∧w'.heap[b]? =w.heap[b]?) (hg:qaJ gh gh') {ks:List (Nat×Nat×Ty)}{ts us:List Ty}{φ:hden ks→denL ts→Option (hden ks×denL us)}{v:Value}
  (h:qdT P w F gh ks ts us φ v):qdT P w' F' gh' ks ts us φ v:=by
 obtain⟨f,caps,hv,h⟩:=h;refine⟨f,caps,hv,fun w2 F2 gh2 p bs x p' y as hk hg2 hn hh hb hbn hr hy=>h w2 F2 gh2 p bs x p' y as (fun b hb hs=>?_) (hg.trans hg2) hn hh hb hbn hr hy⟩;grind
theorem qob {w w':World}{et sz n:Nat}{v:Value}{cells:List Value}(hb:∀b∈v.ownBlock.toList,b<w.heap.size→w'.heap[b]? =w.heap[b]?) (h:w.ownsRow 0 et sz v n cells):w'.ownsRow 0 et sz v n cells:=by
 rcases h with⟨h0,h|⟨b,cap,cur,h1,hl,h2,h3⟩⟩
 ·exact⟨h0,.inl h⟩
 ·refine⟨h0,.inr ⟨b,cap,cur,h1,hl,?_,h3⟩⟩;grind [Value.ownBlock]
theorem qI.keep {w w':World}{F F':Nat→Prop}{gh gh':Nat→Nat→Option Value}(hF:∀b,F b→b<w.heap.size→F' b∧b<w'.heap.size∧w'.heap[b]? =w.heap[b]?) (hg:qaJ gh gh') {et:Nat}{e:Ty}{xs:List e.den}{v:Value}{bs:List Nat}
  (hb:∀b∈bs,b<w.heap.size→w'.heap[b]? =w.heap[b]?) (h:qI w F gh et e xs v bs):qI w' F' gh' et e xs v bs:=by
 obtain⟨cells,h1,h2,h3⟩:=h;exact⟨cells,qob (fun b hm=>hb b (h2▸hm)) h1,h2,fun i x hi=>(h3 i x hi).keep hF hg⟩
theorem qbA.keep {w w':World}{F F':Nat→Prop}{gh:Nat→Nat→Option Value}(hF:∀b,F b→b<w.heap.size→F' b∧b<w'.heap.size∧w'.heap[b]? =w.heap[b]?) {p:qQ}{bs:List Nat}
  (hb:∀b∈bs,b<w.heap.size→w'.heap[b]? =w.heap[b]?) (h:qbA w F gh p bs):qbA w' F' gh p bs:=by
 obtain⟨bss,h1,h2,h3,h4⟩:=h;refine⟨bss,h1,h2,h3,fun i r b hi hbi=>?_⟩;obtain⟨hd,g1,g2⟩:=h4 i r b hi hbi;refine⟨hd,g1,?_⟩;cases r with
 |none=>exact g2
 |some xs=>exact qI.keep hF (qaJ.refl _) (fun b' hb'=>hb b' (by grind [List.mem_flatten])) g2
theorem qcW {w:World}{et sz n:Nat}{v:Value}{xs:List Value}(h:w.ownsRow 0 et sz v n xs) {b:Nat}(hb:b∈v.ownBlock.toList):∃cur,w.heap[b]? =some (.cells cur et (0,0)):=by
 rcases h.2 with⟨rfl,_⟩|⟨g,cap,cur,rfl,_,h1,_⟩;all_goals grind [Value.ownBlock]
theorem qi9 {w:World}{et sz n:Nat}{v:Value}{xs:List Value}(h:w.ownsRow 0 et sz v n xs) {b:Nat}(hb:b∈v.ownBlock.toList):b<w.heap.size:=by
 grind [qcW]
theorem qtI.keep {w w':World}{F F':Nat→Prop}{gh:Nat→Nat→Option Value}(hF:∀b,F b→b<w.heap.size→F' b∧b<w'.heap.size∧w'.heap[b]? =w.heap[b]?) {p:qQ}{bs:List Nat}
  (hb:∀b∈bs,b<w.heap.size→w'.heap[b]? =w.heap[b]?) (h:qtI w F gh p bs):qtI w' F' gh p bs:=h.imp (fun h=>⟨h.1,h.2.keep hF hb⟩) id
theorem qbC.keep {w w':World}{F F':Nat→Prop}{gh gh':Nat→Nat→Option Value}(hF:∀b,F b→b<w.heap.size→F' b∧b<w'.heap.size∧w'.heap[b]? =w.heap[b]?) (hg:gh'=gh): {ps:List qQ}→{bs:List Nat}→
  (hb:∀b∈bs,b<w.heap.size→w'.heap[b]? =w.heap[b]?)→qbC w F gh ps bs→qbC w' F' gh' ps bs
 |[],_,_,h=>h
 |_::_,_,hb,⟨b1,b2,h1,h2,h3⟩=>by
  subst hg;exact⟨b1,b2,h1,h2.keep hF fun b hm=>hb b (by grind),qbC.keep hF rfl (fun b hm=>hb b (by grind)) h3⟩
theorem qgp.mono {ps:List qQ}{gh gh':Nat→Nat→Option Value}(hg:qaJ gh gh') {k et n b:Nat}(h:qgp ps gh k et n b):qgp ps gh' k et n b:=by
 obtain⟨p,h1,h2,h3,j,ys,hd,h4,h5,h6⟩:=h;exact⟨p,h1,h2,h3,j,ys,hd,h4,hg _ _ _ h5,h6⟩
theorem qL.keep {w w':World}{F F':Nat→Prop}{gh gh':Nat→Nat→Option Value}(hF:∀b,F b→b<w.heap.size→F' b∧b<w'.heap.size∧w'.heap[b]? =w.heap[b]?) (hg:gh'=gh) {ps:List qQ}{bs:List Nat}
  (hb:∀b∈bs,b<w.heap.size→w'.heap[b]? =w.heap[b]?) (h:qL w F gh ps bs):qL w' F' gh' ps bs:=by
 subst hg;refine⟨h.1.keep hF rfl hb,fun r hr hk i xs hi=>?_⟩;obtain⟨hd,h1,h2,h3⟩:=h.2 r hr hk i xs hi;refine⟨hd,h1,qI.keep hF (qaJ.refl _) (fun b hm hl=>?_) h2,fun b hm=>?_⟩
 ·grind
 ·rcases h3 b hm with h|h
  ·obtain⟨cells,k1,_⟩:=h2;grind [qi9]
  grind
theorem qS.keepA {X X':Sit}(hP:X'.P=X.P∧X'.pn=X.pn) (hg:qaJ X.gh X'.gh) (hF:∀b,X.F b→b<X.w.heap.size→X'.F b∧b<X'.w.heap.size∧X'.w.heap[b]? =X.w.heap[b]?):
  {a:AV}→(hh:a.isHeap=true→X'.gh=X.gh)→{v:Value}→{bs:List Nat}→(hb:∀b∈bs,b<X.w.heap.size→X'.w.heap[b]? =X.w.heap[b]?)→
  (hm:∀m∈a.mentions,X'.ver m.1=m.2→X.ver m.1=m.2∧X'.tm m.1=X.tm m.1∧(∀b,b∈X.own m.1→X.tm m.1=ptr b 0→b∈X'.own m.1∧X'.w.heap[b]? =X.w.heap[b]?))→
  qS X a v bs→qS X' a v bs
 |.undef,hh,_,_,_,_,_=>trivial
 |.val _ _,hh,_,_,_,_,h=>⟨h.1,h.2.keep hF⟩
 |.own _ _ _,hh,_,_,hb,_,h=>qO.keep hF hb h
 |.agg _,hh,_,_,hb,_,⟨cs,h1,h2⟩=>⟨cs,h1,h2.keep hF hb⟩
 |.box _,hh,_,_,hb,_,⟨b,cs,bs',te,h1,h2,h3,h4⟩=>⟨b,cs,bs',te,h1,by
   grind,h3.keep hF (fun b' hm=>hb b' (by grind)),h4⟩
 |.ref s v0,hh,_,_,_,hm,h=>⟨h.1,fun hv=>by
   obtain⟨h1,h2,_⟩:=hm (s,v0) (by simp[AV.mentions]) hv;rw[h2];exact h.2 h1⟩
 |.bref s v0 off u,hh,_,_,_,hm,h=>⟨h.1,fun hv=>by
   obtain⟨h1,h2,h3⟩:=hm (s,v0) (by simp[AV.mentions]) hv;obtain⟨b,hb0,h4,h5⟩:=h.2 h1;obtain⟨hb1,hh⟩:=h3 b hb0 h4;refine⟨b,hb1,by grind,?_⟩;rcases h5 with⟨h5,cs,h6,h7,h8⟩|⟨h5,h6⟩
   ·exact .inl ⟨h5,cs,h6,h7,fun j x hj=>by rw[←h8 j x hj];grind [World.cell?_of_block,qam]⟩
   ·exact .inr ⟨h5,by grind [World.cell?_of_block]⟩⟩
 |.pbox s v0 off,hh,_,_,_,hm,h=>⟨h.1,fun hv=>by
   obtain⟨h1,h2,_⟩:=hm (s,v0) (by simp[AV.mentions]) hv;obtain⟨b,h4,h5⟩:=h.2 h1;grind⟩
 |.prow s v0 fo sz i off,hh,_,_,_,hm,h=>⟨h.1,fun hv=>by
   obtain⟨h1,h2,h3⟩:=hm (s,v0) (by simp[AV.mentions]) hv;obtain⟨g,n,cap,h4,h5⟩:=h.2 h1;refine⟨g,n,cap,?_,h5⟩;cases fo with
   |none=>exact h2.trans h4
   |some o=>
    obtain⟨b,hb0,h6,h7⟩:=h4;obtain⟨hb1,hh⟩:=h3 b hb0 h6;exact⟨b,hb1,h2.trans h6,by grind [World.cell?_of_block]⟩⟩
 |.pip _ _,hh,_,_,_,_,⟨h0,b,h1,h2⟩=>⟨h0,b,by grind,h2⟩
 |.osl s v0 fo sz lo hi,hh,_,_,_,hm,h=>⟨h.1,fun hv=>by
   obtain⟨h1,h2,h3⟩:=hm (s,v0) (by simp[AV.mentions]) hv;obtain⟨ad,n,cap,h4,h5⟩:=h.2 h1;refine⟨ad,n,cap,?_,h5⟩;cases fo with
   |none=>exact h2.trans h4
   |some o=>
    obtain⟨b,hb0,h6,h7⟩:=h4;obtain⟨hb1,hh⟩:=h3 b hb0 h6;exact⟨b,hb1,h2.trans h6,by grind [World.cell?_of_block]⟩⟩
 |.view _ _ _,hh,_,_,_,_,⟨h0,a,cs,h1,h2,h3,h4,h5⟩=>by
   obtain⟨g1,g2,g3⟩:=hF _ h2 h3;exact⟨h0,a,cs,h1,g1,g2,fun j x hj=>by rw[←h4 j x hj];grind [World.cell?_of_block,qam],h5.keep hF⟩
 |.tup _,hh,_,_,hb,_,⟨vs,h1,h2⟩=>⟨vs,h1,h2.keep hF hb⟩
 |.grd s v0 want a,hh,v,_,_,hm,h=>⟨h.1,h.2.1,fun hv=>by
   obtain⟨h1,h2,_⟩:=hm (s,v0) (by simp[AV.mentions]) hv;obtain⟨g1,g2⟩:=h.2.2 h1;refine⟨fun ht=>?_,fun ht=>g2 (by grind)⟩;exact qS.keepA (a:=a) hP hg hF (fun e=>by rw[h.2.1]at e;cases e) (fun b hb=>by cases hb) (fun m hmm=>hm m (by simp[AV.mentions,hmm])) (g1 (by grind))⟩
 |.fn _ _,hh,_,_,_,_,⟨h0,vs,h1,h2⟩=>⟨h0,vs,h1,h2.keep hF (fun b hb=>by cases hb)⟩
 |.fnv _ _ _,hh,_,_,_,_,h=>⟨h.1,by rw[hP.1];exact h.2.keep hF⟩
 |.nilr _ _,hh,_,_,_,_,h=>h
 |.nz _ _,hh,_,_,_,_,h=>⟨h.1,h.2.1.keep hF,h.2.2⟩
 |.mp _ _ _,hh,_,_,hb,_,h=>qiA.keep hF hb h
 |.hv _ _,hh,_,_,_,_,h=>⟨h.1,h.2.keep hF hg⟩
 |.hbox _ _,hh,_,_,hb,_,⟨b,cs,te,h1,h2,h3,h4⟩=>⟨b,cs,te,h1,by
   grind,h3.keep hF hg,h4⟩
 |.hown _ _ _,hh,_,_,hb,_,h=>qI.keep hF hg hb h
 |.heap _,hh,_,_,hb,_,h=>by
   have e:=hh rfl;exact⟨h.1,qL.keep hF e hb h.2.1,h.2.2.1,fun r hr=>(h.2.2.2 r (hP.2▸hr)).keep hF (e▸qaJ.refl _)⟩
 |.hp _ _ _ _ _,hh,_,_,_,_,⟨h0,h1,h2,g,n,cap,h3,h4⟩=>⟨h0,h1,h2,g,n,cap,hg _ _ _ h3,h4⟩
 |.htup _ _,hh,_,_,_,_,⟨h0,vs,h1,h2⟩=>⟨h0,vs,h1,h2.keep hF hg⟩
 |.hclo _ _ _,hh,_,_,_,_,⟨h0,vs,h1,h2⟩=>⟨h0,vs,h1,h2.keep hF hg⟩
 |.hfnv _ _ _ _,hh,_,_,_,_,h=>⟨h.1,by rw[hP.1];exact h.2.keep hF hg⟩
 |.hls _ _ _ j,hh,_,_,_,_,⟨h0,v1,v2,h1,h2,h3⟩=>⟨h0,v1,v2,by rw[hP.1];exact h1.keep hF hg,by rw[hP.1];exact h2.keep hF hg,by
   cases j with
   |zero=>exact h3
   |succ j=>
    obtain⟨b,te,k1,k2,k3,k4⟩:=h3;obtain⟨g1,g2,g3⟩:=hF b k2 k3;exact⟨b,te,k1,g1,g2,g3.trans k4⟩⟩
 |.hifc _ _ _ _,hh,_,_,_,_,⟨h0,v',h1,h2⟩=>⟨h0,v',h1,qe2.mono hg h2⟩
 |.amb _ _,hh,_,_,_,_,h=>h
 |.parr s (some v0) off n e i o2,hh,_,_,_,hm,⟨h0,h1,h2,h3⟩=>⟨h0,h1,h2,fun hv=>by
   simp_all [AV.mentions]⟩
 |.parr s none off n e i o2,hh,_,_,_,_,⟨h0,h1,h2,b,h4,h5⟩=>⟨h0,h1,h2,b,by grind,h5⟩
theorem qS.keep {X X':Sit}{a:AV}(hP:X'.P=X.P∧X'.pn=X.pn∧qaJ X.gh X'.gh∧(a.isHeap=true→X'.gh=X.gh)) (hF:∀b,X.F b→b<X.w.heap.size→X'.F b∧b<X'.w.heap.size∧X'.w.heap[b]? =X.w.heap[b]?)
  {v:Value}{bs:List Nat}(hb:∀b∈bs,b<X.w.heap.size→X'.w.heap[b]? =X.w.heap[b]?)
  (hm:∀m∈a.mentions,X'.ver m.1=m.2→X.ver m.1=m.2∧X'.tm m.1=X.tm m.1∧(∀b,b∈X.own m.1→X.tm m.1=ptr b 0→b∈X'.own m.1∧X'.w.heap[b]? =X.w.heap[b]?))
  (h:qS X a v bs):qS X' a v bs:=qS.keepA ⟨hP.1,hP.2.1⟩ hP.2.2.1 hF hP.2.2.2 hb hm h
def qil (C:Ctx) (w:World) (own:Own) (v:Value):Prop:=(∀b,v≠ptr b 0)∧∀r,C.pn.par=some r→qb3 w (C.free w own) own.gh r.1 r.2 v
def sit (C:Ctx) (σ:St) (tm:Array Value) (w:World) (own:Own):Sit:=
 { P:=C.P,ver:=fun s=>(qj σ s).1,tm:=fun s=>tm.getD s undef,w,F:=C.free w own,own,gh:=own.gh,pn:=C.pn }
theorem qK.update {C:Ctx}{σ σ':St}{tm tm':Array Value}{w w':World}{own own':Own}(h:qK C σ tm w own) (D:Nat→Prop)
  (hlen:σ'.length=σ.length) (htm:tm'.size=tm.size)
  (qdS:∀s,¬D s→qj σ' s=qj σ s∧tm'.getD s undef=tm.getD s undef∧own' s=own s)
  (hver:∀s,D s→(qj σ s).1<(qj σ' s).1∨((qj σ' s).1=(qj σ s).1∧tm'.getD s undef=tm.getD s undef∧∀b,b∈own s→tm.getD s undef=ptr b 0→b∈own' s∧w'.heap[b]? =w.heap[b]?))
  (hk:qaA (fun b=>∃s,D s∧b∈own s) w w')
  (hD:∀s,D s→s<σ.length)
  (hown:∀s,D s→(∀b∈own' s,(w.heap.size≤b∧b<w'.heap.size)∨(∃s0,D s0∧b∈own s0))∧(own' s).Nodup)
  (hap:∀s s' b,D s→D s'→b∈own' s→b∈own' s'→s=s')
  (hrep:∀s,D s→qS (sit C σ' tm' w' own') (qj σ' s).2 (tm'.getD s undef) (own' s))
  (hwf:∀s,D s→∀m∈(qj σ' s).2.mentions,m.2≤(qj σ' m.1).1)
  (hih:∀s,D s→(qj σ' s).2.isHeap=true→s=C.hs)
  (hgh:own'.gh=own.gh∨(qaJ own.gh own'.gh∧∀s,¬D s→(qj σ s).2.isHeap=false):=by exact .inl rfl):qK C σ' tm' w' own':=by
 have hN:C.w0.heap.size≤w.heap.size:=h.kept.size;have keptFree:∀b,C.free w own b→C.free w' own' b∧w'.heap[b]? =w.heap[b]? :=fun b hb=>by
  have hlt:b<w.heap.size:=hb.2.1;refine⟨⟨hb.1,zaq hlt hk.size,fun s hs=>?_⟩,hk.block b hlt fun ⟨s,_,hs⟩=>hb.2.2 s hs⟩;by_cases hd:D s
  ·rcases(hown s hd).1 b hs with h1|⟨s0,_,h1⟩
   ·omega
   ·exact hb.2.2 s0 h1
  ·rw[(qdS s hd).2.2]at hs;exact hb.2.2 s hs
 refine⟨by rw[htm,hlen];exact h.size,by rcases hgh with e|⟨e,_⟩;(· rw[e];exact h.ghs);(· exact fun k i v hv=>e k i v (h.ghs k i v hv)),?_,?_,?_,?_,?_,?_,?_,fun s hh=>?_⟩
 ·refine⟨hk.os.trans h.kept.os,hk.tape.trans h.kept.tape,hk.output.trans h.kept.output,Nat.le_trans h.kept.size hk.size,fun k hlt ho=>?_⟩;rw[←h.kept.block k hlt ho];refine hk.block k (by omega) fun ⟨s,_,hs⟩=>?_;rcases(h.mine s k hs).1 with h1|h1;all_goals grind
 ·intro s b hb;by_cases hd:D s
  ·rcases(hown s hd).1 b hb with⟨h1,h2⟩|⟨s0,_,h1⟩
   ·omega
   ·obtain⟨h2,h3⟩:=h.mine s0 b h1;exact⟨h2,zaq h3 hk.size⟩
  ·rw[(qdS s hd).2.2]at hb;obtain⟨h2,h3⟩:=h.mine s b hb;exact⟨h2,zaq h3 hk.size⟩
 ·intro s;by_cases hd:D s
  ·grind
  ·rw[(qdS s hd).2.2];exact h.nodup s
 ·have mixed:∀s s' b,D s→¬D s'→b∈own' s→b∈own' s'→False:=fun s s' b hd hd' hb hb'=>by
   rw[(qdS s' hd').2.2]at hb';rcases(hown s hd).1 b hb with⟨h1,_⟩|⟨s0,h0,h1⟩
   ·have:=(h.mine s' b hb').2;omega
   ·exact hd' (h.apart s0 s' b h1 hb'▸h0)
  intro s s' b hb hb';by_cases hd:D s<;>by_cases hd':D s'
  ·grind
  ·grind
  ·grind
  ·rw[(qdS s hd).2.2]at hb;rw[(qdS s' hd').2.2]at hb';exact h.apart s s' b hb hb'
 ·intro s hs;have hd:¬D s:=fun hd=>by grind
  rw[(qdS s hd).2.2];exact h.outside s (by omega)
 ·intro s hs;by_cases hd:D s
  ·exact hrep s hd
  ·obtain⟨h1,h2,h3⟩:=qdS s hd;have hr:=h.rep s (by omega);rw[h1,h2,h3];refine qS.keep (X:=sit C σ tm w own) (X':=sit C σ' tm' w' own') ⟨rfl,rfl,?_,fun hh=>?_⟩ ?_ ?_ ?_ hr
   ·rcases hgh with e|e
    ·show qaJ own.gh own'.gh;rw[e];exact qaJ.refl _
    ·exact e.1
   ·rcases hgh with e|e
    ·exact e
    grind
   ·intro b hb _;obtain⟨g1,g2⟩:=keptFree b hb;exact⟨g1,g1.2.1,g2⟩
   ·intro b hb hlt;refine hk.block b hlt fun ⟨s0,h0,hs0⟩=>hd (h.apart s0 s b hs0 hb▸h0)
   ·intro m hm hv;have hw:=h.wf s m hm;have hv':(qj σ' m.1).1=m.2:=hv;by_cases hdm:D m.1
    ·rcases hver m.1 hdm with h1|⟨h1,h2,h3⟩
     ·omega
     ·refine⟨?_,h2,fun b hb hp=>h3 b hb hp⟩;show(qj σ m.1).1=m.2;omega
    ·obtain⟨e1,e2,e3⟩:=qdS m.1 hdm;refine⟨?_,e2,fun b hb _=>⟨?_,?_⟩⟩
     ·show(qj σ m.1).1=m.2;grind
     ·show b∈own' m.1;rw[e3];exact hb
     ·exact hk.block b (h.mine _ b hb).2 fun ⟨s0,h0,hs0⟩=>hdm (h.apart s0 m.1 b hs0 hb▸h0)
 ·intro s m hm;by_cases hd:D s
  ·grind
  ·rw[(qdS s hd).1]at hm;have:=h.wf s m hm;by_cases hdm:D m.1;all_goals grind
 ·by_cases hd:D s
  ·grind
  ·rw[(qdS s hd).1]at hh;exact h.hat s hh
end Go.Vi
namespace Go.Vi
section
variable {α β:Type}{lk:Nat→Ent}
theorem Q.yc (s:Nat) (k:Ent→Q α):(Q.get s k).run lk=(k (lk s)).run lk:=rfl
theorem Q.yn (q:Q α) (f:α→Q β):(q.bind f).run lk=(q.run lk).bind fun a=>(f a).run lk:=by
 induction q with
 |ret a=>rfl
 |fail=>rfl
 |get s k ih=>exact ih (lk s)
theorem Q.ya {q:Q α}{f:α→Q β}{r:β}(h:(q.bind f).run lk=some r):∃a,q.run lk=some a∧(f a).run lk=some r:=by
 grind [Q.yn,Option.bind_eq_some_iff]
theorem Q.yb {a r:α}(h:(Q.ret a).run lk=some r):a=r:=by injection h
end
theorem q9.mono {w:World}{F F':Nat→Prop}(hF:∀b,F b→b<w.heap.size→F' b) {t:Ty}{x:t.den}{v:Value}(h:q9 w F t x v):q9 w F' t x v:=
 h.keep fun b hb hs=>⟨hF b hb hs,hs,rfl⟩
theorem qaN {v:Value}(h:∀cs,v≠ .agg cs):v.cells= #[v]:=by
 cases v<;>first|rfl|grind
theorem q9.int {w:World}{F:Nat→Prop}{k:IntKind}{n:Int}{v:Value}(h:q9 w F (.int k) n v):v=.int k n∧k.has n:=by
 have h2:=qaN (h.2.2 rfl);have h1:=h.1;rw[h2]at h1;exact⟨by simpa using h1.1,h1.2⟩
theorem q9.bool {w:World}{F:Nat→Prop}{b:Bool}{v:Value}(h:q9 w F .bool b v):v=.bool b:=by
 have h2:=qaN (h.2.2 rfl);have h1:=h.1;grind [Rep]
theorem q9.str {w:World}{F:Nat→Prop}{s:List UInt8}{v:Value}(h:q9 w F .str s v):v=.string ⟨s.toArray⟩∧s.length≤maxLen:=by
 have h2:=qaN (h.2.2 rfl);have h1:=h.1;rw[h2]at h1;exact⟨by simpa using h1.1,h1.2⟩
theorem q9.err {w:World}{F:Nat→Prop}{b:Bool}{v:Value}(h:q9 w F .err b v):(b=true∧v=.nilIface)∨(b=false∧∃t x,v=.iface t x):=by
 have h2:=qaN (h.2.2 rfl);obtain⟨u,h1,h3⟩:=h.1;grind
theorem q9.ofErr {w:World}{F:Nat→Prop}{b:Bool}{v:Value}(h:(b=true∧v=.nilIface)∨(b=false∧∃t x,v=.iface t x)):q9 w F .err b v:=by
 have hv:∀cs,v≠ .agg cs:=by
  grind
 exact⟨⟨v,(by rw[qaN hv]),h⟩,(fun h=>by simp[Ty.agg]at h),fun _=>hv⟩
theorem q9.opt {w:World}{F:Nat→Prop}{e:Ty}{x:Option e.den}{v:Value}(h:q9 w F (.opt e) x v):qs6 w F (Rep w F e) x v:=by
 have h2:=qaN (h.2.2 rfl);obtain⟨u,h1,h3⟩:=h.1;grind
theorem q9.ofOpt {w:World}{F:Nat→Prop}{e:Ty}{x:Option e.den}{v:Value}(h:qs6 w F (Rep w F e) x v):q9 w F (.opt e) x v:=by
 have hv:∀cs,v≠ .agg cs:=by
  intro cs he;rcases h with⟨_,h⟩|⟨_,_,_,_,h,_⟩<;>rw[he]at h<;>cases h
 exact⟨⟨v,(by rw[qaN hv]),h⟩,(fun h=>by simp[Ty.agg]at h),fun _=>hv⟩
theorem q9.slice {w:World}{F:Nat→Prop}{e:Ty}{xs:List e.den}{v:Value}(h:q9 w F (.slice e) xs v):qdJ w F (Rep w F e) e.size xs v:=by
 have h2:=qaN (h.2.2 rfl);have h1:=h.1;rw[h2]at h1;obtain⟨v',hv,hs⟩:=h1;grind
theorem q9.ofInt (w:World) (F:Nat→Prop) {k:IntKind}{n:Int}(h:k.has n):q9 w F (.int k) n (.int k n):=⟨⟨rfl,h⟩,(fun h=>by cases h),(fun _ cs h=>by cases h)⟩
theorem q9.ofBool (w:World) (F:Nat→Prop) (b:Bool):q9 w F .bool b (.bool b):=⟨rfl,(fun h=>by cases h),(fun _ cs h=>by cases h)⟩
theorem q9.ofStr (w:World) (F:Nat→Prop) {s:List UInt8}(h:s.length≤maxLen):q9 w F .str s (.string ⟨s.toArray⟩):=⟨⟨rfl,h⟩,(fun h=>by cases h),(fun _ cs h=>by cases h)⟩
theorem q9.ofSlice {w:World}{F:Nat→Prop}{e:Ty}{xs:List e.den}{v:Value}(h:qdJ w F (Rep w F e) e.size xs v):q9 w F (.slice e) xs v:=by
 have hv:∀cs,v≠ .agg cs:=by
  intro cs he;rcases h with⟨h,_⟩|⟨a,cap,h,_⟩<;>rw[he]at h<;>cases h
 exact⟨⟨v,(by rw[qaN hv]),h⟩,(fun h=>by simp[Ty.agg]at h),fun _=>hv⟩
def mkV (t:Ty) (cs:List Value):Value:=if t.agg then .agg cs.toArray else cs.headD undef
theorem q9.ofCells {w:World}{F:Nat→Prop}{t:Ty}{x:t.den}{cs:List Value}(h:Rep w F t x cs):q9 w F t x (mkV t cs):=by
 cases t with
 |int k=>obtain⟨rfl,h⟩:=h;exact .ofInt w F h
 |bool=>have h:cs=_:=h;subst h;exact .ofBool w F _
 |str=>obtain⟨rfl,h⟩:=h;exact .ofStr w F h
 |slice e=>obtain⟨v,rfl,h⟩:=h;exact .ofSlice h
 |err=>obtain⟨v,rfl,h⟩:=h;exact .ofErr h
 |opt e=>obtain⟨v,rfl,h⟩:=h;exact .ofOpt h
 |map k v=>exact False.elim h
 |ptr k v=>exact False.elim h
 |sl k v=>exact False.elim h
 |unit=>exact⟨(by simpa[mkV,Ty.agg,Value.cells]using h),(fun _=>⟨_,rfl⟩),(fun h=>by simp[Ty.agg]at h)⟩
 |pair a b=>exact⟨(by simpa[mkV,Ty.agg,Value.cells]using h),(fun _=>⟨_,rfl⟩),(fun h=>by simp[Ty.agg]at h)⟩
 |arr n e=>exact⟨(by simpa[mkV,Ty.agg,Value.cells]using h),(fun _=>⟨_,rfl⟩),(fun h=>by simp[Ty.agg]at h)⟩
theorem q9.as {w:World}{F:Nat→Prop}{t u:Ty}{x:t.den}{y:u.den}{v:Value}(h:Ty.as u x=some y) (hr:q9 w F t x v):q9 w F u y v:=by
 grind [Ty.yd]
theorem qO.rep {w:World}{F:Nat→Prop}{et:Nat}{e:Ty}{xs:List e.den}{v:Value}{bs:List Nat}(h:qO w F et e xs v bs):q9 w (fun b=>F b∨b∈bs) (.slice e) xs v:=by
 obtain⟨cells,ho,hbs,hx⟩:=h;refine .ofSlice ?_;rcases ho.2 with⟨h1,h2⟩|⟨g,cap,cur,hv,_,hg,hnc,hcm,hcs,htake⟩
 ·exact .inl ⟨h1,zaz h2⟩
 ·refine .inr ⟨⟨g,0,none⟩,cap,hv,hnc,hcm,fun i x hi=>⟨.inr (by grind [Value.ownBlock]),(Array.getElem?_eq_some_iff.1 hg).1,_,?_,(hx i x hi).keep fun b hb hs=>⟨.inl hb,hs,rfl⟩⟩⟩;intro j u hu;have hc:=ho.cells (g:=g) (by rw[hv];rfl);grind [qbi]
theorem qtS.rep {w:World}{F:Nat→Prop}{b off:Nat}{u:Ty}{y:u.den}{v:Value}{cs:List Value}(hc:∀j x,cs[j]? =some x→w.cell? ⟨b,j,none⟩=some x)
  (hl:off+u.size≤cs.length) (h:qtS w b off u v) (hr:Rep w F u y ((cs.drop off).take u.size)):q9 w F u y v:=by
 have key:v=mkV u ((cs.drop off).take u.size):=by
  rcases h with⟨h1,cs',rfl,h2,h3⟩|⟨h1,h2⟩
  ·have:cs'=(cs.drop off).take u.size:=by
    apply List.ext_getElem (by grind);intro j hj hj';have e1:=h3 j _ (zac hj);grind [qx]
   grind [mkV]
  ·have hs:u.size=1:=by cases u<;>simp[Ty.agg]at h1<;>rfl
   grind [zaB,mkV]
 rw[key];exact .ofCells hr
theorem qaz.length {w:World}{F:Nat→Prop}: {c:BC}→{cs:List Value}→{bs:List Nat}→qaz w F c cs bs→cs.length=c.size
 |.val _ _,_,_,h=>h.2.length
 |.own _ _ _,_,_,⟨v,h,_⟩=>by rw[h];rfl
 |.pair _ _,_,_,⟨c1,c2,b1,b2,h1,h2,h3,h4⟩=>by rw[h1,zag,h3.length,h4.length];rfl
 |.hole _,_,_,h=>h.2
theorem qaz.get {w:World}{F:Nat→Prop}: {c:BC}→{cs:List Value}→{bs:List Nat}→{off:Nat}→{u:Ty}→{y:u.den}→{f:Bool}→qaz w F c cs bs→c.get off u=some (y,f)→
  off+u.size≤cs.length∧Rep w (fun b=>F b∨b∈bs) u y ((cs.drop off).take u.size)∧(f=false→Rep w F u y ((cs.drop off).take u.size))
 |.val t x,cs,bs,off,u,y,f,h,hg=>by
  simp only[BC.get,zao]at hg;obtain⟨z,h1,h2⟩:=hg;injection h2 with h2 h3;subst h2;subst h3;obtain⟨g1,g2⟩:=h.2.sub h1;exact⟨g1,g2.keep (fun b hb hs=>⟨.inl hb,hs,rfl⟩),fun _=>g2⟩
 |.own et e xs,cs,bs,off,u,y,f,h,hg=>by
  simp only[BC.get]at hg;split at hg
  ·rename_i h0;subst h0;simp only[zao]at hg;obtain⟨z,h1,h2⟩:=hg;injection h2 with h2 h3;subst h2;subst h3;obtain⟨rfl,rfl⟩:=Ty.yd h1;obtain⟨v,rfl,ho⟩:=h;have hr:=ho.rep.1;rw[qaN (ho.rep.2.2 rfl)]at hr;grind [Ty.size]
  ·cases hg
 |.pair a b,cs,bs,off,u,y,f,h,hg=>by
  obtain⟨c1,c2,b1,b2,rfl,rfl,h1,h2⟩:=h;have l1:=h1.length;have l2:=h2.length;have mono1:∀(t:Ty) (x:t.den) (l:List Value),Rep w (fun b=>F b∨b∈b1) t x l→Rep w (fun b=>F b∨b∈b1++b2) t x l:=fun t x l hr=>
   hr.keep fun b hb hs=>⟨hb.imp id fun h=>zab _ h,hs,rfl⟩
  have mono2:∀(t:Ty) (x:t.den) (l:List Value),Rep w (fun b=>F b∨b∈b2) t x l→Rep w (fun b=>F b∨b∈b1++b2) t x l:=fun t x l hr=>
   hr.keep fun b hb hs=>⟨hb.imp id fun h=>zaa _ h,hs,rfl⟩
  have left:∀(off:Nat) (u:Ty) (y:u.den) (f:Bool),a.get off u=some (y,f)→
    off+u.size≤(c1++c2).length∧Rep w (fun b=>F b∨b∈b1++b2) u y (((c1++c2).drop off).take u.size)∧(f=false→Rep w F u y (((c1++c2).drop off).take u.size)):=fun off u y f hg=>by
   obtain⟨g1,g2,g3⟩:=h1.get hg;grind
  have right:∀(off:Nat) (u:Ty) (y:u.den) (f:Bool),a.size≤off→b.get (off-a.size) u=some (y,f)→
    off+u.size≤(c1++c2).length∧Rep w (fun b=>F b∨b∈b1++b2) u y (((c1++c2).drop off).take u.size)∧(f=false→Rep w F u y (((c1++c2).drop off).take u.size)):=fun off u y f hle hg=>by
   obtain⟨g1,g2,g3⟩:=h2.get hg;grind [qbU]
  unfold BC.get at hg;split at hg
  ·rename_i ua ub;split at hg
   ·rename_i hsz;split at hg
    ·rename_i x f1 y' f2 e1 e2;injection hg with hg;injection hg with hg1 hg2;subst hg1;subst hg2;obtain⟨g1,g2,g3⟩:=h1.get e1;obtain⟨k1,k2,k3⟩:=h2.get e2;rw[zaN,←hsz,←l1,List.take_length]at g2 g3;rw[zaN]at k2 k3;have ht:((c1++c2).drop 0).take (Ty.pair ua ub).size=c1++c2.take ub.size:=by
      grind [Ty.size]
     rw[ht];refine⟨by simp[Ty.size];omega,⟨c1,_,rfl,mono1 _ _ _ g2,mono2 _ _ _ k2⟩,fun hf=>?_⟩;simp only[Bool.or_eq_false_iff]at hf;exact⟨c1,_,rfl,g3 hf.1,k3 hf.2⟩
    ·cases hg
   grind
  grind
 |.hole _,_,_,_,_,_,_,_,hg=>by simp[BC.get]at hg
theorem Ty.yq (w:World) (F:Nat→Prop):(t:Ty)→{cs:List Value}→{x:t.den}→{r:List Value}→t.dec cs=some (x,r)→∃c,cs=c++r∧Rep w F t x c
 |.int k,cs,x,r,h=>by
  simp only[Ty.dec]at h;split at h
  ·split at h
   ·rename_i hk;obtain⟨rfl,hk⟩:=hk;injection h with h;injection h with h1 h2;subst h1;subst h2;exact⟨[_],rfl,rfl,hk⟩
   ·cases h
  ·cases h
 |.bool,cs,x,r,h=>by
  simp only[Ty.dec]at h;split at h
  ·injection h with h;injection h with h1 h2;subst h1;subst h2;exact⟨[_],rfl,rfl⟩
  ·cases h
 |.str,cs,x,r,h=>by
  simp only[Ty.dec]at h;split at h
  ·split at h
   ·rename_i hk;injection h with h;injection h with h1 h2;subst h1;subst h2;exact⟨[_],rfl,rfl,by grind [maxLen]⟩
   ·cases h
  ·cases h
 |.err,cs,x,r,h=>by
  simp only[Ty.dec]at h;split at h
  ·injection h with h;injection h with h1 h2;subst h1;subst h2;exact⟨[_],rfl,_,rfl,.inl ⟨rfl,rfl⟩⟩
  ·cases h
 |.opt e,cs,x,r,h=>by
  simp only[Ty.dec]at h;split at h
  ·injection h with h;injection h with h1 h2;subst h1;subst h2;exact⟨[_],rfl,_,rfl,.inl ⟨rfl,rfl⟩⟩
  ·cases h
 |.map _ _,cs,x,r,h=>by cases h
 |.ptr _ _,cs,x,r,h=>by cases h
 |.sl _ _,cs,x,r,h=>by cases h
 |.unit,cs,x,r,h=>by
  simp only[Ty.dec]at h;injection h with h;injection h with h1 h2;subst h2;exact⟨[],rfl,rfl⟩
 |.pair a b,cs,x,r,h=>by
  simp only[Ty.dec]at h;split at h
  ·rename_i x1 r1 h1;split at h
   ·rename_i x2 r2 h2;injection h with h;injection h with e1 e2;subst e1;subst e2;obtain⟨c1,e1,g1⟩:=Ty.yq w F a h1;obtain⟨c2,e2,g2⟩:=Ty.yq w F b h2;exact⟨c1++c2,by grind,c1,c2,rfl,g1,g2⟩
   ·cases h
  ·cases h
 |.slice e,cs,x,r,h=>by
  simp only[Ty.dec]at h;split at h
  ·injection h with h;injection h with h1 h2;subst h1;subst h2;exact⟨[_],rfl,_,rfl,.inl ⟨rfl,rfl⟩⟩
  ·cases h
 |.arr n e,cs,x,r,h=>by
  grind [Ty.dec]
theorem qpI {E:Env}{tid:Nat}{c:Value}{a:AV}(X:Sit) (h:qkH E tid c=some a):qS X a c []:=by
 unfold qkH at h;split at h
 ·split at h
  ·rename_i hk;injection h with h;subst h;exact⟨rfl,.ofInt _ _ hk⟩
  ·cases h
 ·injection h with h;subst h;exact⟨rfl,.ofBool _ _ _⟩
 ·split at h
  ·rename_i s hs;injection h with h;subst h;refine⟨rfl,?_⟩;have:=q9.ofStr X.w X.F (s:=s.data.toList) (by grind [maxLen]);omega
  ·cases h
 ·split at h
  ·injection h with h;subst h;exact⟨rfl,⟨_,rfl,.inl ⟨rfl,rfl,rfl,rfl⟩⟩,fun h=>(by cases h),fun _ cs hc=>by cases hc⟩
  ·split at h
   ·split at h
    ·injection h with h;subst h;exact⟨rfl,rfl⟩
    ·injection h with h;subst h;exact⟨[],World.ownsRow_nil _ _ _ _,rfl,fun i x hi=>by simp at hi⟩
   ·cases h
 ·split at h
  ·injection h with h;subst h;exact⟨rfl,q9.ofErr (.inl ⟨rfl,rfl⟩)⟩
  ·cases h
 ·split at h
  ·injection h with h;subst h;exact⟨rfl,⟨_,rfl,.inl ⟨rfl,rfl,rfl⟩⟩,fun h=>(by cases h),fun _ cs hc=>by cases hc⟩
  ·split at h
   ·injection h with h;subst h;exact⟨rfl,q9.ofOpt (.inl ⟨rfl,rfl⟩)⟩
   ·cases h
 ·split at h
  ·rename_i t ht;split at h
   ·rename_i hag;split at h
    ·rename_i x hx;injection h with h;subst h;obtain⟨c,e,hr⟩:=Ty.yq X.w X.F t hx;rw[zaO]at e;subst e;exact⟨rfl,hr,(fun _=>⟨_,rfl⟩),(fun h=>by grind)⟩
    ·cases h
   ·cases h
  ·cases h
 ·cases h
def qpW (X:Sit):Prop:=∀k b,X.pn k=some b→X.tm k=ptr b 0
def qa5 (X:Sit) (p:qdU):Prop:=qpW X∧∀q∈p,X.ver q.1=q.2.1∧X.tm q.1=.bool q.2.2.1∧q.2.2.2=q.2.2.1
theorem qmi {s v:Nat}{w:Bool}: {p:qdU}→qnZ s v w p=true→∃b,(s,v,w,b)∈p
 |[],h=>by simp[qnZ]at h
 |(s',v',w',b')::r,h=>by
  simp only[qnZ,Bool.or_eq_true,zad,beq_iff_eq]at h;rcases h with⟨⟨rfl,rfl⟩,rfl⟩|h
  ·grind
  ·obtain⟨b,hb⟩:=qmi h;grind
theorem qid {X:Sit}{p:qdU}(hp:qa5 X p): {a:AV}→{v:Value}→{bs:List Nat}→qS X a v bs→qS X (qav p a) v bs
 |.grd s v0 w a,v,bs,h=>by
  unfold qav;split
  ·rename_i ho;obtain⟨b,hb⟩:=qmi ho;obtain⟨h1,h2,_⟩:=hp.2 _ hb;obtain⟨rfl,_,h3⟩:=h;exact qid hp ((h3 h1).1 h2)
  ·trivial
 |.undef,_,_,h=>by unfold qav;exact h
 |.val _ _,_,_,h=>by unfold qav;exact h
 |.own _ _ _,_,_,h=>by unfold qav;exact h
 |.agg _,_,_,h=>by unfold qav;exact h
 |.box _,_,_,h=>by unfold qav;exact h
 |.ref _ _,_,_,h=>by unfold qav;exact h
 |.bref _ _ _ _,_,_,h=>by unfold qav;exact h
 |.pbox _ _ _,_,_,h=>by unfold qav;exact h
 |.pip _ _,_,_,h=>by unfold qav;exact h
 |.prow _ _ _ _ _ _,_,_,h=>by unfold qav;exact h
 |.osl _ _ _ _ _ _,_,_,h=>by unfold qav;exact h
 |.view _ _ _,_,_,h=>by unfold qav;exact h
 |.tup _,_,_,h=>by unfold qav;exact h
 |.fn _ _,_,_,h=>by unfold qav;exact h
 |.fnv _ _ _,_,_,h=>by unfold qav;exact h
 |.amb _ _,_,_,h=>by unfold qav;exact h
 |.nilr _ _,_,_,h=>by unfold qav;exact h
 |.nz _ _,_,_,h=>by unfold qav;exact h
 |.mp _ _ _,_,_,h=>by unfold qav;exact h
 |.hv _ _,_,_,h=>by unfold qav;exact h
 |.hbox _ _,_,_,h=>by unfold qav;exact h
 |.hown _ _ _,_,_,h=>by unfold qav;exact h
 |.heap _,_,_,h=>by unfold qav;exact h
 |.hp _ _ _ _ _,_,_,h=>by unfold qav;exact h
 |.htup _ _,_,_,h=>by unfold qav;exact h
 |.hclo _ _ _,_,_,h=>by unfold qav;exact h
 |.hfnv _ _ _ _,_,_,h=>by unfold qav;exact h
 |.hls _ _ _ _,_,_,h=>by unfold qav;exact h
 |.hifc _ _ _ _,_,_,h=>by unfold qav;exact h
 |.parr _ _ _ _ _ _ _,_,_,h=>by unfold qav;exact h
def qaC (X:Sit) (o:Op1) (v:Value):Prop:=
 match o.s with
 |some t=>v=X.tm t∧o.v=X.ver t∧qS X o.a v (X.own t)
 |none=>qS X o.a v []
section
variable {C:Ctx}{σ:St}{tm:Array Value}{w:World}{own:Own}{ds:List Deferred}
theorem qK.at_ (h:qK C σ tm w own) (s:Nat):qS (sit C σ tm w own) (qj σ s).2 (tm.getD s undef) (own s):=by
 by_cases hs:s<σ.length
 ·exact h.rep s hs
 ·have:qj σ s=(0,.undef):=by grind [qj]
  rw[this];trivial
theorem opd_ok (h:qK C σ tm w own) {E:Env} [tb:Tabbed E C] {p:qdU}{tid:Nat}{x:Operand}{o:Op1}(hp:qa5 (sit C σ tm w own) p) (ho:(opd E p tid x).run (qj σ)=some o):
  qaC (sit C σ tm w own) o ((⟨tm,ds⟩:Act).eval x):=by
 unfold opd at ho;split at ho
 ·rw[Q.yc]at ho;have:=Q.yb ho;subst this;exact⟨rfl,rfl,qid hp (h.at_ _)⟩
 ·split at ho
  ·rename_i hc;have:=Q.yb ho;subst this;exact qpI _ hc
  ·cases ho
 ·have:=Q.yb ho;subst this;exact⟨rfl,[],rfl,rfl,rfl⟩
 ·rename_i g;split at ho
  ·rename_i r hg;have:=Q.yb ho;subst this;obtain⟨h1,h2,cs,h3,h4⟩:=qqI h.tabs (g:=g) (r:=r) (by rw[←tb.eq];exact hg);exact⟨rfl,⟨g,0,none⟩,cs,rfl,h1,h2,h3,h4⟩
  ·cases ho
def FW (X:Sit) (ow:List Nat) (b:Nat):Prop:=X.F b∨∃s∈ow,b∈X.own s∧X.tm s≠ptr b 0
theorem qi1 {w:World}{F:Nat→Prop}{et:Nat}{e:Ty}{xs:List e.den}{v:Value}{bs:List Nat}(h:qO w F et e xs v bs) (b:Nat):v≠ptr b 0:=by
 obtain⟨cells,ho,_⟩:=h;rcases ho.2 with⟨rfl,_⟩|⟨g,cap,cur,rfl,_⟩<;>(intro h;cases h)
theorem qld {X:Sit}{b:Nat}(h:FW X [] b):X.F b:=by
 rcases h with h|⟨s,h,_⟩;all_goals grind
theorem qdq (h:qK C σ tm w own) {o:Op1}{v:Value}{r:VR}(ho:qaC (sit C σ tm w own) o v) (hr:(qlE o).run (qj σ)=some r):q9 w (FW (sit C σ tm w own) r.ow) r.t r.x v:=by
 obtain⟨os,ov,oa⟩:=o;unfold qlE at hr;split at hr
 ·rename_i t x heq;have:=Q.yb hr;subst this;simp only at heq;subst heq;have hv:q9 w (sit C σ tm w own).F t x v:=by
   unfold qaC at ho;cases os with
   |some s=>exact ho.2.2.2
   |none=>exact ho.2
  exact hv.mono fun b hb _=>.inl hb
 ·rename_i et e xs heq;have:=Q.yb hr;subst this;simp only at heq;subst heq;unfold qaC at ho;cases os with
  |some s=>exact(qO.rep ho.2.2).mono fun b hb _=>hb.imp id fun hb=>⟨s,by simp,hb,by rw[←ho.1];exact qi1 ho.2.2 b⟩
  |none=>exact(qO.rep ho).mono fun b hb _=>hb.imp id fun hb=>by cases hb
 ·rename_i et e heq;have:=Q.yb hr;subst this;simp only at heq;subst heq;have hv:v=.slice none 0 0:=by
   unfold qaC at ho;cases os with
   |some s=>exact ho.2.2.2
   |none=>exact ho.2
  rw[hv];exact⟨⟨_,rfl,.inl ⟨rfl,rfl⟩⟩,(fun h=>by cases h),(fun _ cs h=>by cases h)⟩
 ·rename_i e xs heq;have:=Q.yb hr;subst this;simp only at heq;subst heq;have hv:q9 w (sit C σ tm w own).F (.slice e) xs v:=by
   unfold qaC at ho;cases os with
   |some s=>exact ho.2.2.2.1
   |none=>exact ho.2.1
  exact hv.mono fun b hb _=>.inl hb
 ·rename_i s v0 heq;simp only at heq;subst heq;rw[Q.yc]at hr;split at hr
  ·rename_i hv;have qfS:tm.getD s undef=v:=by
    unfold qaC at ho;cases os with
    |some t=>exact ho.2.2.2 hv
    |none=>exact ho.2 hv
   have hat:=h.at_ s;rw[qfS]at hat;split at hr
   ·rename_i e xs ha;have:=Q.yb hr;subst this;rw[ha]at hat;exact(qO.rep hat).mono fun b hb _=>hb.imp id fun hb=>⟨s,by simp,hb,by show tm.getD s undef≠_;rw[qfS];exact qi1 hat b⟩
   ·rename_i t x ha;have:=Q.yb hr;subst this;rw[ha]at hat;exact hat.2.mono fun b hb _=>.inl hb
   ·cases hr
  ·cases hr
 ·rename_i s v0 off u heq;simp only at heq;subst heq;rw[Q.yc]at hr;split at hr
  ·rename_i hv;split at hr
   ·rename_i c ha;split at hr
    ·rename_i x f hg;have:=Q.yb hr;subst this;have qfS:∃b,b∈own s∧tm.getD s undef=ptr b 0∧qtS w b off u v:=by
      unfold qaC at ho;cases os with
      |some t=>exact ho.2.2.2 hv
      |none=>exact ho.2 hv
     obtain⟨b,hb,qmK,hva⟩:=qfS;have hat:=h.at_ s;rw[ha]at hat;obtain⟨b',cs,bs',te,h1,h2,h3,h4⟩:=hat;rw[qmK]at h1;have hbb:b=b':=by grind [ptr]
     subst hbb;obtain⟨g1,g2,g3⟩:=h3.get hg;have hcell:∀j x,cs[j]? =some x→w.cell? ⟨b,j,none⟩=some x:=fun j x hj=>by
      simp[World.cell?,show w.heap[b]? =_ from h2,hj]
     cases f with
     |true=>
      refine(hva.rep hcell g1 g2).mono fun b1 hb1 _=>hb1.imp id fun hb1=>⟨s,by simp,?_,?_⟩
      ·show b1∈own s;grind
      ·show tm.getD s undef≠_;rw[qmK];have hn:=h.nodup s;grind [ptr]
     |false=>exact(hva.rep hcell g1 (g3 rfl)).mono fun b1 hb1 _=>.inl hb1
    ·cases hr
   ·cases hr
  ·cases hr
 ·cases hr
 ·cases hr
theorem qcm (h:qK C σ tm w own) {u:Ty}{o:Op1}{v:Value}{r:u.den×List Nat}(ho:qaC (sit C σ tm w own) o v) (hr:(toVal u o).run (qj σ)=some r):q9 w (FW (sit C σ tm w own) r.2) u r.1 v:=by
 have hr0:=hr;unfold toVal at hr;split at hr
 ·rename_i c ha;split at hr
  ·rename_i hsz;split at hr
   ·rename_i x f hg;have:=Q.yb hr;subst this;unfold qaC at ho;cases hs:o.s with
    |some s=>
     rw[hs]at ho;obtain⟨hv,_,h3⟩:=ho;rw[ha]at h3;obtain⟨cs,hcs,hb⟩:=h3;obtain⟨g1,g2,g3⟩:=hb.get hg;have hl:=hb.length;rw[zaN,zan (by omega)]at g2 g3;have mk:∀F,Rep w F u x cs→q9 w F u x v:=fun F hr=>by
      rw[hcs];exact⟨hr,(fun _=>⟨_,rfl⟩),(fun h=>by grind)⟩
     cases f with
     |true=>exact mk _ (g2.keep fun b hb hlt=>⟨hb.imp id fun hb=>⟨s,by simp,hb,by rw[←hv,hcs];intro h;cases h⟩,hlt,rfl⟩)
     |false=>exact mk _ ((g3 rfl).keep fun b hb hlt=>⟨.inl hb,hlt,rfl⟩)
    |none=>
     rw[hs]at ho;rw[ha]at ho;obtain⟨cs,hcs,hb⟩:=ho;obtain⟨g1,g2,g3⟩:=hb.get hg;have hl:=hb.length;rw[zaN,zan (by omega)]at g2;rw[hcs];exact⟨g2.keep fun b hb hlt=>⟨hb.elim .inl (fun hb=>by cases hb),hlt,rfl⟩,(fun _=>⟨_,rfl⟩),(fun h=>by grind)⟩
   ·cases hr
  ·cases hr
 ·rename_i t x off ha;split at hr;case h_2=>cases hr
  split at hr;case isFalse=>cases hr
  rename_i h0;split at hr
  ·rename_i y hy;have:=Q.yb hr;subst this;subst h0;have hv:qS (sit C σ tm w own) (.view t x 0) v []:=by
    unfold qaC at ho;split at ho
    ·obtain⟨_,_,h3⟩:=ho;rw[ha]at h3;exact⟨rfl,h3.2⟩
    grind
   obtain⟨_,ad,cs,g1,g2,g3,g4,g5⟩:=hv;refine q9.ofOpt (.inr ⟨y,ad,cs,rfl,?_,.inl g2,g3,g4,?_⟩)
   ·rw[g1];simp[Addr.add]
   ·obtain⟨rfl,rfl⟩:=Ty.yd hy;exact g5.keep fun b hb hlt=>⟨.inl hb,hlt,rfl⟩
  ·cases hr
 ·obtain⟨q,h1,h2⟩:=Q.ya hr;have hq:=qdq h ho h1;split at h2
  ·rename_i x hx;have:=Q.yb h2;subst this;exact hq.as hx
  ·cases h2
theorem qcH (h:qK C σ tm w own) {o:Op1}{v:Value}{r:IntKind×Int}(ho:qaC (sit C σ tm w own) o v) (hr:(qhq o).run (qj σ)=some r):v=.int r.1 r.2∧r.1.has r.2:=by
 unfold qhq at hr;obtain⟨q,h1,h2⟩:=Q.ya hr;have hq:=qdq h ho h1;split at h2
 ·have:=Q.yb h2;subst this;exact hq.int
 ·cases h2
end
end Go.Vi
namespace Go.Vi
open Go.RowKit
theorem qM (σ:St) (u:U):(qG σ u).length=σ.length:=by simp[qG]
theorem qB (us:List U):∀σ:St,(qh σ us).length=σ.length:=by
 induction us with
 |nil=>intro σ;rfl
 |cons u us ih=>grind [qM,qh]
theorem qw (σ:St) (u:U) {s:Nat}(h:s≠u.s):qj (qG σ u) s=qj σ s:=by
 grind [qj,qG]
theorem qD (σ:St) (u:U) (h:u.s<σ.length):qj (qG σ u) u.s=((if u.bump then(qj σ u.s).1+1 else(qj σ u.s).1),u.a):=by
 grind [qj,qG]
theorem qbq (σ:St) (a b:List U):qh σ (a++b)=qh (qh σ a) b:=List.foldl_append
theorem qbn (tm:Array Value) {d:Nat}(v:Value) (h:d<tm.size):(tm.setIfInBounds d v).getD d undef=v:=by simp_all
theorem qay (tm:Array Value) {d s:Nat}(v:Value) (h:s≠d):(tm.setIfInBounds d v).getD s undef=tm.getD s undef:=by
 simp_all [Ne.symm]
section
variable {C:Ctx}{σ:St}{tm:Array Value}{w w':World}{own:Own}
theorem qK.world (h:qK C σ tm w own) (hk:qaA (fun _=>False) w w'):qK C σ tm w' own:=
 h.update (fun _=>False) rfl rfl (fun _ _=>⟨rfl,rfl,rfl⟩) (fun _ hd=>hd.elim) (hk.mono fun _ h=>h.elim) (fun _ hd=>hd.elim) (fun _ hd=>hd.elim) (fun _ _ _ hd=>hd.elim) (fun _ hd=>hd.elim) (fun _ hd=>hd.elim) (fun _ hd=>hd.elim)
def qbj (own:Own) (d:Nat) (bs:List Nat):Own:=⟨fun s=>if s=d then bs else own s,own.gh⟩
def after (C:Ctx) (σ:St) (tm:Array Value) (w w':World) (own:Own) (bs:List Nat):Sit:=
 { P:=C.P,ver:=fun s=>(qj σ s).1,tm:=fun s=>tm.getD s undef,w:=w',F:=fun b=>(C.free w own b∨w.heap.size≤b)∧b<w'.heap.size∧b∉bs,own,gh:=own.gh,pn:=C.pn }
theorem qK.set (h:qK C σ tm w own) (hk:qaA (fun _=>False) w w') {d:Nat}(hd:d<σ.length) {av:AV}{v:Value}{bs:List Nat}(hb:∀b∈bs,w.heap.size≤b∧b<w'.heap.size) (hn:bs.Nodup)
  (hr:qS (after C σ tm w w' own bs) av v bs) (hw:∀m∈av.mentions,m.2≤(qj σ m.1).1) (hih:av.isHeap=false:=by rfl):
  qK C (qG σ ⟨d,true,av⟩) (tm.setIfInBounds d v) w' (qbj own d bs):=by
 have hN:C.w0.heap.size≤w.heap.size:=h.kept.size;have e1:qj (qG σ ⟨d,true,av⟩) d=((qj σ d).1+1,av):=qD σ ⟨d,true,av⟩ hd;have e2:(tm.setIfInBounds d v).getD d undef=v:=qbn tm v (by rw[h.size];exact hd);refine h.update (fun s=>s=d) (qM _ _) (by simp) ?_ ?_ (hk.mono fun _ h=>h.elim) ?_ ?_ ?_ ?_ ?_ ?_
 ·grind [qw,qay,qbj]
 ·grind
 ·omega
 ·grind [qbj]
 ·omega
 ·rintro s rfl;rw[e1,e2];simp only[qbj,if_true];refine qS.keep (X:=after C σ tm w w' own bs) (X':=sit C _ _ w' (qbj own s bs)) ⟨rfl,rfl,qaJ.refl _,fun _=>rfl⟩ ?_ (fun _ _ _=>rfl) ?_ hr
  ·rintro b ⟨hb1,hb2,hb3⟩ _;refine⟨⟨?_,hb2,fun s' hs'=>?_⟩,hb2,rfl⟩
   ·rcases hb1 with hb1|hb1
    ·exact hb1.1
    ·exact .inr (.inr (by omega))
   ·simp only[qbj]at hs';split at hs'
    ·exact hb3 hs'
    ·rcases hb1 with hb1|hb1
     ·exact hb1.2.2 s' hs'
     ·have:=(h.mine s' b hs').2;omega
  ·intro m hm hv;have hle:=hw m hm;have hv:(qj (qG σ ⟨s,true,av⟩) m.1).1=m.2:=hv;by_cases hms:m.1=s
   ·grind
   ·rw[qw _ _ hms]at hv;refine⟨hv,qay tm v hms,fun b hb _=>⟨?_,rfl⟩⟩;show b∈qbj own s bs m.1;simp only[qbj,if_neg hms];exact hb
 all_goals grind [qw]
theorem qaz.freeze {F:Nat→Prop}: {c:BC}→{cs:List Value}→{bs:List Nat}→qaz w F c cs bs→qaz w (fun b=>F b∨b∈bs) c.freeze cs []
 |.val _ _,_,_,h=>⟨rfl,h.2.keep fun b hb hs=>⟨.inl hb,hs,rfl⟩⟩
 |.own _ _ _,_,_,⟨v,h1,h2⟩=>by
  subst h1;have:=h2.rep.1;rw[qaN (h2.rep.2.2 rfl)]at this;exact⟨rfl,this⟩
 |.pair _ _,_,_,⟨c1,c2,b1,b2,h1,h2,h3,h4⟩=>by
  subst h2;exact⟨c1,c2,[],[],h1,rfl,h3.freeze.keep (fun b hb hs=>⟨hb.imp id fun h=>zab _ h,hs,rfl⟩) (fun b hb=>by cases hb),h4.freeze.keep (fun b hb hs=>⟨hb.imp id fun h=>zaa _ h,hs,rfl⟩) (fun b hb=>by cases hb)⟩
 |.hole _,_,_,h=>⟨rfl,h.2⟩
theorem qaB.freeze {F:Nat→Prop}: {c:List qoQ}→{cs:List Value}→{bs:List Nat}→qaB w F c cs bs→qaB w (fun b=>F b∨b∈bs) (c.map qoQ.freeze) cs []
 |[],_,_,h=>⟨h.1,rfl⟩
 |c::_,_,_,⟨v,r,b1,b2,h1,h2,h3,h4⟩=>by
  subst h2;refine⟨v,r,[],[],h1,rfl,?_,h4.freeze.keep (fun b hb hs=>⟨hb.imp id fun h=>zaa _ h,hs,rfl⟩) (fun b hb=>by cases hb)⟩;cases c with
  |val t x=>exact⟨rfl,h3.2.mono fun b hb _=>.inl hb⟩
  |own et e xs=>exact⟨rfl,(qO.rep h3).mono fun b hb _=>hb.imp id fun h=>zab _ h⟩
  |gone=>rfl
  |nz e xs=>exact⟨rfl,h3.2.1.mono fun b hb _=>.inl hb,h3.2.2⟩
theorem AV.ym:(a:AV)→a.freeze.mentions=a.mentions
 |.undef=>rfl
 |.val _ _=>rfl
 |.own _ _ _=>rfl
 |.agg _=>rfl
 |.box _=>rfl
 |.ref _ _=>rfl
 |.bref _ _ _ _=>rfl
 |.pbox _ _ _=>rfl
 |.pip _ _=>rfl
 |.prow _ _ _ _ _ _=>rfl
 |.osl _ _ _ _ _ _=>rfl
 |.view _ _ _=>rfl
 |.tup _=>rfl
 |.grd _ _ _ _=>rfl
 |.fn _ _=>rfl
 |.fnv _ _ _=>rfl
 |.amb _ _=>rfl
 |.nilr _ _=>rfl
 |.nz _ _=>rfl
 |.mp _ _ _=>rfl
 |.hv _ _=>rfl
 |.hbox _ _=>rfl
 |.hown _ _ _=>rfl
 |.heap _=>rfl
 |.hp _ _ _ _ _=>rfl
 |.htup _ _=>rfl
 |.hclo _ _ _=>rfl
 |.hfnv _ _ _ _=>rfl
 |.hls _ _ _ _=>rfl
 |.hifc _ _ _ _=>rfl
 |.parr _ _ _ _ _ _ _=>rfl
theorem AV.yo (a:AV) (h:a.freeze.isHeap=true):a.isHeap=true:=by
 cases a<;>first|exact h|cases h
theorem AV.yh {a a':AV}{n:BC}{fo:Option Nat}(h:a.swapRow n fo=some a'):a'.isHeap=false:=by
 unfold AV.swapRow at h;split at h
 ·split at h<;>first|(injection h with h;subst h;rfl)|cases h
 ·split at h
  ·obtain⟨c,_,rfl⟩:=zao.1 h;rfl
  ·cases h
 ·cases h
theorem AV.yj (a:AV):a.freeze.isHeap=false:=by cases a<;>rfl
theorem qfG (s off:Nat) (v:Option Nat):(qpq s off v).isHeap=false:=by cases v<;>rfl
theorem AV.yp {a:AV}(h:a.unowned=true):a.isHeap=false:=by cases a<;>first|rfl|cases h
theorem qS.freeze {X X':Sit}(hP:X'.P=X.P∧X'.pn=X.pn∧X'.gh=X.gh) (hw:X'.w=X.w) (hver:∀s,X'.ver s=X.ver s) (htm:∀s,X'.tm s=X.tm s) (hown:∀s b,b∈X.own s→X.tm s=ptr b 0→b∈X'.own s)
  {bs nb:List Nat}{v:Value}(hnd:bs.Nodup) (hnb:∀b,b∈nb↔b∈bs∧v=ptr b 0) (hn2:nb.Nodup) (hF:∀b,X.F b→X'.F b) (hF2:∀b∈bs,b∉nb→X'.F b) {a:AV}(h:qS X a v bs):qS X' a.freeze v nb:=by
 have same:bs=[]→a.freeze=a→qS X' a.freeze v nb:=fun hb ha=>by
  have hn:nb=[]:=by
   cases nb with
   |nil=>rfl
   |cons b r=>grind [zar]
  rw[ha,hn];rw[hb]at h;exact qS.keep ⟨hP.1,hP.2.1,hP.2.2▸qaJ.refl _,fun _=>hP.2.2⟩ (fun b hb hlt=>⟨hF b hb,by grind,by rw[hw]⟩) (fun b _ _=>by rw[hw]) (fun m _ hv=>⟨by grind,htm m.1,fun b hb hp=>⟨hown _ b hb hp,by rw[hw]⟩⟩) h
 have none_:(∀b,v≠ptr b 0)→nb=[]:=fun hv=>by
  cases nb with
  |nil=>rfl
  |cons b r=>grind [zar]
 cases a with
 |undef=>trivial
 |own et e xs=>
  have hn:=none_ (qi1 h);subst hn;have hr:q9 X.w _ (.slice e) xs _:=qO.rep h;exact⟨rfl,by rw[hw];exact hr.mono fun b hb _=>hb.elim (hF b) fun hb=>hF2 b hb (by simp)⟩
 |agg c=>
  obtain⟨cs,hcs,hb⟩:=h;have hn:=none_ (fun b hp=>by rw[hcs]at hp;cases hp);subst hn;exact⟨cs,hcs,by rw[hw];exact hb.freeze.keep (fun b hb hlt=>⟨hb.elim (hF b) fun hb=>hF2 b hb (by simp),hlt,rfl⟩) (fun _ hb=>by cases hb)⟩
 |tup c=>
  obtain⟨cs,hcs,hb⟩:=h;have hn:=none_ (fun b hp=>by rw[hcs]at hp;cases hp);subst hn;exact⟨cs,hcs,by rw[hw];exact hb.freeze.keep (fun b hb hlt=>⟨hb.elim (hF b) fun hb=>hF2 b hb (by simp),hlt,rfl⟩) (fun _ hb=>by cases hb)⟩
 |box c=>
  obtain⟨b0,cs,bs',te,h1,h2,h3,h4⟩:=h;subst h4;have hne:∀b,v=ptr b 0→b=b0:=fun b hp=>by grind [ptr]
  have hn:nb=[b0]:=by
   have h0:b0∈nb:=(hnb b0).2 ⟨zar,h1⟩;cases nb with
   |nil=>cases h0
   |cons b r=>
    have hb:=hne b ((hnb b).1 zar).2;subst hb;cases r with
    |nil=>rfl
    |cons b' r'=>
     grind [zar]
  subst hn;refine⟨b0,cs,[],te,h1,by grind,?_,rfl⟩;rw[hw];refine h3.freeze.keep (fun b hb hlt=>⟨hb.elim (hF b) fun hb=>hF2 b (zaj _ hb) ?_,hlt,rfl⟩) (fun _ hb=>by cases hb);grind
 |val t x=>exact same h.1 rfl
 |ref a b=>exact same h.1 rfl
 |bref a b c d=>exact same h.1 rfl
 |pbox a b c=>exact same h.1 rfl
 |pip a b=>exact same h.1 rfl
 |prow a b c d e f=>exact same h.1 rfl
 |osl a b c d e f=>exact same h.1 rfl
 |view a b c=>exact same h.1 rfl
 |grd a b c d=>exact same h.1 rfl
 |fn a b=>exact same h.1 rfl
 |fnv a b c=>exact same h.1 rfl
 |amb a b=>exact same h.1 rfl
 |nilr a b=>exact same h.1 rfl
 |nz a b=>exact same h.1 rfl
 |mp a b c=>trivial
 |hv a b=>exact same h.1 rfl
 |hbox a b=>trivial
 |hown a b c=>trivial
 |heap a=>trivial
 |hp a b c d e=>exact same h.1 rfl
 |htup a b=>exact same h.1 rfl
 |hclo a b c=>exact same h.1 rfl
 |hfnv a b c d=>exact same h.1 rfl
 |hls a b c d=>exact same h.1 rfl
 |hifc a b c d=>exact same h.1 rfl
 |parr a b c d e f g=>exact same h.1 rfl
open Classical in
theorem qK.freeze (h:qK C σ tm w own) (s:Nat):∃own',qK C (qG σ ⟨s,false,(qj σ s).2.freeze⟩) tm w own'∧(∀s',s'≠s→own' s'=own s')∧(∀b∈own' s,b∈own s)∧
  (∀b,FW (sit C σ tm w own) [s] b→C.free w own' b):=by
 by_cases hs:s<σ.length;case neg=>
  refine⟨own,?_,fun _ _=>rfl,fun _ hb=>hb,?_⟩
  ·grind [List.set_eq_of_length_le,qG]
  ·rintro b (hb|⟨s',hs',hb,_⟩)
   ·exact hb
   ·simp at hs';subst hs';have hb:b∈own s':=hb;rw[h.outside s' (by omega)]at hb;cases hb
 have hat:=h.rep s hs;have eS:qj (qG σ ⟨s,false,(qj σ s).2.freeze⟩) s=((qj σ s).1,(qj σ s).2.freeze):=qD σ ⟨s,false,_⟩ hs;have eV:∀s',(qj (qG σ ⟨s,false,(qj σ s).2.freeze⟩) s').1=(qj σ s').1:=fun s'=>by
  grind [qw]
 have eM:∀s',(qj (qG σ ⟨s,false,(qj σ s).2.freeze⟩) s').2.mentions=(qj σ s').2.mentions:=fun s'=>by
  grind [AV.ym,qw]
 obtain⟨nb,hnb,hnd⟩:∃nb:List Nat,(∀b,b∈nb↔b∈own s∧tm.getD s undef=ptr b 0)∧nb.Nodup:=
  ⟨(own s).filter fun b=>decide (tm.getD s undef=ptr b 0),fun b=>by simp,(h.nodup s).filter _⟩
 have ownSub:∀s' b,b∈qbj own s nb s'→b∈own s':=fun s' b hb=>by
  grind [qbj]
 have freeMono:∀b,C.free w own b→C.free w (qbj own s nb) b:=fun b hb=>⟨hb.1,hb.2.1,fun s' hs'=>hb.2.2 s' (ownSub s' b hs')⟩;have freeNew:∀b∈own s,b∉nb→C.free w (qbj own s nb) b:=fun b hb hnb=>⟨.inr (h.mine s b hb).1,(h.mine s b hb).2,fun s' hs'=>by
  simp only[qbj]at hs';split at hs'
  ·exact hnb hs'
  ·rename_i hne;exact hne (h.apart s' s b hs' hb)⟩
 have qmK:∀s' b,b∈own s'→tm.getD s' undef=ptr b 0→b∈qbj own s nb s':=fun s' b hb hp=>by
  grind [qbj]
 refine⟨qbj own s nb,⟨by rw[qM];exact h.size,h.ghs,h.kept,fun s' b hb=>h.mine s' b (ownSub s' b hb),fun s'=>?_,fun s' s'' b hb hb'=>h.apart s' s'' b (ownSub _ _ hb) (ownSub _ _ hb'),fun s' hs'=>?_,?_,?_,fun s' hh=>?_⟩,fun s' hs'=>by simp[qbj,hs'],fun b hb=>ownSub s b hb,?_⟩
 ·simp only[qbj];split
  ·exact hnd
  ·exact h.nodup s'
 ·rw[qM]at hs';simp only[qbj];split
  ·omega
  ·exact h.outside s' hs'
 ·intro s' hs';rw[qM]at hs';by_cases he:s'=s
  ·subst he;rw[eS];simp only[qbj,if_true];exact qS.freeze (X:=sit C σ tm w own) (X':=sit C (qG σ ⟨s',false,(qj σ s').2.freeze⟩) tm w (qbj own s' nb)) ⟨rfl,rfl,rfl⟩ rfl eV (fun _=>rfl) qmK (h.nodup s') hnb hnd freeMono freeNew hat
  ·rw[qw _ _ he];have hr:=h.rep s' hs';have e3:qbj own s nb s'=own s':=by simp[qbj,he]
   rw[e3];exact qS.keep (X:=sit C σ tm w own) (X':=sit C (qG σ ⟨s,false,(qj σ s).2.freeze⟩) tm w (qbj own s nb)) ⟨rfl,rfl,qaJ.refl _,fun _=>rfl⟩ (fun b hb hlt=>⟨freeMono b hb,hlt,rfl⟩) (fun _ _ _=>rfl) (fun m _ hv=>⟨(eV m.1).symm.trans hv,rfl,fun b hb hp=>⟨qmK m.1 b hb hp,rfl⟩⟩) hr
 ·intro s' m hm;rw[eM]at hm;rw[eV];exact h.wf s' m hm
 ·by_cases he:s'=s
  ·subst he;rw[eS]at hh;exact h.hat s' (AV.yo _ hh)
  ·rw[qw _ _ he]at hh;exact h.hat s' hh
 ·rintro b (hb|⟨s',hs',hb,hp⟩)
  ·exact freeMono b hb
  ·simp at hs';subst hs';exact freeNew b hb fun hb'=>hp ((hnb b).1 hb').2
open Classical in
theorem qK.weaken (h:qK C σ tm w own) {s:Nat}(hs:s<σ.length) {a':AV}(hm:∀m∈a'.mentions,m∈(qj σ s).2.mentions) {nb:List Nat}(hsub:∀b∈nb,b∈own s) (hnd:nb.Nodup) (hkeep:∀b∈own s,tm.getD s undef=ptr b 0→b∈nb)
  (hrep:∀X':Sit,X'.P=C.P→X'.pn=C.pn→X'.w=w→(∀s',X'.ver s'=(qj σ s').1)→(∀s',X'.tm s'=tm.getD s' undef)→(∀s' b,b∈own s'→tm.getD s' undef=ptr b 0→b∈X'.own s')→(∀b,C.free w own b→X'.F b)→(∀b∈own s,b∉nb→X'.F b)→qS X' a' (tm.getD s undef) nb) (hih:a'.isHeap=false:=by rfl):
  qK C (qG σ ⟨s,false,a'⟩) tm w (qbj own s nb):=by
 have eS:qj (qG σ ⟨s,false,a'⟩) s=((qj σ s).1,a'):=qD σ ⟨s,false,_⟩ hs;have eV:∀s',(qj (qG σ ⟨s,false,a'⟩) s').1=(qj σ s').1:=fun s'=>by
  grind [qw]
 have ownSub:∀s' b,b∈qbj own s nb s'→b∈own s':=fun s' b hb=>by
  grind [qbj]
 have freeMono:∀b,C.free w own b→C.free w (qbj own s nb) b:=fun b hb=>⟨hb.1,hb.2.1,fun s' hs'=>hb.2.2 s' (ownSub s' b hs')⟩;have freeNew:∀b∈own s,b∉nb→C.free w (qbj own s nb) b:=fun b hb hnb=>⟨.inr (h.mine s b hb).1,(h.mine s b hb).2,fun s' hs'=>by
  simp only[qbj]at hs';split at hs'
  ·exact hnb hs'
  ·rename_i hne;exact hne (h.apart s' s b hs' hb)⟩
 have qmK:∀s' b,b∈own s'→tm.getD s' undef=ptr b 0→b∈qbj own s nb s':=fun s' b hb hp=>by
  grind [qbj]
 refine⟨by rw[qM];exact h.size,h.ghs,h.kept,fun s' b hb=>h.mine s' b (ownSub s' b hb),fun s'=>?_,fun s' s'' b hb hb'=>h.apart s' s'' b (ownSub _ _ hb) (ownSub _ _ hb'),fun s' hs'=>?_,?_,?_,fun s' hh=>?_⟩
 ·simp only[qbj];split
  ·exact hnd
  ·exact h.nodup s'
 ·rw[qM]at hs';simp only[qbj];split
  ·omega
  ·exact h.outside s' hs'
 ·intro s' hs';rw[qM]at hs';by_cases he:s'=s
  ·grind [qbj]
  ·rw[qw _ _ he];have hr:=h.rep s' hs';have e3:qbj own s nb s'=own s':=by simp[qbj,he]
   rw[e3];exact qS.keep (X:=sit C σ tm w own) (X':=sit C (qG σ ⟨s,false,a'⟩) tm w (qbj own s nb)) ⟨rfl,rfl,qaJ.refl _,fun _=>rfl⟩ (fun b hb hlt=>⟨freeMono b hb,hlt,rfl⟩) (fun _ _ _=>rfl) (fun m _ hv=>⟨(eV m.1).symm.trans hv,rfl,fun b hb hp=>⟨qmK m.1 b hb hp,rfl⟩⟩) hr
 ·intro s' m hm';by_cases he:s'=s
  ·subst he;rw[eS]at hm';rw[eV];exact h.wf s' m (hm m hm')
  ·rw[qw _ _ he]at hm';rw[eV];exact h.wf s' m hm'
 ·by_cases he:s'=s
  ·grind
  ·rw[qw _ _ he]at hh;exact h.hat s' hh
theorem qty {l1 l2:List Nat}(h:l1.Sublist l2) (hn:l2.Nodup):l2.Perm (l1++l2.filter (fun k=>decide (k∉l1))):=by
 grind
theorem qaz.fit {w:World}{F:Nat→Prop}:(b:qcb)→{c:BC}→{cs:List Value}→{bs:List Nat}→{x:b.den}→qaz w F c cs bs→bs.Nodup→c.fit b=some x→∃b1:List Nat,b1.Sublist bs∧∀F':Nat→Prop,(∀k,F k→F' k)→(∀k∈bs,k∉b1→F' k)→qaz w F' (b.un x) cs b1
 |.val t,c,cs,bs,x,h,hn,hf=>by
  simp only[BC.fit]at hf;split at hf;case isFalse=>cases hf
  rename_i hsz;split at hf;case h_2=>cases hf
  rename_i r hg;injection hf with hf;subst hf;obtain⟨g1,g2,_⟩:=h.get (y:=r.1) (f:=r.2) hg;have hl:=h.length;rw[zaN,zan (by omega)]at g2;refine⟨[],List.nil_sublist _,fun F' h1 h2=>⟨rfl,g2.keep fun k hk hlt=>⟨?_,hlt,rfl⟩⟩⟩;grind
 |.own et e,c,cs,bs,x,h,hn,hf=>by
  unfold BC.fit at hf;split at hf;case h_2=>cases hf
  rename_i et' e' xs;split at hf;case isFalse=>cases hf
  rename_i he;subst he;obtain⟨e1,e2⟩:=Ty.yd hf;injection e1 with e1;subst e1;have e2:xs=x:=e2;subst e2;exact⟨bs,zaU.refl _,fun F' h1 h2=>qaz.keep (fun k hk hlt=>⟨h1 k hk,hlt,rfl⟩) (fun _ _ _=>rfl) h⟩
 |.pair a b,c,cs,bs,x,h,hn,hf=>by
  unfold BC.fit at hf;split at hf
  ·rename_i c1 c2;split at hf;case h_2=>cases hf
   rename_i x1 x2 hf1 hf2;injection hf with hf;subst hf;obtain⟨d1,d2,e1,e2,rfl,rfl,k1,k2⟩:=h;obtain⟨n1,n2,n3⟩:=zai.1 hn;obtain⟨p1,q1,r1⟩:=k1.fit a n1 hf1;obtain⟨p2,q2,r2⟩:=k2.fit b n2 hf2;refine⟨p1++p2,q1.append q2,fun F' h1 h2=>⟨d1,d2,p1,p2,rfl,rfl,r1 F' h1 fun k hk hkn=>h2 k (zab _ hk) fun hm=>?_,r2 F' h1 fun k hk hkn=>h2 k (zaa _ hk) fun hm=>?_⟩⟩
   ·rcases zaf.1 hm with hm|hm
    ·exact hkn hm
    ·exact n3 k hk k (q2.subset hm) rfl
   ·rcases zaf.1 hm with hm|hm
    ·exact n3 k (q1.subset hm) k hk rfl
    ·exact hkn hm
  ·rename_i ta tb y;split at hf;case h_2=>cases hf
   rename_i x1 x2 hf1 hf2;injection hf with hf;subst hf;obtain⟨h0,d1,d2,rfl,k1,k2⟩:=h;subst h0;obtain⟨p1,q1,r1⟩:=qaz.fit (F:=F) a (c:= .val ta y.1) (bs:=[]) ⟨rfl,k1⟩ zaA hf1;obtain⟨p2,q2,r2⟩:=qaz.fit (F:=F) b (c:= .val tb y.2) (bs:=[]) ⟨rfl,k2⟩ zaA hf2;have:=List.sublist_nil.1 q1;subst this;have:=List.sublist_nil.1 q2;subst this;exact⟨[],zaU.refl _,fun F' h1 h2=>⟨d1,d2,[],[],rfl,rfl,r1 F' h1 fun k hk=>(by cases hk),r2 F' h1 fun k hk=>(by cases hk)⟩⟩
  ·cases hf
 |.hole n,_,_,_,_,_,_,hf=>by cases hf
theorem qK.refit (h:qK C σ tm w own) (sh:qex) (s:Nat):∃own',qK C (qG σ ⟨s,false,(qj σ s).2.refit sh⟩) tm w own':=by
 have fz:∃own',qK C (qG σ ⟨s,false,(qj σ s).2.freeze⟩) tm w own':=by
  obtain⟨own',h1,_⟩:=h.freeze s;grind
 unfold AV.refit;split
 ·rename_i b c heq;split
  ·rename_i x hx;have hs:s<σ.length:=by
    grind [qj]
   have hat:=h.rep s hs;rw[heq]at hat;obtain⟨b0,cs,bs',te,h1,h2,h3,h4⟩:=hat;have hnd:=h.nodup s;rw[h4]at hnd;have hnd:=zaJ.1 hnd;obtain⟨b1,q1,q2⟩:=h3.fit b hnd.2 hx;refine⟨_,h.weaken hs (nb:=b0::b1) (fun m hm=>by cases hm) (fun k hk=>?_) (zaJ.2 ⟨fun hm=>hnd.1 (q1.subset hm),hnd.2.sublist q1⟩) (fun k hk hp=>?_) ?_⟩
   ·grind
   ·grind [ptr]
   ·intro X' hP hpn hw hver htm hown hF hF2;refine⟨b0,cs,b1,te,h1,by grind,?_,rfl⟩;grind
  grind
 ·exact fz
end
end Go.Vi
