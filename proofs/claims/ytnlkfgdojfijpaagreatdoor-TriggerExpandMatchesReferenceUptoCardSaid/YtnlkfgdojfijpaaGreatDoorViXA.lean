import GoSem.Claims
import Derived.Control
import Derived.Below
import Derived.Laws.AppendOwn
import Derived.Laws.OwnMore
import Derived.Laws.Slices
import Derived.WalkKit
import Derived.Laws.CopyRow
import Derived.Laws.StructEq
import Derived.Laws.Strings
set_option linter.unusedVariables false
set_option linter.unusedSimpArgs false
set_option linter.unnecessarySimpa false
set_option linter.unusedSectionVars false
namespace Go.Vi
noncomputable def q5 {α:Type} (x:α): { y:α // y=x } :=Classical.choice ⟨⟨x,rfl⟩⟩
noncomputable def qax (k:IntKind) (x y:Int):Int:=(q5 (α:=IntKind→Int→Int→Int) fun k x y=>k.wrap (x+y)).1 k x y
theorem qj2 (k:IntKind) (x y:Int):qax k x y=(k.wrap (x+y)):=by unfold qax; rw [(q5 _).2]
noncomputable def qbn (k:IntKind) (x y:Int):Int:=(q5 (α:=IntKind→Int→Int→Int) fun k x y=>k.wrap (x - y)).1 k x y
theorem ql3 (k:IntKind) (x y:Int):qbn k x y=(k.wrap (x - y)):=by unfold qbn; rw [(q5 _).2]
noncomputable def qvY (k:IntKind) (x y:Int):Int:=(q5 (α:=IntKind→Int→Int→Int) fun k x y=>k.wrap (x * y)).1 k x y
theorem qlP (k:IntKind) (x y:Int):qvY k x y=(k.wrap (x * y)):=by unfold qvY; rw [(q5 _).2]
noncomputable def iquo (k:IntKind) (x y:Int):Int:=(q5 (α:=IntKind→Int→Int→Int) fun k x y=>k.wrap (x.tdiv y)).1 k x y
theorem qrU (k:IntKind) (x y:Int):iquo k x y=(k.wrap (x.tdiv y)):=by unfold iquo; rw [(q5 _).2]
noncomputable def irem (x y:Int):Int:=(q5 (α:=Int→Int→Int) fun x y=>x.tmod y).1 x y
theorem qrK (x y:Int):irem x y=(x.tmod y):=by unfold irem; rw [(q5 _).2]
noncomputable def ineg (k:IntKind) (x:Int):Int:=(q5 (α:=IntKind→Int→Int) fun k x=>k.wrap (0 - x)).1 k x
theorem qrB (k:IntKind) (x:Int):ineg k x=(k.wrap (0 - x)):=by unfold ineg; rw [(q5 _).2]
noncomputable def qjn (k:IntKind) (x:Int):Int:=(q5 (α:=IntKind→Int→Int) fun k x=>k.wrap x).1 k x
theorem qkb (k:IntKind) (x:Int):qjn k x=(k.wrap x):=by unfold qjn; rw [(q5 _).2]
noncomputable def band (k:IntKind) (x y:Int):Int:=(q5 (α:=IntKind→Int→Int→Int) fun k x y=>k.wrap ((BitVec.ofInt k.bits x&&& BitVec.ofInt k.bits y).toNat:Int)).1 k x y
theorem qr4 (k:IntKind) (x y:Int):band k x y=(k.wrap ((BitVec.ofInt k.bits x&&& BitVec.ofInt k.bits y).toNat:Int)):=by unfold band; rw [(q5 _).2]
noncomputable def bor (k:IntKind) (x y:Int):Int:=(q5 (α:=IntKind→Int→Int→Int) fun k x y=>k.wrap ((BitVec.ofInt k.bits x|||BitVec.ofInt k.bits y).toNat:Int)).1 k x y
theorem qui (k:IntKind) (x y:Int):bor k x y=(k.wrap ((BitVec.ofInt k.bits x|||BitVec.ofInt k.bits y).toNat:Int)):=by unfold bor; rw [(q5 _).2]
noncomputable def bxor (k:IntKind) (x y:Int):Int:=(q5 (α:=IntKind→Int→Int→Int) fun k x y=>k.wrap ((BitVec.ofInt k.bits x ^^^ BitVec.ofInt k.bits y).toNat:Int)).1 k x y
theorem qlX (k:IntKind) (x y:Int):bxor k x y=(k.wrap ((BitVec.ofInt k.bits x ^^^ BitVec.ofInt k.bits y).toNat:Int)):=by unfold bxor; rw [(q5 _).2]
noncomputable def qoH (k:IntKind) (x y:Int):Int:=(q5 (α:=IntKind→Int→Int→Int) fun k x y=>k.wrap ((BitVec.ofInt k.bits x&&& ~~~ BitVec.ofInt k.bits y).toNat:Int)).1 k x y
theorem qnb (k:IntKind) (x y:Int):qoH k x y=(k.wrap ((BitVec.ofInt k.bits x&&& ~~~ BitVec.ofInt k.bits y).toNat:Int)):=by unfold qoH; rw [(q5 _).2]
noncomputable def shlI (k:IntKind) (x y:Int):Int:=(q5 (α:=IntKind→Int→Int→Int) fun k x y=>k.wrap (x * 2^ (min y.toNat k.bits))).1 k x y
theorem qrI (k:IntKind) (x y:Int):shlI k x y=(k.wrap (x * 2^ (min y.toNat k.bits))):=by unfold shlI; rw [(q5 _).2]
noncomputable def quQ (k:IntKind) (x y:Int):Int:=(q5 (α:=IntKind→Int→Int→Int) fun k x y=>x.fdiv (2^ (min y.toNat k.bits))).1 k x y
theorem qoY (k:IntKind) (x y:Int):quQ k x y=(x.fdiv (2^ (min y.toNat k.bits))):=by unfold quQ; rw [(q5 _).2]
noncomputable def eqI (x y:Int):Bool:=(q5 (α:=Int→Int→Bool) fun x y=>x == y).1 x y
theorem qmB (x y:Int):eqI x y=(x == y):=by unfold eqI; rw [(q5 _).2]
noncomputable def neI (x y:Int):Bool:=(q5 (α:=Int→Int→Bool) fun x y=>x != y).1 x y
theorem qmL (x y:Int):neI x y=(x != y):=by unfold neI; rw [(q5 _).2]
noncomputable def ltI (x y:Int):Bool:=(q5 (α:=Int→Int→Bool) fun x y=>decide (x<y)).1 x y
theorem qbr (x y:Int):ltI x y=(decide (x<y)):=by unfold ltI; rw [(q5 _).2]
noncomputable def leI (x y:Int):Bool:=(q5 (α:=Int→Int→Bool) fun x y=>decide (x≤y)).1 x y
theorem qcp (x y:Int):leI x y=(decide (x≤y)):=by unfold leI; rw [(q5 _).2]
noncomputable def qwy (x y:Int):Int:=(q5 (α:=Int→Int→Int) fun x y=>if y > x then y else x).1 x y
theorem qoX (x y:Int):qwy x y=((if y > x then y else x)):=by unfold qwy; rw [(q5 _).2]
noncomputable def minI (x y:Int):Int:=(q5 (α:=Int→Int→Int) fun x y=>if y<x then y else x).1 x y
theorem qlT (x y:Int):minI x y=((if y<x then y else x)):=by unfold minI; rw [(q5 _).2]
noncomputable def eqB (x y:Bool):Bool:=(q5 (α:=Bool→Bool→Bool) fun x y=>x == y).1 x y
theorem qqC (x y:Bool):eqB x y=(x == y):=by unfold eqB; rw [(q5 _).2]
noncomputable def eqS (x y:List UInt8):Bool:=(q5 (α:=(List UInt8)→(List UInt8)→Bool) fun x y=>x == y).1 x y
theorem qqx (x y:List UInt8):eqS x y=(x == y):=by unfold eqS; rw [(q5 _).2]
noncomputable def qgf (x y:List UInt8):Bool:=(q5 (α:=(List UInt8)→(List UInt8)→Bool) fun x y=>Op.bytesLess x y).1 x y
theorem qqg (x y:List UInt8):qgf x y=(Op.bytesLess x y):=by unfold qgf; rw [(q5 _).2]
noncomputable def qr {α:Type} (xs:List α):Int:=(q5 (α:=(List α)→Int) fun xs=>(xs.length:Int)).1 xs
theorem qt {α:Type} (xs:List α):qr xs=((xs.length:Int)):=by unfold qr; rw [(q5 _).2]
noncomputable def qk {α:Type} (xs:List α) (i:Int) (d:α):α:=(q5 (α:=(List α)→Int→α→α) fun xs i d=>xs.getD i.toNat d).1 xs i d
theorem qdu {α:Type} (xs:List α) (i:Int) (d:α):qk xs i d=(xs.getD i.toNat d):=by unfold qk; rw [(q5 _).2]
noncomputable def qgW {α:Type} (xs:List α) (i:Int) (x:α):List α:=(q5 (α:=(List α)→Int→α→(List α)) fun xs i x=>xs.set i.toNat x).1 xs i x
theorem qbm {α:Type} (xs:List α) (i:Int) (x:α):qgW xs i x=(xs.set i.toNat x):=by unfold qgW; rw [(q5 _).2]
noncomputable def qem {α:Type} (xs ys:List α):List α:=(q5 (α:=(List α)→(List α)→(List α)) fun xs ys=>xs++ys).1 xs ys
theorem qbv {α:Type} (xs ys:List α):qem xs ys=(xs++ys):=by unfold qem; rw [(q5 _).2]
noncomputable def qaB {α:Type} (xs:List α) (lo hi:Int):List α:=(q5 (α:=(List α)→Int→Int→(List α)) fun xs lo hi=>(xs.take hi.toNat).drop lo.toNat).1 xs lo hi
theorem qcF {α:Type} (xs:List α) (lo hi:Int):qaB xs lo hi=((xs.take hi.toNat).drop lo.toNat):=by unfold qaB; rw [(q5 _).2]
noncomputable def qrn {α:Type} (n:Int) (x:α):List α:=(q5 (α:=Int→α→(List α)) fun n x=>List.replicate n.toNat x).1 n x
theorem qf4 {α:Type} (n:Int) (x:α):qrn n x=(List.replicate n.toNat x):=by unfold qrn; rw [(q5 _).2]
noncomputable def qc6 (b:UInt8):Int:=(q5 (α:=UInt8→Int) fun b=>(b.toNat:Int)).1 b
theorem qg4 (b:UInt8):qc6 b=((b.toNat:Int)):=by unfold qc6; rw [(q5 _).2]
noncomputable def qfi (xs:List UInt8):List Int:=(q5 (α:=(List UInt8)→(List Int)) fun xs=>xs.map qc6).1 xs
theorem qdN (xs:List UInt8):qfi xs=(xs.map qc6):=by unfold qfi; rw [(q5 _).2]
noncomputable def qu0 (xs:List Int):List UInt8:=(q5 (α:=(List Int)→(List UInt8)) fun xs=>xs.map fun n=>UInt8.ofNat n.toNat).1 xs
theorem qmX (xs:List Int):qu0 xs=(xs.map fun n=>UInt8.ofNat n.toNat):=by unfold qu0; rw [(q5 _).2]
noncomputable def inB (i n:Int):Bool:=(q5 (α:=Int→Int→Bool) fun i n=>decide (0≤i)&&decide (i<n)).1 i n
theorem qdq (i n:Int):inB i n=(decide (0≤i)&&decide (i<n)):=by unfold inB; rw [(q5 _).2]
noncomputable def inS (lo hi n:Int):Bool:=(q5 (α:=Int→Int→Int→Bool) fun lo hi n=>decide (0≤lo)&&(decide (lo≤hi)&&decide (hi≤n))).1 lo hi n
theorem qk9 (lo hi n:Int):inS lo hi n=(decide (0≤lo)&&(decide (lo≤hi)&&decide (hi≤n))):=by unfold inS; rw [(q5 _).2]
noncomputable def qwf (n:Int) (b:Nat):Bool:=(q5 (α:=Int→Nat→Bool) fun n b=>decide (0≤n)&&decide (n * (b:Int)≤140737488355328)).1 n b
theorem qon (n:Int) (b:Nat):qwf n b=(decide (0≤n)&&decide (n * (b:Int)≤140737488355328)):=by unfold qwf; rw [(q5 _).2]
noncomputable def qcq (n m:Int) (b:Nat):Bool:=(q5 (α:=Int→Int→Nat→Bool) fun n m b=>decide ((n+m) * (b:Int)≤140737488355328)).1 n m b
theorem qki (n m:Int) (b:Nat):qcq n m b=(decide ((n+m) * (b:Int)≤140737488355328)):=by unfold qcq; rw [(q5 _).2]
noncomputable def qB {α:Type} (x:Option α):Bool:=(q5 (α:=(Option α)→Bool) fun x=>x.isSome).1 x
theorem qgF {α:Type} (x:Option α):qB x=(x.isSome):=by unfold qB; rw [(q5 _).2]
noncomputable def qx {α:Type} (x:Option α) (d:α):α:=(q5 (α:=(Option α)→α→α) fun x d=>x.getD d).1 x d
theorem ql9 {α:Type} (x:Option α) (d:α):qx x d=(x.getD d):=by unfold qx; rw [(q5 _).2]
noncomputable def q7 {α β:Type} (x:α) (f:α→β):β:=(q5 (α:=α→(α→β)→β) fun x f=>f x).1 x f
theorem qK {α β:Type} (x:α) (f:α→β):q7 x f=f x:=by unfold q7; rw [(q5 _).2]
noncomputable def qkf {α β:Type} (f:α→β) (x:Option α):Option β:=(q5 (α:=(α→β)→(Option α)→Option β) fun f x=>x.map f).1 f x
theorem qd2 {α β:Type} (f:α→β) (x:Option α):qkf f x=(x.map f):=by unfold qkf; rw [(q5 _).2]
noncomputable def qsx {α:Type} (x y:Option α):Option α:=(q5 (α:=(Option α)→(Option α)→(Option α)) fun x y=>open Classical in if x=y then x else none).1 x y
open Classical in
theorem qpY {α:Type} (x y:Option α):qsx x y=(if x=y then x else none):=by unfold qsx; rw [(q5 _).2]
open Classical in
noncomputable def qh0 {α β:Type} (xs:List (α×β)) (k:α):Nat:=xs.findIdx fun p=>decide (p.1=k)
def qtY {α β:Type} (xs:List (α×β)) (i:Nat) (v:β):List (α×β):=match xs[i]? with
 |some p=>xs.set i (p.1,v)
 |none=>xs
noncomputable def qwm {α β:Type} (xs:List (α×β)) (k:α):Bool:=(q5 (α:=List (α×β)→α→Bool) fun xs k=>decide (qh0 xs k<xs.length)).1 xs k
theorem ql7 {α β:Type} (xs:List (α×β)) (k:α):qwm xs k=decide (qh0 xs k<xs.length):=by unfold qwm; rw [(q5 _).2]
noncomputable def qf7 {α β:Type} (xs:List (α×β)) (k:α) (d:β):β:=(q5 (α:=List (α×β)→α→β→β) fun xs k d=>((xs[qh0 xs k]?).map (·.2)).getD d).1 xs k d
theorem qj1 {α β:Type} (xs:List (α×β)) (k:α) (d:β):qf7 xs k d=((xs[qh0 xs k]?).map (·.2)).getD d:=by unfold qf7; rw [(q5 _).2]
noncomputable def qlW {α β:Type} (xs:List (α×β)) (k:α) (v:β):List (α×β):=(q5 (α:=List (α×β)→α→β→List (α×β)) fun xs k v=>if qh0 xs k<xs.length then qtY xs (qh0 xs k) v else xs++[(k,v)]).1 xs k v
theorem qj8 {α β:Type} (xs:List (α×β)) (k:α) (v:β):qlW xs k v=if qh0 xs k<xs.length then qtY xs (qh0 xs k) v else xs++[(k,v)]:=by unfold qlW; rw [(q5 _).2]
def qad {S R:Type} (n:Nat) (step:(S→Option R)→S→Option R):S→Option R:=
 match n with
 |0=>fun _=>none
 |n+1=>step (qad n step)
end Go.Vi
namespace Go.Vi
noncomputable section
inductive Ty where
 |int (k:IntKind)
 |bool
 |str
 |unit
 |pair (a b:Ty)
 |slice (e:Ty)
 |arr (n:Nat) (e:Ty)
 |err
 |opt (e:Ty)
 |map (k v:Ty)
 deriving DecidableEq,Inhabited
@[reducible] def Ty.den:Ty→Type
 | .int _=>Int
 | .bool=>Bool
 | .str=>List UInt8
 | .unit=>Unit
 | .pair a b=>a.den×b.den
 | .slice e=>List e.den
 | .arr _ e=>List e.den
 | .err=>Bool
 | .opt e=>Option e.den
 | .map k v=>List (k.den×v.den)
def Ty.dflt:(t:Ty)→t.den
 | .int _=>(0:Int)
 | .bool=>false
 | .str=>([]:List UInt8)
 | .unit=>()
 | .pair a b=>(a.dflt,b.dflt)
 | .slice _=>[]
 | .arr n e=>List.replicate n e.dflt
 | .err=>true
 | .opt _=>none
 | .map _ _=>[]
def Ty.size:Ty→Nat
 | .unit=>0
 | .pair a b=>a.size+b.size
 | .arr n e=>n * e.size
 |_=>1
def Ty.agg:Ty→Bool
 | .unit=>true
 | .pair _ _=>true
 | .arr _ _=>true
 |_=>false
def Ty.flat:Ty→Bool
 | .pair a b=>a.flat&&b.flat
 | .slice _=>false
 | .opt _=>false
 | .map _ _=>false
 | .arr _ e=>e.flat
 |_=>true
def Ty.as {t:Ty} (u:Ty) (x:t.den):Option u.den:=if h:t=u then some (h ▸ x) else none
def Ty.whole {t:Ty} (u:Ty) (x:t.den) (off:Nat):Option u.den:=if off=0 then Ty.as u x else none
def Ty.sub:(t:Ty)→t.den→Nat→(u:Ty)→Option u.den
 | .pair a b,x,off,u=>match Ty.whole (t:= .pair a b) u x off with
  |some y=>some y
  |none=>if off<a.size then a.sub x.1 off u else b.sub x.2 (off - a.size) u
 | .arr n e,x,off,u=>match Ty.whole (t:= .arr n e) u x off with
  |some y=>some y
  |none=>if off<n * e.size then e.sub (qk x (Int.ofNat (off / e.size)) e.dflt) (off % e.size) u else none
 | .int k,x,off,u=>Ty.whole (t:= .int k) u x off
 | .bool,x,off,u=>Ty.whole (t:= .bool) u x off
 | .str,x,off,u=>Ty.whole (t:= .str) u x off
 | .unit,x,off,u=>Ty.whole (t:= .unit) u x off
 | .slice e,x,off,u=>Ty.whole (t:= .slice e) u x off
 | .err,x,off,u=>Ty.whole (t:= .err) u x off
 | .opt e,x,off,u=>Ty.whole (t:= .opt e) u x off
 | .map k v,x,off,u=>Ty.whole (t:= .map k v) u x off
def Ty.upd:(t:Ty)→t.den→Nat→(u:Ty)→u.den→Option t.den
 | .pair a b,x,off,u,y=>match Ty.whole (t:=u) (.pair a b) y off with
  |some z=>some z
  |none=>if off<a.size then (match a.upd x.1 off u y with
    |some z=>some (z,x.2)
    |none=>none) else (match b.upd x.2 (off - a.size) u y with
    |some z=>some (x.1,z)
    |none=>none)
 | .arr n e,x,off,u,y=>match Ty.whole (t:=u) (.arr n e) y off with
  |some z=>some z
  |none=>if off<n * e.size then (match e.upd (qk x (Int.ofNat (off / e.size)) e.dflt) (off % e.size) u y with
    |some z=>some (qgW x (Int.ofNat (off / e.size)) z)
    |none=>none) else none
 | .int k,_,off,u,y=>Ty.whole (t:=u) (.int k) y off
 | .bool,_,off,u,y=>Ty.whole (t:=u) .bool y off
 | .str,_,off,u,y=>Ty.whole (t:=u) .str y off
 | .unit,_,off,u,y=>Ty.whole (t:=u) .unit y off
 | .slice e,_,off,u,y=>Ty.whole (t:=u) (.slice e) y off
 | .err,_,off,u,y=>Ty.whole (t:=u) .err y off
 | .opt e,_,off,u,y=>Ty.whole (t:=u) (.opt e) y off
 | .map k v,_,off,u,y=>Ty.whole (t:=u) (.map k v) y off
def Ty.eqb:(t:Ty)→t.den→t.den→Bool
 | .int _,(x:Int),(y:Int)=>eqI x y
 | .bool,(x:Bool),(y:Bool)=>eqB x y
 | .str,(x:List UInt8),(y:List UInt8)=>eqS x y
 | .pair a .unit,x,y=>a.eqb x.1 y.1
 | .pair a b,x,y=>a.eqb x.1 y.1&&b.eqb x.2 y.2
 |_,_,_=>true
def Ty.comparable:Ty→Bool
 | .int _=>true
 | .bool=>true
 | .str=>true
 | .unit=>true
 | .pair a b=>a.comparable&&b.comparable
 |_=>false
inductive BC where
 |val (t:Ty) (x:t.den)
 |own (et:Nat) (e:Ty) (xs:List e.den)
 |pair (a b:BC)
 |hole (n:Nat)
def BC.size:BC→Nat
 | .val t _=>t.size
 | .own _ _ _=>1
 | .pair a b=>a.size+b.size
 | .hole n=>n
def BC.freeze:BC→BC
 | .own _ e xs=> .val (.slice e) xs
 | .pair a b=> .pair a.freeze b.freeze
 |c=>c
def BC.get:BC→Nat→(u:Ty)→Option (u.den×Bool)
 | .val t x,off,u=>(t.sub x off u).map fun y=>(y,false)
 | .own _ e xs,off,u=>if off=0 then (Ty.as (t:= .slice e) u xs).map fun y=>(y,true) else none
 | .pair a b,off,u=>
  match off,u with
  |0,.pair ua ub=>if a.size=ua.size then (match a.get 0 ua,b.get 0 ub with
    |some (x,f),some (y,g)=>some ((x,y),f||g)
    |_,_=>none) else a.get 0 (.pair ua ub)
  |off,u=>if off<a.size then a.get off u else b.get (off - a.size) u
 | .hole _,_,_=>none
def Ty.isPair:Ty→Bool
 | .pair _ _=>true
 |_=>false
def BC.isPair:BC→Bool
 | .pair _ _=>true
 | .val t _=>t.isPair
 |_=>false
def BC.putVal:(t:Ty)→t.den→Nat→BC→Option BC
 | .pair a b,x,off,new=>
  if off<a.size then (if off=0∧a.size=new.size∧a.isPair=new.isPair then some (.pair new (.val b x.2)) else (BC.putVal a x.1 off new).map (fun z=> .pair z (.val b x.2)))
  else (if off=a.size∧b.size=new.size∧b.isPair=new.isPair then some (.pair (.val a x.1) new) else (BC.putVal b x.2 (off - a.size) new).map (fun z=> .pair (.val a x.1) z))
 |_,_,_,_=>none
def BC.put:BC→Nat→BC→Option BC
 | .val t x,off,new=>
  match new with
  | .val u y=>(t.upd x off u y).map (.val t)
  |new=>if off=0∧t.size=new.size∧t.isPair=new.isPair then some new else BC.putVal t x off new
 | .own _ _ _,off,new=>if off=0∧new.size=1 then some new else none
 | .pair a b,off,new=>
  if off=0∧a.size+b.size=new.size∧(b.size≠0∨new.isPair=true) then some new
  else if off<a.size then (a.put off new).map (fun z=> .pair z b) else (b.put (off - a.size) new).map (fun z=> .pair a z)
 | .hole n,off,new=>if off=0∧n=new.size then some new else none
def BC.row:BC→Nat→Option (Nat×((e:Ty)×List e.den))
 | .own et e xs,off=>if off=0 then some (et,⟨e,xs⟩) else none
 | .pair a b,off=>if off<a.size then a.row off else b.row (off - a.size)
 |_,_=>none
def BC.swap:BC→Nat→BC→Option BC
 | .own _ _ _,off,n=>if off=0 then some n else none
 | .pair a b,off,n=>if off<a.size then (a.swap off n).map (fun z=> .pair z b) else (b.swap (off - a.size) n).map (fun z=> .pair a z)
 |_,_,_=>none
inductive qcY where
 |val (t:Ty)
 |own (et:Nat) (e:Ty)
 |pair (a b:qcY)
 |hole (n:Nat)
 deriving DecidableEq
@[reducible] def qcY.den:qcY→Type
 | .val t=>t.den
 | .own _ e=>List e.den
 | .pair a b=>a.den×b.den
 | .hole _=>Unit
def qcY.un:(b:qcY)→b.den→BC
 | .val t,x=> .val t x
 | .own et e,xs=> .own et e xs
 | .pair a b,x=> .pair (a.un x.1) (b.un x.2)
 | .hole n,_=> .hole n
def qcY.dflt:(b:qcY)→b.den
 | .val t=>t.dflt
 | .own _ _=>[]
 | .pair a b=>(a.dflt,b.dflt)
 | .hole _=>()
def qcY.flat:qcY→Bool
 | .val t=>t.flat
 | .own _ e=>e.flat
 | .pair a b=>a.flat&&b.flat
 | .hole _=>true
def BC.fit:(b:qcY)→BC→Option b.den
 | .val t,c=>if c.size=t.size then (match c.get 0 t with
  |some r=>some r.1
  |none=>none) else none
 | .own et e,c=>match c with
  | .own et' e' xs=>if et=et' then Ty.as (t:= .slice e') (.slice e) xs else none
  |_=>none
 | .pair a b,c=>match c with
  | .pair c d=>(match BC.fit a c,BC.fit b d with
   |some x,some y=>some (x,y)
   |_,_=>none)
  | .val (.pair ta tb) x=>(match BC.fit a (.val ta x.1),BC.fit b (.val tb x.2) with
   |some x,some y=>some (x,y)
   |_,_=>none)
  |_=>none
 | .hole _,_=>none
@[reducible] def denL:List Ty→Type
 |[]=>Unit
 |t::r=>t.den×denL r
inductive qpu where
 |val (t:Ty) (x:t.den)
 |own (et:Nat) (e:Ty) (xs:List e.den)
 |gone
 |nz (e:Ty) (xs:List e.den)
inductive AV where
 |undef
 |val (t:Ty) (x:t.den)
 |own (et:Nat) (e:Ty) (xs:List e.den)
 |agg (c:BC)
 |box (c:BC)
 |ref (s v:Nat)
 |bref (s v off:Nat) (u:Ty)
 |pbox (s v off:Nat)
 |pip (k off:Nat)
 |prow (s v:Nat) (fo:Option Nat) (sz:Nat) (i:Int) (off:Nat)
 |osl (s v:Nat) (fo:Option Nat) (sz:Nat) (lo hi:Int)
 |view (t:Ty) (x:t.den) (off:Nat)
 |tup (cs:List qpu)
 |grd (s v:Nat) (want:Bool) (a:AV)
 |fn (f:Nat) (caps:List qpu)
 |fnv (ps rs:List Ty) (φ:denL ps→Option (denL rs))
 |amb (w m:Bool)
 |parr (s:Nat) (v:Option Nat) (off n:Nat) (e:Ty) (i:Int) (o2:Nat)
 |nilr (et:Nat) (e:Ty)
 |nz (e:Ty) (xs:List e.den)
 |mp (k v:Ty) (xs:List (k.den×v.den))
def AV.rowAt (fo:Option Nat):AV→Option (Nat×((e:Ty)×List e.den))
 | .own et e xs=>match fo with
  |none=>some (et,⟨e,xs⟩)
  |some _=>none
 | .box c=>match fo with
  |some o=>c.row o
  |none=>none
 |_=>none
def AV.swapRow (n:BC) (fo:Option Nat):AV→Option AV
 | .own _ _ _=>match fo,n with
  |none,.own et e xs=>some (.own et e xs)
  |none,.hole _=>some .undef
  |_,_=>none
 | .box c=>match fo with
  |some o=>(c.swap o n).map .box
  |none=>none
 |_=>none
abbrev Ent:=Nat×AV
abbrev St:=List Ent
inductive Q (α:Type) where
 |ret (a:α)
 |fail
 |get (s:Nat) (k:Ent→Q α)
def Q.bind {α β:Type} :Q α→(α→Q β)→Q β
 | .ret a,f=>f a
 | .fail,_=> .fail
 | .get s k,f=> .get s fun e=>(k e).bind f
instance:Monad Q where
 pure:=Q.ret
 bind:=Q.bind
def Q.opt {α:Type} :Option α→Q α
 |some a=> .ret a
 |none=> .fail
def Q.run {α:Type} (lk:Nat→Ent):Q α→Option α
 | .ret a=>some a
 | .fail=>none
 | .get s k=>(k (lk s)).run lk
def Q.log {α:Type} (lk:Nat→Ent):Q α→List Nat
 | .ret _=>[]
 | .fail=>[]
 | .get s k=>s::(k (lk s)).log lk
inductive PM where
 |val (t:Ty)
 |own (et:Nat) (e:Ty)
 |io (t:Ty)
 |fn (ps rs:List Ty)
 |nil (et:Nat) (e:Ty)
 |rd (t:Ty)
 |ior (et:Nat) (e:Ty)
 |iob (b:qcY)
 deriving DecidableEq
@[reducible] def PM.den:PM→Type
 | .val t=>t.den
 | .own _ e=>List e.den
 | .io t=>t.den
 | .fn ps rs=>denL ps→Option (denL rs)
 | .nil _ _=>Unit
 | .rd t=>t.den
 | .ior _ e=>List e.den
 | .iob b=>b.den
@[reducible] def PMs.den:List PM→Type
 |[]=>Unit
 |p::r=>p.den×PMs.den r
@[reducible] def PMs.ioDen:List PM→Type
 |[]=>Unit
 | .io t::r=>t.den×PMs.ioDen r
 | .ior _ e::r=>List e.den×PMs.ioDen r
 | .iob b::r=>b.den×PMs.ioDen r
 |_::r=>PMs.ioDen r
inductive RM where
 |val (t:Ty)
 |own (et:Nat) (e:Ty)
 |nz (e:Ty)
 deriving DecidableEq
@[reducible] def RM.den:RM→Type
 | .val t=>t.den
 | .own _ e=>List e.den
 | .nz e=>List e.den
@[reducible] def RMs.den:List RM→Type
 |[]=>Unit
 |r::rs=>r.den×RMs.den rs
def RM.dflt:(r:RM)→r.den
 | .val t=>t.dflt
 | .own _ _=>[]
 | .nz _=>[]
def RMs.dflt:(rs:List RM)→RMs.den rs
 |[]=>()
 |r::rs=>(r.dflt,RMs.dflt rs)
def PMs.ioDflt:(ps:List PM)→PMs.ioDen ps
 |[]=>()
 | .io t::r=>(t.dflt,PMs.ioDflt r)
 | .val _::r=>PMs.ioDflt r
 | .own _ _::r=>PMs.ioDflt r
 | .fn _ _::r=>PMs.ioDflt r
 | .nil _ _::r=>PMs.ioDflt r
 | .rd _::r=>PMs.ioDflt r
 | .ior _ _::r=>([],PMs.ioDflt r)
 | .iob b::r=>(b.dflt,PMs.ioDflt r)
structure qs where
 ps:List PM
 rs:List RM
 sem:PMs.den ps→Option (RMs.den rs×PMs.ioDen ps)
abbrev qlC:=Nat→Option ((t:Ty)×t.den)
structure Env where
 ty:Nat→Option Ty
 etid:Nat→Nat
 off:Nat→Nat→Option Nat
 fty:Nat→Nat→Nat
 zero:Nat→Option BC
 bytes:Nat→Nat
 eqok:Nat→Bool
 fn:Nat→Option qs
 pins:List Nat
 ownz:Bool
 tabs:qlC
 rf:List Nat
 nzr:Bool:=false
end
end Go.Vi
namespace Go.Vi
noncomputable section
def qA (σ:St) (s:Nat):Ent:=σ.getD s (0,.undef)
abbrev qh5:=List (Nat×Nat×Bool×Bool)
def lit (w b:Bool):Bool:=match w with
 |true=>b
 |false=> !b
def qnm:qh5→Bool
 |[]=>true
 |[(_,_,w,b)]=>lit w b
 |(_,_,w,b)::r=>lit w b&&qnm r
def qdZ:Nat→Nat→Bool→Q qh5
 |0,_,_=> .fail
 |n+1,s,want=> .get s fun e=>match e.2 with
  | .val .bool b=> .ret [(s,e.1,want,b)]
  | .grd s2 v2 w2 (.val .bool b)=>(qdZ n s2 w2).bind fun r=>match r with
   |(s3,v3,w3,b3)::r'=>if v3=v2 then .ret ((s,e.1,want,b)::(s3,v3,w3,b3)::r') else .fail
   |[]=> .fail
  |_=> .fail
def qpo (s v:Nat) (w:Bool):qh5→Bool
 |[]=>false
 |(s',v',w',_)::r=>(s == s'&&v == v'&&w == w')||qpo s v w r
def qce (p:qh5):AV→AV
 | .grd s v w a=>if qpo s v w p then qce p a else .undef
 |a=>a
def qqF (c:Operand) (v:Nat) (w b:Bool) (p:qh5):qh5:=match c with
 | .tmp t=>(t,v,w,b)::p
 |_=>p
structure Op1 where
 s:Option Nat
 v:Nat
 a:AV
def Ty.dec:(t:Ty)→List Value→Option (t.den×List Value)
 | .int k,cs=>match cs with
  | .int k' n::r=>if k=k'∧k.min≤n∧n≤k.max then some (n,r) else none
  |_=>none
 | .bool,cs=>match cs with
  | .bool b::r=>some (b,r)
  |_=>none
 | .str,cs=>match cs with
  | .string s::r=>if s.data.toList.length≤1048576 then some (s.data.toList,r) else none
  |_=>none
 | .unit,r=>some ((),r)
 | .pair a b,cs=>match a.dec cs with
  |some (x,r)=>match b.dec r with
   |some (y,r')=>some ((x,y),r')
   |none=>none
  |none=>none
 | .slice _,cs=>match cs with
  | .slice none 0 0::r=>some ([],r)
  |_=>none
 | .arr _ _,_=>none
 | .err,cs=>match cs with
  | .nilIface::r=>some (true,r)
  |_=>none
 | .opt _,cs=>match cs with
  | .pointer none::r=>some (none,r)
  |_=>none
 | .map _ _,_=>none
def qm9 (E:Env) (tid:Nat) (c:Value):Option AV:=
 match c with
 | .int k n=>if k.min≤n∧n≤k.max then some (.val (.int k) n) else none
 | .bool b=>some (.val .bool b)
 | .string s=>if s.data.toList.length≤1048576 then some (.val .str s.data.toList) else none
 | .slice none 0 0=>match E.ty tid with
  |some (.slice e)=>(match E.nzr with
   |true=>some (.nilr (E.etid tid) e)
   |false=>some (.own (E.etid tid) e []))
  |_=>none
 | .nilIface=>match E.ty tid with
  |some .err=>some (.val .err true)
  |_=>none
 | .pointer none=>match E.ty tid with
  |some (.opt e)=>some (.val (.opt e) none)
  |_=>none
 | .agg cs=>match E.ty tid with
  |some t=>if t.agg then (match t.dec cs.toList with
   |some (x,[])=>some (.val t x)
   |_=>none) else none
  |none=>none
 |_=>none
def opd (E:Env) (p:qh5) (tid:Nat):Operand→Q Op1
 | .tmp t=> .get t fun e=> .ret ⟨some t,e.1,qce p e.2⟩
 | .const c=>match qm9 E tid c with
  |some a=> .ret ⟨none,0,a⟩
  |none=> .fail
 | .func f=> .ret ⟨none,0,.fn f []⟩
 | .global g=>match E.tabs g with
  |some r=> .ret ⟨none,0,.view r.1 r.2 0⟩
  |none=> .fail
structure VR where
 t:Ty
 x:t.den
 ow:List Nat
def qnf (o:Op1):Q VR:=
 match o.a with
 | .val t x=> .ret ⟨t,x,[]⟩
 | .own _ e xs=> .ret ⟨.slice e,xs,o.s.toList⟩
 | .nilr _ e=> .ret ⟨.slice e,[],[]⟩
 | .nz e xs=> .ret ⟨.slice e,xs,[]⟩
 | .ref s v=> .get s fun e=>if e.1=v then (match e.2 with
  | .own _ e xs=> .ret ⟨.slice e,xs,[s]⟩
  | .val t x=> .ret ⟨t,x,[]⟩
  |_=> .fail) else .fail
 | .bref s v off u=> .get s fun e=>if e.1=v then (match e.2 with
  | .box c=>match c.get off u with
   |some (x,f)=> .ret ⟨u,x,if f then [s] else []⟩
   |none=> .fail
  |_=> .fail) else .fail
 | .osl _ _ _ _ _ _=> .fail
 |_=> .fail
def toVal (u:Ty) (o:Op1):Q (u.den×List Nat):=
 match o.a with
 | .agg c=>if c.size=u.size∧u.agg=true then (match c.get 0 u with
  |some (x,f)=> .ret (x,if f then o.s.toList else [])
  |none=> .fail) else .fail
 | .view t x off=>(match u with
  | .opt e=>if off=0 then (match Ty.as (t:=t) e x with
   |some y=> .ret (some y,[])
   |none=> .fail) else .fail
  |_=> .fail)
 |_=>(qnf o).bind fun r=>match Ty.as u r.x with
  |some x=> .ret (x,r.ow)
  |none=> .fail
def qlD (o:Op1):Q (IntKind×Int):=
 (qnf o).bind fun r=>match r with
  |⟨.int k,n,_⟩=> .ret (k,n)
  |_=> .fail
def qpu.freeze:qpu→qpu
 | .own _ e xs=> .val (.slice e) xs
 |c=>c
def AV.freeze:AV→AV
 | .own _ e xs=> .val (.slice e) xs
 | .box c=> .box c.freeze
 | .agg c=> .agg c.freeze
 | .mp _ _ _=> .undef
 | .tup cs=> .tup (cs.map qpu.freeze)
 |a=>a
def AV.unowned:AV→Bool
 | .own _ _ _=>false
 | .agg _=>false
 | .box _=>false
 | .tup _=>false
 | .mp _ _ _=>false
 |_=>true
def AV.mentions:AV→List (Nat×Nat)
 | .ref s v=>[(s,v)]
 | .bref s v _ _=>[(s,v)]
 | .pbox s v _=>[(s,v)]
 | .prow s v _ _ _ _=>[(s,v)]
 | .osl s v _ _ _ _=>[(s,v)]
 | .parr s (some v) _ _ _ _ _=>[(s,v)]
 | .grd s v _ a=>(s,v)::a.mentions
 |_=>[]
def AV.isUndef:AV→Bool
 | .undef=>true
 |_=>false
structure U where
 s:Nat
 bump:Bool
 a:AV
structure Eff where
 upd:List U
 chk:List Bool
def qcA:List Nat→Q (List U)
 |[]=> .ret []
 |s::r=> .get s fun e=>(qcA r).bind fun us=> .ret (⟨s,false,e.2.freeze⟩::us)
def qcl (o:Oper) (a:AV):List U:=match o.dst with
 |some d=>[⟨d,true,a⟩]
 |none=>[]
def okE (us:List U):Q Eff:= .ret ⟨us,[]⟩
def qq4 (op:BinOp) (k:IntKind) (x y:Int):AV×List Bool:=
 match op with
 | .add=>(.val (.int k) (qax k x y),[])
 | .sub=>(.val (.int k) (qbn k x y),[])
 | .mul=>(.val (.int k) (qvY k x y),[])
 | .quo=>(.val (.int k) (iquo k x y),[neI y 0])
 | .rem=>(.val (.int k) (irem x y),[neI y 0])
 | .and=>(.val (.int k) (band k x y),[])
 | .or=>(.val (.int k) (bor k x y),[])
 | .xor=>(.val (.int k) (bxor k x y),[])
 | .andNot=>(.val (.int k) (qoH k x y),[])
 | .eql=>(.val .bool (eqI x y),[])
 | .neq=>(.val .bool (neI x y),[])
 | .lss=>(.val .bool (ltI x y),[])
 | .leq=>(.val .bool (leI x y),[])
 | .gtr=>(.val .bool (ltI y x),[])
 | .geq=>(.val .bool (leI y x),[])
 | .shl=>(.val (.int k) (shlI k x y),[leI 0 y])
 | .shr=>(.val (.int k) (quQ k x y),[leI 0 y])
def qwQ (op:BinOp) (x y:List UInt8):Option (AV×List Bool):=
 match op with
 | .add=>some (.val .str (qem x y),[qcq (qr x) (qr y) 1])
 | .eql=>some (.val .bool (eqS x y),[])
 | .neq=>some (.val .bool (!(eqS x y)),[])
 | .lss=>some (.val .bool (qgf x y),[])
 | .leq=>some (.val .bool (qgf x y||eqS x y),[])
 | .gtr=>some (.val .bool (!(qgf x y||eqS x y)),[])
 | .geq=>some (.val .bool (!(qgf x y)),[])
 |_=>none
def qmF:BinOp→Bool
 | .shl=>true
 | .shr=>true
 |_=>false
def binE (E:Env) (op:BinOp) (tid:Nat) (x y:VR):Option (AV×List Bool):=
 match x,y with
 |⟨.int k,a,_⟩,⟨.int k',b,_⟩=>if qmF op||k=k' then some (qq4 op k a b) else none
 |⟨.str,a,_⟩,⟨.str,b,_⟩=>qwQ op a b
 |⟨.bool,a,_⟩,⟨.bool,b,_⟩=>if E.ty tid=some .bool then (match op with
  | .eql=>some (.val .bool (eqB a b),[])
  | .neq=>some (.val .bool (!(eqB a b)),[])
  |_=>none) else none
 |⟨t,a,_⟩,⟨u,b,_⟩=>if t.agg=true∧E.eqok tid=true∧E.ty tid=some t then (match Ty.as (t:=u) t b with
  |some b=>(match op with
   | .eql=>some (.val .bool (t.eqb a b),[])
   | .neq=>some (.val .bool (!(t.eqb a b)),[])
   |_=>none)
  |none=>none) else none
def unE (op:UnOp) (x:VR):Option AV:=
 match op,x with
 | .neg,⟨.int k,n,_⟩=>some (.val (.int k) (ineg k n))
 | .not,⟨.bool,b,_⟩=>some (.val .bool (!b))
 | .xor,⟨.int k,n,_⟩=>some (.val (.int k) (bxor k (if k.signed then -1 else k.max) n))
 |_,_=>none
def qkk:List Nat→Bool
 |[]=>true
 |a::r=> !r.contains a&&qkk r
structure qsW (ps:List PM) where
 x:PMs.den ps
 ow:List Nat
 gone:List Nat
 ios:List Nat
@[reducible] def valPs:List Ty→List PM
 |[]=>[]
 |t::r=> .val t::valPs r
@[reducible] def valRs:List Ty→List RM
 |[]=>[]
 |t::r=> .val t::valRs r
def toPs:(ts:List Ty)→denL ts→PMs.den (valPs ts)
 |[],_=>()
 |_::r,x=>(x.1,toPs r x.2)
def qwA:(ts:List Ty)→RMs.den (valRs ts)→denL ts
 |[],_=>()
 |_::r,x=>(x.1,qwA r x.2)
def quT:(ts:List Ty)→denL ts→RMs.den (valRs ts)
 |[],_=>()
 |_::r,x=>(x.1,quT r x.2)
def qvE:(ts:List Ty)→PMs.den (valPs ts)→denL ts
 |[],_=>()
 |_::r,x=>(x.1,qvE r x.2)
def denL.dflt:(ts:List Ty)→denL ts
 |[]=>()
 |t::r=>(t.dflt,denL.dflt r)
def fnOf (E:Env) (ts us:List Ty):AV→Option (denL ts→Option (denL us))
 | .fnv ts' us' φ=>if h:ts'=ts∧us'=us then some (h.1 ▸ h.2 ▸ φ) else none
 | .fn f []=>(match E.fn f with
  |some C=>if h:C.ps=valPs ts∧C.rs=valRs us then some (fun x=>qkf (fun y=>qwA us (h.2 ▸ y.1)) (C.sem (h.1 ▸ toPs ts x))) else none
  |none=>none)
 |_=>none
def apart (a b:List Nat):Bool:=a.all fun x=> !b.contains x
@[reducible] def rdPs:List Ty→List PM
 |[]=>[]
 |t::r=> .rd t::rdPs r
def toRd:(us:List Ty)→denL us→PMs.den (rdPs us)
 |[],_=>()
 |_::r,y=>(y.1,toRd r y.2)
def qqw:(ts us:List Ty)→denL ts→denL us→PMs.den (valPs ts++rdPs us)
 |[],us,_,y=>toRd us y
 |_::r,us,x,y=>(x.1,qqw r us x.2 y)
def qqq:List PM→Option (List Ty×List Ty)
 |[]=>some ([],[])
 | .val t::r=>(match qqq r with
  |some q=>some (t::q.1,q.2)
  |none=>none)
 | .rd t::r=>(match qqq r with
  |some q=>some (q.1,t::q.2)
  |none=>none)
 |_=>none
def qtJ:List RM→Option (List Ty)
 |[]=>some []
 | .val t::r=>(match qtJ r with
  |some q=>some (t::q)
  |none=>none)
 |_=>none
def qhb:List Operand→List Nat
 |[]=>[]
 | .tmp s::r=>s::qhb r
 |_::r=>qhb r
def qrY:(us:List Ty)→List Operand→Q (denL us×List U)
 |[],[]=> .ret ((),[])
 |u::us,.tmp s::r=> .get s fun e=>(qrY us r).bind fun q=>match e.2 with
  | .box c=>if c.size=u.size then (match c.get 0 u with
   |some (x,_)=> .ret ((x,q.1),⟨s,true,.view u x 0⟩::q.2)
   |none=> .fail) else .fail
  | .view t y off=>(match t.sub y off u with
   |some x=> .ret ((x,q.1),q.2)
   |none=> .fail)
  |_=> .fail
 |_,_=> .fail
def cloE (E:Env) (o:Oper) (f:Nat) (caps:List Operand):Q Eff:=
 match E.fn f with
 |some C=>(match qqq C.ps,qtJ C.rs with
  |some (ts,us),some vs=>if h:C.ps=valPs ts++rdPs us∧C.rs=valRs vs then (qrY us caps).bind fun q=>
    if qkk (qhb caps)&&apart o.dst.toList (qhb caps) then .ret ⟨q.2++qcl o (.fnv ts vs (fun x=>qkf (fun y=>qwA vs (h.2 ▸ y.1)) (C.sem (h.1 ▸ qqw ts us x q.1)))),[]⟩ else .fail
   else .fail
  |_,_=> .fail)
 |none=> .fail
def qaP (E:Env):(ps:List PM)→List Op1→Q (qsW ps)
 |[],[]=> .ret ⟨(),[],[],[]⟩
 | .val t::ps,o::os=>(toVal t o).bind fun x=>(qaP E ps os).bind fun r=> .ret ⟨(x.1,r.x),x.2++r.ow,r.gone,r.ios⟩
 | .own et e::ps,o::os=>
  match o.s,o.a with
  |some s,.own et' e' xs=>if et=et' then (match Ty.as (t:= .slice e') (.slice e) xs with
   |some xs=>(qaP E ps os).bind fun r=> .ret ⟨(xs,r.x),r.ow,s::r.gone,r.ios⟩
   |none=> .fail) else .fail
  |none,.own et' e' xs=>if et=et' then (match Ty.as (t:= .slice e') (.slice e) xs with
   |some xs=>(qaP E ps os).bind fun r=> .ret ⟨(xs,r.x),r.ow,r.gone,r.ios⟩
   |none=> .fail) else .fail
  |_,.ref s v=> .get s fun en=>if en.1=v then (match en.2 with
   | .own et' e' xs=>if et=et' then (match Ty.as (t:= .slice e') (.slice e) xs with
    |some xs=>(qaP E ps os).bind fun r=> .ret ⟨(xs,r.x),r.ow,s::r.gone,r.ios⟩
    |none=> .fail) else .fail
   |_=> .fail) else .fail
  |_,_=> .fail
 | .ior et e::ps,o::os=>
  match o.s,o.a with
  |some s,.own et' e' xs=>if et=et' then (match Ty.as (t:= .slice e') (.slice e) xs with
   |some xs=>(qaP E ps os).bind fun r=> .ret ⟨(xs,r.x),r.ow,r.gone,s::r.ios⟩
   |none=> .fail) else .fail
  |_,.ref s v=> .get s fun en=>if en.1=v then (match en.2 with
   | .own et' e' xs=>if et=et' then (match Ty.as (t:= .slice e') (.slice e) xs with
    |some xs=>(qaP E ps os).bind fun r=> .ret ⟨(xs,r.x),r.ow,r.gone,s::r.ios⟩
    |none=> .fail) else .fail
   |_=> .fail) else .fail
  |_,_=> .fail
 | .io t::ps,o::os=>
  match o.s,o.a with
  |some s,.box c=>(match (if c.size=t.size then c.get 0 t else none) with
   |some (x,_)=>(qaP E ps os).bind fun r=> .ret ⟨(x,r.x),r.ow,r.gone,s::r.ios⟩
   |none=> .fail)
  |_,.pip s 0=> .get s fun en=>(match en.2 with
   | .box c=>(match (if c.size=t.size then c.get 0 t else none) with
    |some (x,_)=>(qaP E ps os).bind fun r=> .ret ⟨(x,r.x),r.ow,r.gone,s::r.ios⟩
    |none=> .fail)
   |_=> .fail)
  |_,.pbox s v 0=> .get s fun en=>if en.1=v then (match en.2 with
   | .box c=>(match (if c.size=t.size then c.get 0 t else none) with
    |some (x,_)=>(qaP E ps os).bind fun r=> .ret ⟨(x,r.x),r.ow,r.gone,s::r.ios⟩
    |none=> .fail)
   |_=> .fail) else .fail
  |_,_=> .fail
 | .iob b::ps,o::os=>
  match o.s,o.a with
  |some s,.box c=>(match c.fit b with
   |some x=>(qaP E ps os).bind fun r=> .ret ⟨(x,r.x),r.ow,r.gone,s::r.ios⟩
   |none=> .fail)
  |_,.pip s 0=> .get s fun en=>(match en.2 with
   | .box c=>(match c.fit b with
    |some x=>(qaP E ps os).bind fun r=> .ret ⟨(x,r.x),r.ow,r.gone,s::r.ios⟩
    |none=> .fail)
   |_=> .fail)
  |_,.pbox s v 0=> .get s fun en=>if en.1=v then (match en.2 with
   | .box c=>(match c.fit b with
    |some x=>(qaP E ps os).bind fun r=> .ret ⟨(x,r.x),r.ow,r.gone,s::r.ios⟩
    |none=> .fail)
   |_=> .fail) else .fail
  |_,_=> .fail
 | .nil et e::ps,o::os=>(match o.s,o.a with
  |_,.nilr et' e'=>if et'=et∧e'=e then (qaP E ps os).bind fun r=> .ret ⟨((),r.x),r.ow,r.gone,r.ios⟩ else .fail
  |none,.own et' e' []=>if et'=et∧e'=e then (qaP E ps os).bind fun r=> .ret ⟨((),r.x),r.ow,r.gone,r.ios⟩ else .fail
  |_,_=> .fail)
 | .rd t::ps,o::os=>(match o.a with
  | .view t' y off=>(match t'.sub y off t with
   |some x=>(qaP E ps os).bind fun r=> .ret ⟨(x,r.x),r.ow,r.gone,r.ios⟩
   |none=> .fail)
  |_=> .fail)
 | .fn ts us::ps,o::os=>(match fnOf E ts us o.a with
  |some φ=>(qaP E ps os).bind fun r=> .ret ⟨(φ,r.x),r.ow,r.gone,r.ios⟩
  |none=> .fail)
 |_,_=> .fail
def qdA:(rs:List RM)→RMs.den rs→List qpu
 |[],_=>[]
 | .val t::rs,y=> .val t y.1::qdA rs y.2
 | .own et e::rs,y=> .own et e y.1::qdA rs y.2
 | .nz e::rs,y=> .nz e y.1::qdA rs y.2
def qjo (rs:List RM) (y:RMs.den rs):AV:=match rs,y with
 |[.val t],y=> .val t y.1
 |[.own et e],y=> .own et e y.1
 |[.nz e],y=> .nz e y.1
 |rs,y=> .tup (qdA rs y)
def RMs.flat:List RM→Bool
 |[]=>true
 | .val t::r=>t.flat&&RMs.flat r
 | .own _ e::r=>e.flat&&RMs.flat r
 | .nz _::_=>false
def PMs.ioFlat:List PM→Bool
 |[]=>true
 | .io t::r=>t.flat&&PMs.ioFlat r
 | .ior _ e::r=>e.flat&&PMs.ioFlat r
 | .iob b::r=>b.flat&&PMs.ioFlat r
 |_::r=>PMs.ioFlat r
def qdF:(ps:List PM)→PMs.ioDen ps→List Nat→List U
 | .io t::ps,y,s::ss=>⟨s,true,.box (.val t y.1)⟩::qdF ps y.2 ss
 | .ior et e::ps,y,s::ss=>⟨s,true,.own et e y.1⟩::qdF ps y.2 ss
 | .iob b::ps,y,s::ss=>⟨s,true,.box (b.un y.1)⟩::qdF ps y.2 ss
 | .val _::ps,y,ss=>qdF ps y ss
 | .own _ _::ps,y,ss=>qdF ps y ss
 | .fn _ _::ps,y,ss=>qdF ps y ss
 | .nil _ _::ps,y,ss=>qdF ps y ss
 | .rd _::ps,y,ss=>qdF ps y ss
 |_,_,_=>[]
def qwP (E:Env) (o:Oper) (C:qs) (os:List Op1):Q Eff:=
 (qaP E C.ps os).bind fun A=>
  if qkk (A.gone++A.ios)&&apart A.ow (A.gone++A.ios)&&apart o.dst.toList (A.gone++A.ios) then
   (if RMs.flat C.rs&&PMs.ioFlat C.ps then Q.ret [] else qcA A.ow).bind fun fz=>
    let y:=qx (C.sem A.x) (RMs.dflt C.rs,PMs.ioDflt C.ps)
    .ret ⟨fz++(A.gone.map (fun s=>⟨s,true,.undef⟩)++qdF C.ps y.2 A.ios++qcl o (qjo C.rs y.1)),[qB (C.sem A.x)]⟩
  else .fail
def qwT (E:Env) (o:Oper) (ts us:List Ty) (φ:denL ts→Option (denL us)) (os:List Op1):Q Eff:=
 (qaP E (valPs ts) os).bind fun A=>
  (if RMs.flat (valRs us) then Q.ret [] else qcA A.ow).bind fun fz=>
   .ret ⟨fz++qcl o (qjo (valRs us) (quT us (qx (φ (qvE ts A.x)) (denL.dflt us)))),[qB (φ (qvE ts A.x))]⟩
def opds (E:Env) (p:qh5):List Operand→List Nat→Q (List Op1)
 |[],_=> .ret []
 |x::xs,ts=>(opd E p (ts.headD 0) x).bind fun a=>(opds E p xs ts.tail).bind fun r=> .ret (a::r)
def qxa (o:Op1):Q (((e:Ty)×List e.den)×List Nat):=
 match o.a with
 | .own _ e xs=> .ret (⟨e,xs⟩,o.s.toList)
 | .nilr _ e=> .ret (⟨e,[]⟩,[])
 | .nz e xs=> .ret (⟨e,xs⟩,[])
 | .val (.slice e) xs=> .ret (⟨e,xs⟩,[])
 | .ref s v=> .get s fun en=>if en.1=v then (match en.2 with
  | .own _ e xs=> .ret (⟨e,xs⟩,[s])
  | .val (.slice e) xs=> .ret (⟨e,xs⟩,[])
  |_=> .fail) else .fail
 | .bref s v off u=>if u.agg=false then .get s fun en=>if en.1=v then (match en.2.rowAt (some off) with
  |some r=> .ret (r.2,[s])
  |none=> .fail) else .fail else .fail
 |_=> .fail
def ql8 (x:Op1):Q (Option (Nat×AV)×Nat×((e:Ty)×List e.den)):=
 match x.a with
 | .own et e xs=> .ret (x.s.map (fun s=>(s,.undef)),et,⟨e,xs⟩)
 | .nilr et e=> .ret (none,et,⟨e,[]⟩)
 | .ref s v=> .get s fun en=>if en.1=v then (match en.2 with
  | .own et e xs=> .ret (some (s,.undef),et,⟨e,xs⟩)
  |_=> .fail) else .fail
 | .bref s v off u=>if u.agg=false then .get s fun en=>if en.1=v then (match en.2.rowAt (some off),en.2.swapRow (.hole 1) (some off) with
  |some r,some a=> .ret (some (s,a),r.1,r.2)
  |_,_=> .fail) else .fail else .fail
 |_=> .fail
def qwv (r:Option (Nat×AV)):List U:=r.toList.map fun p=>⟨p.1,true,p.2⟩
def qri (E:Env) (o:Oper) (tid:Nat) (x y:Op1):Q Eff:=
 (ql8 x).bind fun r=>(qxa y).bind fun q=>match o.dst with
  |some d=>if E.ty tid=some (.slice r.2.2.1)∧r.2.1=E.etid tid∧E.bytes r.2.1≠0∧r.2.2.1.size≠0∧apart q.2 (r.1.map (·.1)).toList=true∧r.1.map (·.1)≠some d then (match Ty.as (t:= .slice q.1.1) (.slice r.2.2.1) q.1.2 with
   |some ys=> .ret ⟨qwv r.1++[⟨d,true,.own r.2.1 r.2.2.1 (qem r.2.2.2 ys)⟩],[qcq (qr r.2.2.2) (qr ys) (E.bytes r.2.1)]⟩
   |none=> .fail) else .fail
  |none=> .fail
def qqm (E:Env) (o:Oper) (tid tid':Nat) (x y:Op1):Q Eff:=
 (ql8 x).bind fun r=>(toVal .str y).bind fun q=>match o.dst with
  |some d=>if E.ty tid=some (.slice r.2.2.1)∧r.2.1=E.etid tid∧E.bytes r.2.1=1∧E.ty tid'=some .str∧r.1.map (·.1)≠some d then (match Ty.as (t:= .slice r.2.2.1) (.slice (.int .u8)) r.2.2.2 with
   |some xs=> .ret ⟨qwv r.1++[⟨d,true,.own r.2.1 (.int .u8) (qem xs (qfi q.1))⟩],[qcq (qr xs) (qr q.1) 1]⟩
   |none=> .fail) else .fail
  |none=> .fail
def qqI:Option Ty→Bool
 |some (.int _)=>true
 |_=>false
def qqG (E:Env) (o:Oper) (tid tid':Nat) (x y:Op1):Q Eff:=
 match x.a with
 | .nilr et e=>(qlD y).bind fun n=>if E.ty tid=some (.slice e)∧et=E.etid tid∧e.size≠0∧E.bytes et≠0∧qqI (E.ty tid')=true then .ret ⟨qcl o (.own et e (qrn n.2 e.dflt)),[ltI 0 n.2,qwf n.2 (E.bytes et)]⟩ else .fail
 |_=> .fail
def qoF (f:Int→Int→Int) (k:IntKind):Int→List Op1→Q Int
 |n,[]=> .ret n
 |n,o::os=>(qlD o).bind fun m=>if m.1=k then qoF f k (f n m.2) os else .fail
def qoS (E:Env) (o:Oper) (b:Builtin) (ts:List Nat) (os:List Op1):Q Eff:=
 match b,os with
 | .len,[x]=>(qnf x).bind fun r=>match r,ts with
  |⟨.slice e,xs,_⟩,t::_=>if E.ty t=some (.slice e) then okE (qcl o (.val (.int .i64) (qr xs))) else .fail
  |⟨.str,xs,_⟩,t::_=>if E.ty t=some .str then okE (qcl o (.val (.int .i64) (qr xs))) else .fail
  |_,_=> .fail
 | .append,[x,y]=>match ts with
  |[t,t']=>if t=t' then qri E o t x y else if qqI (E.ty t')=true then qqG E o t t' x y else qqm E o t t' x y
  |_=> .fail
 | .cap,[x]=>(match x.a,ts with
  | .nilr _ e,t::_=>if E.ty t=some (.slice e) then okE (qcl o (.val (.int .i64) 0)) else .fail
  |_,_=> .fail)
 | .clear,[x]=>(match x.a,ts with
  | .osl s v fo sz lo hi,t::_=>if o.dst.isSome then .fail else .get s fun en=>if en.1=v then (match en.2.rowAt fo with
   |some (et,⟨e,xs⟩)=>if e.size=sz∧e.size≠0∧E.ty t=some (.slice e) then (match en.2.swapRow (.own et e (qem (qaB xs 0 lo) (qem (qrn (qbn .i64 hi lo) e.dflt) (qaB xs hi (qr xs))))) fo with
    |some a=>okE [⟨s,false,a⟩]
    |none=> .fail) else .fail
   |none=> .fail) else .fail
  |_,_=> .fail)
 | .max,x::r=>(qlD x).bind fun m=>(qoF qwy m.1 m.2 r).bind fun n=>okE (qcl o (.val (.int m.1) n))
 | .min,x::r=>(qlD x).bind fun m=>(qoF minI m.1 m.2 r).bind fun n=>okE (qcl o (.val (.int m.1) n))
 |_,_=> .fail
def qhi (o:Op1):Option (Nat×Option Nat×Nat):=match o.s,o.a with
 |some s,.box _=>some (s,some o.v,0)
 |_,.pbox s v off=>some (s,some v,off)
 |_,.pip k off=>some (k,none,off)
 |_,_=>none
def vOk (e:Nat):Option Nat→Bool
 |some v=>decide (e=v)
 |none=>true
def qs1 (s off:Nat):Option Nat→AV
 |some v=> .pbox s v off
 |none=> .pip s off
def qsq (pins:List Nat) (o:Oper) (assign:Bool) (x:Op1):Q Eff:=
 match x.s,x.a with
 |some s,.own et e xs=>
  if assign then (match o.dst with
   |some d=>if s=d then .fail else .get d fun en=>okE [⟨d,true,.own et e xs⟩,⟨s,true,.ref d (en.1+1)⟩]
   |none=> .fail)
  else okE (qcl o (.ref s x.v))
 |some s,.mp k v xs=>
  if assign then (match o.dst with
   |some d=>if s=d then .fail else .get d fun en=>okE [⟨d,true,.mp k v xs⟩,⟨s,true,.ref d (en.1+1)⟩]
   |none=> .fail)
  else okE (qcl o (.ref s x.v))
 |some s,.box c=>
  if pins.contains s then okE (qcl o (.pip s 0))
  else if assign then (match o.dst with
   |some d=>if s=d then .fail else .get d fun en=>okE [⟨d,true,.box c⟩,⟨s,true,.pbox d (en.1+1) 0⟩]
   |none=> .fail)
  else okE (qcl o (.pbox s x.v 0))
 |some s,.agg c=>match o.dst with
  |some d=>if s=d then .fail else okE [⟨d,true,.agg c⟩,⟨s,true,.undef⟩]
  |none=> .fail
 |some s,.tup cs=>match o.dst with
  |some d=>if s=d then .fail else okE [⟨d,true,.tup cs⟩,⟨s,true,.undef⟩]
  |none=> .fail
 |none,.own et e xs=>okE (qcl o (.own et e xs))
 |_,.ref s v=>if assign&&o.dst == some s then (.get s fun en=>if en.1=v then okE [] else .fail) else okE (qcl o (.ref s v))
 |_,a=>if a.unowned then okE (qcl o a) else .fail
def BC.sound:BC→Bool
 | .hole _=>false
 | .pair a b=>a.sound&&b.sound
 |_=>true
def qiz (t:Ty) (x:Op1):Q (BC×List Nat×List U):=
 match x.s,x.a with
 |some s,.own et e xs=>if t= .slice e then .ret (.own et e xs,[],[⟨s,true,.undef⟩]) else .fail
 |none,.own et e xs=>if t= .slice e then .ret (.own et e xs,[],[]) else .fail
 |some s,.agg c=>if c.size=t.size∧c.sound=true then .ret (c,[],[⟨s,true,.undef⟩]) else .fail
 |_,_=>(toVal t x).bind fun r=> .ret (.val t r.1,r.2,[])
def boxE (E:Env) (o:Oper) (tid:Nat) (x:Op1):Q Eff:=
 match E.ty tid,o.dst with
 |some t,some d=>(qiz t x).bind fun c=>if c.2.1.isEmpty&& !(c.2.2.map (·.s)).contains d then okE (c.2.2++[⟨d,true,.box c.1⟩]) else .fail
 |_,_=> .fail
def qw3 (E:Env) (o:Oper) (tid:Nat) (p:Op1):Q Eff:=
 match E.ty tid with
 |none=> .fail
 |some t=>match qhi p with
  |some (s,v,off)=> .get s fun en=>if vOk en.1 v=true then (match en.2 with
   | .box c=>(match c.get off t with
    |some (x,false)=>okE (qcl o (.val t x))
    |some (_,true)=>okE (qcl o (.bref s en.1 off t))
    |none=> .fail)
   |_=> .fail) else .fail
  |none=>match p.a with
   | .prow s v fo sz i off=> .get s fun en=>if en.1=v then (match en.2.rowAt fo with
    |some (_,⟨e,xs⟩)=>if e.size=sz then (match e.sub (qk xs i e.dflt) off t with
     |some x=>okE (qcl o (.val t x))
     |none=> .fail) else .fail
    |none=> .fail) else .fail
   | .view t' x off=>(match t'.sub x off t with
    |some y=>okE (qcl o (.val t y))
    |none=> .fail)
   | .parr s v off n e i o2=> .get s fun en=>if vOk en.1 v=true then (match en.2 with
    | .box c=>(match c.get off (.arr n e) with
     |some (xs,false)=>(match e.sub (qk xs i e.dflt) o2 t with
      |some y=>okE (qcl o (.val t y))
      |none=> .fail)
     |_=> .fail)
    |_=> .fail) else .fail
   |_=> .fail
def qtW (E:Env) (tid:Nat) (p x:Op1):Q Eff:=
 match E.ty tid with
 |none=> .fail
 |some t=>match qhi p with
  |some (s,v,off)=>(qiz t x).bind fun n=>if n.2.1.isEmpty&& !(n.2.2.map (·.s)).contains s then (.get s fun en=>if vOk en.1 v=true then (match en.2 with
   | .box c=>(match c.put off n.1 with
    |some c'=>okE (n.2.2++[⟨s,true,.box c'⟩])
    |none=> .fail)
   |_=> .fail) else .fail) else .fail
  |none=>match p.a with
   | .prow s v fo sz i off=>(toVal t x).bind fun r=>if r.2.contains s=true then .fail else (qcA r.2).bind fun fz=>(.get s fun en=>if en.1=v then (match en.2.rowAt fo with
    |some (et,⟨e,xs⟩)=>if e.size=sz then (match e.upd (qk xs i e.dflt) off t r.1 with
     |some y=>(match en.2.swapRow (.own et e (qgW xs i y)) fo with
      |some a=>okE (fz++[⟨s,false,a⟩])
      |none=> .fail)
     |none=> .fail) else .fail
    |none=> .fail) else .fail)
   | .parr s v off n e i o2=>(toVal t x).bind fun r=>if r.2.isEmpty then (.get s fun en=>if vOk en.1 v=true then (match en.2 with
    | .box c=>(match c.get off (.arr n e) with
     |some (xs,false)=>(match e.upd (qk xs i e.dflt) o2 t r.1 with
      |some y=>(match c.put off (.val (.arr n e) (qgW xs i y)) with
       |some c'=>okE [⟨s,true,.box c'⟩]
       |none=> .fail)
      |none=> .fail)
     |_=> .fail)
    |_=> .fail) else .fail) else .fail
   |_=> .fail
def qwR (o:Oper) (off:Nat) (p:Op1):Q Eff:=
 match qhi p with
 |some (s,v,b)=> .get s fun en=>if vOk en.1 v=true then okE (qcl o (qs1 s (b+off) v)) else .fail
 |none=>match p.a with
  | .prow s v fo sz i b=> .get s fun en=>if en.1=v then okE (qcl o (.prow s v fo sz i (b+off))) else .fail
  | .view t x b=>okE (qcl o (.view t x (b+off)))
  | .parr s v b n e i o2=> .get s fun en=>if vOk en.1 v=true then okE (qcl o (.parr s v b n e i (o2+off))) else .fail
  |_=> .fail
def qob (E:Env) (o:Oper) (tid:Nat) (x ix:Op1):Q Eff:=
 (qlD ix).bind fun i=>match E.ty tid with
  |some (.slice e0)=>match x.s,x.a with
   |some s,.own _ e xs=>if e.size=e0.size then .ret ⟨qcl o (.prow s x.v none e.size i.2 0),[inB i.2 (qr xs)]⟩ else .fail
   |_,.ref s v=> .get s fun en=>if en.1=v then (match en.2 with
    | .own _ e xs=>if e.size=e0.size then .ret ⟨qcl o (.prow s v none e.size i.2 0),[inB i.2 (qr xs)]⟩ else .fail
    | .val (.slice e) xs=>if e.size=e0.size then .ret ⟨qcl o (.view e (qk xs i.2 e.dflt) 0),[inB i.2 (qr xs)]⟩ else .fail
    |_=> .fail) else .fail
   |_,.val (.slice e) xs=>if e.size=e0.size then .ret ⟨qcl o (.view e (qk xs i.2 e.dflt) 0),[inB i.2 (qr xs)]⟩ else .fail
   |_,.bref s v off u=>if u.agg=false then .get s fun en=>if en.1=v then (match en.2.rowAt (some off) with
    |some (_,⟨e,xs⟩)=>if e.size=e0.size then .ret ⟨qcl o (.prow s v (some off) e.size i.2 0),[inB i.2 (qr xs)]⟩ else .fail
    |none=> .fail) else .fail else .fail
   |_,_=> .fail
  |some (.arr n e0)=>if n<2 then .fail else (match qhi x with
   |some (s,v,b)=> .get s fun en=>if vOk en.1 v=true then .ret ⟨qcl o (.parr s v b n e0 i.2 0),[inB i.2 n]⟩ else .fail
   |none=>(match x.a with
    | .view t y off=>(match t.sub y off (.arr n e0) with
     |some ys=> .ret ⟨qcl o (.view e0 (qk ys i.2 e0.dflt) 0),[inB i.2 n]⟩
     |none=> .fail)
    |_=> .fail))
  |_=> .fail
def qhH (b:Option Op1) (d:Int):Q Int:=match b with
 |some b=>(qlD b).bind fun i=> .ret i.2
 |none=> .ret d
structure Site where
 s:Nat
 v:Nat
 fo:Option Nat
 et:Nat
 e:Ty
 xs:List e.den
def qta (x:Op1):Q Site:=match x.s,x.a with
 |some s,.own et e xs=> .ret ⟨s,x.v,none,et,e,xs⟩
 |_,.ref s v=> .get s fun en=>if en.1=v then (match en.2 with
  | .own et e xs=> .ret ⟨s,v,none,et,e,xs⟩
  |_=> .fail) else .fail
 |_,.bref s v off u=>if u.agg=false then .get s fun en=>if en.1=v then (match en.2.rowAt (some off) with
  |some r=> .ret ⟨s,v,some off,r.1,r.2.1,r.2.2⟩
  |none=> .fail) else .fail else .fail
 |_,_=> .fail
def qmM (E:Env) (o:Oper) (tid:Nat) (x:Op1) (lo hi:Option Op1):Q Eff:=
 (qnf x).bind fun r=>match r with
 |⟨.str,xs,_⟩=>(qhH lo 0).bind fun l=>(qhH hi (qr xs)).bind fun h=>
  if E.ty tid=some .str then .ret ⟨qcl o (.val .str (qaB xs l h)),[inS l h (qr xs)]⟩ else .fail
 |⟨.slice e,xs,[]⟩=>(qhH lo 0).bind fun l=>(qhH hi (qr xs)).bind fun h=>
  if E.ty tid=some (.slice e) then .ret ⟨qcl o (.val (.slice e) (qaB xs l h)),[inS l h (qr xs)]⟩ else .fail
 |⟨.slice _,_,_::_⟩=>(qta x).bind fun q=>(qhH lo 0).bind fun l=>(qhH hi (qr q.xs)).bind fun h=>
  if E.ty tid=some (.slice q.e) then .ret ⟨qcl o (.osl q.s q.v q.fo q.e.size l h),[inS l h (qr q.xs)]⟩ else .fail
 |_=> .fail
def qt0 (E:Env) (o:Oper) (tid:Nat) (x:Op1) (s v d:Nat) (hi:Option Op1):Q Eff:=
 .get s fun en=>if en.1=v then (match en.2 with
  | .own et e xs=>if d≠s∧E.ty tid=some (.slice e) then (qhH hi (qr xs)).bind fun h=> .ret ⟨[⟨s,true,.undef⟩,⟨d,true,.own et e (qaB xs 0 h)⟩],[inS 0 h (qr xs)]⟩ else .fail
  |_=>qmM E o tid x none hi) else .fail
def cutE (E:Env) (o:Oper) (tid:Nat) (x:Op1) (hi:Option Op1):Option (Q Eff):=
 match x.s,x.a,o.dst with
 |some s,.own et e xs,some d=>if d≠s∧E.ty tid=some (.slice e) then some ((qhH hi (qr xs)).bind fun h=> .ret ⟨[⟨s,true,.undef⟩,⟨d,true,.own et e (qaB xs 0 h)⟩],[inS 0 h (qr xs)]⟩) else none
 |_,.nilr et e,_=>if E.ty tid=some (.slice e) then some ((qhH hi 0).bind fun h=> .ret ⟨qcl o (.nilr et e),[inS 0 h 0]⟩) else none
 |_,.ref s v,some d=>some (qt0 E o tid x s v d hi)
 |_,_,_=>none
def qbe:Ty→List Nat
 | .pair a b=>a.size::qbe b
 |_=>[]
def qrr (a b:Ty):BC→Option (BC×BC)
 | .pair c d=>if c.size=a.size then some (c,d) else none
 | .val (.pair a' b') x=>if a'.size=a.size then some (.val a' x.1,.val b' x.2) else none
 |_=>none
def qiw (z:BC) (t:Ty) (i:Nat):List (Nat×Op1)→Q (BC×List Nat)
 |ps=>match t with
  | .pair a b=>(match qrr a b z with
   |some (za,zb)=>(match ps.find? (fun p=>p.1 == i) with
    |some p=>(qiz a p.2).bind fun c=>if c.2.1.isEmpty then (qiw zb b (i+1) ps).bind fun r=> .ret (pairBC c.1 r.1,c.2.2.map (·.s)++r.2) else .fail
    |none=>(qiw zb b (i+1) ps).bind fun r=> .ret (pairBC za r.1,r.2))
   |none=> .fail)
  | .unit=> .ret (.val .unit (),[])
  |_=> .fail
where
 pairBC:BC→BC→BC
  | .val a x,.val b y=> .val (.pair a b) (x,y)
  |c,d=> .pair c d
def qj7 (e:Ty):Nat→List Op1→Q (List e.den×List Nat)
 |0,[]=> .ret ([],[])
 |n+1,o::os=>(toVal e o).bind fun x=>(qj7 e n os).bind fun r=> .ret (x.1::r.1,x.2++r.2)
 |_,_=> .fail
def qkQ:Nat→List (Nat×Op1)→Bool
 |_,[]=>true
 |i,p::ps=>p.1 == i&&qkQ (i+1) ps
def qsO (c:BC):AV:=
 match c with
 | .val t x=> .val t x
 |c=> .agg c
def qkg (E:Env) (p:qh5) (tid:Nat→Nat):List (Nat×Operand)→Q (List (Nat×Op1))
 |[]=> .ret []
 |(i,x)::r=>(opd E p (tid i) x).bind fun a=>(qkg E p tid r).bind fun q=> .ret ((i,a)::q)
def convE (E:Env) (o:Oper) (src dst:Nat) (x:Op1):Q Eff:=
 match E.ty src,E.ty dst with
 |some (.int _),some (.int k)=>(qlD x).bind fun n=>okE (qcl o (.val (.int k) (qjn k n.2)))
 |some .str,some .str=>(toVal .str x).bind fun s=>okE (qcl o (.val .str s.1))
 |some (.slice (.int .u8)),some .str=>if E.ty (E.etid src)=some (.int .u8) then ((toVal (.slice (.int .u8)) x).bind fun s=>okE (qcl o (.val .str (qu0 s.1)))) else .fail
 |some .str,some (.slice (.int .u8))=>if E.ty (E.etid dst)=some (.int .u8) then ((toVal .str x).bind fun s=>okE (qcl o (.val (.slice (.int .u8)) (qfi s.1)))) else .fail
 |_,_=> .fail
def qtM (op:BinOp) (y:Operand):Bool:=match op,y with
 | .eql,.const (.slice none 0 0)=>true
 | .neq,.const (.slice none 0 0)=>true
 |_,_=>false
def qqR (op:BinOp) (y:Operand):Bool:=match op,y with
 | .eql,.const .nilIface=>true
 | .neq,.const .nilIface=>true
 |_,_=>false
def qs9:Option Ty→Bool
 |some .err=>true
 |_=>false
def qqp (op:BinOp) (y:Operand):Bool:=match op,y with
 | .eql,.const (.pointer none)=>true
 | .neq,.const (.pointer none)=>true
 |_,_=>false
def qul:Option Ty→Bool
 |some (.opt _)=>true
 |_=>false
def qpl:Option Ty→Bool
 |some (.slice _)=>true
 |_=>false
def qgb:BinOp→Bool
 | .eql=>true
 |_=>false
structure MV where
 s:Nat
 k:Ty
 v:Ty
 xs:List (k.den×v.den)
def qve (o:Op1):Q MV:=
 match o.s,o.a with
 |some s,.mp k v xs=> .ret ⟨s,k,v,xs⟩
 |_,.ref s v=> .get s fun en=>if en.1=v then (match en.2 with
  | .mp k v xs=> .ret ⟨s,k,v,xs⟩
  |_=> .fail) else .fail
 |_,_=> .fail
def quJ (E:Env) (o:Oper) (t:Nat) (m k:Op1) (ok:Bool):Q Eff:=
 (qve m).bind fun M=>(toVal M.k k).bind fun q=>if E.ty t=some (.map M.k M.v) then (match ok with
  |false=>okE (qcl o (.val M.v (qf7 M.xs q.1 M.v.dflt)))
  |true=>okE (qcl o (.tup [.val M.v (qf7 M.xs q.1 M.v.dflt),.val .bool (qwm M.xs q.1)]))) else .fail
def qnV (E:Env) (t:Nat) (m k x:Op1):Q Eff:=
 (qve m).bind fun M=>(toVal M.k k).bind fun q=>(toVal M.v x).bind fun r=>if E.ty t=some (.map M.k M.v)∧M.s∉r.2 then
  (if M.v.flat then Q.ret [] else qcA r.2).bind fun fz=>okE (fz++[⟨M.s,false,.mp M.k M.v (qlW M.xs q.1 r.1)⟩]) else .fail
def qrJ (E:Env) (o:Oper) (t:Nat):Q Eff:=
 match E.ty t with
 |some (.map k v)=>okE (qcl o (.mp k v []))
 |_=> .fail
def qeI (E:Env) (p:qh5) (o:Oper):Q Eff:=
 match o.op with
 | .move x=>(opd E p o.type x).bind fun x=>qsq E.pins o false x
 | .assign x=>(opd E p o.type x).bind fun x=>qsq E.pins o true x
 | .pick c a b=>(opd E p 0 c).bind fun cv=>(qnf cv).bind fun cr=>match cr with
  |⟨.bool,bc,_⟩=>
   (opd E (qqF c cv.v true bc p) o.type a).bind fun a=>(qnf a).bind fun ar=>(opd E (qqF c cv.v false bc p) o.type b).bind fun b=>(qnf b).bind fun br=>
    match Ty.as (t:=br.t) ar.t br.x with
    |some y=>if ar.ow.isEmpty&&br.ow.isEmpty then okE (qcl o (.val ar.t (bif bc then ar.x else y))) else .fail
    |none=> .fail
  |_=> .fail
 | .alloc t=>match E.zero t with
  |some c=>okE (qcl o (.box c))
  |none=> .fail
 | .box t x=>(opd E p t x).bind fun x=>boxE E o t x
 | .build t parts=>(qkg E p (fun _=>0) parts.toList).bind fun ps=>match E.ty t with
  |some (.arr n e)=>if qkQ 0 ps&&(decide (0<n * e.size)&&decide ((E.zero t).map BC.size=some (n * e.size))) then (qj7 e n (ps.map (·.2))).bind fun r=>(if e.flat then Q.ret [] else qcA r.2).bind fun fz=>okE (fz++qcl o (.val (.arr n e) r.1)) else .fail
  |some T=>(qiw (if E.ownz=true then (E.zero t).getD (.val T T.dflt) else .val T T.dflt) T 0 ps).bind fun r=>(match o.dst with
   |some d=>if qkk (d::r.2)&&qkk (ps.map (·.1))&&ps.all (fun q=>decide (q.1<(qbe T).length)) then okE (r.2.map (fun s=>⟨s,true,.undef⟩)++[⟨d,true,qsO r.1⟩]) else .fail
   |none=> .fail)
  |none=> .fail
 | .buildSlice t n parts=>(qkg E p (fun _=>E.etid t) parts.toList).bind fun ps=>match E.ty t with
  |some (.slice e)=>if n=0∧parts.size=0 then okE (qcl o (.own (E.etid t) e [])) else if qkQ 0 ps&&decide (n * e.size≤16777216)&&decide (0<n * e.size) then (qj7 e n (ps.map (·.2))).bind fun r=>(if e.flat then Q.ret [] else qcA r.2).bind fun fz=>okE (fz++qcl o (.own (E.etid t) e r.1)) else .fail
  |_=> .fail
 | .load t a=>(opd E p 0 a).bind fun a=>qw3 E o t a
 | .store t a x=>if o.dst.isSome then .fail else (opd E p 0 a).bind fun a=>(opd E p t x).bind fun x=>qtW E t a x
 | .nilCheck x=>(opd E p 0 x).bind fun x=>match qhi x with
  |some (s,v,off)=> .get s fun en=>if vOk en.1 v=true then okE (qcl o (qs1 s off v)) else .fail
  |none=>match x.a with
   | .prow s v fo sz i b=> .get s fun en=>if en.1=v then okE (qcl o (.prow s v fo sz i b)) else .fail
   | .view t y b=>okE (qcl o (.view t y b))
   | .val (.opt e) y=> .ret ⟨qcl o (.view e (qx y e.dflt) 0),[qB y]⟩
   |_=> .fail
 | .binOp op t x y _=>if qtM op y&&qpl (E.ty t) then (opd E p t x).bind fun x=>(match x.a with
   | .nz _ xs=>okE (qcl o (.val .bool (bif qgb op then eqI (qr xs) 0 else !(eqI (qr xs) 0))))
   |_=>(qnf x).bind fun x=>(match x with
    |⟨.slice _,xs,_⟩=>okE (qcl o (.amb (qgb op) (eqI (qr xs) 0)))
    |_=> .fail)) else if qqR op y&&qs9 (E.ty t) then (opd E p t x).bind fun x=>(qnf x).bind fun x=>(match x with
   |⟨.err,b,_⟩=>okE (qcl o (.val .bool (bif qgb op then b else !b)))
   |_=> .fail) else if qqp op y&&qul (E.ty t) then (opd E p t x).bind fun x=>(qnf x).bind fun x=>(match x with
   |⟨.opt _,z,_⟩=>okE (qcl o (.val .bool (bif qgb op then !(qB z) else qB z)))
   |_=> .fail) else (opd E p t x).bind fun x=>(opd E p t y).bind fun y=>(qnf x).bind fun x=>(qnf y).bind fun y=>match binE E op t x y with
  |some (a,c)=> .ret ⟨qcl o a,c⟩
  |none=> .fail
 | .unOp op _ x=>(opd E p o.type x).bind fun x=>(qnf x).bind fun x=>match unE op x with
  |some a=>okE (qcl o a)
  |none=> .fail
 | .convert s d x=>(opd E p s x).bind fun x=>convE E o s d x
 | .slice t x lo hi none=>(opd E p t x).bind fun x=>match lo,hi with
  |none,none=>(match cutE E o t x none with
   |some q=>q
   |none=>qmM E o t x none none)
  |some l,none=>(opd E p 0 l).bind fun l=>qmM E o t x (some l) none
  |none,some h=>(opd E p 0 h).bind fun h=>(match cutE E o t x (some h) with
   |some q=>q
   |none=>qmM E o t x none (some h))
  |some l,some h=>(opd E p 0 l).bind fun l=>(opd E p 0 h).bind fun h=>qmM E o t x (some l) (some h)
 | .fieldAddr t x f=>(opd E p 0 x).bind fun x=>match E.off t f with
  |some off=>qwR o off x
  |none=> .fail
 | .field t x f=>(opd E p t x).bind fun x=>match E.ty t,E.off t f,E.ty (E.fty t f) with
  |some t,some off,some u=>(toVal t x).bind fun r=>match t.sub r.1 off u with
   |some y=>(if u.flat then Q.ret [] else qcA r.2).bind fun fz=>okE (fz++qcl o (.val u y))
   |none=> .fail
  |_,_,_=> .fail
 | .indexAddr t x ix=>(opd E p t x).bind fun x=>(opd E p 0 ix).bind fun ix=>qob E o t x ix
 | .index t x ix=>(opd E p t x).bind fun x=>(opd E p 0 ix).bind fun ix=>(qlD ix).bind fun i=>(qnf x).bind fun r=>match r with
  |⟨.str,xs,_⟩=>if E.ty t=some .str then .ret ⟨qcl o (.val (.int .u8) (qc6 (qk xs i.2 0))),[inB i.2 (qr xs)]⟩ else .fail
  |⟨.arr n e,xs,[]⟩=>if E.ty t=some (.arr n e)∧E.ty (E.etid t)=some e then .ret ⟨qcl o (.val e (qk xs i.2 e.dflt)),[inB i.2 n]⟩ else .fail
  |_=> .fail
 | .extract x i=>match x with
  | .tmp t=> .get t fun en=>match qce p en.2 with
   | .tup cs=>match cs[i]? with
    |some (.val t x)=>okE (qcl o (.val t x))
    |some (.own et e xs)=>(match o.dst with
     |some d=>if d=t then .fail else okE [⟨t,true,.tup (cs.set i .gone)⟩,⟨d,true,.own et e xs⟩]
     |none=> .fail)
    |_=> .fail
   |_=> .fail
  |_=> .fail
 | .makeSlice t l c=>(opd E p 0 l).bind fun l=>(opd E p 0 c).bind fun c=>(qlD l).bind fun n=>(qlD c).bind fun m=>match E.ty t with
  |some (.slice e)=>if E.bytes (E.etid t)≠0 then .ret ⟨qcl o (.own (E.etid t) e (qrn n.2 e.dflt)),[leI 0 n.2,leI n.2 m.2,qwf m.2 (E.bytes (E.etid t))]⟩ else .fail
  |_=> .fail
 | .makeMap t r=>if r.isNone then qrJ E o t else .fail
 | .lookup t m k ok=>(opd E p 0 m).bind fun m=>(opd E p 0 k).bind fun k=>quJ E o t m k ok
 | .mapUpdate t m k x=>if o.dst.isSome then .fail else (opd E p 0 m).bind fun m=>(opd E p 0 k).bind fun k=>(opd E p (E.etid t) x).bind fun x=>qnV E t m k x
 | .makeFunc fn first caps=>match fn with
  | .func f=>if first.isEmpty then cloE E o f caps.toList else .fail
  |_=> .fail
 | .call c=>match c.callee with
  | .builtin b=>(opds E p c.args.toList c.argTypes.toList).bind fun os=>qoS E o b c.argTypes.toList os
  | .value f=>match f with
   | .func f=>(match E.fn f with
    |some C=>(opds E p c.args.toList c.argTypes.toList).bind fun os=>qwP E o C os
    |none=> .fail)
   | .tmp t=> .get t fun e=>(match qce p e.2 with
    | .fnv ts us φ=>(opds E p c.args.toList c.argTypes.toList).bind fun os=>qwT E o ts us φ os
    |_=> .fail)
   |_=> .fail
  |_=> .fail
 |_=> .fail
def qrv:List (Nat×Nat)→Q Unit
 |[]=> .ret ()
 |m::r=> .get m.1 fun en=>if m.2≤en.1 then qrv r else .fail
def qle (s:Nat):List U→Nat
 |[]=>0
 |u::r=>match u.s == s&&u.bump with
  |true=>qle s r+1
  |false=>qle s r
def qn6 (d:List Nat) (u:U):Bool:=match u.a with
 | .box _=> !d.contains u.s
 |_=>false
def qf5 (us:List U) (d:List Nat):List Nat→Q (List U)
 |[]=> .ret []
 |t::r=> .get t fun e=>match e.2 with
  | .pbox s v off=>if us.any (fun u=>u.s == s&&qn6 d u)&& !us.any (fun u=>u.s == t)&& !d.contains s&& !d.contains t&&s != t then .get s fun e2=>(match e2.2 with
    | .box _=>if e2.1=v then (qf5 us d r).bind fun l=> .ret (⟨t,true,.pbox s (v+qle s us) off⟩::l) else qf5 us d r
    |_=>qf5 us d r) else qf5 us d r
  |_=>qf5 us d r
def qnd (E:Env) (o:Oper) (f:Eff):Q Eff:=match E.rf with
 |[]=> .ret f
 |l=>if f.upd.any (qn6 o.dst.toList) then (qf5 f.upd o.dst.toList l).bind fun us=> .ret ⟨f.upd++us,f.chk⟩ else .ret f
def qgP (E:Env) (g:Option (Nat×Bool)) (o:Oper):Q Eff:=
 match g with
 |none=>(qeI E [] o).bind fun f=>qnd E o f
 |some (s,w)=>(qdZ 8 s w).bind fun p=>(qeI E p o).bind fun f=>match f.upd,o.dst,p with
  |[⟨d,true,a⟩],some d',(s',v',w',_)::_=>if d=d'∧a.freeze.unowned=true∧a.freeze.isUndef=false∧p.all (fun q=>q.1 != d)=true then (qrv a.freeze.mentions).bind fun _=> .ret ⟨[⟨d,true,.grd s' v' w' a.freeze⟩],f.chk.map fun c=> !(qnm p)||c⟩ else .fail
  |_,_,_=> .fail
def qX (σ:St) (u:U):St:=σ.set u.s ((if u.bump then (qA σ u.s).1+1 else (qA σ u.s).1),u.a)
def qv (σ:St) (us:List U):St:=us.foldl qX σ
def qgK (ops:Array Oper) (o:Oper):Option (Option (Nat×Bool)):=
 match o.guard with
 |none=>some none
 |some (j,w)=>match (ops[j]?).bind (·.dst) with
  |some d=>some (some (d,w))
  |none=>none
structure qe8 where
 rd:List Nat
 us:List U
def qe8.wr (f:qe8):List Nat:=f.us.map (·.s)
def qea (E:Env) (wr:List Nat) (ops:Array Oper):List Oper→St→List Bool→List qe8→Option (St×List Bool×List qe8)
 |[],σ,c,fs=>some (σ,c,fs)
 |o::r,σ,c,fs=>match qgK ops o with
  |none=>none
  |some g=>match (qgP E g o).run (qA σ) with
   |none=>none
   |some f=>if f.upd.all (fun u=>wr.contains u.s&&decide (u.s<σ.length)) then
     qea E wr ops r (qv σ f.upd) (c++f.chk) ({ rd:=(qgP E g o).log (qA σ),us:=f.upd } ::fs)
    else none
def qcy (o:Oper):List Nat:=(o.after.toList.filter (Region.binds .any)).map (·.on)
def qio (ms:List Nat) (es:List Nat):Nat:=es.foldl (fun m j=>m|||(1 <<< j)|||ms.getD j 0) 0
def qfx (f g:qe8):Bool:=apart f.wr (g.rd++g.wr)&&apart g.wr f.rd
def qol (m:Nat) (f:qe8):Nat→List qe8→Bool
 |_,[]=>true
 |j,g::r=>(m.testBit j||qfx f g)&&qol m f (j+1) r
def qje:List Oper→List qe8→List Nat→List qe8→Bool
 |[],[],_,_=>true
 |o::os,f::fs,ms,done=>(qcy o).all (fun j=>decide (j<ms.length))&&(qol (qio ms (qcy o)) f 0 done&&qje os fs (ms++[qio ms (qcy o)]) (done++[f]))
 |_,_,_,_=>false
def qgC:AV→Bool
 | .own _ _ _=>true
 |_=>false
def qhC (o:Oper):Option Nat:=match o.guard,o.op with
 |none,.move (.tmp s)=>some s
 |_,_=>none
def qrk (σ:St) (fl:List qe8) (s:Nat):Bool:=qgC (qA σ s).2&&fl.all (fun f=>f.us.all (fun u=>u.s != s||(!u.bump&&qgC u.a)))
def qhI:AV→Bool
 | .box _=>true
 |_=>false
def qo4 (pins:List Nat) (σ:St) (fl:List qe8) (s:Nat):Bool:=pins.contains s&&(qhI (qA σ s).2&&fl.all (fun f=>f.us.all (fun u=>u.s != s||qhI u.a)))
def qkx (pins:List Nat) (σ:St) (fl:List qe8):List Oper→List qe8→List qe8
 |o::os,f::fs=>(match qhC o with
  |some s=>if (qrk σ fl s||qo4 pins σ fl s)=true then { f with rd:=[] } else f
  |none=>f)::qkx pins σ fl os fs
 |_,_=>[]
def qdP (E:Env) (wr:List Nat) (ops:Array Oper) (draw:Bool) (σ:St):Option (St×List Bool×List Nat):=
 match qea E wr ops ops.toList σ [] [] with
 |some (σ',c,fs)=>if !draw||qje ops.toList (qkx E.pins σ fs.reverse ops.toList fs.reverse) [] [] then some (σ',c,fs.flatMap (·.wr)) else none
 |none=>none
inductive qfk where
 |val (t:Ty)
 |own (et:Nat) (e:Ty)
 |box (b:qcY)
 |mp (k v:Ty)
@[reducible] def qfk.den:qfk→Type
 | .val t=>t.den
 | .own _ e=>List e.den
 | .box b=>b.den
 | .mp k v=>List (k.den×v.den)
def qfk.un:(s:qfk)→s.den→AV
 | .val t,x=> .val t x
 | .own et e,xs=> .own et e xs
 | .box b,x=> .box (b.un x)
 | .mp k v,xs=> .mp k v xs
def BC.toVal:(t:Ty)→BC→Option t.den
 |t,.val u x=>Ty.as (t:=u) t x
 | .pair a b,.pair c d=>match BC.toVal a c,BC.toVal b d with
  |some x,some y=>some (x,y)
  |_,_=>none
 |_,_=>none
def BC.toShape:(b:qcY)→BC→Option b.den
 | .val t,c=>c.toVal t
 | .own et e,.own et' e' xs=>if et=et' then Ty.as (t:= .slice e') (.slice e) xs else none
 | .pair a b,.pair c d=>match BC.toShape a c,BC.toShape b d with
  |some x,some y=>some (x,y)
  |_,_=>none
 | .hole n,.hole m=>if n=m then some () else none
 |_,_=>none
def AV.toShape:(s:qfk)→AV→Option s.den
 | .val t,.val u x=>Ty.as (t:=u) t x
 | .own et e,.own et' e' xs=>if et=et' then Ty.as (t:= .slice e') (.slice e) xs else none
 | .box b,.box c=>c.toShape b
 | .mp k v,.mp k' v' xs=>if h:k'=k∧v'=v then some (h.1 ▸ h.2 ▸ xs) else none
 |_,_=>none
structure qoq where
 id:Nat
 wr:List Nat
 live:List (Nat×qfk)
structure qwX where
 loops:List qoq
 lets:List (Nat×List Nat)
 frz:List (Nat×List Nat)
@[reducible] def liveDen:List (Nat×qfk)→Type
 |[]=>Unit
 |p::r=>p.2.den×liveDen r
def qqt:(l:List (Nat×qfk))→St→Option (liveDen l)
 |[],_=>some ()
 |p::r,σ=>match (qA σ p.1).2.toShape p.2,qqt r σ with
  |some x,some y=>some (x,y)
  |_,_=>none
def qgj:(l:List (Nat×qfk))→liveDen l→St→St
 |[],_,σ=>σ
 |p::r,x,σ=>qgj r x.2 (σ.set p.1 ((qA σ p.1).1,p.2.un x.1))
def qgt (A:qoq) (σ:St) (p:liveDen A.live):St:=
 qgj A.live p (A.wr.foldl (fun σ s=>σ.set s ((qA σ s).1+1,.undef)) σ)
def qks (l:List Nat) (σ:St):St:=l.foldl (fun σ s=>qX σ ⟨s,false,(qA σ s).2.freeze⟩) σ
def qiL:Code→Option Nat
 | .region id _ _=>some id
 | .seq a b=>(qiL a).orElse fun _=>qiL b
 | .cond _ a b=>(qiL a).orElse fun _=>qiL b
 | .block _ a=>qiL a
 | .loop a=>qiL a
 |_=>none
def calm (ops:Array Oper):Bool:=ops.toList.all fun o=>match o.op with
 | .panic _=>false
 |_=>true
def qn2:Code→Bool
 | .skip=>true
 | .region _ ops _=>calm ops
 | .seq a b=>qn2 a&&qn2 b
 | .cond _ a b=>qn2 a&&qn2 b
 |_=>false
def qgX (b:Bool) (x y:AV):AV:=
 match x,y with
 | .val t x,.val u y=>match Ty.as (t:=u) t y with
  |some y=> .val t (bif b then x else y)
  |none=> .undef
 | .own et e xs,.own et' e' ys=>if et=et' then (match Ty.as (t:= .slice e') (.slice e) ys with
  |some ys=> .own et e (bif b then xs else ys)
  |none=> .undef) else .undef
 | .box c,.box d=>match joinB b c d with
  |some r=> .box r
  |none=> .undef
 | .mp k v xs,.mp k' v' ys=>if h:k'=k∧v'=v then .mp k v (bif b then xs else (h.1 ▸ h.2 ▸ ys:List (k.den×v.den))) else .undef
 | .nilr et e,.own et' e' ys=>if et=et' then (match Ty.as (t:= .slice e') (.slice e) ys with
  |some ys=> .own et e (bif b then [] else ys)
  |none=> .undef) else .undef
 | .own et e xs,.nilr et' e'=>if et=et'∧e=e' then .own et e (bif b then xs else []) else .undef
 | .nilr et e,.nilr et' e'=>if et=et'∧e=e' then .nilr et e else .undef
 | .nz e xs,.nz e' ys=>(match Ty.as (t:= .slice e') (.slice e) ys with
  |some ys=> .nz e (bif b then xs else ys)
  |none=> .undef)
 | .nz e xs,.val (.slice e') ys=>(match Ty.as (t:= .slice e') (.slice e) ys with
  |some ys=> .val (.slice e) (bif b then xs else ys)
  |none=> .undef)
 | .val (.slice e) xs,.nz e' ys=>(match Ty.as (t:= .slice e') (.slice e) ys with
  |some ys=> .val (.slice e) (bif b then xs else ys)
  |none=> .undef)
 |_,_=> .undef
where
 joinB (b:Bool):BC→BC→Option BC
  | .val t x,.val u y=>match Ty.as (t:=u) t y with
   |some y=>some (.val t (bif b then x else y))
   |none=>none
  | .own et e xs,.own et' e' ys=>if et=et' then (match Ty.as (t:= .slice e') (.slice e) ys with
   |some ys=>some (.own et e (bif b then xs else ys))
   |none=>none) else none
  | .pair a c,.pair a' c'=>match joinB b a a',joinB b c c' with
   |some x,some y=>if a.size=a'.size then some (.pair x y) else none
   |_,_=>none
  | .hole n,.hole m=>if n=m then some (.hole n) else none
  |_,_=>none
def qll (b:Bool) (ds:List Nat) (σ σ1 σ2:St):St:=
 ds.foldl (fun τ s=>τ.set s (max (qA σ1 s).1 (qA σ2 s).1+1,qgX b (qA σ1 s).2 (qA σ2 s).2)) σ
def mism (x y:AV):Bool:=
 match x,y with
 | .own _ _ _,.val _ _=>true
 | .box c,.box d=>(qgX.joinB true c d).isNone
 |_,_=>false
def qnx (σ1 σ2:St):List Nat→List Nat
 |[]=>[]
 |s::r=>match mism (qA σ1 s).2 (qA σ2 s).2 with
  |true=>s::qnx σ1 σ2 r
  |false=>qnx σ1 σ2 r
def joinFz (b:Bool) (ds:List Nat) (σ σ1 σ2:St):St:=qll b ds σ (qks (qnx σ1 σ2 ds) σ1) (qks (qnx σ2 σ1 ds) σ2)
def AV.refit (s:qfk) (a:AV):AV:=match s,a with
 | .box b,.box c=>(match c.fit b with
  |some x=> .box (b.un x)
  |none=>(AV.box c).freeze)
 |_,a=>a.freeze
def qtN:List (Nat×qfk)→St→St
 |[],σ=>σ
 |p::r,σ=>qtN r (match ((qA σ p.1).2.toShape p.2).isNone with
  |true=>qX σ ⟨p.1,false,(qA σ p.1).2.refit p.2⟩
  |false=>σ)
def qxe:List Bool→Bool
 |[]=>true
 |[a]=>a
 |a::r=>a&&qxe r
def qqo (b:Bool) (c d:List Bool):List Bool:=match c,d with
 |[],[]=>[]
 |c,d=>[bif b then qxe c else qxe d]
def andThen {R:Type} (c:List Bool) (r:Option R):Option R:=match c with
 |[]=>r
 |c=>bif qxe c then r else none
def qf3:List (Nat×List Nat)→Option Nat→List Nat
 |_,none=>[]
 |[],_=>[]
 |(i,l)::r,some j=>match decEq i j with
  |isTrue _=>l
  |isFalse _=>qf3 r (some j)
def qmy (σ:St) (s:Nat):St:=match (qA σ s).2 with
 | .box (.val t x)=>qX σ ⟨s,true,.view t x 0⟩
 |_=>σ
def qoV (l:List Nat) (σ:St):St:=l.foldl qmy σ
def regE (E:Env) (frz:List (Nat×List Nat)) (wr:List Nat) (id:Nat) (ops:Array Oper) (d:Bool) (σ:St):Option (St×List Bool×List Nat):=
 match qf3 frz (some id) with
 |[]=>qdP E wr ops d σ
 |fz=>if fz.all wr.contains&&(qf3 frz (some (id+2000000000))).all fz.contains then (match qdP E wr ops d (qoV (qf3 frz (some (id+2000000000))) (qks fz σ)) with
  |some (σ',c,ds)=>some (σ',c,fz++ds)
  |none=>none) else none
def qst (E:Env) (frz:List (Nat×List Nat)) (wr:List Nat):Code→St→Option (St×List Bool×List Nat)
 | .skip,σ=>some (σ,[],[])
 | .region id ops d,σ=>regE E frz wr id ops d σ
 | .seq a b,σ=>match qst E frz wr a σ with
  |some (σ1,c1,d1)=>match qst E frz wr b σ1 with
   |some (σ2,c2,d2)=>some (σ2,c1++c2,d1++d2)
   |none=>none
  |none=>none
 | .cond c a b,σ=>match Q.run (qA σ) ((opd E [] 0 c).bind qnf) with
  |some ⟨.bool,x,_⟩=>match qst E frz wr a σ,qst E frz wr b σ with
   |some (σ1,c1,d1),some (σ2,c2,d2)=>some (joinFz x (d1++d2) σ σ1 σ2,qqo x c1 c2,d1++d2)
   |_,_=>none
  |_=>none
 |_,_=>none
structure K (R:Type) where
 n:St→Option R
 e:Nat→St→Option R
 r:St→Option R
def qfW {R:Type} :List Nat→St→(St→Option R)→Option R
 |[],σ,k=>k σ
 |s::r,σ,k=>match qA σ s with
  |(v,.val t x)=>q7 x fun y=>qfW r (σ.set s (v,.val t y)) k
  |(v,.own et e xs)=>q7 xs fun ys=>qfW r (σ.set s (v,.own et e ys)) k
  |(v,.box (.val t x))=>q7 x fun y=>qfW r (σ.set s (v,.box (.val t y))) k
  |_=>qfW r σ k
def qw1 (c:Operand) (σ:St):Option (Bool×Bool):=match c with
 | .tmp t=>(match (qA σ t).2 with
  | .amb w m=>some (w,m)
  |_=>none)
 |_=>none
def qqj (E:Env) (N:Nat) (anns:qwX) {R:Type} :Code→List Nat→St→K R→Option R
 | .skip,_,σ,k=>k.n σ
 | .region id ops d,wr,σ,k=>qfW (qf3 anns.lets (some id)) σ fun σ=>match regE E anns.frz wr id ops d σ with
  |some (σ',c,_)=>andThen c (k.n σ')
  |none=>none
 | .seq a b,wr,σ,k=>qqj E N anns a wr σ { k with n:=fun σ'=>qqj E N anns b wr σ' k }
 | .cond c a b,wr,σ,k=>qfW (qf3 anns.lets ((qiL (.cond c a b)).map (· +1000000))) σ fun σ=>match qw1 c σ with
  |some (w,m)=>bif m then qsx (qqj E N anns a wr σ k) (qqj E N anns b wr σ k) else (match w with
   |true=>qqj E N anns b wr σ k
   |false=>qqj E N anns a wr σ k)
  |none=>match Q.run (qA σ) ((opd E [] 0 c).bind qnf) with
  |some ⟨.bool,x,_⟩=>
   if qn2 a&&qn2 b then (match qst E anns.frz wr (.cond c a b) σ with
    |some (σ',ch,_)=>andThen ch (k.n σ')
    |none=>none)
   else bif x then qqj E N anns a wr σ k else qqj E N anns b wr σ k
  |_=>none
 | .block id a,wr,σ,k=>qqj E N anns a wr σ { k with e:=fun i σ'=>if i=id then k.n σ' else k.e i σ' }
 | .exit id,_,σ,k=>k.e id σ
 | .ret,_,σ,k=>k.r σ
 | .loop a,wr,σ,k=>match (qiL a).bind (fun id=>anns.loops.find? (fun A=>A.id == id)) with
  |some A=>if A.wr.all wr.contains&&A.live.all (fun p=>A.wr.contains p.1)&&qkk (A.live.map (·.1)) then (match qqt A.live (qtN A.live σ) with
    |some p=>qad N (fun ih p=>qqj E N anns a A.wr (qgt A σ p) { k with n:=fun σ'=>match qqt A.live (qtN A.live σ') with
     |some q=>ih q
     |none=>none }) p
    |none=>none) else none
  |none=>none
 |_,_,_,_=>none
def qnU (pin:List Nat) (l:List Oper):Bool:=l.all fun o=>apart o.dst.toList pin
def qj3 (pin:List Nat):Code→Bool
 | .region _ ops _=>qnU pin ops.toList
 | .seq a b=>qj3 pin a&&qj3 pin b
 | .cond _ a b=>qj3 pin a&&qj3 pin b
 | .block _ a=>qj3 pin a
 | .loop a=>qj3 pin a
 | .skip=>true
 | .exit _=>true
 | .ret=>true
 |_=>false
def qdg:List PM→Nat→List Nat
 |[],_=>[]
 | .io _::r,k=>k::qdg r (k+1)
 | .val _::r,k=>qdg r (k+1)
 | .own _ _::r,k=>qdg r (k+1)
 | .fn _ _::r,k=>qdg r (k+1)
 | .nil _ _::r,k=>qdg r (k+1)
 | .rd _::r,k=>qdg r (k+1)
 | .ior _ _::r,k=>k::qdg r (k+1)
 | .iob _::r,k=>k::qdg r (k+1)
def qcL:List PM→Nat→List Nat
 |[],_=>[]
 | .io _::r,k=>k::qcL r (k+1)
 | .val _::r,k=>qcL r (k+1)
 | .own _ _::r,k=>qcL r (k+1)
 | .fn _ _::r,k=>qcL r (k+1)
 | .nil _ _::r,k=>qcL r (k+1)
 | .rd _::r,k=>qcL r (k+1)
 | .ior _ _::r,k=>qcL r (k+1)
 | .iob _::r,k=>k::qcL r (k+1)
def qdb:List PM→Nat→List Nat
 |[],_=>[]
 | .ior _ _::r,k=>k::qdb r (k+1)
 | .iob _::r,k=>k::qdb r (k+1)
 | .io _::r,k=>qdb r (k+1)
 | .val _::r,k=>qdb r (k+1)
 | .own _ _::r,k=>qdb r (k+1)
 | .fn _ _::r,k=>qdb r (k+1)
 | .nil _ _::r,k=>qdb r (k+1)
 | .rd _::r,k=>qdb r (k+1)
def qwG:(p:PM)→p.den→AV
 | .val t,x=> .val t x
 | .own et e,xs=> .own et e xs
 | .io t,x=> .box (.val t x)
 | .fn ps rs,φ=> .fnv ps rs φ
 | .nil et e,_=> .nilr et e
 | .rd t,x=> .view t x 0
 | .ior et e,xs=> .own et e xs
 | .iob b,x=> .box (b.un x)
def qch:(ps:List PM)→PMs.den ps→St
 |[],_=>[]
 |p::ps,x=>(0,qwG p x.1)::qch ps x.2
def qfF (fn:Func) (ps:List PM) (x:PMs.den ps):St:=qch ps x++List.replicate (fn.ntmps - ps.length) (0,.undef)
def qn4 (E:Env) (r:RM) (v:ResultVar):Q (r.den×List Nat):=
 match r,v with
 | .val u,.cell a t=> .get a fun en=>match en.2 with
  | .box c=>if E.ty t=some u∧c.size=u.size then (match c.get 0 u with
   |some (x,f)=> .ret (x,if f then [a] else [])
   |none=> .fail) else .fail
  |_=> .fail
 | .val t,.tmp s=> .get s fun en=>toVal t ⟨some s,en.1,en.2⟩
 | .own et e,.tmp s=> .get s fun en=>match en.2 with
  | .own et' e' xs=>if et=et' then (match Ty.as (t:= .slice e') (.slice e) xs with
   |some xs=> .ret (xs,[s])
   |none=> .fail) else .fail
  | .ref s' v=> .get s' fun en=>if en.1=v then (match en.2 with
   | .own et' e' xs=>if et=et' then (match Ty.as (t:= .slice e') (.slice e) xs with
    |some xs=> .ret (xs,[s'])
    |none=> .fail) else .fail
   |_=> .fail) else .fail
  |_=> .fail
 | .nz e,.tmp s=> .get s fun en=>match en.2 with
  | .nilr _ _=> .ret ([],[])
  | .nz e' xs=>(match Ty.as (t:= .slice e') (.slice e) xs with
   |some xs=> .ret (xs,[])
   |none=> .fail)
  | .val (.slice e') xs=>(match Ty.as (t:= .slice e') (.slice e) xs with
   |some xs=> .ret (xs,[])
   |none=> .fail)
  |_=> .fail
 |_,_=> .fail
def nzC:List RM→List ResultVar→Q (List Bool)
 | .nz _::rs,.tmp s::vs=> .get s fun en=>match en.2 with
  | .val (.slice _) xs=>(nzC rs vs).bind fun l=> .ret (neI (qr xs) 0::l)
  |_=>nzC rs vs
 |_::rs,_::vs=>nzC rs vs
 |_,_=> .ret []
def qk4 (E:Env):(rs:List RM)→List ResultVar→Q (RMs.den rs×List Nat×List Nat)
 |[],[]=> .ret ((),[],[])
 |r::rs,v::vs=>(qn4 E r v).bind fun x=>(qk4 E rs vs).bind fun q=>match r with
  | .own _ _=> .ret ((x.1,q.1),x.2++q.2.1,q.2.2)
  | .val _=> .ret ((x.1,q.1),q.2.1,x.2++q.2.2)
  | .nz _=> .ret ((x.1,q.1),q.2.1,q.2.2)
 |_,_=> .fail
def qgS:(ps:List PM)→Nat→Q (PMs.ioDen ps)
 |[],_=> .ret ()
 | .io t::ps,s=> .get s fun en=>match en.2 with
  | .box c=>match (if c.size=t.size then c.get 0 t else none) with
   |some (x,_)=>(qgS ps (s+1)).bind fun r=> .ret (x,r)
   |none=> .fail
  |_=> .fail
 | .val _::ps,s=>qgS ps (s+1)
 | .own _ _::ps,s=>qgS ps (s+1)
 | .fn _ _::ps,s=>qgS ps (s+1)
 | .nil _ _::ps,s=>qgS ps (s+1)
 | .rd _::ps,s=>qgS ps (s+1)
 | .iob b::ps,s=> .get s fun en=>match en.2 with
  | .box c=>(match c.fit b with
   |some x=>(qgS ps (s+1)).bind fun r=> .ret (x,r)
   |none=> .fail)
  |_=> .fail
 | .ior et e::ps,s=> .get s fun en=>match en.2 with
  | .own et' e' xs=>if et=et' then (match Ty.as (t:= .slice e') (.slice e) xs with
   |some x=>(qgS ps (s+1)).bind fun r=> .ret (x,r)
   |none=> .fail) else .fail
  |_=> .fail
def qpH (E:Env) (fn:Func) (ps:List PM) (rs:List RM) (σ:St):Option (RMs.den rs×PMs.ioDen ps):=
 match (qk4 E rs fn.results.toList).run (qA σ),(qgS ps 0).run (qA σ),(nzC rs fn.results.toList).run (qA σ) with
 |some (y,gone,ow),some z,some c=>if qkk gone&&apart ow gone&&apart (gone++ow) (qdb ps 0) then andThen c (some (y,z)) else none
 |_,_,_=>none
def kFin (E:Env) (fn:Func) (ps:List PM) (rs:List RM):K (RMs.den rs×PMs.ioDen ps):=
 { n:=qpH E fn ps rs,e:=fun _ _=>none,r:=qpH E fn ps rs }
def runF (E:Env) (N:Nat) (anns:qwX) (fn:Func) (ps:List PM) (rs:List RM) (x:PMs.den ps):Option (RMs.den rs×PMs.ioDen ps):=
 match fn.body with
 |some c=>if qj3 (qdg ps 0) c&&decide (ps.length≤fn.ntmps) then qqj { E with pins:=qcL ps 0,rf:=qf3 anns.frz (some 1000000007),nzr:=rs.any (fun r=>match r with| .nz _=>true|_=>false) } N anns c (List.range fn.ntmps) (qfF fn ps x) (kFin E fn ps rs) else none
 |none=>none
end
end Go.Vi
namespace Go.Vi
theorem qai (b off n:Nat):(⟨b,off,none⟩:Addr).add n=⟨b,off+n,none⟩:=by
 unfold Addr.add
 split
 ·subst_vars; rfl
 ·rfl
theorem qaQ (a:Addr) (i j:Nat):(a.add i).add j=a.add (i+j):=by
 unfold Addr.add
 by_cases hi:i=0 <;> by_cases hj:j=0 <;> simp [hi,hj,Nat.add_assoc]
theorem q8 (a:Addr) (n:Nat):(a.add n).block=a.block:=by unfold Addr.add; split <;> rfl
def qhf (w:World) (a:Addr) (cs:List Value):Prop:=∀j u,cs[j]? =some u→w.cell? (a.add j)=some u
def qeb {α:Type} (w:World) (F:Nat→Prop) (R:α→List Value→Prop) (sz:Nat) (xs:List α) (v:Value):Prop:=
 (v= .slice none 0 0∧xs=[])∨
 ∃a cap,v= .slice (some a) xs.length cap∧xs.length≤cap∧cap≤maxLen∧
  ∀i x,xs[i]? =some x→F a.block∧a.block<w.heap.size∧∃cs,qhf w (a.add (i * sz)) cs∧R x cs
def quN {α:Type} (w:World) (F:Nat→Prop) (R:α→List Value→Prop) (x:Option α) (v:Value):Prop:=
 (x=none∧v= .pointer none)∨∃y a cs,x=some y∧v= .pointer (some a)∧F a.block∧a.block<w.heap.size∧qhf w a cs∧R y cs
def Rep (w:World) (F:Nat→Prop):(t:Ty)→t.den→List Value→Prop
 | .int k,n,cs=>cs=[.int k n]∧k.has n
 | .bool,b,cs=>cs=[.bool b]
 | .str,s,cs=>cs=[.string ⟨s.toArray⟩]∧s.length≤maxLen
 | .unit,_,cs=>cs=[]
 | .pair a b,x,cs=>∃c1 c2,cs=c1++c2∧Rep w F a x.1 c1∧Rep w F b x.2 c2
 | .slice e,xs,cs=>∃v,cs=[v]∧qeb w F (Rep w F e) e.size xs v
 | .opt e,x,cs=>∃v,cs=[v]∧quN w F (Rep w F e) x v
 | .map _ _,_,_=>False
 | .err,b,cs=>∃v,cs=[v]∧((b=true∧v= .nilIface)∨(b=false∧∃t x,v= .iface t x))
 | .arr n e,xs,cs=>xs.length=n∧∃css:List (List Value),css.length=n∧cs=css.flatten∧∀(i:Nat) (x:e.den) (c:List Value),xs[i]? =some x→css[i]? =some c→Rep w F e x c
theorem qeM {css:List (List Value)} {sz:Nat} (h:∀c∈css,c.length=sz):css.flatten.length=css.length * sz:=by
 induction css with
 |nil=>simp
 |cons c r ih=>
  rw [List.flatten_cons,List.length_append,h c (by simp),ih (fun c hc=>h c (by simp [hc])),List.length_cons,Nat.add_mul,Nat.one_mul,Nat.add_comm]
theorem Rep.length {w:World} {F:Nat→Prop} : {t:Ty} → {x:t.den} → {cs:List Value} →Rep w F t x cs→cs.length=t.size
 | .int _,_,_,h=>by rw [h.1]; rfl
 | .bool,_,_,h=>by rw [show _=_ from h]; rfl
 | .str,_,_,h=>by rw [h.1]; rfl
 | .unit,_,_,h=>by rw [show _=_ from h]; rfl
 | .pair a b,_,_,⟨c1,c2,hc,h1,h2⟩=>by rw [hc,List.length_append,h1.length,h2.length]; rfl
 | .slice _,_,_,⟨v,hc,_⟩=>by rw [hc]; rfl
 | .err,_,_,⟨v,hc,_⟩=>by rw [hc]; rfl
 | .opt _,_,_,⟨v,hc,_⟩=>by rw [hc]; rfl
 | .map _ _,_,_,h=>h.elim
 | .arr n e,xs,_,⟨hl,css,hcl,hc,hx⟩=>by
  rw [hc,qeM (sz:=e.size),hcl]
  ·rfl
  ·intro c hm
   obtain ⟨i,hi,rfl⟩:=List.getElem_of_mem hm
   have hix:i<xs.length:=by omega
   exact (hx i xs[i] css[i] (List.getElem?_eq_getElem hix) (List.getElem?_eq_getElem hi)).length
theorem Rep.keep {w w':World} {F F':Nat→Prop} (hF:∀b,F b→b<w.heap.size→F' b∧b<w'.heap.size∧w'.heap[b]? =w.heap[b]?):
  {t:Ty} → {x:t.den} → {cs:List Value} →Rep w F t x cs→Rep w' F' t x cs
 | .int _,_,_,h=>h
 | .bool,_,_,h=>h
 | .str,_,_,h=>h
 | .err,_,_,h=>h
 | .unit,_,_,h=>h
 | .map _ _,_,_,h=>h.elim
 | .opt e,x,_,⟨v,hc,h⟩=>⟨v,hc,by
   rcases h with h|⟨y,a,cs,h1,h2,h3,h4,h5,h6⟩
   ·exact .inl h
   ·obtain ⟨g1,g2,g3⟩:=hF _ h3 h4
    exact .inr ⟨y,a,cs,h1,h2,g1,g2,fun j u hu=>by
     rw [←h5 j u hu]
     exact World.cell?_of_block (by rw [q8]; exact g3),h6.keep hF⟩⟩
 | .pair a b,_,_,⟨c1,c2,hc,h1,h2⟩=>⟨c1,c2,hc,h1.keep hF,h2.keep hF⟩
 | .slice e,xs,_,⟨v,hc,h⟩=>⟨v,hc,by
   rcases h with h|⟨a,cap,hv,hl,hm,hx⟩
   ·exact .inl h
   ·refine .inr ⟨a,cap,hv,hl,hm,fun i x hi=> ?_⟩
    obtain ⟨h1,h2,cs,h3,h4⟩:=hx i x hi
    obtain ⟨g1,g2,g3⟩:=hF _ h1 h2
    refine ⟨g1,g2,cs,fun j u hu=> ?_,h4.keep hF⟩
    rw [←h3 j u hu]
    exact World.cell?_of_block (by rw [q8,q8]; exact g3)⟩
 | .arr n e,xs,_,⟨hl,css,hcl,hc,hx⟩=>⟨hl,css,hcl,hc,fun i x c hi hci=>(hx i x c hi hci).keep hF⟩
theorem Rep.flat {w w':World} {F F':Nat→Prop} : {t:Ty} → {x:t.den} → {cs:List Value} →t.flat=true→Rep w F t x cs→Rep w' F' t x cs
 | .int _,_,_,_,h=>h
 | .bool,_,_,_,h=>h
 | .str,_,_,_,h=>h
 | .err,_,_,_,h=>h
 | .unit,_,_,_,h=>h
 | .pair a b,_,_,hf,⟨c1,c2,hc,h1,h2⟩=>by
  have hf:a.flat=true∧b.flat=true:=by simpa [Ty.flat] using hf
  exact ⟨c1,c2,hc,h1.flat hf.1,h2.flat hf.2⟩
 | .slice _,_,_,hf,_=>by simp [Ty.flat] at hf
 | .opt _,_,_,hf,_=>by simp [Ty.flat] at hf
 | .map _ _,_,_,hf,_=>by simp [Ty.flat] at hf
 | .arr n e,xs,_,hf,⟨hl,css,hcl,hc,hx⟩=>⟨hl,css,hcl,hc,fun i x c hi hci=>(hx i x c hi hci).flat hf⟩
theorem Ty.as_some {t u:Ty} {x:t.den} {y:u.den} (h:Ty.as u x=some y):∃e:t=u,e ▸ x=y:=by
 unfold Ty.as at h
 split at h
 ·rename_i e
  exact ⟨e,by injection h⟩
 ·cases h
theorem Rep.as {w:World} {F:Nat→Prop} {t u:Ty} {x:t.den} {y:u.den} {cs:List Value} (h:Ty.as u x=some y) (hr:Rep w F t x cs):Rep w F u y cs:=by
 obtain ⟨rfl,rfl⟩:=Ty.as_some h
 exact hr
theorem qb5 {css:List (List Value)} {sz i:Nat} {c:List Value} (h:∀c∈css,c.length=sz) (hi:css[i]? =some c):
  (css.flatten.drop (i * sz)).take sz=c∧i * sz+sz≤css.flatten.length:=by
 induction css generalizing i with
 |nil=>simp at hi
 |cons d r ih=>
  have hd:d.length=sz:=h d (by simp)
  cases i with
  |zero=>
   simp at hi
   subst hi
   simp [hd]
  |succ i=>
   simp at hi
   have:=ih (fun c hc=>h c (by simp [hc])) hi
   rw [List.flatten_cons,Nat.add_mul,Nat.one_mul]
   refine ⟨?_,?_⟩
   ·rw [show i * sz+sz=d.length+i * sz from by omega,List.drop_append]
    simp only [List.drop_of_length_le (show d.length≤d.length+i * sz by omega),List.nil_append,show d.length+i * sz - d.length=i * sz by omega]
    exact this.1
   ·rw [List.length_append,hd]
    omega
theorem qeE {c1 c2:List Value} {off n:Nat} (h:off+n≤c1.length):((c1++c2).drop off).take n=(c1.drop off).take n:=by
 rw [List.drop_append,List.take_append]
 simp only [List.length_drop]
 rw [show n - (c1.length - off)=0 by omega]
 simp
theorem qec {c1 c2:List Value} {off n:Nat} (h:c1.length≤off):((c1++c2).drop off).take n=(c2.drop (off - c1.length)).take n:=by
 rw [List.drop_append,List.drop_of_length_le h,List.nil_append]
theorem qhn {α:Type} {xs:List α} {i:Int} {d x:α} (h:xs[i.toNat]? =some x):qk xs i d=x:=by simp [qdu,List.getD,h]
theorem Ty.whole_some {t u:Ty} {x:t.den} {off:Nat} {y:u.den} (h:Ty.whole u x off=some y):off=0∧Ty.as u x=some y:=by
 unfold Ty.whole at h
 split at h
 ·exact ⟨by assumption,h⟩
 ·cases h
theorem Ty.whole_self (t:Ty) (x:t.den):Ty.whole (t:=t) t x 0=some x:=by simp [Ty.whole,Ty.as]
theorem Ty.sub_self:(t:Ty)→(x:t.den)→t.sub x 0 t=some x
 | .int k,x=>Ty.whole_self (.int k) x
 | .bool,x=>Ty.whole_self .bool x
 | .str,x=>Ty.whole_self .str x
 | .unit,x=>Ty.whole_self .unit x
 | .slice e,x=>Ty.whole_self (.slice e) x
 | .err,x=>Ty.whole_self .err x
 | .opt e,x=>Ty.whole_self (.opt e) x
 | .map k v,x=>Ty.whole_self (.map k v) x
 | .pair a b,x=>by simp only [Ty.sub,Ty.whole_self]
 | .arr n e,x=>by simp only [Ty.sub,Ty.whole_self]
theorem Rep.whole {w:World} {F:Nat→Prop} {t u:Ty} {x:t.den} {off:Nat} {y:u.den} {cs:List Value} (hr:Rep w F t x cs) (h:Ty.whole u x off=some y):
  off+u.size≤cs.length∧Rep w F u y ((cs.drop off).take u.size):=by
 obtain ⟨rfl,h⟩:=Ty.whole_some h
 have hr:=Rep.as h hr
 have:=hr.length
 exact ⟨by omega,by rw [List.drop_zero,List.take_of_length_le (by omega)]; exact hr⟩
theorem qrw {α:Type} {xs:List α} {k n:Nat} (hk:k<n) (hl:xs.length=n) (d:α):qk xs (Int.ofNat k) d=xs[k]'(by omega):=by
 have:xs[(Int.ofNat k).toNat]? =some (xs[k]'(by omega)):=by
  rw [show (Int.ofNat k).toNat=k from rfl]
  exact List.getElem?_eq_getElem (by omega)
 exact qhn this
theorem qlR {w:World} {F:Nat→Prop} {e:Ty} {xs:List e.den} {css:List (List Value)} (hl:xs.length=css.length)
  (hx:∀(i:Nat) (x:e.den) (c:List Value),xs[i]? =some x→css[i]? =some c→Rep w F e x c):∀c∈css,c.length=e.size:=by
 intro c hm
 obtain ⟨i,hi,rfl⟩:=List.getElem_of_mem hm
 exact (hx i (xs[i]'(by omega)) css[i] (List.getElem?_eq_getElem (by omega)) (List.getElem?_eq_getElem hi)).length
theorem Rep.sub {w:World} {F:Nat→Prop} : {t:Ty} → {x:t.den} → {cs:List Value} → {off:Nat} → {u:Ty} → {y:u.den} →Rep w F t x cs→t.sub x off u=some y→
  off+u.size≤cs.length∧Rep w F u y ((cs.drop off).take u.size)
 | .int _,_,_,_,_,_,h,hs=>h.whole hs
 | .bool,_,_,_,_,_,h,hs=>h.whole hs
 | .str,_,_,_,_,_,h,hs=>h.whole hs
 | .unit,_,_,_,_,_,h,hs=>h.whole hs
 | .slice e,_,_,_,_,_,h,hs=>h.whole hs
 | .err,_,_,_,_,_,h,hs=>Rep.whole (t:= .err) h hs
 | .opt e,_,_,_,_,_,h,hs=>Rep.whole (t:= .opt e) h hs
 | .map _ _,_,_,_,_,_,h,_=>h.elim
 | .pair a b,x,cs,off,u,y,h,hs=>by
  simp only [Ty.sub] at hs
  cases hz:Ty.whole (t:= .pair a b) u x off with
  |some z=>
   rw [hz] at hs
   injection hs with hs; subst hs
   exact Rep.whole h hz
  |none=>
   rw [hz] at hs
   obtain ⟨c1,c2,rfl,h1,h2⟩:=h
   simp only at hs
   split at hs
   ·obtain ⟨g1,g2⟩:=h1.sub hs
    exact ⟨by rw [List.length_append]; omega,by rw [qeE g1]; exact g2⟩
   ·obtain ⟨g1,g2⟩:=h2.sub hs
    have hl:=h1.length
    exact ⟨by rw [List.length_append]; omega,by rw [qec (by omega),hl]; exact g2⟩
 | .arr n e,xs,cs,off,u,y,h,hs=>by
  simp only [Ty.sub] at hs
  cases hz:Ty.whole (t:= .arr n e) u xs off with
  |some z=>
   rw [hz] at hs
   injection hs with hs; subst hs
   exact Rep.whole h hz
  |none=>
   rw [hz] at hs
   simp only at hs
   split at hs
   ·rename_i hlt
    obtain ⟨hl,css,hcl,rfl,hx⟩:=h
    have hpos:0<e.size:=by
     rcases Nat.eq_zero_or_pos e.size with h0|h0
     ·rw [h0,Nat.mul_zero] at hlt; omega
     ·exact h0
    have hidx:off / e.size<n:=by rw [Nat.div_lt_iff_lt_mul hpos]; exact hlt
    rw [qrw hidx hl] at hs
    have hc:css[off / e.size]? =some (css[off / e.size]'(by omega)):=List.getElem?_eq_getElem (by omega)
    have hre:=hx (off / e.size) _ _ (List.getElem?_eq_getElem (by omega)) hc
    obtain ⟨g1,g2⟩:=hre.sub hs
    have hall:=qlR (by omega) hx
    obtain ⟨k1,k2⟩:=qb5 hall hc
    have hdm:off=off / e.size * e.size+off % e.size:=by rw [Nat.mul_comm]; exact (Nat.div_add_mod off e.size).symm
    have hcl':(css[off / e.size]'(by omega)).length=e.size:=hall _ (List.getElem_mem _)
    rw [hcl'] at g1
    refine ⟨by omega,?_⟩
    have:(css.flatten.drop off).take u.size=(((css.flatten.drop (off / e.size * e.size)).take e.size).drop (off % e.size)).take u.size:=by
     rw [List.drop_take,List.drop_drop,List.take_take,←hdm,Nat.min_eq_left (by omega)]
    rw [this,k1]
    exact g2
   ·cases hs
theorem qoT {c1 c2 ds:List Value} {off n:Nat} (h:off+n≤c1.length) (hd:ds.length=n):
  (c1++c2).take off++ds++(c1++c2).drop (off+n)=(c1.take off++ds++c1.drop (off+n))++c2:=by
 rw [List.take_append_of_le_length (by omega),List.drop_append_of_le_length (by omega)]
 simp [List.append_assoc]
theorem qmH {c1 c2 ds:List Value} {off n:Nat} (h:c1.length≤off):
  (c1++c2).take off++ds++(c1++c2).drop (off+n)=c1++(c2.take (off - c1.length)++ds++c2.drop (off - c1.length+n)):=by
 rw [List.take_append,List.drop_append,List.take_of_length_le h,List.drop_of_length_le (by omega)]
 simp only [List.nil_append,List.append_assoc]
 rw [show off+n - c1.length=off - c1.length+n by omega]
theorem qpM {l ds:List Value} {q r n sz:Nat} (h:q+sz≤l.length) (hn:r+n≤sz) (hd:ds.length=n):
  l.take (q+r)++ds++l.drop (q+r+n)=l.take q++(((l.drop q).take sz).take r++ds++((l.drop q).take sz).drop (r+n))++l.drop (q+sz):=by
 have hA:(l.take q).length=q:=by rw [List.length_take]; omega
 have hB:((l.drop q).take sz).length=sz:=by rw [List.length_take,List.length_drop]; omega
 have hl:l=l.take q++((l.drop q).take sz++l.drop (q+sz)):=by
  rw [←List.drop_drop,List.take_append_drop,List.take_append_drop]
 have e1:= @qmH (l.take q) ((l.drop q).take sz++l.drop (q+sz)) ds (q+r) n (by omega)
 have e2:= @qoT ((l.drop q).take sz) (l.drop (q+sz)) ds r n (by omega) hd
 rw [←hl,hA,show q+r - q=r by omega,e2] at e1
 rw [e1]
 simp [List.append_assoc]
theorem Rep.putWhole {w:World} {F:Nat→Prop} {t u:Ty} {x:t.den} {off:Nat} {y:u.den} {z:t.den} {cs ds:List Value} (hr:Rep w F t x cs) (hy:Rep w F u y ds) (h:Ty.whole (t:=u) t y off=some z):
  off+u.size≤cs.length∧Rep w F t z (cs.take off++ds++cs.drop (off+u.size)):=by
 obtain ⟨rfl,h⟩:=Ty.whole_some h
 obtain ⟨rfl,rfl⟩:=Ty.as_some h
 have:=hr.length
 exact ⟨by omega,by rw [List.take_zero,List.nil_append,List.drop_of_length_le (by omega),List.append_nil]; exact hy⟩
theorem qmb {css:List (List Value)} {sz i:Nat} {d:List Value} (h:∀c∈css,c.length=sz) (hi:i<css.length):
  (css.set i d).flatten=css.flatten.take (i * sz)++d++css.flatten.drop (i * sz+sz):=by
 induction css generalizing i with
 |nil=>simp at hi
 |cons c r ih=>
  have hc:c.length=sz:=h c (by simp)
  cases i with
  |zero=>simp [hc]
  |succ i=>
   rw [List.set_cons_succ,List.flatten_cons,ih (fun c hc=>h c (by simp [hc])) (by simpa using hi),List.flatten_cons]
   rw [show (i+1) * sz=c.length+i * sz by rw [Nat.add_mul]; omega,List.take_append,List.drop_append]
   simp only [List.take_of_length_le (show c.length≤c.length+i * sz by omega),List.drop_of_length_le (show c.length≤c.length+i * sz+sz by omega),List.append_assoc,List.nil_append]
   rw [show c.length+i * sz - c.length=i * sz by omega,show c.length+i * sz+sz - c.length=i * sz+sz by omega]
theorem Rep.upd {w:World} {F:Nat→Prop} : {t:Ty} → {x:t.den} → {cs:List Value} → {off:Nat} → {u:Ty} → {y:u.den} → {z:t.den} → {ds:List Value} →Rep w F t x cs→Rep w F u y ds→t.upd x off u y=some z→
  off+u.size≤cs.length∧Rep w F t z (cs.take off++ds++cs.drop (off+u.size))
 | .int _,_,_,_,_,_,_,_,h,hy,hs=>h.putWhole hy hs
 | .bool,_,_,_,_,_,_,_,h,hy,hs=>h.putWhole hy hs
 | .str,_,_,_,_,_,_,_,h,hy,hs=>h.putWhole hy hs
 | .unit,_,_,_,_,_,_,_,h,hy,hs=>h.putWhole hy hs
 | .slice e,_,_,_,_,_,_,_,h,hy,hs=>h.putWhole hy hs
 | .err,_,_,_,_,_,_,_,h,hy,hs=>Rep.putWhole (t:= .err) h hy hs
 | .opt e,_,_,_,_,_,_,_,h,hy,hs=>Rep.putWhole (t:= .opt e) h hy hs
 | .map _ _,_,_,_,_,_,_,_,h,_,_=>h.elim
 | .pair a b,x,cs,off,u,y,z,ds,h,hy,hs=>by
  simp only [Ty.upd] at hs
  cases hz:Ty.whole (t:=u) (.pair a b) y off with
  |some z'=>
   rw [hz] at hs
   injection hs with hs; subst hs
   exact Rep.putWhole h hy hz
  |none=>
   rw [hz] at hs
   obtain ⟨c1,c2,rfl,h1,h2⟩:=h
   simp only at hs
   have hdl:=hy.length
   split at hs
   ·split at hs
    ·rename_i z' hz'
     injection hs with hs; subst hs
     obtain ⟨g1,g2⟩:=h1.upd hy hz'
     exact ⟨by rw [List.length_append]; omega,_,c2,qoT g1 hdl,g2,h2⟩
    ·cases hs
   ·split at hs
    ·rename_i z' hz'
     injection hs with hs; subst hs
     obtain ⟨g1,g2⟩:=h2.upd hy hz'
     have hl:=h1.length
     rw [←hl] at g1 g2
     exact ⟨by rw [List.length_append]; omega,c1,_,qmH (by omega),h1,g2⟩
    ·cases hs
 | .arr n e,xs,cs,off,u,y,z,ds,h,hy,hs=>by
  simp only [Ty.upd] at hs
  cases hz:Ty.whole (t:=u) (.arr n e) y off with
  |some z'=>
   rw [hz] at hs
   injection hs with hs; subst hs
   exact Rep.putWhole h hy hz
  |none=>
   rw [hz] at hs
   simp only at hs
   split at hs
   ·rename_i hlt
    split at hs
    ·rename_i z' hz'
     injection hs with hs; subst hs
     obtain ⟨hl,css,hcl,rfl,hx⟩:=h
     have hpos:0<e.size:=by
      rcases Nat.eq_zero_or_pos e.size with h0|h0
      ·rw [h0,Nat.mul_zero] at hlt; omega
      ·exact h0
     have hidx:off / e.size<n:=by rw [Nat.div_lt_iff_lt_mul hpos]; exact hlt
     rw [qrw hidx hl] at hz'
     have hc:css[off / e.size]? =some (css[off / e.size]'(by omega)):=List.getElem?_eq_getElem (by omega)
     have hre:=hx (off / e.size) _ _ (List.getElem?_eq_getElem (by omega)) hc
     obtain ⟨g1,g2⟩:=hre.upd hy hz'
     have hall:=qlR (by omega) hx
     obtain ⟨k1,k2⟩:=qb5 hall hc
     have hdm:off=off / e.size * e.size+off % e.size:=by rw [Nat.mul_comm]; exact (Nat.div_add_mod off e.size).symm
     have hcl':(css[off / e.size]'(by omega)).length=e.size:=hall _ (List.getElem_mem _)
     rw [hcl'] at g1
     have hdl:=hy.length
     refine ⟨by omega,by simp [qbm,hl],css.set (off / e.size) ((css[off / e.size]'(by omega)).take (off % e.size)++ds++(css[off / e.size]'(by omega)).drop (off % e.size+u.size)),by simp [hcl],?_,?_⟩
     ·rw [qmb hall (by omega)]
      have:=qpM (l:=css.flatten) (ds:=ds) (q:=off / e.size * e.size) (r:=off % e.size) (n:=u.size) (sz:=e.size) k2 (by omega) hdl
      rw [←hdm,k1] at this
      exact this
     ·intro i x' c' hi hc'
      simp only [qbm] at hi
      rw [show (Int.ofNat (off / e.size)).toNat=off / e.size from rfl] at hi
      by_cases he:off / e.size=i
      ·subst he
       rw [List.getElem?_set_self (by omega)] at hi hc'
       injection hi with hi; injection hc' with hc'
       subst hi; subst hc'
       exact g2
      ·rw [List.getElem?_set_ne he] at hi hc'
       exact hx i x' c' hi hc'
    ·cases hs
   ·cases hs
end Go.Vi
namespace Go.Vi
open Go.RowKit
def qaN (w:World) (F:Nat→Prop) (t:Ty) (x:t.den) (v:Value):Prop:=
 Rep w F t x v.cells.toList∧(t.agg=true→∃cs,v= .agg cs)∧(t.agg=false→∀cs,v≠ .agg cs)
def qak (w:World) (F:Nat→Prop) (et:Nat) (e:Ty) (xs:List e.den) (v:Value) (bs:List Nat):Prop:=
 ∃cells,w.ownsRow 0 et e.size v xs.length cells∧bs=v.ownBlock.toList∧∀(i:Nat) (x:e.den),xs[i]? =some x→Rep w F e x ((cells.drop (i * e.size)).take e.size)
def qa5 (w:World) (F:Nat→Prop):BC→List Value→List Nat→Prop
 | .val t x,cs,bs=>bs=[]∧Rep w F t x cs
 | .own et e xs,cs,bs=>∃v,cs=[v]∧qak w F et e xs v bs
 | .pair a b,cs,bs=>∃c1 c2 b1 b2,cs=c1++c2∧bs=b1++b2∧qa5 w F a c1 b1∧qa5 w F b c2 b2
 | .hole n,cs,bs=>bs=[]∧cs.length=n
def quq (w:World) (F:Nat→Prop):qpu→Value→List Nat→Prop
 | .val t x,v,bs=>bs=[]∧qaN w F t x v
 | .own et e xs,v,bs=>qak w F et e xs v bs
 | .gone,_,bs=>bs=[]
 | .nz e xs,v,bs=>bs=[]∧qaN w F (.slice e) xs v∧(xs=[]→v= .slice none 0 0)
def qa7 (w:World) (F:Nat→Prop):List qpu→List Value→List Nat→Prop
 |[],vs,bs=>vs=[]∧bs=[]
 |c::cs,vs,bs=>∃v r b1 b2,vs=v::r∧bs=b1++b2∧quq w F c v b1∧qa7 w F cs r b2
def qek (w:World) (F:Nat→Prop):(ts:List Ty)→denL ts→List Value→Prop
 |[],_,vs=>vs=[]
 |t::ts,x,vs=>∃v r,vs=v::r∧qaN w F t x.1 v∧qek w F ts x.2 r
def qfg:List Value→Value
 |[v]=>v
 |vs=> .tuple vs.toArray
structure qcQ (O:Nat→Prop) (w w':World):Prop where
 os:w'.os=w.os
 tape:w'.tape=w.tape
 output:w'.output=w.output
 size:w.heap.size≤w'.heap.size
 block:∀k,k<w.heap.size→¬O k→w'.heap[k]? =w.heap[k]?
theorem qmj (w:World) (o:Obj) (k:Nat) (h:k<w.heap.size):(w.alloc o).heap[k]? =w.heap[k]? :=by
 show (w.heap.push o)[k]? =_
 rw [Array.getElem?_push_lt h,Array.getElem?_eq_getElem h]
theorem qcQ.refl (O:Nat→Prop) (w:World):qcQ O w w:=⟨rfl,rfl,rfl,Nat.le_refl _,fun _ _ _=>rfl⟩
theorem qcQ.trans {O:Nat→Prop} {a b c:World} (h:qcQ O a b) (k:qcQ O b c):qcQ O a c:=
 ⟨k.os.trans h.os,k.tape.trans h.tape,k.output.trans h.output,Nat.le_trans h.size k.size,fun i hi ho=>(k.block i (Nat.lt_of_lt_of_le hi h.size) ho).trans (h.block i hi ho)⟩
theorem qcQ.mono {O O':Nat→Prop} {a b:World} (h:qcQ O a b) (hO:∀k,O k→O' k):qcQ O' a b:=⟨h.os,h.tape,h.output,h.size,fun k hk ho=>h.block k hk fun h'=>ho (hO k h')⟩
theorem qcQ.alloc (O:Nat→Prop) (w:World) (o:Obj):qcQ O w (w.alloc o):=⟨rfl,rfl,rfl,by simp,fun k hk _=>qmj w o k hk⟩
theorem qcQ.drew {O:Nat→Prop} {a b:World} (h:qcQ O a b):qcQ O a b.drew:=⟨h.os,h.tape,h.output,h.size,h.block⟩
theorem qcQ.grown {w w':World} {row:Option Nat} (h:w.grownBy w' row):qcQ (fun k=>some k=row) w w':=⟨h.os,h.tape,h.output,h.size,fun k hk ho=>h.block k hk ho⟩
def qoy (P:Program) (w:World) (F:Nat→Prop) (ps rs:List Ty) (φ:denL ps→Option (denL rs)) (v:Value):Prop:=
 ∃(f:Nat) (caps:Array Value),v= .func (.func f) #[] caps∧(∀as w',(callFunc f as).run P w'= .ok (.enter f as) w')∧
  ∀(w':World) (F':Nat→Prop) (x:denL ps) (y:denL rs) (as:List Value),
   (∀b,F b→b<w.heap.size→F' b∧b<w'.heap.size∧w'.heap[b]? =w.heap[b]?)→qek w' F' ps x as→φ x=some y→
   Calls P f (as.toArray++caps) w' fun e w''=>∃vs,e= .returned (qfg vs)∧qek w'' (fun b=>F' b∨w'.heap.size≤b) rs y vs∧qcQ (fun _=>False) w' w''
structure Sit where
 P:Program
 ver:Nat→Nat
 tm:Nat→Value
 w:World
 F:Nat→Prop
 own:Nat→List Nat
 pn:Nat→Option Nat
def ptr (b off:Nat):Value:= .pointer (some ⟨b,off,none⟩)
def qf1 (X:Sit) (s:Nat) (fo:Option Nat) (v:Value):Prop:=
 match fo with
 |none=>X.tm s=v
 |some o=>∃b,b∈X.own s∧X.tm s=ptr b 0∧X.w.cell? ⟨b,o,none⟩=some v
def qvX (w:World) (b off:Nat) (u:Ty) (v:Value):Prop:=
 (u.agg=true∧∃cs:List Value,v= .agg cs.toArray∧cs.length=u.size∧qhf w ⟨b,off,none⟩ cs)∨(u.agg=false∧w.cell? ⟨b,off,none⟩=some v)
def keyV:(k:Ty)→k.den→Value
 | .int kk,n=> .int kk n
 | .bool,b=> .bool b
 | .str,s=> .string ⟨(s:List UInt8).toArray⟩
 |_,_=>undef
def Ty.key:Ty→Bool
 | .int _=>true
 | .bool=>true
 | .str=>true
 |_=>false
def qjX (w:World) (F:Nat→Prop) (k t:Ty) (xs:List (k.den×t.den)) (v:Value) (bs:List Nat):Prop:=
 ∃(b:Nat) (es:Array MapEntry),v= .map (some b)∧bs=[b]∧w.heap[b]? =some (.map es es.size)∧es.size=xs.length∧k.key=true∧
  ∀(i:Nat) (e:MapEntry) (p:k.den×t.den),es[i]? =some e→xs[i]? =some p→e.key=keyV k p.1∧e.born=i∧qaN w F t p.2 e.val
theorem qjX.keep {w w':World} {F F':Nat→Prop} (hF:∀b,F b→b<w.heap.size→F' b∧b<w'.heap.size∧w'.heap[b]? =w.heap[b]?) {k t:Ty} {xs:List (k.den×t.den)} {v:Value} {bs:List Nat}
  (hb:∀b∈bs,b<w.heap.size→w'.heap[b]? =w.heap[b]?) (h:qjX w F k t xs v bs):qjX w' F' k t xs v bs:=by
 obtain ⟨b,es,h1,h2,h3,h4,h5,h6⟩:=h
 refine ⟨b,es,h1,h2,?_,h4,h5,fun i e p hi hp=> ?_⟩
 ·rw [hb b (by rw [h2]; simp) (Array.getElem?_eq_some_iff.1 h3).1]
  exact h3
 ·obtain ⟨g1,g2,g3⟩:=h6 i e p hi hp
  exact ⟨g1,g2,g3.1.keep hF,g3.2⟩
def qaO (X:Sit):AV→Value→List Nat→Prop
 | .undef,_,_=>True
 | .val t x,v,bs=>bs=[]∧qaN X.w X.F t x v
 | .own et e xs,v,bs=>qak X.w X.F et e xs v bs
 | .agg c,v,bs=>∃cs:List Value,v= .agg cs.toArray∧qa5 X.w X.F c cs bs
 | .box c,v,bs=>∃(b:Nat) (cs:List Value) (bs':List Nat) (te:Nat),v=ptr b 0∧X.w.heap[b]? =some (.cells cs.toArray te (0,0))∧qa5 X.w X.F c cs bs'∧bs=b::bs'
 | .ref s v0,v,bs=>bs=[]∧(X.ver s=v0→X.tm s=v)
 | .bref s v0 off u,v,bs=>bs=[]∧(X.ver s=v0→∃b,b∈X.own s∧X.tm s=ptr b 0∧qvX X.w b off u v)
 | .pbox s v0 off,v,bs=>bs=[]∧(X.ver s=v0→∃b,X.tm s=ptr b 0∧v=ptr b off)
 | .pip k off,v,bs=>bs=[]∧∃b,X.pn k=some b∧v=ptr b off
 | .prow s v0 fo sz i off,v,bs=>bs=[]∧(X.ver s=v0→∃g n cap,qf1 X s fo (.slice (some ⟨g,0,none⟩) n cap)∧0≤i∧i<(n:Int)∧v=ptr g (i.toNat * sz+off))
 | .osl s v0 fo sz lo hi,v,bs=>bs=[]∧(X.ver s=v0→∃ad n cap,qf1 X s fo (.slice ad n cap)∧0≤lo∧lo≤hi∧hi≤(n:Int)∧v=sliced ad lo.toNat hi.toNat cap sz)
 | .view t x off,v,bs=>bs=[]∧∃(a:Addr) (cs:List Value),v= .pointer (some (a.add off))∧X.F a.block∧a.block<X.w.heap.size∧qhf X.w a cs∧Rep X.w X.F t x cs
 | .tup cs,v,bs=>∃vs:List Value,v= .tuple vs.toArray∧qa7 X.w X.F cs vs bs
 | .grd s v0 want a,v,bs=>bs=[]∧(X.ver s=v0→(X.tm s= .bool want→qaO X a v [])∧(X.tm s≠ .bool want→v=undef))
 | .fn f caps,v,bs=>bs=[]∧∃vs:List Value,v= .func (.func f) #[] vs.toArray∧qa7 X.w X.F caps vs []
 | .fnv ps rs φ,v,bs=>bs=[]∧qoy X.P X.w X.F ps rs φ v
 | .nilr _ _,v,bs=>bs=[]∧v= .slice none 0 0
 | .nz e xs,v,bs=>bs=[]∧qaN X.w X.F (.slice e) xs v∧(xs=[]→v= .slice none 0 0)
 | .mp k t xs,v,bs=>qjX X.w X.F k t xs v bs
 | .amb w m,v,bs=>bs=[]∧∃b,v= .bool b∧(b=w→m=true)
 | .parr s v0 off n e i o2,v,bs=>bs=[]∧0≤i∧i<(n:Int)∧(match v0 with
  |some v0=>X.ver s=v0→∃b,X.tm s=ptr b 0∧v=ptr b (off+i.toNat * e.size+o2)
  |none=>∃b,X.pn s=some b∧v=ptr b (off+i.toNat * e.size+o2))
def qd8 (T:qlC) (w:World) (F:Nat→Prop):Prop:=∀g r,T g=some r→F g∧g<w.heap.size∧∃(cs:List Value) (te:Nat) (fz:Nat×Nat),w.heap[g]? =some (.cells cs.toArray te fz)∧Rep w F r.1 r.2 cs
theorem qd8.none {w:World} {F:Nat→Prop} :qd8 (fun _=>none) w F:=fun _ _ h=>by cases h
structure Ctx where
 P:Program
 w0:World
 O:Nat→Prop
 G:Nat→Prop
 pn:Nat→Option Nat
 T:qlC
 hT:qd8 T w0 fun b=>G b∧¬O b
class Tabbed (E:Env) (C:Ctx):Prop where
 eq:E.tabs=C.T
def Ctx.base (C:Ctx) (b:Nat):Prop:=C.G b∨C.O b∨C.w0.heap.size≤b
def Ctx.free (C:Ctx) (w:World) (own:Nat→List Nat) (b:Nat):Prop:=C.base b∧b<w.heap.size∧∀s,b∉own s
structure qas (C:Ctx) (σ:St) (tm:Array Value) (w:World) (own:Nat→List Nat):Prop where
 size:tm.size=σ.length
 kept:qcQ C.O C.w0 w
 mine:∀s b,b∈own s→(C.O b∨C.w0.heap.size≤b)∧b<w.heap.size
 nodup:∀s,(own s).Nodup
 apart:∀s s' b,b∈own s→b∈own s'→s=s'
 outside:∀s,σ.length≤s→own s=[]
 rep:∀s,s<σ.length→qaO { P:=C.P,ver:=fun s=>(qA σ s).1,tm:=fun s=>tm.getD s undef,w,F:=C.free w own,own,pn:=C.pn } (qA σ s).2 (tm.getD s undef) (own s)
 wf:∀s,∀m∈(qA σ s).2.mentions,m.2≤(qA σ m.1).1
theorem qd8.keep {T:qlC} {w w':World} {F F':Nat→Prop} (hF:∀b,F b→b<w.heap.size→F' b∧b<w'.heap.size∧w'.heap[b]? =w.heap[b]?) (h:qd8 T w F):qd8 T w' F':=fun g r hr=>by
 obtain ⟨h1,h2,cs,te,fz,h3,h4⟩:=h g r hr
 obtain ⟨g1,g2,g3⟩:=hF g h1 h2
 exact ⟨g1,g2,cs,te,fz,by rw [g3]; exact h3,h4.keep hF⟩
theorem qsE {T:qlC} {w:World} {F:Nat→Prop} (h:qd8 T w F) {g:Nat} {r:(t:Ty)×t.den} (hr:T g=some r):F g∧g<w.heap.size∧∃cs:List Value,qhf w ⟨g,0,none⟩ cs∧Rep w F r.1 r.2 cs:=by
 obtain ⟨h1,h2,cs,te,fz,h3,h4⟩:=h g r hr
 refine ⟨h1,h2,cs,fun j u hj=> ?_,h4⟩
 have:(⟨g,0,none⟩:Addr).add j=⟨g,j,none⟩:=by simp [Addr.add]; exact fun h=>h.symm
 rw [this]
 simp [World.cell?,h3]
 simpa using hj
theorem qas.tabs {C:Ctx} {σ:St} {tm:Array Value} {w:World} {own:Nat→List Nat} (h:qas C σ tm w own):qd8 C.T w (C.free w own):=
 C.hT.keep fun b hb hlt=>⟨⟨.inl hb.1,Nat.lt_of_lt_of_le hlt h.kept.size,fun s hs=>by
  rcases (h.mine s b hs).1 with ho|ho
  ·exact hb.2 ho
  ·omega⟩,Nat.lt_of_lt_of_le hlt h.kept.size,h.kept.block b hlt hb.2⟩
theorem qas.tabsE {C:Ctx} {E:Env} [tb:Tabbed E C] {σ:St} {tm:Array Value} {w:World} {own:Nat→List Nat} (h:qas C σ tm w own):qd8 E.tabs w (C.free w own):=by
 rw [tb.eq]; exact h.tabs
theorem qaN.keep {w w':World} {F F':Nat→Prop} (hF:∀b,F b→b<w.heap.size→F' b∧b<w'.heap.size∧w'.heap[b]? =w.heap[b]?) {t:Ty} {x:t.den} {v:Value} (h:qaN w F t x v):qaN w' F' t x v:=
 ⟨h.1.keep hF,h.2⟩
theorem qak.keep {w w':World} {F F':Nat→Prop} (hF:∀b,F b→b<w.heap.size→F' b∧b<w'.heap.size∧w'.heap[b]? =w.heap[b]?) {et:Nat} {e:Ty} {xs:List e.den} {v:Value} {bs:List Nat}
  (hb:∀b∈bs,b<w.heap.size→w'.heap[b]? =w.heap[b]?) (h:qak w F et e xs v bs):qak w' F' et e xs v bs:=by
 obtain ⟨cells,ho,hbs,hx⟩:=h
 refine ⟨cells,⟨ho.1,?_⟩,hbs,fun i x hi=>(hx i x hi).keep hF⟩
 rcases ho.2 with h|⟨g,cap,cur,rfl,h1,h2,h3⟩
 ·exact .inl h
 ·refine .inr ⟨g,cap,cur,rfl,h1,?_,h3⟩
  rw [hb g (by rw [hbs]; simp [Value.ownBlock]) (Array.getElem?_eq_some_iff.1 h2).1]
  exact h2
theorem qak.nil_ (w:World) (F:Nat→Prop) (et:Nat) (e:Ty):qak w F et e [] (.slice none 0 0) []:=
 ⟨[],World.ownsRow_nil _ _ _ _,rfl,fun i x hi=>by cases hi⟩
theorem qa5.keep {w w':World} {F F':Nat→Prop} (hF:∀b,F b→b<w.heap.size→F' b∧b<w'.heap.size∧w'.heap[b]? =w.heap[b]?): {c:BC} → {cs:List Value} → {bs:List Nat} →
  (hb:∀b∈bs,b<w.heap.size→w'.heap[b]? =w.heap[b]?)→qa5 w F c cs bs→qa5 w' F' c cs bs
 | .val _ _,_,_,_,h=>⟨h.1,h.2.keep hF⟩
 | .own _ _ _,_,_,hb,⟨v,h1,h2⟩=>⟨v,h1,h2.keep hF hb⟩
 | .pair _ _,_,_,hb,⟨c1,c2,b1,b2,h1,h2,h3,h4⟩=>⟨c1,c2,b1,b2,h1,h2,h3.keep hF (fun b hm=>hb b (by rw [h2]; exact List.mem_append_left _ hm)),h4.keep hF (fun b hm=>hb b (by rw [h2]; exact List.mem_append_right _ hm))⟩
 | .hole _,_,_,_,h=>h
theorem qa7.keep {w w':World} {F F':Nat→Prop} (hF:∀b,F b→b<w.heap.size→F' b∧b<w'.heap.size∧w'.heap[b]? =w.heap[b]?): {c:List qpu} → {cs:List Value} → {bs:List Nat} →
  (hb:∀b∈bs,b<w.heap.size→w'.heap[b]? =w.heap[b]?)→qa7 w F c cs bs→qa7 w' F' c cs bs
 |[],_,_,_,h=>h
 |c::_,_,_,hb,⟨v,r,b1,b2,h1,h2,h3,h4⟩=>⟨v,r,b1,b2,h1,h2,(match c,h3 with
   | .val _ _,h3=>⟨h3.1,h3.2.keep hF⟩
   | .own _ _ _,h3=>qak.keep hF (fun b hm=>hb b (by rw [h2]; exact List.mem_append_left _ hm)) h3
   | .gone,h3=>h3
   | .nz _ _,h3=>⟨h3.1,h3.2.1.keep hF,h3.2.2⟩),qa7.keep hF (fun b hm=>hb b (by rw [h2]; exact List.mem_append_right _ hm)) h4⟩
theorem qoy.keep {P:Program} {w w':World} {F F':Nat→Prop} (hF:∀b,F b→b<w.heap.size→F' b∧b<w'.heap.size∧w'.heap[b]? =w.heap[b]?) {ps rs:List Ty} {φ:denL ps→Option (denL rs)} {v:Value}
  (h:qoy P w F ps rs φ v):qoy P w' F' ps rs φ v:=by
 obtain ⟨f,caps,hv,hc,h⟩:=h
 refine ⟨f,caps,hv,hc,fun w2 F2 x y as hk hr hy=>h w2 F2 x y as (fun b hb hs=> ?_) hr hy⟩
 obtain ⟨h1,h2,h3⟩:=hF b hb hs
 obtain ⟨g1,g2,g3⟩:=hk b h1 h2
 exact ⟨g1,g2,g3.trans h3⟩
theorem qaO.keep {X X':Sit} (hP:X'.P=X.P∧X'.pn=X.pn) (hF:∀b,X.F b→b<X.w.heap.size→X'.F b∧b<X'.w.heap.size∧X'.w.heap[b]? =X.w.heap[b]?):
  {a:AV} → {v:Value} → {bs:List Nat} →(hb:∀b∈bs,b<X.w.heap.size→X'.w.heap[b]? =X.w.heap[b]?)→
  (hm:∀m∈a.mentions,X'.ver m.1=m.2→X.ver m.1=m.2∧X'.tm m.1=X.tm m.1∧(∀b,b∈X.own m.1→X.tm m.1=ptr b 0→b∈X'.own m.1∧X'.w.heap[b]? =X.w.heap[b]?))→
  qaO X a v bs→qaO X' a v bs
 | .undef,_,_,_,_,_=>trivial
 | .val _ _,_,_,_,_,h=>⟨h.1,h.2.keep hF⟩
 | .own _ _ _,_,_,hb,_,h=>qak.keep hF hb h
 | .agg _,_,_,hb,_,⟨cs,h1,h2⟩=>⟨cs,h1,h2.keep hF hb⟩
 | .box _,_,_,hb,_,⟨b,cs,bs',te,h1,h2,h3,h4⟩=>⟨b,cs,bs',te,h1,by
   rw [hb b (by rw [h4]; exact List.mem_cons_self) (Array.getElem?_eq_some_iff.1 h2).1]; exact h2,h3.keep hF (fun b' hm=>hb b' (by rw [h4]; exact List.mem_cons_of_mem _ hm)),h4⟩
 | .ref s v0,_,_,_,hm,h=>⟨h.1,fun hv=>by
   obtain ⟨h1,h2,_⟩:=hm (s,v0) (by simp [AV.mentions]) hv
   rw [h2]; exact h.2 h1⟩
 | .bref s v0 off u,_,_,_,hm,h=>⟨h.1,fun hv=>by
   obtain ⟨h1,h2,h3⟩:=hm (s,v0) (by simp [AV.mentions]) hv
   obtain ⟨b,hb0,h4,h5⟩:=h.2 h1
   obtain ⟨hb1,hh⟩:=h3 b hb0 h4
   refine ⟨b,hb1,by rw [h2]; exact h4,?_⟩
   rcases h5 with ⟨h5,cs,h6,h7,h8⟩|⟨h5,h6⟩
   ·exact .inl ⟨h5,cs,h6,h7,fun j x hj=>by rw [←h8 j x hj]; exact World.cell?_of_block (by rw [q8]; exact hh)⟩
   ·exact .inr ⟨h5,by rw [←h6]; exact World.cell?_of_block hh⟩⟩
 | .pbox s v0 off,_,_,_,hm,h=>⟨h.1,fun hv=>by
   obtain ⟨h1,h2,_⟩:=hm (s,v0) (by simp [AV.mentions]) hv
   obtain ⟨b,h4,h5⟩:=h.2 h1
   exact ⟨b,by rw [h2]; exact h4,h5⟩⟩
 | .prow s v0 fo sz i off,_,_,_,hm,h=>⟨h.1,fun hv=>by
   obtain ⟨h1,h2,h3⟩:=hm (s,v0) (by simp [AV.mentions]) hv
   obtain ⟨g,n,cap,h4,h5⟩:=h.2 h1
   refine ⟨g,n,cap,?_,h5⟩
   cases fo with
   |none=>exact h2.trans h4
   |some o=>
    obtain ⟨b,hb0,h6,h7⟩:=h4
    obtain ⟨hb1,hh⟩:=h3 b hb0 h6
    exact ⟨b,hb1,h2.trans h6,by rw [←h7]; exact World.cell?_of_block hh⟩⟩
 | .pip _ _,_,_,_,_,⟨h0,b,h1,h2⟩=>⟨h0,b,by rw [hP.2]; exact h1,h2⟩
 | .osl s v0 fo sz lo hi,_,_,_,hm,h=>⟨h.1,fun hv=>by
   obtain ⟨h1,h2,h3⟩:=hm (s,v0) (by simp [AV.mentions]) hv
   obtain ⟨ad,n,cap,h4,h5⟩:=h.2 h1
   refine ⟨ad,n,cap,?_,h5⟩
   cases fo with
   |none=>exact h2.trans h4
   |some o=>
    obtain ⟨b,hb0,h6,h7⟩:=h4
    obtain ⟨hb1,hh⟩:=h3 b hb0 h6
    exact ⟨b,hb1,h2.trans h6,by rw [←h7]; exact World.cell?_of_block hh⟩⟩
 | .view _ _ _,_,_,_,_,⟨h0,a,cs,h1,h2,h3,h4,h5⟩=>by
   obtain ⟨g1,g2,g3⟩:=hF _ h2 h3
   exact ⟨h0,a,cs,h1,g1,g2,fun j x hj=>by rw [←h4 j x hj]; exact World.cell?_of_block (by rw [q8]; exact g3),h5.keep hF⟩
 | .tup _,_,_,hb,_,⟨vs,h1,h2⟩=>⟨vs,h1,h2.keep hF hb⟩
 | .grd s v0 want a,v,_,_,hm,h=>⟨h.1,fun hv=>by
   obtain ⟨h1,h2,_⟩:=hm (s,v0) (by simp [AV.mentions]) hv
   obtain ⟨g1,g2⟩:=h.2 h1
   refine ⟨fun ht=> ?_,fun ht=>g2 (by rw [←h2]; exact ht)⟩
   exact qaO.keep hP hF (fun b hb=>by cases hb) (fun m hmm=>hm m (by simp [AV.mentions,hmm])) (g1 (by rw [←h2]; exact ht))⟩
 | .fn _ _,_,_,_,_,⟨h0,vs,h1,h2⟩=>⟨h0,vs,h1,h2.keep hF (fun b hb=>by cases hb)⟩
 | .fnv _ _ _,_,_,_,_,h=>⟨h.1,by rw [hP.1]; exact h.2.keep hF⟩
 | .nilr _ _,_,_,_,_,h=>h
 | .nz _ _,_,_,_,_,h=>⟨h.1,h.2.1.keep hF,h.2.2⟩
 | .mp _ _ _,_,_,hb,_,h=>qjX.keep hF hb h
 | .amb _ _,_,_,_,_,h=>h
 | .parr s (some v0) off n e i o2,_,_,_,hm,⟨h0,h1,h2,h3⟩=>⟨h0,h1,h2,fun hv=>by
   obtain ⟨g1,g2,_⟩:=hm (s,v0) (by simp [AV.mentions]) hv
   obtain ⟨b,h4,h5⟩:=h3 g1
   exact ⟨b,by rw [g2]; exact h4,h5⟩⟩
 | .parr s none off n e i o2,_,_,_,_,⟨h0,h1,h2,b,h4,h5⟩=>⟨h0,h1,h2,b,by rw [hP.2]; exact h4,h5⟩
def sit (C:Ctx) (σ:St) (tm:Array Value) (w:World) (own:Nat→List Nat):Sit:=
 { P:=C.P,ver:=fun s=>(qA σ s).1,tm:=fun s=>tm.getD s undef,w,F:=C.free w own,own,pn:=C.pn }
theorem qas.update {C:Ctx} {σ σ':St} {tm tm':Array Value} {w w':World} {own own':Nat→List Nat} (h:qas C σ tm w own) (D:Nat→Prop)
  (hlen:σ'.length=σ.length) (htm:tm'.size=tm.size)
  (hsame:∀s,¬D s→qA σ' s=qA σ s∧tm'.getD s undef=tm.getD s undef∧own' s=own s)
  (hver:∀s,D s→(qA σ s).1<(qA σ' s).1∨((qA σ' s).1=(qA σ s).1∧tm'.getD s undef=tm.getD s undef∧∀b,b∈own s→tm.getD s undef=ptr b 0→b∈own' s∧w'.heap[b]? =w.heap[b]?))
  (hk:qcQ (fun b=>∃s,D s∧b∈own s) w w')
  (hD:∀s,D s→s<σ.length)
  (hown:∀s,D s→(∀b∈own' s,(w.heap.size≤b∧b<w'.heap.size)∨(∃s0,D s0∧b∈own s0))∧(own' s).Nodup)
  (hap:∀s s' b,D s→D s'→b∈own' s→b∈own' s'→s=s')
  (hrep:∀s,D s→qaO (sit C σ' tm' w' own') (qA σ' s).2 (tm'.getD s undef) (own' s))
  (hwf:∀s,D s→∀m∈(qA σ' s).2.mentions,m.2≤(qA σ' m.1).1):qas C σ' tm' w' own':=by
 have hN:C.w0.heap.size≤w.heap.size:=h.kept.size
 have keptFree:∀b,C.free w own b→C.free w' own' b∧w'.heap[b]? =w.heap[b]? :=fun b hb=>by
  have hlt:b<w.heap.size:=hb.2.1
  refine ⟨⟨hb.1,Nat.lt_of_lt_of_le hlt hk.size,fun s hs=> ?_⟩,hk.block b hlt fun ⟨s,_,hs⟩=>hb.2.2 s hs⟩
  by_cases hd:D s
  ·rcases (hown s hd).1 b hs with h1|⟨s0,_,h1⟩
   ·omega
   ·exact hb.2.2 s0 h1
  ·rw [(hsame s hd).2.2] at hs
   exact hb.2.2 s hs
 refine ⟨by rw [htm,hlen]; exact h.size,?_,?_,?_,?_,?_,?_,?_⟩
 ·refine ⟨hk.os.trans h.kept.os,hk.tape.trans h.kept.tape,hk.output.trans h.kept.output,Nat.le_trans h.kept.size hk.size,fun k hlt ho=> ?_⟩
  rw [←h.kept.block k hlt ho]
  refine hk.block k (by omega) fun ⟨s,_,hs⟩=> ?_
  rcases (h.mine s k hs).1 with h1|h1
  ·exact ho h1
  ·omega
 ·intro s b hb
  by_cases hd:D s
  ·rcases (hown s hd).1 b hb with ⟨h1,h2⟩|⟨s0,_,h1⟩
   ·exact ⟨.inr (by omega),h2⟩
   ·obtain ⟨h2,h3⟩:=h.mine s0 b h1
    exact ⟨h2,Nat.lt_of_lt_of_le h3 hk.size⟩
  ·rw [(hsame s hd).2.2] at hb
   obtain ⟨h2,h3⟩:=h.mine s b hb
   exact ⟨h2,Nat.lt_of_lt_of_le h3 hk.size⟩
 ·intro s
  by_cases hd:D s
  ·exact (hown s hd).2
  ·rw [(hsame s hd).2.2]; exact h.nodup s
 ·have mixed:∀s s' b,D s→¬D s'→b∈own' s→b∈own' s'→False:=fun s s' b hd hd' hb hb'=>by
   rw [(hsame s' hd').2.2] at hb'
   rcases (hown s hd).1 b hb with ⟨h1,_⟩|⟨s0,h0,h1⟩
   ·have:=(h.mine s' b hb').2; omega
   ·exact hd' (h.apart s0 s' b h1 hb' ▸ h0)
  intro s s' b hb hb'
  by_cases hd:D s <;> by_cases hd':D s'
  ·exact hap s s' b hd hd' hb hb'
  ·exact (mixed s s' b hd hd' hb hb').elim
  ·exact (mixed s' s b hd' hd hb' hb).elim
  ·rw [(hsame s hd).2.2] at hb
   rw [(hsame s' hd').2.2] at hb'
   exact h.apart s s' b hb hb'
 ·intro s hs
  have hd:¬D s:=fun hd=>by have:=hD s hd; omega
  rw [(hsame s hd).2.2]
  exact h.outside s (by omega)
 ·intro s hs
  by_cases hd:D s
  ·exact hrep s hd
  ·obtain ⟨h1,h2,h3⟩:=hsame s hd
   have hr:=h.rep s (by omega)
   rw [h1,h2,h3]
   refine qaO.keep (X:=sit C σ tm w own) (X':=sit C σ' tm' w' own') ⟨rfl,rfl⟩ ?_ ?_ ?_ hr
   ·intro b hb _
    obtain ⟨g1,g2⟩:=keptFree b hb
    exact ⟨g1,g1.2.1,g2⟩
   ·intro b hb hlt
    refine hk.block b hlt fun ⟨s0,h0,hs0⟩=>hd (h.apart s0 s b hs0 hb ▸ h0)
   ·intro m hm hv
    have hw:=h.wf s m hm
    have hv':(qA σ' m.1).1=m.2:=hv
    by_cases hdm:D m.1
    ·rcases hver m.1 hdm with h1|⟨h1,h2,h3⟩
     ·omega
     ·refine ⟨?_,h2,fun b hb hp=>h3 b hb hp⟩
      show (qA σ m.1).1=m.2
      rw [←h1]; exact hv'
    ·obtain ⟨e1,e2,e3⟩:=hsame m.1 hdm
     refine ⟨?_,e2,fun b hb _=>⟨?_,?_⟩⟩
     ·show (qA σ m.1).1=m.2
      rw [←e1]; exact hv'
     ·show b∈own' m.1
      rw [e3]; exact hb
     ·exact hk.block b (h.mine _ b hb).2 fun ⟨s0,h0,hs0⟩=>hdm (h.apart s0 m.1 b hs0 hb ▸ h0)
 ·intro s m hm
  by_cases hd:D s
  ·exact hwf s hd m hm
  ·rw [(hsame s hd).1] at hm
   have:=h.wf s m hm
   by_cases hdm:D m.1
   ·rcases hver m.1 hdm with h1|⟨h1,_,_⟩ <;> omega
   ·rw [(hsame m.1 hdm).1]; exact this
end Go.Vi
namespace Go.Vi
section
variable {α β:Type} {lk:Nat→Ent}
theorem Q.run_get (s:Nat) (k:Ent→Q α):(Q.get s k).run lk=(k (lk s)).run lk:=rfl
theorem Q.run_bind (q:Q α) (f:α→Q β):(q.bind f).run lk=(q.run lk).bind fun a=>(f a).run lk:=by
 induction q with
 |ret a=>rfl
 |fail=>rfl
 |get s k ih=>exact ih (lk s)
theorem Q.bind_some {q:Q α} {f:α→Q β} {r:β} (h:(q.bind f).run lk=some r):∃a,q.run lk=some a∧(f a).run lk=some r:=by
 rw [Q.run_bind] at h
 exact Option.bind_eq_some_iff.1 h
theorem Q.ret_some {a r:α} (h:(Q.ret a).run lk=some r):a=r:=by injection h
end
theorem qaN.mono {w:World} {F F':Nat→Prop} (hF:∀b,F b→b<w.heap.size→F' b) {t:Ty} {x:t.den} {v:Value} (h:qaN w F t x v):qaN w F' t x v:=
 h.keep fun b hb hs=>⟨hF b hb hs,hs,rfl⟩
theorem qdp {v:Value} (h:∀cs,v≠ .agg cs):v.cells= #[v]:=by
 cases v <;> first|rfl|exact absurd rfl (h _)
theorem qaN.int {w:World} {F:Nat→Prop} {k:IntKind} {n:Int} {v:Value} (h:qaN w F (.int k) n v):v= .int k n∧k.has n:=by
 have h2:=qdp (h.2.2 rfl)
 have h1:=h.1
 rw [h2] at h1
 exact ⟨by simpa using h1.1,h1.2⟩
theorem qaN.bool {w:World} {F:Nat→Prop} {b:Bool} {v:Value} (h:qaN w F .bool b v):v= .bool b:=by
 have h2:=qdp (h.2.2 rfl)
 have h1:=h.1
 rw [h2] at h1
 simpa [Rep] using h1
theorem qaN.str {w:World} {F:Nat→Prop} {s:List UInt8} {v:Value} (h:qaN w F .str s v):v= .string ⟨s.toArray⟩∧s.length≤maxLen:=by
 have h2:=qdp (h.2.2 rfl)
 have h1:=h.1
 rw [h2] at h1
 exact ⟨by simpa using h1.1,h1.2⟩
theorem qaN.err {w:World} {F:Nat→Prop} {b:Bool} {v:Value} (h:qaN w F .err b v):(b=true∧v= .nilIface)∨(b=false∧∃t x,v= .iface t x):=by
 have h2:=qdp (h.2.2 rfl)
 obtain ⟨u,h1,h3⟩:=h.1
 rw [h2] at h1
 simp at h1
 subst h1
 exact h3
theorem qaN.ofErr {w:World} {F:Nat→Prop} {b:Bool} {v:Value} (h:(b=true∧v= .nilIface)∨(b=false∧∃t x,v= .iface t x)):qaN w F .err b v:=by
 have hv:∀cs,v≠ .agg cs:=by
  intro cs he
  rcases h with ⟨_,h⟩|⟨_,t,x,h⟩ <;> rw [he] at h <;> cases h
 exact ⟨⟨v,(by rw [qdp hv]),h⟩,(fun h=>by simp [Ty.agg] at h),fun _=>hv⟩
theorem qaN.opt {w:World} {F:Nat→Prop} {e:Ty} {x:Option e.den} {v:Value} (h:qaN w F (.opt e) x v):quN w F (Rep w F e) x v:=by
 have h2:=qdp (h.2.2 rfl)
 obtain ⟨u,h1,h3⟩:=h.1
 rw [h2] at h1
 simp at h1
 subst h1
 exact h3
theorem qaN.ofOpt {w:World} {F:Nat→Prop} {e:Ty} {x:Option e.den} {v:Value} (h:quN w F (Rep w F e) x v):qaN w F (.opt e) x v:=by
 have hv:∀cs,v≠ .agg cs:=by
  intro cs he
  rcases h with ⟨_,h⟩|⟨_,_,_,_,h,_⟩ <;> rw [he] at h <;> cases h
 exact ⟨⟨v,(by rw [qdp hv]),h⟩,(fun h=>by simp [Ty.agg] at h),fun _=>hv⟩
theorem qaN.slice {w:World} {F:Nat→Prop} {e:Ty} {xs:List e.den} {v:Value} (h:qaN w F (.slice e) xs v):qeb w F (Rep w F e) e.size xs v:=by
 have h2:=qdp (h.2.2 rfl)
 have h1:=h.1
 rw [h2] at h1
 obtain ⟨v',hv,hs⟩:=h1
 simp at hv
 subst hv
 exact hs
theorem qaN.ofInt (w:World) (F:Nat→Prop) {k:IntKind} {n:Int} (h:k.has n):qaN w F (.int k) n (.int k n):=⟨⟨rfl,h⟩,(fun h=>by cases h),(fun _ cs h=>by cases h)⟩
theorem qaN.ofBool (w:World) (F:Nat→Prop) (b:Bool):qaN w F .bool b (.bool b):=⟨rfl,(fun h=>by cases h),(fun _ cs h=>by cases h)⟩
theorem qaN.ofStr (w:World) (F:Nat→Prop) {s:List UInt8} (h:s.length≤maxLen):qaN w F .str s (.string ⟨s.toArray⟩):=⟨⟨rfl,h⟩,(fun h=>by cases h),(fun _ cs h=>by cases h)⟩
theorem qaN.ofSlice {w:World} {F:Nat→Prop} {e:Ty} {xs:List e.den} {v:Value} (h:qeb w F (Rep w F e) e.size xs v):qaN w F (.slice e) xs v:=by
 have hv:∀cs,v≠ .agg cs:=by
  intro cs he
  rcases h with ⟨h,_⟩|⟨a,cap,h,_⟩ <;> rw [he] at h <;> cases h
 exact ⟨⟨v,(by rw [qdp hv]),h⟩,(fun h=>by simp [Ty.agg] at h),fun _=>hv⟩
def mkV (t:Ty) (cs:List Value):Value:=if t.agg then .agg cs.toArray else cs.headD undef
theorem qaN.ofCells {w:World} {F:Nat→Prop} {t:Ty} {x:t.den} {cs:List Value} (h:Rep w F t x cs):qaN w F t x (mkV t cs):=by
 cases t with
 |int k=>obtain ⟨rfl,h⟩:=h; exact .ofInt w F h
 |bool=>have h:cs=_:=h; subst h; exact .ofBool w F _
 |str=>obtain ⟨rfl,h⟩:=h; exact .ofStr w F h
 |slice e=>obtain ⟨v,rfl,h⟩:=h; exact .ofSlice h
 |err=>obtain ⟨v,rfl,h⟩:=h; exact .ofErr h
 |opt e=>obtain ⟨v,rfl,h⟩:=h; exact .ofOpt h
 |map k v=>exact False.elim h
 |unit=>exact ⟨(by simpa [mkV,Ty.agg,Value.cells] using h),(fun _=>⟨_,rfl⟩),(fun h=>by simp [Ty.agg] at h)⟩
 |pair a b=>exact ⟨(by simpa [mkV,Ty.agg,Value.cells] using h),(fun _=>⟨_,rfl⟩),(fun h=>by simp [Ty.agg] at h)⟩
 |arr n e=>exact ⟨(by simpa [mkV,Ty.agg,Value.cells] using h),(fun _=>⟨_,rfl⟩),(fun h=>by simp [Ty.agg] at h)⟩
theorem qaN.as {w:World} {F:Nat→Prop} {t u:Ty} {x:t.den} {y:u.den} {v:Value} (h:Ty.as u x=some y) (hr:qaN w F t x v):qaN w F u y v:=by
 obtain ⟨rfl,rfl⟩:=Ty.as_some h
 exact hr
theorem qak.rep {w:World} {F:Nat→Prop} {et:Nat} {e:Ty} {xs:List e.den} {v:Value} {bs:List Nat} (h:qak w F et e xs v bs):qaN w (fun b=>F b∨b∈bs) (.slice e) xs v:=by
 obtain ⟨cells,ho,hbs,hx⟩:=h
 refine .ofSlice ?_
 rcases ho.2 with ⟨h1,h2⟩|⟨g,cap,cur,hv,_,hg,hnc,hcm,hcs,htake⟩
 ·exact .inl ⟨h1,List.eq_nil_of_length_eq_zero h2⟩
 ·refine .inr ⟨⟨g,0,none⟩,cap,hv,hnc,hcm,fun i x hi=>⟨.inr (by rw [hbs,hv]; simp [Value.ownBlock]),(Array.getElem?_eq_some_iff.1 hg).1,_,?_,(hx i x hi).keep fun b hb hs=>⟨.inl hb,hs,rfl⟩⟩⟩
  intro j u hu
  have hc:=ho.cells (g:=g) (by rw [hv]; rfl)
  rw [qaQ]
  refine hc _ _ ?_
  rw [List.getElem?_take] at hu
  split at hu
  ·rwa [List.getElem?_drop] at hu
  ·cases hu
theorem qvX.rep {w:World} {F:Nat→Prop} {b off:Nat} {u:Ty} {y:u.den} {v:Value} {cs:List Value} (hc:∀j x,cs[j]? =some x→w.cell? ⟨b,j,none⟩=some x)
  (hl:off+u.size≤cs.length) (h:qvX w b off u v) (hr:Rep w F u y ((cs.drop off).take u.size)):qaN w F u y v:=by
 have key:v=mkV u ((cs.drop off).take u.size):=by
  rcases h with ⟨h1,cs',rfl,h2,h3⟩|⟨h1,h2⟩
  ·have:cs'=(cs.drop off).take u.size:=by
    apply List.ext_getElem (by rw [h2,List.length_take,List.length_drop]; omega)
    intro j hj hj'
    have e1:=h3 j _ (List.getElem?_eq_getElem hj)
    rw [qai] at e1
    have e2:=hc (off+j) (cs[off+j]'(by rw [h2] at hj; omega)) (List.getElem?_eq_getElem _)
    rw [e1] at e2
    injection e2 with e2
    rw [e2,List.getElem_take,List.getElem_drop]
   rw [mkV,if_pos h1,this]
  ·have hs:u.size=1:=by cases u <;> simp [Ty.agg] at h1 <;> rfl
   have e2:=hc off (cs[off]'(by omega)) (List.getElem?_eq_getElem _)
   rw [h2] at e2
   injection e2 with e2
   rw [mkV,if_neg (by simp [h1]),hs,List.drop_eq_getElem_cons (by omega),e2]
   rfl
 rw [key]
 exact .ofCells hr
theorem qa5.length {w:World} {F:Nat→Prop} : {c:BC} → {cs:List Value} → {bs:List Nat} →qa5 w F c cs bs→cs.length=c.size
 | .val _ _,_,_,h=>h.2.length
 | .own _ _ _,_,_,⟨v,h,_⟩=>by rw [h]; rfl
 | .pair _ _,_,_,⟨c1,c2,b1,b2,h1,h2,h3,h4⟩=>by rw [h1,List.length_append,h3.length,h4.length]; rfl
 | .hole _,_,_,h=>h.2
theorem qa5.get {w:World} {F:Nat→Prop} : {c:BC} → {cs:List Value} → {bs:List Nat} → {off:Nat} → {u:Ty} → {y:u.den} → {f:Bool} →qa5 w F c cs bs→c.get off u=some (y,f)→
  off+u.size≤cs.length∧Rep w (fun b=>F b∨b∈bs) u y ((cs.drop off).take u.size)∧(f=false→Rep w F u y ((cs.drop off).take u.size))
 | .val t x,cs,bs,off,u,y,f,h,hg=>by
  simp only [BC.get,Option.map_eq_some_iff] at hg
  obtain ⟨z,h1,h2⟩:=hg
  injection h2 with h2 h3
  subst h2; subst h3
  obtain ⟨g1,g2⟩:=h.2.sub h1
  exact ⟨g1,g2.keep (fun b hb hs=>⟨.inl hb,hs,rfl⟩),fun _=>g2⟩
 | .own et e xs,cs,bs,off,u,y,f,h,hg=>by
  simp only [BC.get] at hg
  split at hg
  ·rename_i h0
   subst h0
   simp only [Option.map_eq_some_iff] at hg
   obtain ⟨z,h1,h2⟩:=hg
   injection h2 with h2 h3
   subst h2; subst h3
   obtain ⟨rfl,rfl⟩:=Ty.as_some h1
   obtain ⟨v,rfl,ho⟩:=h
   have hr:=ho.rep.1
   rw [qdp (ho.rep.2.2 rfl)] at hr
   exact ⟨(by simp [Ty.size]),(by simpa [Ty.size] using hr),(fun h=>by cases h)⟩
  ·cases hg
 | .pair a b,cs,bs,off,u,y,f,h,hg=>by
  obtain ⟨c1,c2,b1,b2,rfl,rfl,h1,h2⟩:=h
  have l1:=h1.length
  have l2:=h2.length
  have mono1:∀(t:Ty) (x:t.den) (l:List Value),Rep w (fun b=>F b∨b∈b1) t x l→Rep w (fun b=>F b∨b∈b1++b2) t x l:=fun t x l hr=>
   hr.keep fun b hb hs=>⟨hb.imp id fun h=>List.mem_append_left _ h,hs,rfl⟩
  have mono2:∀(t:Ty) (x:t.den) (l:List Value),Rep w (fun b=>F b∨b∈b2) t x l→Rep w (fun b=>F b∨b∈b1++b2) t x l:=fun t x l hr=>
   hr.keep fun b hb hs=>⟨hb.imp id fun h=>List.mem_append_right _ h,hs,rfl⟩
  have left:∀(off:Nat) (u:Ty) (y:u.den) (f:Bool),a.get off u=some (y,f)→
    off+u.size≤(c1++c2).length∧Rep w (fun b=>F b∨b∈b1++b2) u y (((c1++c2).drop off).take u.size)∧(f=false→Rep w F u y (((c1++c2).drop off).take u.size)):=fun off u y f hg=>by
   obtain ⟨g1,g2,g3⟩:=h1.get hg
   rw [qeE g1]
   exact ⟨by rw [List.length_append]; omega,mono1 _ _ _ g2,g3⟩
  have right:∀(off:Nat) (u:Ty) (y:u.den) (f:Bool),a.size≤off→b.get (off - a.size) u=some (y,f)→
    off+u.size≤(c1++c2).length∧Rep w (fun b=>F b∨b∈b1++b2) u y (((c1++c2).drop off).take u.size)∧(f=false→Rep w F u y (((c1++c2).drop off).take u.size)):=fun off u y f hle hg=>by
   obtain ⟨g1,g2,g3⟩:=h2.get hg
   rw [qec (by omega),l1]
   exact ⟨by rw [List.length_append]; omega,mono2 _ _ _ g2,g3⟩
  unfold BC.get at hg
  split at hg
  ·rename_i ua ub
   split at hg
   ·rename_i hsz
    split at hg
    ·rename_i x f1 y' f2 e1 e2
     injection hg with hg
     injection hg with hg1 hg2
     subst hg1; subst hg2
     obtain ⟨g1,g2,g3⟩:=h1.get e1
     obtain ⟨k1,k2,k3⟩:=h2.get e2
     rw [List.drop_zero,←hsz,←l1,List.take_length] at g2 g3
     rw [List.drop_zero] at k2 k3
     have ht:((c1++c2).drop 0).take (Ty.pair ua ub).size=c1++c2.take ub.size:=by
      rw [List.drop_zero,show (Ty.pair ua ub).size=c1.length+ub.size by simp [Ty.size,l1,hsz],List.take_append,List.take_of_length_le (by omega),show c1.length+ub.size - c1.length=ub.size by omega]
     rw [ht]
     refine ⟨by simp [Ty.size]; omega,⟨c1,_,rfl,mono1 _ _ _ g2,mono2 _ _ _ k2⟩,fun hf=> ?_⟩
     simp only [Bool.or_eq_false_iff] at hf
     exact ⟨c1,_,rfl,g3 hf.1,k3 hf.2⟩
    ·cases hg
   ·exact left _ _ _ _ hg
  ·split at hg
   ·exact left _ _ _ _ hg
   ·exact right _ _ _ _ (by omega) hg
 | .hole _,_,_,_,_,_,_,_,hg=>by simp [BC.get] at hg
theorem Ty.dec_rep (w:World) (F:Nat→Prop):(t:Ty)→ {cs:List Value} → {x:t.den} → {r:List Value} →t.dec cs=some (x,r)→∃c,cs=c++r∧Rep w F t x c
 | .int k,cs,x,r,h=>by
  simp only [Ty.dec] at h
  split at h
  ·split at h
   ·rename_i hk
    obtain ⟨rfl,hk⟩:=hk
    injection h with h
    injection h with h1 h2
    subst h1; subst h2
    exact ⟨[_],rfl,rfl,hk⟩
   ·cases h
  ·cases h
 | .bool,cs,x,r,h=>by
  simp only [Ty.dec] at h
  split at h
  ·injection h with h
   injection h with h1 h2
   subst h1; subst h2
   exact ⟨[_],rfl,rfl⟩
  ·cases h
 | .str,cs,x,r,h=>by
  simp only [Ty.dec] at h
  split at h
  ·split at h
   ·rename_i hk
    injection h with h
    injection h with h1 h2
    subst h1; subst h2
    exact ⟨[_],rfl,rfl,by simp only [maxLen]; omega⟩
   ·cases h
  ·cases h
 | .err,cs,x,r,h=>by
  simp only [Ty.dec] at h
  split at h
  ·injection h with h
   injection h with h1 h2
   subst h1; subst h2
   exact ⟨[_],rfl,_,rfl,.inl ⟨rfl,rfl⟩⟩
  ·cases h
 | .opt e,cs,x,r,h=>by
  simp only [Ty.dec] at h
  split at h
  ·injection h with h
   injection h with h1 h2
   subst h1; subst h2
   exact ⟨[_],rfl,_,rfl,.inl ⟨rfl,rfl⟩⟩
  ·cases h
 | .map _ _,cs,x,r,h=>by cases h
 | .unit,cs,x,r,h=>by
  simp only [Ty.dec] at h
  injection h with h
  injection h with h1 h2
  subst h2
  exact ⟨[],rfl,rfl⟩
 | .pair a b,cs,x,r,h=>by
  simp only [Ty.dec] at h
  split at h
  ·rename_i x1 r1 h1
   split at h
   ·rename_i x2 r2 h2
    injection h with h
    injection h with e1 e2
    subst e1; subst e2
    obtain ⟨c1,e1,g1⟩:=Ty.dec_rep w F a h1
    obtain ⟨c2,e2,g2⟩:=Ty.dec_rep w F b h2
    exact ⟨c1++c2,by rw [e1,e2,List.append_assoc],c1,c2,rfl,g1,g2⟩
   ·cases h
  ·cases h
 | .slice e,cs,x,r,h=>by
  simp only [Ty.dec] at h
  split at h
  ·injection h with h
   injection h with h1 h2
   subst h1; subst h2
   exact ⟨[_],rfl,_,rfl,.inl ⟨rfl,rfl⟩⟩
  ·cases h
 | .arr n e,cs,x,r,h=>by
  simp only [Ty.dec] at h
  cases h
theorem qq8 {E:Env} {tid:Nat} {c:Value} {a:AV} (X:Sit) (h:qm9 E tid c=some a):qaO X a c []:=by
 unfold qm9 at h
 split at h
 ·split at h
  ·rename_i hk
   injection h with h; subst h
   exact ⟨rfl,.ofInt _ _ hk⟩
  ·cases h
 ·injection h with h; subst h; exact ⟨rfl,.ofBool _ _ _⟩
 ·split at h
  ·rename_i s hs
   injection h with h; subst h
   refine ⟨rfl,?_⟩
   have:=qaN.ofStr X.w X.F (s:=s.data.toList) (by simp only [maxLen]; omega)
   simpa using this
  ·cases h
 ·split at h
  ·split at h
   ·injection h with h; subst h
    exact ⟨rfl,rfl⟩
   ·injection h with h; subst h
    exact ⟨[],World.ownsRow_nil _ _ _ _,rfl,fun i x hi=>by simp at hi⟩
  ·cases h
 ·split at h
  ·injection h with h; subst h
   exact ⟨rfl,qaN.ofErr (.inl ⟨rfl,rfl⟩)⟩
  ·cases h
 ·split at h
  ·injection h with h; subst h
   exact ⟨rfl,qaN.ofOpt (.inl ⟨rfl,rfl⟩)⟩
  ·cases h
 ·split at h
  ·rename_i t ht
   split at h
   ·rename_i hag
    split at h
    ·rename_i x hx
     injection h with h; subst h
     obtain ⟨c,e,hr⟩:=Ty.dec_rep X.w X.F t hx
     rw [List.append_nil] at e
     subst e
     exact ⟨rfl,hr,(fun _=>⟨_,rfl⟩),(fun h=>by rw [hag] at h; cases h)⟩
    ·cases h
   ·cases h
  ·cases h
 ·cases h
def quV (X:Sit):Prop:=∀k b,X.pn k=some b→X.tm k=ptr b 0
def qcn (X:Sit) (p:qh5):Prop:=quV X∧∀q∈p,X.ver q.1=q.2.1∧X.tm q.1= .bool q.2.2.1∧q.2.2.2=q.2.2.1
theorem qoa {s v:Nat} {w:Bool} : {p:qh5} →qpo s v w p=true→∃b,(s,v,w,b)∈p
 |[],h=>by simp [qpo] at h
 |(s',v',w',b')::r,h=>by
  simp only [qpo,Bool.or_eq_true,Bool.and_eq_true,beq_iff_eq] at h
  rcases h with ⟨⟨rfl,rfl⟩,rfl⟩|h
  ·exact ⟨b',List.mem_cons_self⟩
  ·obtain ⟨b,hb⟩:=qoa h
   exact ⟨b,List.mem_cons_of_mem _ hb⟩
theorem qmi {X:Sit} {p:qh5} (hp:qcn X p): {a:AV} → {v:Value} → {bs:List Nat} →qaO X a v bs→qaO X (qce p a) v bs
 | .grd s v0 w a,v,bs,h=>by
  unfold qce
  split
  ·rename_i ho
   obtain ⟨b,hb⟩:=qoa ho
   obtain ⟨h1,h2,_⟩:=hp.2 _ hb
   obtain ⟨rfl,h3⟩:=h
   exact qmi hp ((h3 h1).1 h2)
  ·trivial
 | .undef,_,_,h=>by unfold qce; exact h
 | .val _ _,_,_,h=>by unfold qce; exact h
 | .own _ _ _,_,_,h=>by unfold qce; exact h
 | .agg _,_,_,h=>by unfold qce; exact h
 | .box _,_,_,h=>by unfold qce; exact h
 | .ref _ _,_,_,h=>by unfold qce; exact h
 | .bref _ _ _ _,_,_,h=>by unfold qce; exact h
 | .pbox _ _ _,_,_,h=>by unfold qce; exact h
 | .pip _ _,_,_,h=>by unfold qce; exact h
 | .prow _ _ _ _ _ _,_,_,h=>by unfold qce; exact h
 | .osl _ _ _ _ _ _,_,_,h=>by unfold qce; exact h
 | .view _ _ _,_,_,h=>by unfold qce; exact h
 | .tup _,_,_,h=>by unfold qce; exact h
 | .fn _ _,_,_,h=>by unfold qce; exact h
 | .fnv _ _ _,_,_,h=>by unfold qce; exact h
 | .amb _ _,_,_,h=>by unfold qce; exact h
 | .nilr _ _,_,_,h=>by unfold qce; exact h
 | .nz _ _,_,_,h=>by unfold qce; exact h
 | .mp _ _ _,_,_,h=>by unfold qce; exact h
 | .parr _ _ _ _ _ _ _,_,_,h=>by unfold qce; exact h
def qcD (X:Sit) (o:Op1) (v:Value):Prop:=
 match o.s with
 |some t=>v=X.tm t∧o.v=X.ver t∧qaO X o.a v (X.own t)
 |none=>qaO X o.a v []
section
variable {C:Ctx} {σ:St} {tm:Array Value} {w:World} {own:Nat→List Nat} {ds:List Deferred}
theorem qas.at_ (h:qas C σ tm w own) (s:Nat):qaO (sit C σ tm w own) (qA σ s).2 (tm.getD s undef) (own s):=by
 by_cases hs:s<σ.length
 ·exact h.rep s hs
 ·have:qA σ s=(0,.undef):=by simp [qA,List.getD,List.getElem?_eq_none (show σ.length≤s by omega)]
  rw [this]
  trivial
theorem opd_ok (h:qas C σ tm w own) {E:Env} [tb:Tabbed E C] {p:qh5} {tid:Nat} {x:Operand} {o:Op1} (hp:qcn (sit C σ tm w own) p) (ho:(opd E p tid x).run (qA σ)=some o):
  qcD (sit C σ tm w own) o ((⟨tm,ds⟩:Act).eval x):=by
 unfold opd at ho
 split at ho
 ·rw [Q.run_get] at ho
  have:=Q.ret_some ho
  subst this
  exact ⟨rfl,rfl,qmi hp (h.at_ _)⟩
 ·split at ho
  ·rename_i hc
   have:=Q.ret_some ho
   subst this
   exact qq8 _ hc
  ·cases ho
 ·have:=Q.ret_some ho
  subst this
  exact ⟨rfl,[],rfl,rfl,rfl⟩
 ·rename_i g
  split at ho
  ·rename_i r hg
   have:=Q.ret_some ho
   subst this
   obtain ⟨h1,h2,cs,h3,h4⟩:=qsE h.tabs (g:=g) (r:=r) (by rw [←tb.eq]; exact hg)
   exact ⟨rfl,⟨g,0,none⟩,cs,rfl,h1,h2,h3,h4⟩
  ·cases ho
def FW (X:Sit) (ow:List Nat) (b:Nat):Prop:=X.F b∨∃s∈ow,b∈X.own s∧X.tm s≠ptr b 0
theorem qkY {w:World} {F:Nat→Prop} {et:Nat} {e:Ty} {xs:List e.den} {v:Value} {bs:List Nat} (h:qak w F et e xs v bs) (b:Nat):v≠ptr b 0:=by
 obtain ⟨cells,ho,_⟩:=h
 rcases ho.2 with ⟨rfl,_⟩|⟨g,cap,cur,rfl,_⟩ <;> (intro h; cases h)
theorem qnX {X:Sit} {b:Nat} (h:FW X [] b):X.F b:=by
 rcases h with h|⟨s,h,_⟩
 ·exact h
 ·cases h
theorem qdM (h:qas C σ tm w own) {o:Op1} {v:Value} {r:VR} (ho:qcD (sit C σ tm w own) o v) (hr:(qnf o).run (qA σ)=some r):qaN w (FW (sit C σ tm w own) r.ow) r.t r.x v:=by
 obtain ⟨os,ov,oa⟩:=o
 unfold qnf at hr
 split at hr
 ·rename_i t x heq
  have:=Q.ret_some hr
  subst this
  simp only at heq
  subst heq
  have hv:qaN w (sit C σ tm w own).F t x v:=by
   unfold qcD at ho
   cases os with
   |some s=>exact ho.2.2.2
   |none=>exact ho.2
  exact hv.mono fun b hb _=> .inl hb
 ·rename_i et e xs heq
  have:=Q.ret_some hr
  subst this
  simp only at heq
  subst heq
  unfold qcD at ho
  cases os with
  |some s=>exact (qak.rep ho.2.2).mono fun b hb _=>hb.imp id fun hb=>⟨s,by simp,hb,by rw [←ho.1]; exact qkY ho.2.2 b⟩
  |none=>exact (qak.rep ho).mono fun b hb _=>hb.imp id fun hb=>by cases hb
 ·rename_i et e heq
  have:=Q.ret_some hr
  subst this
  simp only at heq
  subst heq
  have hv:v= .slice none 0 0:=by
   unfold qcD at ho
   cases os with
   |some s=>exact ho.2.2.2
   |none=>exact ho.2
  rw [hv]
  exact ⟨⟨_,rfl,.inl ⟨rfl,rfl⟩⟩,(fun h=>by cases h),(fun _ cs h=>by cases h)⟩
 ·rename_i e xs heq
  have:=Q.ret_some hr
  subst this
  simp only at heq
  subst heq
  have hv:qaN w (sit C σ tm w own).F (.slice e) xs v:=by
   unfold qcD at ho
   cases os with
   |some s=>exact ho.2.2.2.1
   |none=>exact ho.2.1
  exact hv.mono fun b hb _=> .inl hb
 ·rename_i s v0 heq
  simp only at heq
  subst heq
  rw [Q.run_get] at hr
  split at hr
  ·rename_i hv
   have hval:tm.getD s undef=v:=by
    unfold qcD at ho
    cases os with
    |some t=>exact ho.2.2.2 hv
    |none=>exact ho.2 hv
   have hat:=h.at_ s
   rw [hval] at hat
   split at hr
   ·rename_i e xs ha
    have:=Q.ret_some hr
    subst this
    rw [ha] at hat
    exact (qak.rep hat).mono fun b hb _=>hb.imp id fun hb=>⟨s,by simp,hb,by show tm.getD s undef≠_; rw [hval]; exact qkY hat b⟩
   ·rename_i t x ha
    have:=Q.ret_some hr
    subst this
    rw [ha] at hat
    exact hat.2.mono fun b hb _=> .inl hb
   ·cases hr
  ·cases hr
 ·rename_i s v0 off u heq
  simp only at heq
  subst heq
  rw [Q.run_get] at hr
  split at hr
  ·rename_i hv
   split at hr
   ·rename_i c ha
    split at hr
    ·rename_i x f hg
     have:=Q.ret_some hr
     subst this
     have hval:∃b,b∈own s∧tm.getD s undef=ptr b 0∧qvX w b off u v:=by
      unfold qcD at ho
      cases os with
      |some t=>exact ho.2.2.2 hv
      |none=>exact ho.2 hv
     obtain ⟨b,hb,hptr,hva⟩:=hval
     have hat:=h.at_ s
     rw [ha] at hat
     obtain ⟨b',cs,bs',te,h1,h2,h3,h4⟩:=hat
     rw [hptr] at h1
     have hbb:b=b':=by simp [ptr] at h1; exact h1
     subst hbb
     obtain ⟨g1,g2,g3⟩:=h3.get hg
     have hcell:∀j x,cs[j]? =some x→w.cell? ⟨b,j,none⟩=some x:=fun j x hj=>by
      simp [World.cell?,show w.heap[b]? =_ from h2,hj]
     cases f with
     |true=>
      refine (hva.rep hcell g1 g2).mono fun b1 hb1 _=>hb1.imp id fun hb1=>⟨s,by simp,?_,?_⟩
      ·show b1∈own s
       rw [h4]
       exact List.mem_cons_of_mem _ hb1
      ·show tm.getD s undef≠_
       rw [hptr]
       have hn:=h.nodup s
       rw [h4] at hn
       intro he
       have:b=b1:=by simp [ptr] at he; exact he
       subst this
       exact (List.nodup_cons.1 hn).1 hb1
     |false=>exact (hva.rep hcell g1 (g3 rfl)).mono fun b1 hb1 _=> .inl hb1
    ·cases hr
   ·cases hr
  ·cases hr
 ·cases hr
 ·cases hr
theorem qdx (h:qas C σ tm w own) {u:Ty} {o:Op1} {v:Value} {r:u.den×List Nat} (ho:qcD (sit C σ tm w own) o v) (hr:(toVal u o).run (qA σ)=some r):qaN w (FW (sit C σ tm w own) r.2) u r.1 v:=by
 have hr0:=hr
 unfold toVal at hr
 split at hr
 ·rename_i c ha
  split at hr
  ·rename_i hsz
   split at hr
   ·rename_i x f hg
    have:=Q.ret_some hr
    subst this
    unfold qcD at ho
    cases hs:o.s with
    |some s=>
     rw [hs] at ho
     obtain ⟨hv,_,h3⟩:=ho
     rw [ha] at h3
     obtain ⟨cs,hcs,hb⟩:=h3
     obtain ⟨g1,g2,g3⟩:=hb.get hg
     have hl:=hb.length
     rw [List.drop_zero,List.take_of_length_le (by omega)] at g2 g3
     have mk:∀F,Rep w F u x cs→qaN w F u x v:=fun F hr=>by
      rw [hcs]
      exact ⟨hr,(fun _=>⟨_,rfl⟩),(fun h=>by rw [hsz.2] at h; cases h)⟩
     cases f with
     |true=>exact mk _ (g2.keep fun b hb hlt=>⟨hb.imp id fun hb=>⟨s,by simp,hb,by rw [←hv,hcs]; intro h; cases h⟩,hlt,rfl⟩)
     |false=>exact mk _ ((g3 rfl).keep fun b hb hlt=>⟨.inl hb,hlt,rfl⟩)
    |none=>
     rw [hs] at ho
     rw [ha] at ho
     obtain ⟨cs,hcs,hb⟩:=ho
     obtain ⟨g1,g2,g3⟩:=hb.get hg
     have hl:=hb.length
     rw [List.drop_zero,List.take_of_length_le (by omega)] at g2
     rw [hcs]
     exact ⟨g2.keep fun b hb hlt=>⟨hb.elim .inl (fun hb=>by cases hb),hlt,rfl⟩,(fun _=>⟨_,rfl⟩),(fun h=>by rw [hsz.2] at h; cases h)⟩
   ·cases hr
  ·cases hr
 ·rename_i t x off ha
  split at hr
  case h_2=>cases hr
  split at hr
  case isFalse=>cases hr
  rename_i h0
  split at hr
  ·rename_i y hy
   have:=Q.ret_some hr
   subst this
   subst h0
   have hv:qaO (sit C σ tm w own) (.view t x 0) v []:=by
    unfold qcD at ho
    split at ho
    ·obtain ⟨_,_,h3⟩:=ho
     rw [ha] at h3
     exact ⟨rfl,h3.2⟩
    ·rw [ha] at ho
     exact ho
   obtain ⟨_,ad,cs,g1,g2,g3,g4,g5⟩:=hv
   refine qaN.ofOpt (.inr ⟨y,ad,cs,rfl,?_,.inl g2,g3,g4,?_⟩)
   ·rw [g1]
    simp [Addr.add]
   ·obtain ⟨rfl,rfl⟩:=Ty.as_some hy
    exact g5.keep fun b hb hlt=>⟨.inl hb,hlt,rfl⟩
  ·cases hr
 ·obtain ⟨q,h1,h2⟩:=Q.bind_some hr
  have hq:=qdM h ho h1
  split at h2
  ·rename_i x hx
   have:=Q.ret_some h2
   subst this
   exact hq.as hx
  ·cases h2
theorem qeK (h:qas C σ tm w own) {o:Op1} {v:Value} {r:IntKind×Int} (ho:qcD (sit C σ tm w own) o v) (hr:(qlD o).run (qA σ)=some r):v= .int r.1 r.2∧r.1.has r.2:=by
 unfold qlD at hr
 obtain ⟨q,h1,h2⟩:=Q.bind_some hr
 have hq:=qdM h ho h1
 split at h2
 ·have:=Q.ret_some h2
  subst this
  exact hq.int
 ·cases h2
end
end Go.Vi
namespace Go.Vi
open Go.RowKit
theorem qao (σ:St) (u:U):(qX σ u).length=σ.length:=by simp [qX]
theorem qS (us:List U):∀σ:St,(qv σ us).length=σ.length:=by
 induction us with
 |nil=>intro σ; rfl
 |cons u us ih=>intro σ; show (qv (qX σ u) us).length=_; rw [ih,qao]
theorem qz (σ:St) (u:U) {s:Nat} (h:s≠u.s):qA (qX σ u) s=qA σ s:=by
 simp only [qA,qX,List.getD,List.getElem?_set_ne (Ne.symm h)]
theorem qT (σ:St) (u:U) (h:u.s<σ.length):qA (qX σ u) u.s=((if u.bump then (qA σ u.s).1+1 else (qA σ u.s).1),u.a):=by
 simp only [qA,qX,List.getD,List.getElem?_set_self h,Option.getD_some]
theorem qb7 (σ:St) (a b:List U):qv σ (a++b)=qv (qv σ a) b:=List.foldl_append
theorem qev (tm:Array Value) {d:Nat} (v:Value) (h:d<tm.size):(tm.setIfInBounds d v).getD d undef=v:=by simp [Array.getD,h]
theorem qcz (tm:Array Value) {d s:Nat} (v:Value) (h:s≠d):(tm.setIfInBounds d v).getD s undef=tm.getD s undef:=by
 simp only [Array.getD_eq_getD_getElem?,Array.getElem?_setIfInBounds_ne (Ne.symm h)]
section
variable {C:Ctx} {σ:St} {tm:Array Value} {w w':World} {own:Nat→List Nat}
theorem qas.world (h:qas C σ tm w own) (hk:qcQ (fun _=>False) w w'):qas C σ tm w' own:=
 h.update (fun _=>False) rfl rfl (fun _ _=>⟨rfl,rfl,rfl⟩) (fun _ hd=>hd.elim) (hk.mono fun _ h=>h.elim) (fun _ hd=>hd.elim) (fun _ hd=>hd.elim) (fun _ _ _ hd=>hd.elim) (fun _ hd=>hd.elim) (fun _ hd=>hd.elim)
def qbQ (own:Nat→List Nat) (d:Nat) (bs:List Nat):Nat→List Nat:=fun s=>if s=d then bs else own s
def after (C:Ctx) (σ:St) (tm:Array Value) (w w':World) (own:Nat→List Nat) (bs:List Nat):Sit:=
 { P:=C.P,ver:=fun s=>(qA σ s).1,tm:=fun s=>tm.getD s undef,w:=w',F:=fun b=>(C.free w own b∨w.heap.size≤b)∧b<w'.heap.size∧b∉bs,own,pn:=C.pn }
theorem qas.set (h:qas C σ tm w own) (hk:qcQ (fun _=>False) w w') {d:Nat} (hd:d<σ.length) {av:AV} {v:Value} {bs:List Nat} (hb:∀b∈bs,w.heap.size≤b∧b<w'.heap.size) (hn:bs.Nodup)
  (hr:qaO (after C σ tm w w' own bs) av v bs) (hw:∀m∈av.mentions,m.2≤(qA σ m.1).1):
  qas C (qX σ ⟨d,true,av⟩) (tm.setIfInBounds d v) w' (qbQ own d bs):=by
 have hN:C.w0.heap.size≤w.heap.size:=h.kept.size
 have e1:qA (qX σ ⟨d,true,av⟩) d=((qA σ d).1+1,av):=qT σ ⟨d,true,av⟩ hd
 have e2:(tm.setIfInBounds d v).getD d undef=v:=qev tm v (by rw [h.size]; exact hd)
 refine h.update (fun s=>s=d) (qao _ _) (by simp) ?_ ?_ (hk.mono fun _ h=>h.elim) ?_ ?_ ?_ ?_ ?_
 ·intro s hs
  exact ⟨qz _ _ hs,qcz tm v hs,by simp [qbQ,show s≠d from hs]⟩
 ·rintro s rfl
  rw [e1]
  exact .inl (Nat.lt_succ_self _)
 ·rintro s rfl; exact hd
 ·rintro s rfl
  simp only [qbQ,if_true]
  exact ⟨fun b hbm=> .inl (hb b hbm),hn⟩
 ·rintro s s' b rfl rfl _ _
  rfl
 ·rintro s rfl
  rw [e1,e2]
  simp only [qbQ,if_true]
  refine qaO.keep (X:=after C σ tm w w' own bs) (X':=sit C _ _ w' _) ⟨rfl,rfl⟩ ?_ (fun _ _ _=>rfl) ?_ hr
  ·rintro b ⟨hb1,hb2,hb3⟩ _
   refine ⟨⟨?_,hb2,fun s' hs'=> ?_⟩,hb2,rfl⟩
   ·rcases hb1 with hb1|hb1
    ·exact hb1.1
    ·exact .inr (.inr (by omega))
   ·simp only [qbQ] at hs'
    split at hs'
    ·exact hb3 hs'
    ·rcases hb1 with hb1|hb1
     ·exact hb1.2.2 s' hs'
     ·have:=(h.mine s' b hs').2; omega
  ·intro m hm hv
   have hle:=hw m hm
   have hv:(qA (qX σ ⟨s,true,av⟩) m.1).1=m.2:=hv
   by_cases hms:m.1=s
   ·rw [hms,e1] at hv
    rw [hms] at hle
    simp only at hv
    omega
   ·rw [qz _ _ hms] at hv
    refine ⟨hv,qcz tm v hms,fun b hb _=>⟨?_,rfl⟩⟩
    show b∈qbQ own s bs m.1
    simp only [qbQ,if_neg hms]
    exact hb
 ·rintro s rfl m hm
  rw [e1] at hm
  have hle:=hw m hm
  by_cases hms:m.1=s
  ·rw [hms,e1]
   rw [hms] at hle
   simp only
   omega
  ·rw [qz _ _ hms]
   exact hle
theorem qa5.freeze {F:Nat→Prop} : {c:BC} → {cs:List Value} → {bs:List Nat} →qa5 w F c cs bs→qa5 w (fun b=>F b∨b∈bs) c.freeze cs []
 | .val _ _,_,_,h=>⟨rfl,h.2.keep fun b hb hs=>⟨.inl hb,hs,rfl⟩⟩
 | .own _ _ _,_,_,⟨v,h1,h2⟩=>by
  subst h1
  have:=h2.rep.1
  rw [qdp (h2.rep.2.2 rfl)] at this
  exact ⟨rfl,this⟩
 | .pair _ _,_,_,⟨c1,c2,b1,b2,h1,h2,h3,h4⟩=>by
  subst h2
  exact ⟨c1,c2,[],[],h1,rfl,h3.freeze.keep (fun b hb hs=>⟨hb.imp id fun h=>List.mem_append_left _ h,hs,rfl⟩) (fun b hb=>by cases hb),h4.freeze.keep (fun b hb hs=>⟨hb.imp id fun h=>List.mem_append_right _ h,hs,rfl⟩) (fun b hb=>by cases hb)⟩
 | .hole _,_,_,h=>⟨rfl,h.2⟩
theorem qa7.freeze {F:Nat→Prop} : {c:List qpu} → {cs:List Value} → {bs:List Nat} →qa7 w F c cs bs→qa7 w (fun b=>F b∨b∈bs) (c.map qpu.freeze) cs []
 |[],_,_,h=>⟨h.1,rfl⟩
 |c::_,_,_,⟨v,r,b1,b2,h1,h2,h3,h4⟩=>by
  subst h2
  refine ⟨v,r,[],[],h1,rfl,?_,h4.freeze.keep (fun b hb hs=>⟨hb.imp id fun h=>List.mem_append_right _ h,hs,rfl⟩) (fun b hb=>by cases hb)⟩
  cases c with
  |val t x=>exact ⟨rfl,h3.2.mono fun b hb _=> .inl hb⟩
  |own et e xs=>exact ⟨rfl,(qak.rep h3).mono fun b hb _=>hb.imp id fun h=>List.mem_append_left _ h⟩
  |gone=>rfl
  |nz e xs=>exact ⟨rfl,h3.2.1.mono fun b hb _=> .inl hb,h3.2.2⟩
theorem AV.freeze_mentions:(a:AV)→a.freeze.mentions=a.mentions
 | .undef=>rfl
 | .val _ _=>rfl
 | .own _ _ _=>rfl
 | .agg _=>rfl
 | .box _=>rfl
 | .ref _ _=>rfl
 | .bref _ _ _ _=>rfl
 | .pbox _ _ _=>rfl
 | .pip _ _=>rfl
 | .prow _ _ _ _ _ _=>rfl
 | .osl _ _ _ _ _ _=>rfl
 | .view _ _ _=>rfl
 | .tup _=>rfl
 | .grd _ _ _ _=>rfl
 | .fn _ _=>rfl
 | .fnv _ _ _=>rfl
 | .amb _ _=>rfl
 | .nilr _ _=>rfl
 | .nz _ _=>rfl
 | .mp _ _ _=>rfl
 | .parr _ _ _ _ _ _ _=>rfl
theorem qaO.freeze {X X':Sit} (hP:X'.P=X.P∧X'.pn=X.pn) (hw:X'.w=X.w) (hver:∀s,X'.ver s=X.ver s) (htm:∀s,X'.tm s=X.tm s) (hown:∀s b,b∈X.own s→X.tm s=ptr b 0→b∈X'.own s)
  {bs nb:List Nat} {v:Value} (hnd:bs.Nodup) (hnb:∀b,b∈nb↔b∈bs∧v=ptr b 0) (hn2:nb.Nodup) (hF:∀b,X.F b→X'.F b) (hF2:∀b∈bs,b∉nb→X'.F b) {a:AV} (h:qaO X a v bs):qaO X' a.freeze v nb:=by
 have same:bs=[]→a.freeze=a→qaO X' a.freeze v nb:=fun hb ha=>by
  have hn:nb=[]:=by
   cases nb with
   |nil=>rfl
   |cons b r=>have:=((hnb b).1 List.mem_cons_self).1; rw [hb] at this; cases this
  rw [ha,hn]
  rw [hb] at h
  exact qaO.keep hP (fun b hb hlt=>⟨hF b hb,by rw [hw]; exact hlt,by rw [hw]⟩) (fun b _ _=>by rw [hw]) (fun m _ hv=>⟨by rw [←hver]; exact hv,htm m.1,fun b hb hp=>⟨hown _ b hb hp,by rw [hw]⟩⟩) h
 have none_:(∀b,v≠ptr b 0)→nb=[]:=fun hv=>by
  cases nb with
  |nil=>rfl
  |cons b r=>exact absurd ((hnb b).1 List.mem_cons_self).2 (hv b)
 cases a with
 |undef=>trivial
 |own et e xs=>
  have hn:=none_ (qkY h)
  subst hn
  have hr:qaN X.w _ (.slice e) xs _:=qak.rep h
  exact ⟨rfl,by rw [hw]; exact hr.mono fun b hb _=>hb.elim (hF b) fun hb=>hF2 b hb (by simp)⟩
 |agg c=>
  obtain ⟨cs,hcs,hb⟩:=h
  have hn:=none_ (fun b hp=>by rw [hcs] at hp; cases hp)
  subst hn
  exact ⟨cs,hcs,by rw [hw]; exact hb.freeze.keep (fun b hb hlt=>⟨hb.elim (hF b) fun hb=>hF2 b hb (by simp),hlt,rfl⟩) (fun _ hb=>by cases hb)⟩
 |tup c=>
  obtain ⟨cs,hcs,hb⟩:=h
  have hn:=none_ (fun b hp=>by rw [hcs] at hp; cases hp)
  subst hn
  exact ⟨cs,hcs,by rw [hw]; exact hb.freeze.keep (fun b hb hlt=>⟨hb.elim (hF b) fun hb=>hF2 b hb (by simp),hlt,rfl⟩) (fun _ hb=>by cases hb)⟩
 |box c=>
  obtain ⟨b0,cs,bs',te,h1,h2,h3,h4⟩:=h
  subst h4
  have hne:∀b,v=ptr b 0→b=b0:=fun b hp=>by rw [h1] at hp; simp [ptr] at hp; exact hp.symm
  have hn:nb=[b0]:=by
   have h0:b0∈nb:=(hnb b0).2 ⟨List.mem_cons_self,h1⟩
   cases nb with
   |nil=>cases h0
   |cons b r=>
    have hb:=hne b ((hnb b).1 List.mem_cons_self).2
    subst hb
    cases r with
    |nil=>rfl
    |cons b' r'=>
     have hb':=hne b' ((hnb b').1 (List.mem_cons_of_mem _ List.mem_cons_self)).2
     subst hb'
     exact absurd List.mem_cons_self (List.nodup_cons.1 hn2).1
  subst hn
  refine ⟨b0,cs,[],te,h1,by rw [hw]; exact h2,?_,rfl⟩
  rw [hw]
  refine h3.freeze.keep (fun b hb hlt=>⟨hb.elim (hF b) fun hb=>hF2 b (List.mem_cons_of_mem _ hb) ?_,hlt,rfl⟩) (fun _ hb=>by cases hb)
  intro hb'
  simp at hb'
  subst hb'
  exact (List.nodup_cons.1 hnd).1 hb
 |val t x=>exact same h.1 rfl
 |ref a b=>exact same h.1 rfl
 |bref a b c d=>exact same h.1 rfl
 |pbox a b c=>exact same h.1 rfl
 |pip a b=>exact same h.1 rfl
 |prow a b c d e f=>exact same h.1 rfl
 |osl a b c d e f=>exact same h.1 rfl
 |view a b c=>exact same h.1 rfl
 |grd a b c d=>exact same h.1 rfl
 |fn a b=>exact same h.1 rfl
 |fnv a b c=>exact same h.1 rfl
 |amb a b=>exact same h.1 rfl
 |nilr a b=>exact same h.1 rfl
 |nz a b=>exact same h.1 rfl
 |mp a b c=>trivial
 |parr a b c d e f g=>exact same h.1 rfl
open Classical in
theorem qas.freeze (h:qas C σ tm w own) (s:Nat):∃own',qas C (qX σ ⟨s,false,(qA σ s).2.freeze⟩) tm w own'∧(∀s',s'≠s→own' s'=own s')∧(∀b∈own' s,b∈own s)∧
  (∀b,FW (sit C σ tm w own) [s] b→C.free w own' b):=by
 by_cases hs:s<σ.length
 case neg=>
  refine ⟨own,?_,fun _ _=>rfl,fun _ hb=>hb,?_⟩
  ·have:qX σ ⟨s,false,(qA σ s).2.freeze⟩=σ:=by simp only [qX]; exact List.set_eq_of_length_le (by omega)
   rw [this]; exact h
  ·rintro b (hb|⟨s',hs',hb,_⟩)
   ·exact hb
   ·simp at hs'; subst hs'
    have hb:b∈own s':=hb
    rw [h.outside s' (by omega)] at hb; cases hb
 have hat:=h.rep s hs
 have eS:qA (qX σ ⟨s,false,(qA σ s).2.freeze⟩) s=((qA σ s).1,(qA σ s).2.freeze):=qT σ ⟨s,false,_⟩ hs
 have eV:∀s',(qA (qX σ ⟨s,false,(qA σ s).2.freeze⟩) s').1=(qA σ s').1:=fun s'=>by
  by_cases he:s'=s
  ·rw [he,eS]
  ·rw [qz _ _ he]
 have eM:∀s',(qA (qX σ ⟨s,false,(qA σ s).2.freeze⟩) s').2.mentions=(qA σ s').2.mentions:=fun s'=>by
  by_cases he:s'=s
  ·rw [he,eS,AV.freeze_mentions]
  ·rw [qz _ _ he]
 obtain ⟨nb,hnb,hnd⟩:∃nb:List Nat,(∀b,b∈nb↔b∈own s∧tm.getD s undef=ptr b 0)∧nb.Nodup:=
  ⟨(own s).filter fun b=>decide (tm.getD s undef=ptr b 0),fun b=>by simp,(h.nodup s).filter _⟩
 have ownSub:∀s' b,b∈qbQ own s nb s'→b∈own s':=fun s' b hb=>by
  simp only [qbQ] at hb
  split at hb
  ·rename_i e; rw [e]; exact ((hnb b).1 hb).1
  ·exact hb
 have freeMono:∀b,C.free w own b→C.free w (qbQ own s nb) b:=fun b hb=>⟨hb.1,hb.2.1,fun s' hs'=>hb.2.2 s' (ownSub s' b hs')⟩
 have freeNew:∀b∈own s,b∉nb→C.free w (qbQ own s nb) b:=fun b hb hnb=>⟨.inr (h.mine s b hb).1,(h.mine s b hb).2,fun s' hs'=>by
  simp only [qbQ] at hs'
  split at hs'
  ·exact hnb hs'
  ·rename_i hne; exact hne (h.apart s' s b hs' hb)⟩
 have hptr:∀s' b,b∈own s'→tm.getD s' undef=ptr b 0→b∈qbQ own s nb s':=fun s' b hb hp=>by
  simp only [qbQ]
  split
  ·rename_i e; subst e; exact (hnb b).2 ⟨hb,hp⟩
  ·exact hb
 refine ⟨qbQ own s nb,⟨by rw [qao]; exact h.size,h.kept,fun s' b hb=>h.mine s' b (ownSub s' b hb),fun s'=> ?_,fun s' s'' b hb hb'=>h.apart s' s'' b (ownSub _ _ hb) (ownSub _ _ hb'),fun s' hs'=> ?_,?_,?_⟩,fun s' hs'=>by simp [qbQ,hs'],fun b hb=>ownSub s b hb,?_⟩
 ·simp only [qbQ]
  split
  ·exact hnd
  ·exact h.nodup s'
 ·rw [qao] at hs'
  simp only [qbQ]
  split
  ·rename_i e; subst e; omega
  ·exact h.outside s' hs'
 ·intro s' hs'
  rw [qao] at hs'
  by_cases he:s'=s
  ·subst he
   rw [eS]
   simp only [qbQ,if_true]
   exact qaO.freeze (X:=sit C σ tm w own) (X':=sit C (qX σ ⟨s',false,(qA σ s').2.freeze⟩) tm w (qbQ own s' nb)) ⟨rfl,rfl⟩ rfl eV (fun _=>rfl) hptr (h.nodup s') hnb hnd freeMono freeNew hat
  ·rw [qz _ _ he]
   have hr:=h.rep s' hs'
   have e3:qbQ own s nb s'=own s':=by simp [qbQ,he]
   rw [e3]
   exact qaO.keep (X:=sit C σ tm w own) (X':=sit C (qX σ ⟨s,false,(qA σ s).2.freeze⟩) tm w (qbQ own s nb)) ⟨rfl,rfl⟩ (fun b hb hlt=>⟨freeMono b hb,hlt,rfl⟩) (fun _ _ _=>rfl) (fun m _ hv=>⟨(eV m.1).symm.trans hv,rfl,fun b hb hp=>⟨hptr m.1 b hb hp,rfl⟩⟩) hr
 ·intro s' m hm
  rw [eM] at hm
  rw [eV]
  exact h.wf s' m hm
 ·rintro b (hb|⟨s',hs',hb,hp⟩)
  ·exact freeMono b hb
  ·simp at hs'; subst hs'
   exact freeNew b hb fun hb'=>hp ((hnb b).1 hb').2
open Classical in
theorem qas.weaken (h:qas C σ tm w own) {s:Nat} (hs:s<σ.length) {a':AV} (hm:∀m∈a'.mentions,m∈(qA σ s).2.mentions) {nb:List Nat} (hsub:∀b∈nb,b∈own s) (hnd:nb.Nodup) (hkeep:∀b∈own s,tm.getD s undef=ptr b 0→b∈nb)
  (hrep:∀X':Sit,X'.P=C.P→X'.pn=C.pn→X'.w=w→(∀s',X'.ver s'=(qA σ s').1)→(∀s',X'.tm s'=tm.getD s' undef)→(∀s' b,b∈own s'→tm.getD s' undef=ptr b 0→b∈X'.own s')→(∀b,C.free w own b→X'.F b)→(∀b∈own s,b∉nb→X'.F b)→qaO X' a' (tm.getD s undef) nb):
  qas C (qX σ ⟨s,false,a'⟩) tm w (qbQ own s nb):=by
 have eS:qA (qX σ ⟨s,false,a'⟩) s=((qA σ s).1,a'):=qT σ ⟨s,false,_⟩ hs
 have eV:∀s',(qA (qX σ ⟨s,false,a'⟩) s').1=(qA σ s').1:=fun s'=>by
  by_cases he:s'=s
  ·rw [he,eS]
  ·rw [qz _ _ he]
 have ownSub:∀s' b,b∈qbQ own s nb s'→b∈own s':=fun s' b hb=>by
  simp only [qbQ] at hb
  split at hb
  ·rename_i e; rw [e]; exact hsub b hb
  ·exact hb
 have freeMono:∀b,C.free w own b→C.free w (qbQ own s nb) b:=fun b hb=>⟨hb.1,hb.2.1,fun s' hs'=>hb.2.2 s' (ownSub s' b hs')⟩
 have freeNew:∀b∈own s,b∉nb→C.free w (qbQ own s nb) b:=fun b hb hnb=>⟨.inr (h.mine s b hb).1,(h.mine s b hb).2,fun s' hs'=>by
  simp only [qbQ] at hs'
  split at hs'
  ·exact hnb hs'
  ·rename_i hne; exact hne (h.apart s' s b hs' hb)⟩
 have hptr:∀s' b,b∈own s'→tm.getD s' undef=ptr b 0→b∈qbQ own s nb s':=fun s' b hb hp=>by
  simp only [qbQ]
  split
  ·rename_i e; subst e; exact hkeep b hb hp
  ·exact hb
 refine ⟨by rw [qao]; exact h.size,h.kept,fun s' b hb=>h.mine s' b (ownSub s' b hb),fun s'=> ?_,fun s' s'' b hb hb'=>h.apart s' s'' b (ownSub _ _ hb) (ownSub _ _ hb'),fun s' hs'=> ?_,?_,?_⟩
 ·simp only [qbQ]
  split
  ·exact hnd
  ·exact h.nodup s'
 ·rw [qao] at hs'
  simp only [qbQ]
  split
  ·rename_i e; subst e; omega
  ·exact h.outside s' hs'
 ·intro s' hs'
  rw [qao] at hs'
  by_cases he:s'=s
  ·subst he
   rw [eS]
   have e3:qbQ own s' nb s'=nb:=by simp [qbQ]
   rw [e3]
   exact hrep (sit C (qX σ ⟨s',false,a'⟩) tm w (qbQ own s' nb)) rfl rfl rfl eV (fun _=>rfl) hptr freeMono freeNew
  ·rw [qz _ _ he]
   have hr:=h.rep s' hs'
   have e3:qbQ own s nb s'=own s':=by simp [qbQ,he]
   rw [e3]
   exact qaO.keep (X:=sit C σ tm w own) (X':=sit C (qX σ ⟨s,false,a'⟩) tm w (qbQ own s nb)) ⟨rfl,rfl⟩ (fun b hb hlt=>⟨freeMono b hb,hlt,rfl⟩) (fun _ _ _=>rfl) (fun m _ hv=>⟨(eV m.1).symm.trans hv,rfl,fun b hb hp=>⟨hptr m.1 b hb hp,rfl⟩⟩) hr
 ·intro s' m hm'
  by_cases he:s'=s
  ·subst he
   rw [eS] at hm'
   rw [eV]
   exact h.wf s' m (hm m hm')
  ·rw [qz _ _ he] at hm'
   rw [eV]
   exact h.wf s' m hm'
theorem qvt {l1 l2:List Nat} (h:l1.Sublist l2) (hn:l2.Nodup):l2.Perm (l1++l2.filter (fun k=>decide (k∉l1))):=by
 refine (List.perm_ext_iff_of_nodup hn ?_).2 fun a=> ?_
 ·refine List.nodup_append.2 ⟨hn.sublist h,hn.sublist List.filter_sublist,fun b hb b' hb' e=> ?_⟩
  subst e
  have:=(List.mem_filter.1 hb').2
  exact (of_decide_eq_true this) hb
 ·constructor
  ·intro ha
   by_cases hm:a∈l1
   ·exact List.mem_append_left _ hm
   ·exact List.mem_append_right _ (List.mem_filter.2 ⟨ha,by simpa using hm⟩)
  ·intro ha
   rcases List.mem_append.1 ha with ha|ha
   ·exact h.subset ha
   ·exact (List.mem_filter.1 ha).1
theorem qa5.fit {w:World} {F:Nat→Prop} :(b:qcY)→ {c:BC} → {cs:List Value} → {bs:List Nat} → {x:b.den} →qa5 w F c cs bs→bs.Nodup→c.fit b=some x→∃b1:List Nat,b1.Sublist bs∧∀F':Nat→Prop,(∀k,F k→F' k)→(∀k∈bs,k∉b1→F' k)→qa5 w F' (b.un x) cs b1
 | .val t,c,cs,bs,x,h,hn,hf=>by
  simp only [BC.fit] at hf
  split at hf
  case isFalse=>cases hf
  rename_i hsz
  split at hf
  case h_2=>cases hf
  rename_i r hg
  injection hf with hf
  subst hf
  obtain ⟨g1,g2,_⟩:=h.get (y:=r.1) (f:=r.2) hg
  have hl:=h.length
  rw [List.drop_zero,List.take_of_length_le (by omega)] at g2
  refine ⟨[],List.nil_sublist _,fun F' h1 h2=>⟨rfl,g2.keep fun k hk hlt=>⟨?_,hlt,rfl⟩⟩⟩
  rcases hk with hk|hk
  ·exact h1 k hk
  ·exact h2 k hk (by simp)
 | .own et e,c,cs,bs,x,h,hn,hf=>by
  unfold BC.fit at hf
  split at hf
  case h_2=>cases hf
  rename_i et' e' xs
  split at hf
  case isFalse=>cases hf
  rename_i he
  subst he
  obtain ⟨e1,e2⟩:=Ty.as_some hf
  injection e1 with e1
  subst e1
  have e2:xs=x:=e2
  subst e2
  exact ⟨bs,List.Sublist.refl _,fun F' h1 h2=>qa5.keep (fun k hk hlt=>⟨h1 k hk,hlt,rfl⟩) (fun _ _ _=>rfl) h⟩
 | .pair a b,c,cs,bs,x,h,hn,hf=>by
  unfold BC.fit at hf
  split at hf
  ·rename_i c1 c2
   split at hf
   case h_2=>cases hf
   rename_i x1 x2 hf1 hf2
   injection hf with hf
   subst hf
   obtain ⟨d1,d2,e1,e2,rfl,rfl,k1,k2⟩:=h
   obtain ⟨n1,n2,n3⟩:=List.nodup_append.1 hn
   obtain ⟨p1,q1,r1⟩:=k1.fit a n1 hf1
   obtain ⟨p2,q2,r2⟩:=k2.fit b n2 hf2
   refine ⟨p1++p2,q1.append q2,fun F' h1 h2=>⟨d1,d2,p1,p2,rfl,rfl,r1 F' h1 fun k hk hkn=>h2 k (List.mem_append_left _ hk) fun hm=> ?_,r2 F' h1 fun k hk hkn=>h2 k (List.mem_append_right _ hk) fun hm=> ?_⟩⟩
   ·rcases List.mem_append.1 hm with hm|hm
    ·exact hkn hm
    ·exact n3 k hk k (q2.subset hm) rfl
   ·rcases List.mem_append.1 hm with hm|hm
    ·exact n3 k (q1.subset hm) k hk rfl
    ·exact hkn hm
  ·rename_i ta tb y
   split at hf
   case h_2=>cases hf
   rename_i x1 x2 hf1 hf2
   injection hf with hf
   subst hf
   obtain ⟨h0,d1,d2,rfl,k1,k2⟩:=h
   subst h0
   obtain ⟨p1,q1,r1⟩:=qa5.fit (F:=F) a (c:= .val ta y.1) (bs:=[]) ⟨rfl,k1⟩ List.nodup_nil hf1
   obtain ⟨p2,q2,r2⟩:=qa5.fit (F:=F) b (c:= .val tb y.2) (bs:=[]) ⟨rfl,k2⟩ List.nodup_nil hf2
   have:=List.sublist_nil.1 q1
   subst this
   have:=List.sublist_nil.1 q2
   subst this
   exact ⟨[],List.Sublist.refl _,fun F' h1 h2=>⟨d1,d2,[],[],rfl,rfl,r1 F' h1 fun k hk=>(by cases hk),r2 F' h1 fun k hk=>(by cases hk)⟩⟩
  ·cases hf
 | .hole n,_,_,_,_,_,_,hf=>by cases hf
theorem qas.refit (h:qas C σ tm w own) (sh:qfk) (s:Nat):∃own',qas C (qX σ ⟨s,false,(qA σ s).2.refit sh⟩) tm w own':=by
 have fz:∃own',qas C (qX σ ⟨s,false,(qA σ s).2.freeze⟩) tm w own':=by
  obtain ⟨own',h1,_⟩:=h.freeze s
  exact ⟨own',h1⟩
 unfold AV.refit
 split
 ·rename_i b c heq
  split
  ·rename_i x hx
   have hs:s<σ.length:=by
    by_cases hs:s<σ.length
    ·exact hs
    ·have:qA σ s=(0,.undef):=by simp [qA,List.getD,List.getElem?_eq_none (Nat.le_of_not_lt hs)]
     rw [this] at heq
     cases heq
   have hat:=h.rep s hs
   rw [heq] at hat
   obtain ⟨b0,cs,bs',te,h1,h2,h3,h4⟩:=hat
   have hnd:=h.nodup s
   rw [h4] at hnd
   have hnd:=List.nodup_cons.1 hnd
   obtain ⟨b1,q1,q2⟩:=h3.fit b hnd.2 hx
   refine ⟨_,h.weaken hs (nb:=b0::b1) (fun m hm=>by cases hm) (fun k hk=> ?_) (List.nodup_cons.2 ⟨fun hm=>hnd.1 (q1.subset hm),hnd.2.sublist q1⟩) (fun k hk hp=> ?_) ?_⟩
   ·rw [h4]
    rcases List.mem_cons.1 hk with rfl|hk
    ·exact List.mem_cons_self
    ·exact List.mem_cons_of_mem _ (q1.subset hk)
   ·have:k=b0:=by
     rw [h1] at hp
     simp [ptr] at hp
     exact hp.symm
    rw [this]
    exact List.mem_cons_self
   ·intro X' hP hpn hw hver htm hown hF hF2
    refine ⟨b0,cs,b1,te,h1,by rw [hw]; exact h2,?_,rfl⟩
    rw [hw]
    refine q2 X'.F hF fun k hk hkn=>hF2 k (by rw [h4]; exact List.mem_cons_of_mem _ hk) fun hm=> ?_
    rcases List.mem_cons.1 hm with rfl|hm
    ·exact hnd.1 hk
    ·exact hkn hm
  ·rw [heq] at fz
   exact fz
 ·exact fz
end
end Go.Vi
namespace Go.Vi
open Go.RowKit
structure TyB (P:Program) (t:Nat) (u:Ty):Prop where
 info:∃i,P.info? t=some i∧i.size=u.size
 desc:∃d,P.underlying t=some d∧(match d with| .struct _=>true| .array _ _=>true|_=>false)=u.agg
structure ElemB (P:Program) (E:Env) (t:Nat) (e:Ty):Prop where
 under:P.underlying t=some (.slice (E.etid t))
 info:∃i z,P.info? (E.etid t)=some i∧i.size=e.size∧i.zero=some z∧z.cells.size=e.size∧i.bytes=E.bytes (E.etid t)
 notInt:∀k,P.underlying t≠some (.int k)
section
variable {P:Program} {w:World}
theorem TyB.run_isAgg {t:Nat} {u:Ty} (h:TyB P t u):(isAgg t).run P w= .ok u.agg w:=by
 obtain ⟨d,h1,h2⟩:=h.desc
 simp only [isAgg,Sem.run_bind,run_underlying h1,Result.andThen_ok]
 rw [←h2]
 cases d <;> rfl
theorem TyB.run_sizeOf {t:Nat} {u:Ty} (h:TyB P t u):(sizeOf t).run P w= .ok u.size w:=by
 obtain ⟨i,h1,h2⟩:=h.info
 simp [sizeOf,typeInfo,h1,h2]
theorem qgO {t:Nat} {u:Ty} (h:TyB P t u) {a:Addr} {cs:List Value} (hc:qhf w a cs) (hl:cs.length=u.size):(Instr.loadAt t (.pointer (some a))).run P w= .ok (mkV u cs) w:=by
 simp only [Instr.loadAt,Instr.sureAddr,loadVar,Sem.run_bind,Sem.run_pure,Result.andThen_ok,h.run_isAgg]
 cases hu:u.agg with
 |true=>
  simp only [if_true,Sem.run_bind,h.run_sizeOf,Result.andThen_ok]
  rw [←hl,run_loadCells_list w a cs hc]
  simp [mkV,hu]
 |false=>
  have hs:u.size=1:=by cases u <;> simp [Ty.agg] at hu <;> rfl
  simp only [Bool.false_eq_true,if_false]
  match cs,hl.trans hs with
  |[v],_=>
   have hv:=hc 0 v rfl
   have:a.add 0=a:=by simp [Addr.add]
   rw [this] at hv
   simp [run_load,hv,mkV,hu]
theorem Rep.oneCell {F:Nat→Prop} : {t:Ty} → {x:t.den} → {cs:List Value} →Rep w F t x cs→∀v∈cs,v.oneCell'=true
 | .int _,_,_,h,v,hv=>by rw [h.1] at hv; simp at hv; subst hv; rfl
 | .bool,_,_,h,v,hv=>by rw [show _=_ from h] at hv; simp at hv; subst hv; rfl
 | .str,_,_,h,v,hv=>by rw [h.1] at hv; simp at hv; subst hv; rfl
 | .err,_,_,⟨u,hc,h⟩,v,hv=>by
  rw [hc] at hv; simp at hv; subst hv
  rcases h with ⟨_,rfl⟩|⟨_,t,x,rfl⟩ <;> rfl
 | .opt e,_,_,⟨u,hc,h⟩,v,hv=>by
  rw [hc] at hv; simp at hv; subst hv
  rcases h with ⟨_,rfl⟩|⟨_,_,_,_,rfl,_⟩ <;> rfl
 | .map _ _,_,_,h,_,_=>h.elim
 | .unit,_,_,h,v,hv=>by rw [show _=_ from h] at hv; cases hv
 | .pair a b,_,_,⟨c1,c2,hc,h1,h2⟩,v,hv=>by
  rw [hc] at hv
  rcases List.mem_append.1 hv with hv|hv
  ·exact h1.oneCell v hv
  ·exact h2.oneCell v hv
 | .slice e,_,_,⟨u,hc,h⟩,v,hv=>by
  rw [hc] at hv; simp at hv; subst hv
  rcases h with ⟨rfl,_⟩|⟨a,cap,rfl,_⟩ <;> rfl
 | .arr n e,_,_,⟨hl,css,hcl,hc,hx⟩,v,hv=>by
  rw [hc] at hv
  obtain ⟨c,hcm,hvc⟩:=List.mem_flatten.1 hv
  obtain ⟨i,hi,rfl⟩:=List.getElem_of_mem hcm
  exact (hx i _ _ (List.getElem?_eq_getElem (by omega)) (List.getElem?_eq_getElem hi)).oneCell v hvc
theorem qak.oneCell {F:Nat→Prop} {et:Nat} {e:Ty} {xs:List e.den} {v:Value} {bs:List Nat} (h:qak w F et e xs v bs):v.oneCell'=true:=by
 obtain ⟨cells,ho,_⟩:=h
 rcases ho.2 with ⟨rfl,_⟩|⟨g,cap,cur,rfl,_⟩ <;> rfl
theorem qjK {t:Nat} {u:Ty} (h:TyB P t u) {b off:Nat} {v:Value} {cur:Array Value} {te:Nat} (hg:w.heap[b]? =some (.cells cur te (0,0))) (hl:v.cells.toList.length=u.size) (hfit:off+u.size≤cur.size)
  (h1:∀x∈v.cells.toList,x.oneCell'=true):(Instr.storeAt t (ptr b off) v).run P w= .ok () (w.setRow b (cur.toList.take off++v.cells.toList++cur.toList.drop (off+u.size)).toArray):=by
 have hst:=run_storeCells_at P b off te v.cells.toList 0 cur w hg (by rw [hl]; simpa using hfit) h1
 rw [Array.length_toList] at hl
 simp only [Instr.storeAt,Instr.sureAddr,ptr,storeVar,Sem.run_bind,Sem.run_pure,Result.andThen_ok,h.run_sizeOf,hl,ne_eq,not_true_eq_false,if_false]
 rw [hst]
 simp [hl]
end
section
variable {C:Ctx} {E:Env} {σ:St} {tm:Array Value} {a:Act} {w w':World} {own:Nat→List Nat} {o:Oper} [Tabbed E C]
def qu4 (o:Oper) (a a':Act):Prop:=a'.defers=a.defers∧∀s,o.dst≠some s→a'.tmps.getD s undef=a.tmps.getD s undef
theorem qiy (o:Oper) (a:Act) (v:Value):qu4 o a (a.put o.dst v):=by
 unfold qu4 Act.put
 cases hd:o.dst with
 |none=>exact ⟨rfl,fun _ _=>rfl⟩
 |some d=>exact ⟨rfl,fun s hs=>qcz _ _ fun e=>hs (by rw [e])⟩
def qes (C:Ctx) (o:Oper) (a:Act) (w:World) (τ:St):Prop:=
 ∀(K:Act→World→Prop) (Q:Exit→Act→World→Prop),(∀a' w' own',qu4 o a a'→qas C τ a'.tmps w' own'→K a' w')→o.wp C.P a w K Q
theorem qU {v:Value} {τ:St} (hr:(execOp a.eval o).run C.P w= .ok (.value v) w') (h:∃own',qas C τ (a.put o.dst v).tmps w' own'):qes C o a w τ:=by
 intro K Q hK
 obtain ⟨own',h⟩:=h
 unfold Oper.wp
 rw [hr]
 exact hK _ _ own' (qiy o a v) h
theorem qas.dst (h:qas C σ a.tmps w own) (hk:qcQ (fun _=>False) w w') {av:AV} {v:Value} {bs:List Nat} (hd:∀u∈qcl o av,u.s<σ.length) (hb:∀b∈bs,w.heap.size≤b∧b<w'.heap.size) (hn:bs.Nodup)
  (hr:qaO (after C σ a.tmps w w' own bs) av v bs) (hw:∀m∈av.mentions,m.2≤(qA σ m.1).1):∃own',qas C (qv σ (qcl o av)) (a.put o.dst v).tmps w' own':=by
 unfold qcl at *
 cases hdst:o.dst with
 |none=>exact ⟨own,h.world hk⟩
 |some d=>
  rw [hdst] at hd
  exact ⟨_,h.set (d:=d) hk (hd ⟨d,true,av⟩ (by simp)) hb hn hr hw⟩
theorem qas.dst0 (h:qas C σ a.tmps w own) {av:AV} {v:Value} (hd:∀u∈qcl o av,u.s<σ.length) (hr:qaO (sit C σ a.tmps w own) av v []) (hw:∀m∈av.mentions,m.2≤(qA σ m.1).1):
  ∃own',qas C (qv σ (qcl o av)) (a.put o.dst v).tmps w own':=
 h.dst (qcQ.refl _ _) hd (fun b hb=>by cases hb) List.nodup_nil
  (qaO.keep (X:=sit C σ a.tmps w own) (X':=after C σ a.tmps w w own []) ⟨rfl,rfl⟩ (fun b hb hlt=>⟨⟨.inl hb,hlt,by simp⟩,hlt,rfl⟩) (fun b hb=>by cases hb) (fun m _ hv=>⟨hv,rfl,fun b hb _=>⟨hb,rfl⟩⟩) hr) hw
theorem qbg (h:qas C σ a.tmps w own) {t:Ty} {x:t.den} {v:Value} (hr:(execOp a.eval o).run C.P w= .ok (.value v) w) (hd:∀u∈qcl o (.val t x),u.s<σ.length) (hv:qaN w (C.free w own) t x v):qes C o a w (qv σ (qcl o (.val t x))):=
 qU hr (h.dst0 hd ⟨rfl,hv⟩ (fun m hm=>by cases hm))
theorem qjj (p:qh5):(a:AV)→∀m∈(qce p a).mentions,m∈a.mentions
 | .grd s v w a,m,hm=>by
  unfold qce at hm
  split at hm
  ·exact List.mem_cons_of_mem _ (qjj p a m hm)
  ·cases hm
 | .undef,_,h=>by unfold qce at h; exact h
 | .val _ _,_,h=>by unfold qce at h; exact h
 | .own _ _ _,_,h=>by unfold qce at h; exact h
 | .agg _,_,h=>by unfold qce at h; exact h
 | .box _,_,h=>by unfold qce at h; exact h
 | .ref _ _,_,h=>by unfold qce at h; exact h
 | .bref _ _ _ _,_,h=>by unfold qce at h; exact h
 | .pbox _ _ _,_,h=>by unfold qce at h; exact h
 | .pip _ _,_,h=>by unfold qce at h; exact h
 | .prow _ _ _ _ _ _,_,h=>by unfold qce at h; exact h
 | .osl _ _ _ _ _ _,_,h=>by unfold qce at h; exact h
 | .view _ _ _,_,h=>by unfold qce at h; exact h
 | .tup _,_,h=>by unfold qce at h; exact h
 | .fn _ _,_,h=>by unfold qce at h; exact h
 | .fnv _ _ _,_,h=>by unfold qce at h; exact h
 | .amb _ _,_,h=>by unfold qce at h; exact h
 | .nilr _ _,_,h=>by unfold qce at h; exact h
 | .nz _ _,_,h=>by unfold qce at h; exact h
 | .mp _ _ _,_,h=>by unfold qce at h; exact h
 | .parr _ _ _ _ _ _ _,_,h=>by unfold qce at h; exact h
theorem qlI {E:Env} {tid:Nat} {c:Value} {a:AV} (h:qm9 E tid c=some a):a.mentions=[]:=by
 unfold qm9 at h
 split at h
 ·split at h
  ·injection h with h; subst h; rfl
  ·cases h
 ·injection h with h; subst h; rfl
 ·split at h
  ·injection h with h; subst h; rfl
  ·cases h
 ·split at h
  ·split at h <;> (injection h with h; subst h; rfl)
  ·cases h
 ·split at h
  ·injection h with h; subst h; rfl
  ·cases h
 ·split at h
  ·injection h with h; subst h; rfl
  ·cases h
 ·split at h
  ·split at h
   ·split at h
    ·injection h with h; subst h; rfl
    ·cases h
   ·cases h
  ·cases h
 ·cases h
theorem qrV (h:qas C σ tm w own) {p:qh5} {tid:Nat} {x:Operand} {o1:Op1} (ho:(opd E p tid x).run (qA σ)=some o1):∀m∈o1.a.mentions,m.2≤(qA σ m.1).1:=by
 intro m hm
 unfold opd at ho
 split at ho
 ·rw [Q.run_get] at ho
  have:=Q.ret_some ho
  subst this
  exact h.wf _ m (qjj p _ m hm)
 ·split at ho
  ·rename_i hc
   have:=Q.ret_some ho
   subst this
   have hm:m∈_:=hm
   rw [qlI hc] at hm
   cases hm
  ·cases ho
 ·have:=Q.ret_some ho
  subst this
  cases hm
 ·split at ho
  ·have:=Q.ret_some ho
   subst this
   cases hm
  ·cases ho
theorem qaO.unowned {X:Sit} {a:AV} {v:Value} {bs:List Nat} (hu:a.unowned=true) (h:qaO X a v bs):qaO X a v []:=by
 cases a with
 |undef=>trivial
 |val t x=>exact ⟨rfl,h.2⟩
 |own et e xs=>cases hu
 |agg c=>cases hu
 |box c=>cases hu
 |tup c=>cases hu
 |ref a b=>exact ⟨rfl,h.2⟩
 |bref a b c d=>exact ⟨rfl,h.2⟩
 |pbox a b c=>exact ⟨rfl,h.2⟩
 |pip a b=>exact ⟨rfl,h.2⟩
 |prow a b c d e f=>exact ⟨rfl,h.2⟩
 |osl a b c d e f=>exact ⟨rfl,h.2⟩
 |view a b c=>exact ⟨rfl,h.2⟩
 |grd a b c d=>exact ⟨rfl,h.2⟩
 |fn a b=>exact ⟨rfl,h.2⟩
 |fnv a b c=>exact ⟨rfl,h.2⟩
 |amb a b=>exact ⟨rfl,h.2⟩
 |nilr a b=>exact ⟨rfl,h.2⟩
 |nz a b=>exact ⟨rfl,h.2⟩
 |mp a b c=>cases hu
 |parr a b c d e f g=>exact ⟨rfl,h.2⟩
theorem qcD.unowned {X:Sit} {o1:Op1} {v:Value} (h:qcD X o1 v) (hu:o1.a.unowned=true):qaO X o1.a v []:=by
 unfold qcD at h
 split at h
 ·exact h.2.2.unowned hu
 ·exact h
theorem qas.transfer (h:qas C σ tm w own) {s d:Nat} (hs:s<σ.length) (hd:d<σ.length) (hne:s≠d) {av av':AV} (hav:qaO (sit C σ tm w own) av (tm.getD s undef) (own s)) (hm:av.mentions=[])
  (hav':∀X:Sit,X.ver d=(qA σ d).1+1→X.tm d=tm.getD s undef→qaO X av' (tm.getD s undef) []) (hm':∀m∈av'.mentions,m=(d,(qA σ d).1+1)):
  ∃own',qas C (qv σ [⟨d,true,av⟩,⟨s,true,av'⟩]) (tm.setIfInBounds d (tm.getD s undef)) w own':=by
 have eD:qA (qv σ [⟨d,true,av⟩,⟨s,true,av'⟩]) d=((qA σ d).1+1,av):=by
  show qA (qX (qX σ ⟨d,true,av⟩) ⟨s,true,av'⟩) d=_
  rw [qz _ _ (Ne.symm hne),qT σ ⟨d,true,av⟩ hd]
  rfl
 have eS:qA (qv σ [⟨d,true,av⟩,⟨s,true,av'⟩]) s=((qA σ s).1+1,av'):=by
  show qA (qX (qX σ ⟨d,true,av⟩) ⟨s,true,av'⟩) s=_
  rw [qT (qX σ ⟨d,true,av⟩) ⟨s,true,av'⟩ (by rw [qao]; exact hs),qz _ _ hne]
  rfl
 have eO:∀x,x≠s→x≠d→qA (qv σ [⟨d,true,av⟩,⟨s,true,av'⟩]) x=qA σ x:=fun x h1 h2=>by
  show qA (qX (qX σ ⟨d,true,av⟩) ⟨s,true,av'⟩) x=_
  rw [qz _ _ h1,qz _ _ h2]
 have tD:(tm.setIfInBounds d (tm.getD s undef)).getD d undef=tm.getD s undef:=qev tm _ (by rw [h.size]; exact hd)
 have tS:(tm.setIfInBounds d (tm.getD s undef)).getD s undef=tm.getD s undef:=qcz tm _ hne
 let own':Nat→List Nat:=fun x=>if x=d then own s else if x=s then [] else own x
 have oD:own' d=own s:=by simp [own']
 have oS:own' s=[]:=by simp [own',hne]
 refine ⟨own',h.update (fun x=>x=s∨x=d) (qS _ _) (by simp) ?_ ?_ (qcQ.refl _ _) ?_ ?_ ?_ ?_ ?_⟩
 ·intro x hx
  have h1:x≠s:=fun e=>hx (.inl e)
  have h2:x≠d:=fun e=>hx (.inr e)
  exact ⟨eO x h1 h2,qcz tm _ h2,by simp [own',h1,h2]⟩
 ·rintro x (rfl|rfl)
  ·rw [eS]; exact .inl (Nat.lt_succ_self _)
  ·rw [eD]; exact .inl (Nat.lt_succ_self _)
 ·rintro x (rfl|rfl) <;> assumption
 ·rintro x (rfl|rfl)
  ·rw [oS]; exact ⟨fun b hb=>(by cases hb),List.nodup_nil⟩
  ·rw [oD]; exact ⟨fun b hb=> .inr ⟨s,.inl rfl,hb⟩,h.nodup s⟩
 ·rintro x y b (rfl|rfl) (rfl|rfl) hb hb'
  ·rfl
  ·rw [oS] at hb; cases hb
  ·rw [oS] at hb'; cases hb'
  ·rfl
 ·have hfree:∀b,C.free w own b→C.free w own' b:=fun b hb=>⟨hb.1,hb.2.1,fun x hx=>by
   simp only [own'] at hx
   split at hx
   ·exact hb.2.2 s hx
   ·split at hx
    ·cases hx
    ·exact hb.2.2 x hx⟩
  rintro x (rfl|rfl)
  ·rw [eS,tS,oS]
   exact hav' _ (by show (qA _ d).1=_; rw [eD]) tD
  ·rw [eD,tD,oD]
   refine qaO.keep (X:=sit C σ tm w own) (X':=sit C _ _ w own') ⟨rfl,rfl⟩ (fun b hb hlt=>⟨hfree b hb,hlt,rfl⟩) (fun _ _ _=>rfl) (fun m hmm=>by rw [hm] at hmm; cases hmm) hav
 ·rintro x (rfl|rfl) m hmm
  ·rw [eS] at hmm
   rw [hm' m hmm,eD]
   exact Nat.le_refl _
  ·rw [eD,hm] at hmm
   cases hmm
end
end Go.Vi
namespace Go.Vi
open Go.RowKit
def tyB (P:Program) (u:Ty) (t:Nat):Bool:=(match P.info? t with
 |some i=>decide (i.size=u.size)
 |none=>false)&&(match P.underlying t with
 |some d=>decide ((match d with| .struct _=>true| .array _ _=>true|_=>false)=u.agg)
 |none=>false)
theorem qwp {P:Program} {u:Ty} {t:Nat} (h:tyB P u t=true):TyB P t u:=by
 unfold tyB at h
 simp only [Bool.and_eq_true] at h
 obtain ⟨h1,h2⟩:=h
 split at h1
 ·rename_i i hi
  split at h2
  ·rename_i d hd
   exact ⟨⟨i,hi,of_decide_eq_true h1⟩,d,hd,of_decide_eq_true h2⟩
  ·cases h2
 ·cases h1
theorem TyB.part_ok {P:Program} {w:World} {t:Nat} {u:Ty} (h:TyB P t u) {cs:List Value} {off:Nat} (hl:off+u.size≤cs.length):(part t cs.toArray off).run P w= .ok (mkV u ((cs.drop off).take u.size)) w:=by
 simp only [part,Sem.run_bind,h.run_isAgg,Result.andThen_ok]
 cases hu:u.agg with
 |true=>
  simp only [if_true,Sem.run_bind,h.run_sizeOf,Result.andThen_ok,Sem.run_pure,mkV,hu]
  congr 2
  apply Array.ext'
  simp [List.extract_eq_take_drop]
 |false=>
  have hs:u.size=1:=by cases u <;> simp [Ty.agg] at hu <;> rfl
  have hlt:off<cs.length:=by omega
  simp only [Bool.false_eq_true,if_false,mkV,hu,hs]
  rw [show cs.toArray[off]? =some cs[off] from by simp [hlt],List.drop_eq_getElem_cons hlt]
  simp only [Sem.run_pure]
  rfl
def qvd (P:Program) (a:Nat→Bool) (ta:Ty) (b:List Field→Nat→Bool):List Field→Nat→Bool
 |f::r,off=>decide (f.offset=off)&&(decide (f.name≠ "_")&&(tyB P ta f.type&&(a f.type&&b r (off+ta.size))))
 |[],_=>false
def qjS (P:Program):Ty→(Nat→Bool)×(List Field→Nat→Bool)
 | .int k=>(fun t=>match P.underlying t with
  |some (.int k')=>decide (k'=k)
  |_=>false,fun _ _=>false)
 | .bool=>(fun t=>match P.underlying t with
  |some .bool=>true
  |_=>false,fun _ _=>false)
 | .str=>(fun t=>match P.underlying t with
  |some .string=>true
  |_=>false,fun _ _=>false)
 | .err=>(fun _=>false,fun _ _=>false)
 | .opt _=>(fun _=>false,fun _ _=>false)
 | .map _ _=>(fun _=>false,fun _ _=>false)
 | .unit=>(fun t=>match P.underlying t with
  |some (.struct fs)=>fs.toList.isEmpty&& !(P.stoodInHeld t)
  |_=>false,fun fs _=>fs.isEmpty)
 | .pair a b=>(fun t=>match P.underlying t with
  |some (.struct fs)=>qvd P (qjS P a).1 a (qjS P b).2 fs.toList 0&& !(P.stoodInHeld t)
  |_=>false,qvd P (qjS P a).1 a (qjS P b).2)
 | .slice _=>(fun _=>false,fun _ _=>false)
 | .arr _ _=>(fun _=>false,fun _ _=>false)
def Ty.height:Ty→Nat
 | .pair a b=>a.height+b.height+1
 |_=>1
theorem qvJ (a b:Ty) (x y:(Ty.pair a b).den):(Ty.pair a b).eqb x y=(a.eqb x.1 y.1&&b.eqb x.2 y.2):=by
 cases b <;> simp [Ty.eqb]
theorem qmu {P:Program} {t:Nat} {fs:Array Field} (h:P.underlying t=some (.struct fs)):P.fieldsOf t=fs:=by simp [Program.fieldsOf,h]
theorem qot {P:Program} {w:World} {F F':Nat→Prop} :(u:Ty)→
  (∀(d t:Nat) (x y:u.den) (cs ds:List Value),u.height<d→(qjS P u).1 t=true→Rep w F u x cs→Rep w F' u y ds→(Op.equalIn d t (mkV u cs) (mkV u ds)).run P w= .ok (u.eqb x y) w)∧
  (∀(d:Nat) (fs:List Field) (off:Nat) (x y:u.den) (cs ds:List Value),u.height≤d→(qjS P u).2 fs off=true→cs.length=off+u.size→ds.length=off+u.size→Rep w F u x (cs.drop off)→Rep w F' u y (ds.drop off)→(Op.eqFields d cs.toArray ds.toArray fs).run P w= .ok (u.eqb x y) w)
 | .int k=>by
  refine ⟨fun d t x y cs ds hd h h1 h2=> ?_,fun d fs off x y cs ds _ h=>by cases h⟩
  simp only [qjS] at h
  split at h
  ·rename_i k' hu
   obtain ⟨rfl,_⟩:=h1
   obtain ⟨rfl,_⟩:=h2
   cases d with
   |zero=>omega
   |succ d=>
    rw [show (Ty.int k).eqb x y=(x == y) from qmB x y]
    exact run_equalIn_int w d t k k' x y hu
  ·cases h
 | .bool=>by
  refine ⟨fun d t x y cs ds hd h h1 h2=> ?_,fun d fs off x y cs ds _ h=>by cases h⟩
  simp only [qjS] at h
  split at h
  ·rename_i hu
   have h1:cs=_:=h1
   have h2:ds=_:=h2
   subst h1; subst h2
   cases d with
   |zero=>omega
   |succ d=>
    rw [show Ty.bool.eqb x y=(x == y) from qqC x y]
    exact run_equalIn_bool' w d t x y hu
  ·cases h
 | .err=>⟨fun d t x y cs ds hd h h1 h2=>(by cases h),fun d fs off x y cs ds _ h=>by cases h⟩
 | .opt _=>⟨fun d t x y cs ds hd h h1 h2=>(by cases h),fun d fs off x y cs ds _ h=>by cases h⟩
 | .map _ _=>⟨fun d t x y cs ds hd h h1 h2=>(by cases h),fun d fs off x y cs ds _ h=>by cases h⟩
 | .str=>by
  refine ⟨fun d t x y cs ds hd h h1 h2=> ?_,fun d fs off x y cs ds _ h=>by cases h⟩
  simp only [qjS] at h
  split at h
  ·rename_i hu
   obtain ⟨rfl,_⟩:=h1
   obtain ⟨rfl,_⟩:=h2
   cases d with
   |zero=>omega
   |succ d=>
    have:=run_equalIn_string w d t ⟨x.toArray⟩ ⟨y.toArray⟩ hu
    rw [ByteArray.toList_eq,ByteArray.toList_eq] at this
    rw [show Ty.str.eqb x y=(x == y) from qqx x y]
    exact this
  ·cases h
 | .unit=>by
  refine ⟨fun d t x y cs ds hd h h1 h2=> ?_,fun d fs off x y cs ds _ h _ _ _ _=> ?_⟩
  ·simp only [qjS] at h
   split at h
   ·rename_i fs hu
    simp only [Bool.and_eq_true,Bool.not_eq_true'] at h
    cases d with
    |zero=>omega
    |succ d=>
     have hf:=qmu hu
     show (Op.equalIn (d+1) t (.agg cs.toArray) (.agg ds.toArray)).run P w=_
     rw [run_equalIn_struct w d t _ _ (by rw [hf]; exact hu) h.2,hf]
     have:fs.toList=[]:=by simpa using h.1
     rw [this]
     rfl
   ·cases h
  ·have:fs=[]:=by simpa [qjS] using h
   subst this
   rfl
 | .pair a b=>by
  obtain ⟨ha,_⟩:=qot (P:=P) (w:=w) (F:=F) (F':=F') a
  obtain ⟨_,hb⟩:=qot (P:=P) (w:=w) (F:=F) (F':=F') b
  have fld:∀(d:Nat) (fs:List Field) (off:Nat) (x y:(Ty.pair a b).den) (cs ds:List Value),(Ty.pair a b).height≤d→qvd P (qjS P a).1 a (qjS P b).2 fs off=true→cs.length=off+(a.size+b.size)→ds.length=off+(a.size+b.size)→Rep w F (.pair a b) x (cs.drop off)→Rep w F' (.pair a b) y (ds.drop off)→(Op.eqFields d cs.toArray ds.toArray fs).run P w= .ok ((Ty.pair a b).eqb x y) w:=by
   intro d fs off x y cs ds hd h hcl hdl h1 h2
   cases fs with
   |nil=>cases h
   |cons f r=>
    simp only [qvd,Bool.and_eq_true,decide_eq_true_eq] at h
    obtain ⟨g1,g2,g3,g4,g5⟩:=h
    obtain ⟨c1,c2,e1,r1,r2⟩:=h1
    obtain ⟨d1,d2,e2,q1,q2⟩:=h2
    have hl1:=r1.length
    have hl2:=q1.length
    have hh:a.height+b.height+1≤d:=hd
    have t1:(cs.drop off).take a.size=c1:=by rw [e1,List.take_left' hl1]
    have t2:(ds.drop off).take a.size=d1:=by rw [e2,List.take_left' hl2]
    have t3:cs.drop (off+a.size)=c2:=by rw [←List.drop_drop,e1,List.drop_left' hl1]
    have t4:ds.drop (off+a.size)=d2:=by rw [←List.drop_drop,e2,List.drop_left' hl2]
    have p1:=(qwp g3).part_ok (w:=w) (cs:=cs) (off:=off) (by omega)
    have p2:=(qwp g3).part_ok (w:=w) (cs:=ds) (off:=off) (by omega)
    rw [t1] at p1
    rw [t2] at p2
    have hea:=ha d f.type x.1 y.1 c1 d1 (by omega) g4 r1 q1
    have heb:=hb d r (off+a.size) x.2 y.2 cs ds (by omega) g5 (by omega) (by omega) (by rw [t3]; exact r2) (by rw [t4]; exact q2)
    rw [qvJ]
    simp only [Op.eqFields,g1,if_pos g2,Sem.run_bind,p1,p2,hea,Result.andThen_ok,Sem.run_ite]
    cases hx:a.eqb x.1 y.1 with
    |true=>simpa using heb
    |false=>simp
  refine ⟨fun d t x y cs ds hd h h1 h2=> ?_,fld⟩
  simp only [qjS] at h
  split at h
  ·rename_i fs hu
   simp only [Bool.and_eq_true,Bool.not_eq_true'] at h
   cases d with
   |zero=>omega
   |succ d=>
    have hf:=qmu hu
    show (Op.equalIn (d+1) t (.agg cs.toArray) (.agg ds.toArray)).run P w=_
    rw [run_equalIn_struct w d t _ _ (by rw [hf]; exact hu) h.2,hf]
    have l1:=h1.length
    have l2:=h2.length
    exact fld d fs.toList 0 x y cs ds (by omega) h.1 (by rw [l1]; simp [Ty.size]) (by rw [l2]; simp [Ty.size]) h1 h2
  ·cases h
 | .slice _=>⟨fun _ _ _ _ _ _ _ h=>(by cases h),fun _ _ _ _ _ _ _ _ h=>(by cases h)⟩
 | .arr _ _=>⟨fun _ _ _ _ _ _ _ h=>(by cases h),fun _ _ _ _ _ _ _ _ h=>(by cases h)⟩
structure EqB (P:Program) (t:Nat) (u:Ty):Prop where
 run:∀(w:World) (F F':Nat→Prop) (x y:u.den) (cs ds:List Value),Rep w F u x cs→Rep w F' u y ds→(Op.equalIn 10000 t (mkV u cs) (mkV u ds)).run P w= .ok (u.eqb x y) w
 guard:P.eqGuardType P.depth t=false
def qw7 (P:Program) (u:Ty) (t:Nat):Bool:=(qjS P u).1 t&&(decide (u.height<10000)&& !(P.eqGuardType P.depth t))
theorem qvc {P:Program} {u:Ty} {t:Nat} (h:qw7 P u t=true):EqB P t u:=by
 simp only [qw7,Bool.and_eq_true,decide_eq_true_eq,Bool.not_eq_true'] at h
 exact ⟨fun w F F' x y cs ds h1 h2=>(qot u).1 10000 t x y cs ds h.2.1 h.1 h1 h2,h.2.2⟩
end Go.Vi
namespace Go.Vi
open Go.RowKit
section
variable {C:Ctx} {E:Env} {σ:St} {a:Act} {w w':World} {own:Nat→List Nat} {o:Oper} [Tabbed E C]
theorem qV {us:List U} {f:Eff} {lk:Nat→Ent} (h:(okE us).run lk=some f):f=⟨us,[]⟩:=(Q.ret_some h).symm
theorem qjt (a:Act) {d:Nat} (h:o.dst=some d) (v:Value):(a.put o.dst v).tmps=a.tmps.setIfInBounds d v:=by rw [h]; rfl
theorem qrM (h:qas C σ a.tmps w own) {x1:Op1} {v:Value} (ho:qcD (sit C σ a.tmps w own) x1 v) (hw:∀m∈x1.a.mentions,m.2≤(qA σ m.1).1) (hs:∀s,x1.s=some s→x1.a≠ .undef→s<σ.length) {as:Bool} {f:Eff} (hpt:quV (sit C σ a.tmps w own)) (hpn:∀k∈E.pins,∃b,C.pn k=some b)
  (he:(qsq E.pins o as x1).run (qA σ)=some f) (hd:∀u∈f.upd,u.s<σ.length) (hr:(execOp a.eval o).run C.P w= .ok (.value v) w):qes C o a w (qv σ f.upd):=by
 obtain ⟨os,ov,oa⟩:=x1
 have trans:∀(s d:Nat) (av av':AV),os=some s→oa=av→o.dst=some d→s≠d→f.upd=[⟨d,true,av⟩,⟨s,true,av'⟩]→av.mentions=[]→
   (∀X:Sit,X.ver d=(qA σ d).1+1→X.tm d=a.tmps.getD s undef→qaO X av' (a.tmps.getD s undef) [])→(∀m∈av'.mentions,m=(d,(qA σ d).1+1))→qes C o a w (qv σ f.upd):=by
  intro s d av av' h1 h2 h3 h4 h5 h6 h7 h8
  subst h1; subst h2
  obtain ⟨e1,e2,e3⟩:=ho
  rw [h5] at hd⊢
  refine qU hr ?_
  rw [qjt a h3,e1]
  exact h.transfer (hd ⟨s,true,av'⟩ (by simp)) (hd ⟨d,true,oa⟩ (by simp)) h4 (by have e4:=e3; rw [e1] at e4; exact e4) h6 h7 h8
 unfold qsq at he
 split at he
 ·rename_i s et e xs h1 h2
  simp only at h1 h2
  subst h1; subst h2
  split at he
  ·split at he
   ·rename_i d hdst
    split at he
    ·cases he
    ·rename_i hne
     rw [Q.run_get] at he
     have:=qV he
     subst this
     exact trans s d _ _ rfl rfl hdst hne rfl rfl (fun X h1 h2=>⟨rfl,fun _=>h2⟩) (fun m hm=>by simpa [AV.mentions] using hm)
   ·cases he
  ·have:=qV he
   subst this
   obtain ⟨e1,e2,e3⟩:=ho
   refine qU hr (h.dst0 hd ⟨rfl,fun _=>e1.symm⟩ (fun m hm=> ?_))
   simp [AV.mentions] at hm
   subst hm
   exact Nat.le_of_eq e2
 ·rename_i s et e xs h1 h2
  simp only at h1 h2
  subst h1; subst h2
  split at he
  ·split at he
   ·rename_i d hdst
    split at he
    ·cases he
    ·rename_i hne
     rw [Q.run_get] at he
     have:=qV he
     subst this
     exact trans s d _ _ rfl rfl hdst hne rfl rfl (fun X h1 h2=>⟨rfl,fun _=>h2⟩) (fun m hm=>by simpa [AV.mentions] using hm)
   ·cases he
  ·have:=qV he
   subst this
   obtain ⟨e1,e2,e3⟩:=ho
   refine qU hr (h.dst0 hd ⟨rfl,fun _=>e1.symm⟩ (fun m hm=> ?_))
   simp [AV.mentions] at hm
   subst hm
   exact Nat.le_of_eq e2
 ·rename_i s c h1 h2
  simp only at h1 h2
  subst h1; subst h2
  have hbox:∃b,v=ptr b 0:=by
   obtain ⟨_,_,b,_,_,_,e,_⟩:=ho
   exact ⟨b,e⟩
  split at he
  ·rename_i hpin
   have:=qV he
   subst this
   obtain ⟨b,hb⟩:=hpn s (by simpa using hpin)
   have h1:=hpt s b hb
   obtain ⟨e1,_,_⟩:=ho
   exact qU hr (h.dst0 hd ⟨rfl,b,hb,by rw [e1]; exact h1⟩ (fun m hm=>by cases hm))
  split at he
  ·split at he
   ·rename_i d hdst
    split at he
    ·cases he
    ·rename_i hne
     rw [Q.run_get] at he
     have:=qV he
     subst this
     obtain ⟨b,hb⟩:=hbox
     have hv:a.tmps.getD s undef=ptr b 0:=by rw [←hb]; exact ho.1.symm
     exact trans s d _ _ rfl rfl hdst hne rfl rfl (fun X h1 h2=>⟨rfl,fun _=>⟨b,by rw [h2,hv],hv⟩⟩) (fun m hm=>by simpa [AV.mentions] using hm)
   ·cases he
  ·have:=qV he
   subst this
   obtain ⟨e1,e2,e3⟩:=ho
   obtain ⟨b,hb⟩:=hbox
   refine qU hr (h.dst0 hd ⟨rfl,fun _=>⟨b,by rw [←e1,hb],hb⟩⟩ (fun m hm=> ?_))
   simp [AV.mentions] at hm
   subst hm
   exact Nat.le_of_eq e2
 ·rename_i s c h1 h2
  simp only at h1 h2
  subst h1; subst h2
  split at he
  ·rename_i d hdst
   split at he
   ·cases he
   ·rename_i hne
    have:=qV he
    subst this
    exact trans s d _ _ rfl rfl hdst hne rfl rfl (fun X h1 h2=>trivial) (fun m hm=>by cases hm)
  ·cases he
 ·rename_i s c h1 h2
  simp only at h1 h2
  subst h1; subst h2
  split at he
  ·rename_i d hdst
   split at he
   ·cases he
   ·rename_i hne
    have:=qV he
    subst this
    exact trans s d _ _ rfl rfl hdst hne rfl rfl (fun X h1 h2=>trivial) (fun m hm=>by cases hm)
  ·cases he
 ·rename_i et e xs h1 h2
  simp only at h1 h2
  subst h1; subst h2
  have:=qV he
  subst this
  exact qU hr (h.dst0 hd ho (fun m hm=>by cases hm))
 ·rename_i s v0 h2
  simp only at h2
  subst h2
  split at he
  ·rename_i hcond
   simp only [Bool.and_eq_true,beq_iff_eq] at hcond
   rw [Q.run_get] at he
   split at he
   ·rename_i hv
    have:=qV he
    subst this
    have hu:a.tmps.getD s undef=v:=(ho.unowned rfl).2 hv
    refine qU hr ⟨own,?_⟩
    have e:(a.put o.dst v).tmps=a.tmps:=by
     rw [qjt a hcond.2,←hu]
     apply Array.ext'
     rw [Array.toList_setIfInBounds]
     by_cases hl:s<a.tmps.size
     ·rw [Array.getD_eq_getD_getElem?,Array.getElem?_eq_getElem hl,Option.getD_some]
      exact List.set_getElem_self (by simpa using hl)
     ·exact List.set_eq_of_length_le (by simpa using Nat.le_of_not_lt hl)
    show qas C σ _ w own
    rw [e]
    exact h
   ·cases he
  ·have:=qV he
   subst this
   exact qU hr (h.dst0 hd (ho.unowned rfl) hw)
 ·split at he
  ·rename_i hu
   have:=qV he
   subst this
   exact qU hr (h.dst0 hd (ho.unowned hu) hw)
  ·cases he
theorem qfI (h:qas C σ a.tmps w own) (hpt:quV (sit C σ a.tmps w own)) {x1:Op1} {v:Value} (ho:qcD (sit C σ a.tmps w own) x1 v) {s off:Nat} {v0:Option Nat} (hb:qhi x1=some (s,v0,off)) (hv:vOk (qA σ s).1 v0=true):∃b,a.tmps.getD s undef=ptr b 0∧v=ptr b off∧(v0=none→C.pn s=some b):=by
 obtain ⟨os,ov,oa⟩:=x1
 unfold qhi at hb
 split at hb
 ·rename_i s' c h1 h2
  simp only at h1 h2
  subst h1; subst h2
  injection hb with hb
  injection hb with h3 h4
  injection h4 with h4 h5
  subst h3; subst h5
  obtain ⟨e1,_,b,_,_,_,e2,_⟩:=ho
  exact ⟨b,by rw [←e2]; exact e1.symm,e2,fun h=>by rw [←h4] at h; cases h⟩
 ·rename_i s' v' off' h2
  simp only at h2
  subst h2
  injection hb with hb
  injection hb with h3 h4
  injection h4 with h4 h5
  subst h3; subst h4; subst h5
  obtain ⟨b,k1,k2⟩:=(ho.unowned rfl).2 (of_decide_eq_true hv)
  exact ⟨b,k1,k2,fun h=>by cases h⟩
 ·rename_i k' off' h2
  simp only at h2
  subst h2
  injection hb with hb
  injection hb with h3 h4
  injection h4 with h4 h5
  subst h3; subst h4; subst h5
  obtain ⟨_,b,k1,k2⟩:=ho.unowned rfl
  exact ⟨b,hpt _ b k1,k2,fun _=>k1⟩
 ·cases hb
theorem qrT {v0:Option Nat} {s off b:Nat} {v:Value} (h:qas C σ a.tmps w own) (hv:vOk (qA σ s).1 v0=true) (h1:a.tmps.getD s undef=ptr b 0) (h2:v=ptr b off) (h3:v0=none→C.pn s=some b):
  qaO (sit C σ a.tmps w own) (qs1 s off v0) v []∧∀m∈(qs1 s off v0).mentions,m.2≤(qA σ m.1).1:=by
 cases v0 with
 |some v0=>
  refine ⟨⟨rfl,fun _=>⟨b,h1,h2⟩⟩,fun m hm=> ?_⟩
  simp [qs1,AV.mentions] at hm
  subst hm
  exact Nat.le_of_eq (of_decide_eq_true hv).symm
 |none=>exact ⟨⟨rfl,b,h3 rfl,h2⟩,fun m hm=>by cases hm⟩
theorem qas.box (h:qas C σ a.tmps w own) {s:Nat} {c:BC} (hc:(qA σ s).2= .box c):∃(b:Nat) (cs:List Value) (bs':List Nat) (te:Nat),a.tmps.getD s undef=ptr b 0∧w.heap[b]? =some (.cells cs.toArray te (0,0))∧qa5 w (C.free w own) c cs bs'∧own s=b::bs':=by
 have:=h.at_ s
 rw [hc] at this
 exact this
theorem qfG {b b' off off':Nat} (h:ptr b off=ptr b' off'):b=b'∧off=off':=by
 simp [ptr] at h; exact h
theorem qia {b:Nat} {cs:List Value} {te:Nat} (h:w.heap[b]? =some (.cells cs.toArray te (0,0))) (j:Nat):w.cell? ⟨b,j,none⟩=cs[j]? :=by simp [World.cell?,h]
theorem qir {b off n:Nat} {cs:List Value} {te:Nat} (h:w.heap[b]? =some (.cells cs.toArray te (0,0))):qhf w ⟨b,off,none⟩ ((cs.drop off).take n):=by
 intro j u hj
 rw [qai,qia h]
 rw [List.getElem?_take] at hj
 split at hj
 ·rwa [List.getElem?_drop] at hj
 ·cases hj
def Lay (P:Program):List Field→Ty→Nat→Prop
 |[],.unit,_=>True
 |f::fs,.pair a b,off=>f.offset=off∧(∀w,(sizeOf f.type).run P w= .ok a.size w)∧Lay P fs b (off+a.size)
 |_,_,_=>False
def Ty.struct:Ty→Bool
 | .unit=>true
 | .pair _ _=>true
 |_=>false
def qk3:Ty→TypeDesc→Bool
 | .int k,.int k'=>decide (k'=k)
 | .bool,.bool=>true
 | .str,.string=>true
 |_,_=>false
structure qcc (E:Env) (P:Program):Prop where
 ty:∀t u,E.ty t=some u→TyB P t u
 elem:∀t e,E.ty t=some (.slice e)→ElemB P E t e
 dflt:∀t e,E.ty t=some (.slice e)→∃i z,P.info? (E.etid t)=some i∧i.zero=some z∧(e.agg=false→∀cs,z≠ .agg cs)∧∀w F,Rep w F e e.dflt z.cells.toList
 size:∀t e,(E.ty t=some (.slice e)∨∃n,E.ty t=some (.arr n e))→(sizeOf (E.etid t)).run P=fun w=> .ok e.size w
 arr:∀t n e,E.ty t=some (.arr n e)→P.underlying t=some (.array n (E.etid t))
 struct:∀t T,E.ty t=some T→T.struct=true→∃fs z i,P.underlying t=some (.struct fs)∧P.info? t=some i∧i.zero=some z∧(∀w F,Rep w F T T.dflt z.cells.toList)∧Lay P fs.toList T 0
 str:∀t,E.ty t=some .str→P.underlying t=some .string
 int:∀t k,E.ty t=some (.int k)→P.underlying t=some (.int k)
 bool:∀t,E.ty t=some .bool→P.underlying t=some .bool
 err:∀t,E.ty t=some .err→∃ms,P.underlying t=some (.interface ms)
 opt:∀t e,E.ty t=some (.opt e)→∃u,P.underlying t=some (.pointer u)
 map:∀t k v,E.ty t=some (.map k v)→∃kn vn d i z,P.underlying t=some (.map kn vn)∧P.underlying kn=some d∧qk3 k d=true∧P.info? vn=some i∧i.zero=some z∧∀w F,qaN w F v v.dflt z
 off:∀t f n,E.off t f=some n→∃fs fl,P.underlying t=some (.struct fs)∧fs[f]? =some fl∧fl.offset=n∧fl.type=E.fty t f∧∃i,P.info? fl.type=some i∧i.size≠0
 zero:∀t c,E.zero t=some c→∃i z,P.info? t=some i∧i.zero=some z∧∀w F,qa5 w F c z.cells.toList []
 eq:∀t u,E.eqok t=true→E.ty t=some u→EqB P t u
 mixed:P.follows .mixedOrders=true
theorem qcc.elem' {E:Env} {P:Program} (hE:qcc E P) {t:Nat} {e:Ty} (h:E.ty t=some (.slice e)):∃i z,P.underlying t=some (.slice (E.etid t))∧P.info? (E.etid t)=some i∧i.size=e.size∧i.zero=some z∧z.cells.size=e.size∧i.bytes=E.bytes (E.etid t)∧∀w F,Rep w F e e.dflt z.cells.toList:=by
 obtain ⟨i,z,h1,h2,h3,h4,h5⟩:=(hE.elem t e h).info
 obtain ⟨i',z',k1,k2,_,k3⟩:=hE.dflt t e h
 rw [h1] at k1
 injection k1 with k1
 subst k1
 rw [h3] at k2
 injection k2 with k2
 subst k2
 exact ⟨i,z,(hE.elem t e h).under,h1,h2,h3,h4,h5,k3⟩
theorem qas.row (h:qas C σ a.tmps w own) {s et g n cap:Nat} {e:Ty} {xs:List e.den} (hown:(qA σ s).2= .own et e xs) (hv:a.tmps.getD s undef= .slice (some ⟨g,0,none⟩) n cap):
  ∃cells,w.ownsRow 0 et e.size (.slice (some ⟨g,0,none⟩) n cap) n cells∧xs.length=n∧(∀j u,cells[j]? =some u→w.cell? ((⟨g,0,none⟩:Addr).add j)=some u)∧
   ∀(i:Nat) (x:e.den),xs[i]? =some x→Rep w (C.free w own) e x ((cells.drop (i * e.size)).take e.size):=by
 have hat:=h.at_ s
 rw [hown] at hat
 obtain ⟨cells,h1,h2,h3⟩:=hat
 rw [hv] at h1
 have hn:xs.length=n:=by
  rcases h1.2 with ⟨h4,_⟩|⟨g',cap',cur,h4,_⟩
  ·cases h4
  ·injection h4 with _ h5 _; exact h5.symm
 rw [hn] at h1
 exact ⟨cells,h1,hn,h1.cells rfl,h3⟩
theorem qa5.row {w:World} {F:Nat→Prop} {et:Nat} {e:Ty} {xs:List e.den} : {c:BC} → {cs:List Value} → {bs:List Nat} → {off:Nat} →qa5 w F c cs bs→c.row off=some (et,⟨e,xs⟩)→
  ∃v b1 b2 b3,cs[off]? =some v∧qak w F et e xs v b2∧bs=b1++(b2++b3)∧∀ {w':World} {F':Nat→Prop} (n c':BC) (b2':List Nat),(∀b,F b→b<w.heap.size→F' b∧b<w'.heap.size∧w'.heap[b]? =w.heap[b]?)→
   (∀b,b∈b1∨b∈b3→b<w.heap.size→w'.heap[b]? =w.heap[b]?)→c.swap off n=some c'→qa5 w' F' n [v] b2'→qa5 w' F' c' cs (b1++(b2'++b3))
 | .own et' e' xs',cs,bs,off,⟨v,h1,h2⟩,hr=>by
  simp only [BC.row] at hr
  split at hr
  ·rename_i h0
   subst h0
   injection hr with hr
   injection hr with e1 e2
   subst e1
   injection e2 with e2 e3
   subst e2
   have e3:=eq_of_heq e3
   subst e3
   subst h1
   refine ⟨v,[],bs,[],rfl,h2,by simp,fun n c' b2' _ _ hsw hn=> ?_⟩
   simp only [BC.swap,if_true] at hsw
   injection hsw with hsw
   subst hsw
   simpa using hn
  ·cases hr
 | .pair a b,cs,bs,off,⟨c1,c2,b1,b2,h1,h2,h3,h4⟩,hr=>by
  simp only [BC.row] at hr
  have hl:=h3.length
  split at hr
  ·rename_i hlt
   obtain ⟨v,p1,p2,p3,q1,q2,q3,q4⟩:=h3.row hr
   refine ⟨v,p1,p2,p3++b2,by rw [h1,List.getElem?_append_left (by omega)]; exact q1,q2,by rw [h2,q3]; simp,fun n c' b2' hF hB hsw hn=> ?_⟩
   simp only [BC.swap,if_pos hlt,Option.map_eq_some_iff] at hsw
   obtain ⟨z,z1,rfl⟩:=hsw
   exact ⟨c1,c2,p1++(b2'++p3),b2,h1,by simp,q4 n z b2' hF (fun x hx=>hB x (hx.imp id (fun hx=>List.mem_append_left _ hx))) z1 hn,h4.keep hF (fun x hx=>hB x (.inr (List.mem_append_right _ hx)))⟩
  ·rename_i hlt
   obtain ⟨v,p1,p2,p3,q1,q2,q3,q4⟩:=h4.row hr
   refine ⟨v,b1++p1,p2,p3,by rw [h1,List.getElem?_append_right (by omega),hl]; exact q1,q2,by rw [h2,q3]; simp,fun n c' b2' hF hB hsw hn=> ?_⟩
   simp only [BC.swap,if_neg hlt,Option.map_eq_some_iff] at hsw
   obtain ⟨z,z1,rfl⟩:=hsw
   exact ⟨c1,c2,b1,p1++(b2'++p3),h1,by simp,h3.keep hF (fun x hx=>hB x (.inl (List.mem_append_left _ hx))),q4 n z b2' hF (fun x hx=>hB x (hx.imp (fun hx=>List.mem_append_right _ hx) id)) z1 hn⟩
 | .val _ _,_,_,_,_,hr=>by cases hr
 | .hole _,_,_,_,_,hr=>by cases hr
theorem qas.rowAt {tm:Array Value} (h:qas C σ tm w own) {s:Nat} {fo:Option Nat} {et:Nat} {e:Ty} {xs:List e.den} {v:Value} (hr:(qA σ s).2.rowAt fo=some (et,⟨e,xs⟩)) (hv:qf1 (sit C σ tm w own) s fo v):
  s<σ.length∧∃b1 b2 b3,qak w (C.free w own) et e xs v b2∧own s=b1++(b2++b3)∧(∀b,tm.getD s undef=ptr b 0→b∉b2)∧
   ∀(W:World) (n:BC) (b2':List Nat) (a':AV),qcQ (fun k=>k∈b2) w W→qa5 W (C.free w own) n [v] b2'→(qA σ s).2.swapRow n fo=some a'→qaO { sit C σ tm w own with w:=W } a' (tm.getD s undef) (b1++(b2'++b3))∧a'.mentions=[]:=by
 have hat:=h.at_ s
 have hlt:s<σ.length:=by
  apply Classical.byContradiction
  intro hn
  have:qA σ s=(0,.undef):=by simp [qA,List.getD,List.getElem?_eq_none (Nat.le_of_not_lt hn)]
  rw [this] at hr
  cases hr
 refine ⟨hlt,?_⟩
 have hnd:=h.nodup s
 generalize hg:(qA σ s).2=g at hat hr⊢
 cases g with
 |own et' e' xs'=>
  cases fo with
  |some _=>cases hr
  |none=>
   simp only [AV.rowAt] at hr
   injection hr with hr
   injection hr with e1 e2
   subst e1
   injection e2 with e2 e3
   subst e2
   have e3:=eq_of_heq e3
   subst e3
   have hv:tm.getD s undef=v:=hv
   rw [hv] at hat⊢
   refine ⟨[],own s,[],hat,by simp,fun b hb=> ?_,fun W n b2' a' hk hn hsw=> ?_⟩
   ·obtain ⟨cells,g1,_,_⟩:=hat
    rcases g1.2 with ⟨g2,_⟩|⟨g',cap,cur,g2,_⟩ <;> (rw [g2] at hb; cases hb)
   ·cases n with
    |own et2 e2 xs2=>
     simp only [AV.swapRow] at hsw
     injection hsw with hsw
     subst hsw
     obtain ⟨v',hv',hn⟩:=hn
     injection hv' with hv'
     subst hv'
     refine ⟨?_,rfl⟩
     have e0:([]:List Nat)++(b2'++[])=b2':=by simp
     rw [e0]
     exact hn
    |hole k=>
     simp only [AV.swapRow] at hsw
     injection hsw with hsw
     subst hsw
     exact ⟨trivial,rfl⟩
    |_=>cases hsw
 |box c=>
  cases fo with
  |none=>cases hr
  |some off=>
   simp only [AV.rowAt] at hr
   obtain ⟨b,cs,bs',te,k1,k2,k3,k4⟩:=hat
   obtain ⟨v',p1,p2,p3,q1,q2,q3,q4⟩:=k3.row hr
   obtain ⟨b',_,m2,m3⟩:=hv
   have m2:tm.getD s undef=ptr b' 0:=m2
   rw [k1] at m2
   obtain ⟨rfl,_⟩:=qfG m2
   have hvv:v'=v:=by
    have:w.cell? ⟨b,off,none⟩=cs[off]? :=qia k2 off
    have m3:w.cell? ⟨b,off,none⟩=some v:=m3
    rw [this,q1] at m3
    injection m3
   subst hvv
   have hb2:b∉p2:=fun hb=>by
    rw [k4,q3] at hnd
    exact (List.nodup_cons.1 hnd).1 (List.mem_append_right _ (List.mem_append_left _ hb))
   refine ⟨b::p1,p2,p3,q2,by rw [k4,q3]; rfl,fun b0 hb0=> ?_,fun W n b2' a' hk hn hsw=> ?_⟩
   ·rw [k1] at hb0
    obtain ⟨rfl,_⟩:=qfG hb0
    exact hb2
   ·simp only [AV.swapRow,Option.map_eq_some_iff] at hsw
    obtain ⟨c',c1,rfl⟩:=hsw
    have hin:∀x,x∈p2→x∈own s:=fun x hx=>by rw [k4,q3]; exact List.mem_cons_of_mem _ (List.mem_append_right _ (List.mem_append_left _ hx))
    refine ⟨⟨b,cs,p1++(b2'++p3),te,k1,?_,q4 n c' b2' (fun x hx hlt=>⟨hx,Nat.lt_of_lt_of_le hlt hk.size,hk.block x hlt fun hx2=>hx.2.2 s (hin x hx2)⟩) (fun x hx hlt=>hk.block x hlt fun hx2=> ?_) c1 hn,rfl⟩,rfl⟩
    ·show W.heap[b]? =_
     rw [hk.block b (Array.getElem?_eq_some_iff.1 k2).1 hb2]
     exact k2
    ·rw [k4,q3] at hnd
     have hnd:=(List.nodup_cons.1 hnd).2
     rw [List.nodup_append] at hnd
     obtain ⟨_,n2,n3⟩:=hnd
     rcases hx with hx|hx
     ·exact n3 x hx x (List.mem_append_left _ hx2) rfl
     ·rw [List.nodup_append] at n2
      exact n2.2.2 x hx2 x hx rfl
 |_=>cases hr
theorem qjL {X:Sit} {s v0 off:Nat} {u:Ty} {v:Value} {bs:List Nat} (h:qaO X (.bref s v0 off u) v bs) (hag:u.agg=false) (hv:X.ver s=v0):qf1 X s (some off) v:=by
 obtain ⟨b,h1,h2,h3⟩:=h.2 hv
 refine ⟨b,h1,h2,?_⟩
 rcases h3 with ⟨h3,_⟩|⟨_,h3⟩
 ·rw [hag] at h3; cases h3
 ·exact h3
theorem qak.cells {w:World} {F:Nat→Prop} {et:Nat} {e:Ty} {xs:List e.den} {g n cap:Nat} {bs:List Nat} (h:qak w F et e xs (.slice (some ⟨g,0,none⟩) n cap) bs):
  ∃cells:List Value,cells.length=n * e.size∧xs.length=n∧(∀j x,cells[j]? =some x→w.cell? ((⟨g,0,none⟩:Addr).add j)=some x)∧
   ∀(i:Nat) (x:e.den),xs[i]? =some x→Rep w F e x ((cells.drop (i * e.size)).take e.size):=by
 obtain ⟨cells,h1,h2,h3⟩:=h
 have hn:xs.length=n:=by
  rcases h1.2 with ⟨h4,_⟩|⟨g',cap',cur,h4,_⟩
  ·cases h4
  ·injection h4 with _ h5 _; exact h5.symm
 rw [hn] at h1
 exact ⟨cells,h1.1,hn,h1.cells rfl,h3⟩
theorem Rep.elem {w:World} {F:Nat→Prop} {n:Nat} {e:Ty} {xs:List e.den} {cs:List Value} (h:Rep w F (.arr n e) xs cs) {i:Nat} (hi:i<n):
  ∃x,xs[i]? =some x∧Rep w F e x ((cs.drop (i * e.size)).take e.size)∧i * e.size+e.size≤cs.length:=by
 obtain ⟨hl,css,hcl,rfl,hx⟩:=h
 have h1:xs[i]? =some (xs[i]'(by omega)):=List.getElem?_eq_getElem (by omega)
 have h2:css[i]? =some (css[i]'(by omega)):=List.getElem?_eq_getElem (by omega)
 obtain ⟨g1,g2⟩:=qb5 (qlR (by omega) hx) h2
 exact ⟨_,h1,by rw [g1]; exact hx i _ _ h1 h2,g2⟩
theorem qq6 (hpt:quV (sit C σ a.tmps w own)) {s off n:Nat} {v0:Option Nat} {e:Ty} {i:Int} {o2:Nat} {v:Value} (ho:qaO (sit C σ a.tmps w own) (.parr s v0 off n e i o2) v []) (hv:vOk (qA σ s).1 v0=true):
  0≤i∧i<(n:Int)∧∃b,a.tmps.getD s undef=ptr b 0∧v=ptr b (off+i.toNat * e.size+o2)∧(v0=none→C.pn s=some b):=by
 obtain ⟨_,h1,h2,h3⟩:=ho
 refine ⟨h1,h2,?_⟩
 cases v0 with
 |some v0=>
  obtain ⟨b,k1,k2⟩:=h3 (of_decide_eq_true hv)
  exact ⟨b,k1,k2,fun h=>by cases h⟩
 |none=>
  obtain ⟨b,k1,k2⟩:=h3
  exact ⟨b,hpt _ b k1,k2,fun _=>k1⟩
theorem quk {s off n:Nat} {v0:Option Nat} {e:Ty} {i:Int} {o2 b:Nat} {v:Value} (hv:vOk (qA σ s).1 v0=true) (i0:0≤i) (i1:i<(n:Int)) (h1:a.tmps.getD s undef=ptr b 0) (h2:v=ptr b (off+i.toNat * e.size+o2)) (h3:v0=none→C.pn s=some b):
  qaO (sit C σ a.tmps w own) (.parr s v0 off n e i o2) v []∧∀m∈(AV.parr s v0 off n e i o2).mentions,m.2≤(qA σ m.1).1:=by
 cases v0 with
 |some v0=>
  refine ⟨⟨rfl,i0,i1,fun _=>⟨b,h1,h2⟩⟩,fun m hm=> ?_⟩
  simp [AV.mentions] at hm
  subst hm
  exact Nat.le_of_eq (of_decide_eq_true hv).symm
 |none=>exact ⟨⟨rfl,i0,i1,b,h3 rfl,h2⟩,fun m hm=>by cases hm⟩
theorem qwb (hE:qcc E C.P) (h:qas C σ a.tmps w own) (hpt:quV (sit C σ a.tmps w own)) {t:Nat} {x1:Op1} {p:Value} (ho:qcD (sit C σ a.tmps w own) x1 p) {f:Eff}
  (he:(qw3 E o t x1).run (qA σ)=some f) (hd:∀u∈f.upd,u.s<σ.length) (hx:(execOp a.eval o).run C.P w=((Instr.loadAt t p).run C.P w).andThen fun v w'=> .ok (.value v) w'):qes C o a w (qv σ f.upd):=by
 unfold qw3 at he
 split at he
 ·cases he
 rename_i u hu
 have hT:=hE.ty t u hu
 split at he
 ·rename_i s v0 off hb
  rw [Q.run_get] at he
  split at he
  ·rename_i hv
   split at he
   ·rename_i c hc
    obtain ⟨b,hp,rfl,_⟩:=qfI h hpt ho hb hv
    obtain ⟨b',cs,bs',te,h1,h2,h3,h4⟩:=h.box hc
    rw [hp] at h1
    obtain ⟨rfl,_⟩:=qfG h1
    have run:∀y fl,c.get off u=some (y,fl)→(execOp a.eval o).run C.P w= .ok (.value (mkV u ((cs.drop off).take u.size))) w:=fun y fl hg=>by
     obtain ⟨g1,_,_⟩:=h3.get hg
     rw [hx,show ptr b off= .pointer (some ⟨b,off,none⟩) from rfl,qgO hT (qir (n:=u.size) h2) (by rw [List.length_take,List.length_drop]; omega)]
     rfl
    split at he
    ·rename_i y hg
     have:=qV he
     subst this
     obtain ⟨g1,_,g3⟩:=h3.get hg
     exact qbg h (run _ _ hg) hd (.ofCells (g3 rfl))
    ·rename_i y hg
     have:=qV he
     subst this
     obtain ⟨g1,_,_⟩:=h3.get hg
     refine qU (run _ _ hg) (h.dst0 hd ⟨rfl,fun _=>⟨b,?_,hp,?_⟩⟩ (fun m hm=> ?_))
     ·show b∈own s
      rw [h4]; exact List.mem_cons_self
     ·have hl:((cs.drop off).take u.size).length=u.size:=by rw [List.length_take,List.length_drop]; omega
      cases hag:u.agg with
      |true=>exact .inl ⟨hag,_,by simp [mkV,hag],hl,qir h2⟩
      |false=>
       have hs:u.size=1:=by cases u <;> simp [Ty.agg] at hag <;> rfl
       refine .inr ⟨hag,?_⟩
       show w.cell? _=_
       have hlt:off<cs.length:=by omega
       rw [qia h2,mkV,if_neg (by simp [hag]),hs,List.drop_eq_getElem_cons hlt,List.getElem?_eq_getElem hlt]
       rfl
     ·simp [AV.mentions] at hm
      subst hm
      exact Nat.le_refl _
    ·cases he
   ·cases he
  ·cases he
 ·split at he
  ·rename_i s v0 fo sz i off hxa
   rw [Q.run_get] at he
   split at he
   ·rename_i hv
    split at he
    ·rename_i et e xs hown
     split at he
     ·rename_i hsz
      subst hsz
      split at he
      ·rename_i y hs
       have:=qV he
       subst this
       obtain ⟨_,hp⟩:=hxa ▸ ho.unowned (by rw [hxa]; rfl)
       obtain ⟨g,n,cap,k1,k2,k3,rfl⟩:=hp hv
       obtain ⟨_,b1,b2,b3,hrow,_⟩:=h.rowAt hown k1
       obtain ⟨cells,g1,g2,g3,g4⟩:=hrow.cells
       have hi:i.toNat<xs.length:=by rw [g2]; omega
       have hx0:=g4 i.toNat xs[i.toNat] (List.getElem?_eq_getElem hi)
       rw [show qk xs i e.dflt=xs[i.toNat] from qhn (List.getElem?_eq_getElem hi)] at hs
       obtain ⟨q1,q2⟩:=hx0.sub hs
       refine qbg h ?_ hd (.ofCells q2)
       rw [hx,show ptr g (i.toNat * e.size+off)= .pointer (some ⟨g,i.toNat * e.size+off,none⟩) from rfl,qgO hT (cs:=(((cells.drop (i.toNat * e.size)).take e.size).drop off).take u.size) ?_ (by rw [List.length_take,List.length_drop]; omega)]
       ·rfl
       ·intro j z hj
        rw [qai]
        rw [List.getElem?_take] at hj
        split at hj
        ·rw [List.getElem?_drop,List.getElem?_take] at hj
         split at hj
         ·rw [List.getElem?_drop] at hj
          have:=g3 _ _ hj
          rw [qai,Nat.zero_add] at this
          rw [←this]
          congr 2
          omega
         ·cases hj
        ·cases hj
      ·cases he
     ·cases he
    ·cases he
   ·cases he
  ·rename_i t' x off hxa
   split at he
   ·rename_i y hs
    have:=qV he
    subst this
    obtain ⟨_,ad,cs,rfl,g1,g2,g3,g4⟩:=hxa ▸ ho.unowned (by rw [hxa]; rfl)
    obtain ⟨k1,k2⟩:=g4.sub hs
    refine qbg h ?_ hd (.ofCells k2)
    rw [hx,qgO hT (cs:=(cs.drop off).take u.size) ?_ (by rw [List.length_take,List.length_drop]; omega)]
    ·rfl
    ·intro j z hj
     rw [qaQ]
     refine g3 _ _ ?_
     rw [List.getElem?_take] at hj
     split at hj
     ·rwa [List.getElem?_drop] at hj
     ·cases hj
   ·cases he
  ·rename_i s v0 off n e i o2 hxa
   rw [Q.run_get] at he
   split at he
   case isFalse=>cases he
   rename_i hv
   split at he
   case h_2=>cases he
   rename_i c hc
   split at he
   case h_2=>cases he
   rename_i xs hg
   split at he
   case h_2=>cases he
   rename_i y hs
   have:=qV he
   subst this
   obtain ⟨i0,i1,b,hp,rfl,_⟩:=qq6 hpt (hxa ▸ ho.unowned (by rw [hxa]; rfl)) hv
   obtain ⟨b',cs,bs',te,h1,h2,h3,h4⟩:=h.box hc
   rw [hp] at h1
   obtain ⟨rfl,_⟩:=qfG h1
   obtain ⟨g1,_,g3⟩:=h3.get hg
   obtain ⟨x,k1,k2,k3⟩:=(g3 rfl).elem (i:=i.toNat) (by omega)
   rw [qhn k1] at hs
   obtain ⟨q1,q2⟩:=k2.sub hs
   have hlen:=k2.length
   refine qbg h ?_ hd (.ofCells q2)
   rw [hx,show ptr b (off+i.toNat * e.size+o2)= .pointer (some ⟨b,off+i.toNat * e.size+o2,none⟩) from rfl,qgO hT (cs:=((((((cs.drop off).take (Ty.arr n e).size).drop (i.toNat * e.size)).take e.size).drop o2).take u.size)) ?_ (by rw [List.length_take,List.length_drop]; omega)]
   ·rfl
   ·intro j z hj
    rw [qai,qia h2]
    rw [List.getElem?_take] at hj
    split at hj
    case isFalse=>cases hj
    rw [List.getElem?_drop,List.getElem?_take] at hj
    split at hj
    case isFalse=>cases hj
    rw [List.getElem?_drop,List.getElem?_take] at hj
    split at hj
    case isFalse=>cases hj
    rw [List.getElem?_drop] at hj
    rw [←hj]
    congr 1
    omega
  ·cases he
end
end Go.Vi
