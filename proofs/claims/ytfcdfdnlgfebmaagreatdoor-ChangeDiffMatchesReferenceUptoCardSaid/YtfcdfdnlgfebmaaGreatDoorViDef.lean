/- The abstract interpreter over the model's Code: definitions. Values are typed data; slices are lists; rows and boxes that the call itself makes are owned. -/
import Derived.Test.YtfcdfdnlgfebmaaGreatDoorViOps
set_option linter.unusedVariables false
set_option linter.unusedSimpArgs false
set_option linter.unnecessarySimpa false
set_option linter.unusedSectionVars false
namespace Go.Vi
noncomputable section
inductive Ty where
 |int (k:IntKind)
 |bool
 |str
 |unit
 |pair (a b:Ty)
 |slice (e:Ty)
 |arr (n:Nat) (e:Ty)
 |err
 |opt (e:Ty)
 |map (k v:Ty)
 deriving DecidableEq,Inhabited
@[reducible] def Ty.den:Ty→Type
 | .int _=>Int
 | .bool=>Bool
 | .str=>List UInt8
 | .unit=>Unit
 | .pair a b=>a.den×b.den
 | .slice e=>List e.den
 | .arr _ e=>List e.den
 | .err=>Bool
 | .opt e=>Option e.den
 | .map k v=>List (k.den×v.den)
def Ty.dflt:(t:Ty)→t.den
 | .int _=>(0:Int)
 | .bool=>false
 | .str=>([]:List UInt8)
 | .unit=>()
 | .pair a b=>(a.dflt,b.dflt)
 | .slice _=>[]
 | .arr n e=>List.replicate n e.dflt
 | .err=>true
 | .opt _=>none
 | .map _ _=>[]
def Ty.size:Ty→Nat
 | .unit=>0
 | .pair a b=>a.size+b.size
 | .arr n e=>n * e.size
 |_=>1
def Ty.agg:Ty→Bool
 | .unit=>true
 | .pair _ _=>true
 | .arr _ _=>true
 |_=>false
def Ty.flat:Ty→Bool
 | .pair a b=>a.flat&&b.flat
 | .slice _=>false
 | .opt _=>false
 | .map _ _=>false
 | .arr _ e=>e.flat
 |_=>true
def Ty.as {t:Ty} (u:Ty) (x:t.den):Option u.den:=if h:t=u then some (h ▸ x) else none
def Ty.whole {t:Ty} (u:Ty) (x:t.den) (off:Nat):Option u.den:=if off=0 then Ty.as u x else none
def Ty.sub:(t:Ty)→t.den→Nat→(u:Ty)→Option u.den
 | .pair a b,x,off,u=>match Ty.whole (t:= .pair a b) u x off with
  |some y=>some y
  |none=>if off<a.size then a.sub x.1 off u else b.sub x.2 (off - a.size) u
 | .arr n e,x,off,u=>match Ty.whole (t:= .arr n e) u x off with
  |some y=>some y
  |none=>if off<n * e.size then e.sub (qh x (Int.ofNat (off / e.size)) e.dflt) (off % e.size) u else none
 | .int k,x,off,u=>Ty.whole (t:= .int k) u x off
 | .bool,x,off,u=>Ty.whole (t:= .bool) u x off
 | .str,x,off,u=>Ty.whole (t:= .str) u x off
 | .unit,x,off,u=>Ty.whole (t:= .unit) u x off
 | .slice e,x,off,u=>Ty.whole (t:= .slice e) u x off
 | .err,x,off,u=>Ty.whole (t:= .err) u x off
 | .opt e,x,off,u=>Ty.whole (t:= .opt e) u x off
 | .map k v,x,off,u=>Ty.whole (t:= .map k v) u x off
def Ty.upd:(t:Ty)→t.den→Nat→(u:Ty)→u.den→Option t.den
 | .pair a b,x,off,u,y=>match Ty.whole (t:=u) (.pair a b) y off with
  |some z=>some z
  |none=>if off<a.size then (match a.upd x.1 off u y with
    |some z=>some (z,x.2)
    |none=>none) else (match b.upd x.2 (off - a.size) u y with
    |some z=>some (x.1,z)
    |none=>none)
 | .arr n e,x,off,u,y=>match Ty.whole (t:=u) (.arr n e) y off with
  |some z=>some z
  |none=>if off<n * e.size then (match e.upd (qh x (Int.ofNat (off / e.size)) e.dflt) (off % e.size) u y with
    |some z=>some (qbN x (Int.ofNat (off / e.size)) z)
    |none=>none) else none
 | .int k,_,off,u,y=>Ty.whole (t:=u) (.int k) y off
 | .bool,_,off,u,y=>Ty.whole (t:=u) .bool y off
 | .str,_,off,u,y=>Ty.whole (t:=u) .str y off
 | .unit,_,off,u,y=>Ty.whole (t:=u) .unit y off
 | .slice e,_,off,u,y=>Ty.whole (t:=u) (.slice e) y off
 | .err,_,off,u,y=>Ty.whole (t:=u) .err y off
 | .opt e,_,off,u,y=>Ty.whole (t:=u) (.opt e) y off
 | .map k v,_,off,u,y=>Ty.whole (t:=u) (.map k v) y off
def Ty.eqb:(t:Ty)→t.den→t.den→Bool
 | .int _,(x:Int),(y:Int)=>eqI x y
 | .bool,(x:Bool),(y:Bool)=>eqB x y
 | .str,(x:List UInt8),(y:List UInt8)=>eqS x y
 | .pair a .unit,x,y=>a.eqb x.1 y.1
 | .pair a b,x,y=>a.eqb x.1 y.1&&b.eqb x.2 y.2
 |_,_,_=>true
def Ty.comparable:Ty→Bool
 | .int _=>true
 | .bool=>true
 | .str=>true
 | .unit=>true
 | .pair a b=>a.comparable&&b.comparable
 |_=>false
inductive BC where
 |val (t:Ty) (x:t.den)
 |own (et:Nat) (e:Ty) (xs:List e.den)
 |pair (a b:BC)
 |hole (n:Nat)
def BC.size:BC→Nat
 | .val t _=>t.size
 | .own _ _ _=>1
 | .pair a b=>a.size+b.size
 | .hole n=>n
def BC.hasOwn:BC→Bool
 | .val _ _=>false
 | .own _ _ _=>true
 | .pair a b=>a.hasOwn||b.hasOwn
 | .hole _=>true
def BC.freeze:BC→BC
 | .own _ e xs=> .val (.slice e) xs
 | .pair a b=> .pair a.freeze b.freeze
 |c=>c
def BC.get:BC→Nat→(u:Ty)→Option (u.den×Bool)
 | .val t x,off,u=>(t.sub x off u).map fun y=>(y,false)
 | .own _ e xs,off,u=>if off=0 then (Ty.as (t:= .slice e) u xs).map fun y=>(y,true) else none
 | .pair a b,off,u=>
  match off,u with
  |0,.pair ua ub=>if a.size=ua.size then (match a.get 0 ua,b.get 0 ub with
    |some (x,f),some (y,g)=>some ((x,y),f||g)
    |_,_=>none) else a.get 0 (.pair ua ub)
  |off,u=>if off<a.size then a.get off u else b.get (off - a.size) u
 | .hole _,_,_=>none
def Ty.isPair:Ty→Bool
 | .pair _ _=>true
 |_=>false
def BC.isPair:BC→Bool
 | .pair _ _=>true
 | .val t _=>t.isPair
 |_=>false
def BC.putVal:(t:Ty)→t.den→Nat→BC→Option BC
 | .pair a b,x,off,new=>
  if off<a.size then (if off=0∧a.size=new.size∧a.isPair=new.isPair then some (.pair new (.val b x.2)) else (BC.putVal a x.1 off new).map (fun z=> .pair z (.val b x.2)))
  else (if off=a.size∧b.size=new.size∧b.isPair=new.isPair then some (.pair (.val a x.1) new) else (BC.putVal b x.2 (off - a.size) new).map (fun z=> .pair (.val a x.1) z))
 |_,_,_,_=>none
def BC.put:BC→Nat→BC→Option BC
 | .val t x,off,new=>
  match new with
  | .val u y=>(t.upd x off u y).map (.val t)
  |new=>if off=0∧t.size=new.size∧t.isPair=new.isPair then some new else BC.putVal t x off new
 | .own _ _ _,off,new=>if off=0∧new.size=1 then some new else none
 | .pair a b,off,new=>
  if off=0∧a.size+b.size=new.size∧(b.size≠0∨new.isPair=true) then some new
  else if off<a.size then (a.put off new).map (fun z=> .pair z b) else (b.put (off - a.size) new).map (fun z=> .pair a z)
 | .hole n,off,new=>if off=0∧n=new.size then some new else none
def BC.row:BC→Nat→Option (Nat×((e:Ty)×List e.den))
 | .own et e xs,off=>if off=0 then some (et,⟨e,xs⟩) else none
 | .pair a b,off=>if off<a.size then a.row off else b.row (off - a.size)
 |_,_=>none
def BC.swap:BC→Nat→BC→Option BC
 | .own _ _ _,off,n=>if off=0 then some n else none
 | .pair a b,off,n=>if off<a.size then (a.swap off n).map (fun z=> .pair z b) else (b.swap (off - a.size) n).map (fun z=> .pair a z)
 |_,_,_=>none
@[reducible] def denL:List Ty→Type
 |[]=>Unit
 |t::r=>t.den×denL r
inductive qod where
 |val (t:Ty) (x:t.den)
 |own (et:Nat) (e:Ty) (xs:List e.den)
 |gone
inductive AV where
 |undef
 |val (t:Ty) (x:t.den)
 |own (et:Nat) (e:Ty) (xs:List e.den)
 |agg (c:BC)
 |box (c:BC)
 |ref (s v:Nat)
 |bref (s v off:Nat) (u:Ty)
 |pbox (s v off:Nat)
 |pip (k off:Nat)
 |prow (s v:Nat) (fo:Option Nat) (sz:Nat) (i:Int) (off:Nat)
 |osl (s v:Nat) (fo:Option Nat) (sz:Nat) (lo hi:Int)
 |view (t:Ty) (x:t.den) (off:Nat)
 |tup (cs:List qod)
 |grd (s v:Nat) (want:Bool) (a:AV)
 |fn (f:Nat) (caps:List qod)
 |fnv (ps rs:List Ty) (φ:denL ps→Option (denL rs))
 |amb (w m:Bool)
 |parr (s:Nat) (v:Option Nat) (off n:Nat) (e:Ty) (i:Int) (o2:Nat)
 |nilr (et:Nat) (e:Ty)
 |mp (k v:Ty) (xs:List (k.den×v.den))
def AV.rowAt (fo:Option Nat):AV→Option (Nat×((e:Ty)×List e.den))
 | .own et e xs=>match fo with
  |none=>some (et,⟨e,xs⟩)
  |some _=>none
 | .box c=>match fo with
  |some o=>c.row o
  |none=>none
 |_=>none
def AV.swapRow (n:BC) (fo:Option Nat):AV→Option AV
 | .own _ _ _=>match fo,n with
  |none,.own et e xs=>some (.own et e xs)
  |none,.hole _=>some .undef
  |_,_=>none
 | .box c=>match fo with
  |some o=>(c.swap o n).map .box
  |none=>none
 |_=>none
abbrev Ent:=Nat×AV
abbrev St:=List Ent
inductive Q (α:Type) where
 |ret (a:α)
 |fail
 |get (s:Nat) (k:Ent→Q α)
def Q.bind {α β:Type} :Q α→(α→Q β)→Q β
 | .ret a,f=>f a
 | .fail,_=> .fail
 | .get s k,f=> .get s fun e=>(k e).bind f
instance:Monad Q where
 pure:=Q.ret
 bind:=Q.bind
def Q.opt {α:Type} :Option α→Q α
 |some a=> .ret a
 |none=> .fail
def Q.run {α:Type} (lk:Nat→Ent):Q α→Option α
 | .ret a=>some a
 | .fail=>none
 | .get s k=>(k (lk s)).run lk
def Q.log {α:Type} (lk:Nat→Ent):Q α→List Nat
 | .ret _=>[]
 | .fail=>[]
 | .get s k=>s::(k (lk s)).log lk
inductive PM where
 |val (t:Ty)
 |own (et:Nat) (e:Ty)
 |io (t:Ty)
 |fn (ps rs:List Ty)
 |nil (et:Nat) (e:Ty)
 |rd (t:Ty)
 |ior (et:Nat) (e:Ty)
 deriving DecidableEq
@[reducible] def PM.den:PM→Type
 | .val t=>t.den
 | .own _ e=>List e.den
 | .io t=>t.den
 | .fn ps rs=>denL ps→Option (denL rs)
 | .nil _ _=>Unit
 | .rd t=>t.den
 | .ior _ e=>List e.den
@[reducible] def PMs.den:List PM→Type
 |[]=>Unit
 |p::r=>p.den×PMs.den r
@[reducible] def PMs.ioDen:List PM→Type
 |[]=>Unit
 | .io t::r=>t.den×PMs.ioDen r
 | .ior _ e::r=>List e.den×PMs.ioDen r
 |_::r=>PMs.ioDen r
inductive RM where
 |val (t:Ty)
 |own (et:Nat) (e:Ty)
 deriving DecidableEq
@[reducible] def RM.den:RM→Type
 | .val t=>t.den
 | .own _ e=>List e.den
@[reducible] def RMs.den:List RM→Type
 |[]=>Unit
 |r::rs=>r.den×RMs.den rs
def RM.dflt:(r:RM)→r.den
 | .val t=>t.dflt
 | .own _ _=>[]
def RMs.dflt:(rs:List RM)→RMs.den rs
 |[]=>()
 |r::rs=>(r.dflt,RMs.dflt rs)
def PMs.ioDflt:(ps:List PM)→PMs.ioDen ps
 |[]=>()
 | .io t::r=>(t.dflt,PMs.ioDflt r)
 | .val _::r=>PMs.ioDflt r
 | .own _ _::r=>PMs.ioDflt r
 | .fn _ _::r=>PMs.ioDflt r
 | .nil _ _::r=>PMs.ioDflt r
 | .rd _::r=>PMs.ioDflt r
 | .ior _ _::r=>([],PMs.ioDflt r)
structure qk where
 ps:List PM
 rs:List RM
 sem:PMs.den ps→Option (RMs.den rs×PMs.ioDen ps)
abbrev qkG:=Nat→Option ((t:Ty)×t.den)
structure Env where
 ty:Nat→Option Ty
 etid:Nat→Nat
 off:Nat→Nat→Option Nat
 fty:Nat→Nat→Nat
 zero:Nat→Option BC
 bytes:Nat→Nat
 eqok:Nat→Bool
 fn:Nat→Option qk
 pins:List Nat
 ownz:Bool
 tabs:qkG
 rf:List Nat
end
end Go.Vi
