/- The abstract interpreter over the model's Code: the evaluation. -/
import Derived.Test.YtfcdfdnlgfebmaaGreatDoorViDef
set_option linter.unusedVariables false
set_option linter.unusedSimpArgs false
set_option linter.unnecessarySimpa false
set_option linter.unusedSectionVars false
namespace Go.Vi
noncomputable section
def qt (σ:St) (s:Nat):Ent:=σ.getD s (0,.undef)
abbrev qhl:=List (Nat×Nat×Bool×Bool)
def lit (w b:Bool):Bool:=match w with
 |true=>b
 |false=> !b
def qml:qhl→Bool
 |[]=>true
 |[(_,_,w,b)]=>lit w b
 |(_,_,w,b)::r=>lit w b&&qml r
def qdI:Nat→Nat→Bool→Q qhl
 |0,_,_=> .fail
 |n+1,s,want=> .get s fun e=>match e.2 with
  | .val .bool b=> .ret [(s,e.1,want,b)]
  | .grd s2 v2 w2 (.val .bool b)=>(qdI n s2 w2).bind fun r=>match r with
   |(s3,v3,w3,b3)::r'=>if v3=v2 then .ret ((s,e.1,want,b)::(s3,v3,w3,b3)::r') else .fail
   |[]=> .fail
  |_=> .fail
def qoy (s v:Nat) (w:Bool):qhl→Bool
 |[]=>false
 |(s',v',w',_)::r=>(s == s'&&v == v'&&w == w')||qoy s v w r
def qbM (p:qhl):AV→AV
 | .grd s v w a=>if qoy s v w p then qbM p a else .undef
 |a=>a
def qpx (c:Operand) (v:Nat) (w b:Bool) (p:qhl):qhl:=match c with
 | .tmp t=>(t,v,w,b)::p
 |_=>p
structure Op1 where
 s:Option Nat
 v:Nat
 a:AV
def Ty.dec:(t:Ty)→List Value→Option (t.den×List Value)
 | .int k,cs=>match cs with
  | .int k' n::r=>if k=k'∧k.min≤n∧n≤k.max then some (n,r) else none
  |_=>none
 | .bool,cs=>match cs with
  | .bool b::r=>some (b,r)
  |_=>none
 | .str,cs=>match cs with
  | .string s::r=>if s.data.toList.length≤1048576 then some (s.data.toList,r) else none
  |_=>none
 | .unit,r=>some ((),r)
 | .pair a b,cs=>match a.dec cs with
  |some (x,r)=>match b.dec r with
   |some (y,r')=>some ((x,y),r')
   |none=>none
  |none=>none
 | .slice _,cs=>match cs with
  | .slice none 0 0::r=>some ([],r)
  |_=>none
 | .arr _ _,_=>none
 | .err,cs=>match cs with
  | .nilIface::r=>some (true,r)
  |_=>none
 | .opt _,cs=>match cs with
  | .pointer none::r=>some (none,r)
  |_=>none
 | .map _ _,_=>none
def qlQ (E:Env) (tid:Nat) (c:Value):Option AV:=
 match c with
 | .int k n=>if k.min≤n∧n≤k.max then some (.val (.int k) n) else none
 | .bool b=>some (.val .bool b)
 | .string s=>if s.data.toList.length≤1048576 then some (.val .str s.data.toList) else none
 | .slice none 0 0=>match E.ty tid with
  |some (.slice e)=>some (.own (E.etid tid) e [])
  |_=>none
 | .nilIface=>match E.ty tid with
  |some .err=>some (.val .err true)
  |_=>none
 | .pointer none=>match E.ty tid with
  |some (.opt e)=>some (.val (.opt e) none)
  |_=>none
 | .agg cs=>match E.ty tid with
  |some t=>if t.agg then (match t.dec cs.toList with
   |some (x,[])=>some (.val t x)
   |_=>none) else none
  |none=>none
 |_=>none
def opd (E:Env) (p:qhl) (tid:Nat):Operand→Q Op1
 | .tmp t=> .get t fun e=> .ret ⟨some t,e.1,qbM p e.2⟩
 | .const c=>match qlQ E tid c with
  |some a=> .ret ⟨none,0,a⟩
  |none=> .fail
 | .func f=> .ret ⟨none,0,.fn f []⟩
 | .global g=>match E.tabs g with
  |some r=> .ret ⟨none,0,.view r.1 r.2 0⟩
  |none=> .fail
structure VR where
 t:Ty
 x:t.den
 ow:List Nat
def qmg (o:Op1):Q VR:=
 match o.a with
 | .val t x=> .ret ⟨t,x,[]⟩
 | .own _ e xs=> .ret ⟨.slice e,xs,o.s.toList⟩
 | .nilr _ e=> .ret ⟨.slice e,[],[]⟩
 | .ref s v=> .get s fun e=>if e.1=v then (match e.2 with
  | .own _ e xs=> .ret ⟨.slice e,xs,[s]⟩
  | .val t x=> .ret ⟨t,x,[]⟩
  |_=> .fail) else .fail
 | .bref s v off u=> .get s fun e=>if e.1=v then (match e.2 with
  | .box c=>match c.get off u with
   |some (x,f)=> .ret ⟨u,x,if f then [s] else []⟩
   |none=> .fail
  |_=> .fail) else .fail
 | .osl _ _ _ _ _ _=> .fail
 |_=> .fail
def toVal (u:Ty) (o:Op1):Q (u.den×List Nat):=
 match o.a with
 | .agg c=>if c.size=u.size∧u.agg=true then (match c.get 0 u with
  |some (x,f)=> .ret (x,if f then o.s.toList else [])
  |none=> .fail) else .fail
 | .view t x off=>(match u with
  | .opt e=>if off=0 then (match Ty.as (t:=t) e x with
   |some y=> .ret (some y,[])
   |none=> .fail) else .fail
  |_=> .fail)
 |_=>(qmg o).bind fun r=>match Ty.as u r.x with
  |some x=> .ret (x,r.ow)
  |none=> .fail
def qkM (o:Op1):Q (IntKind×Int):=
 (qmg o).bind fun r=>match r with
  |⟨.int k,n,_⟩=> .ret (k,n)
  |_=> .fail
def qod.freeze:qod→qod
 | .own _ e xs=> .val (.slice e) xs
 |c=>c
def AV.freeze:AV→AV
 | .own _ e xs=> .val (.slice e) xs
 | .box c=> .box c.freeze
 | .agg c=> .agg c.freeze
 | .mp _ _ _=> .undef
 | .tup cs=> .tup (cs.map qod.freeze)
 |a=>a
def AV.unowned:AV→Bool
 | .own _ _ _=>false
 | .agg _=>false
 | .box _=>false
 | .tup _=>false
 | .mp _ _ _=>false
 |_=>true
def AV.mentions:AV→List (Nat×Nat)
 | .ref s v=>[(s,v)]
 | .bref s v _ _=>[(s,v)]
 | .pbox s v _=>[(s,v)]
 | .prow s v _ _ _ _=>[(s,v)]
 | .osl s v _ _ _ _=>[(s,v)]
 | .parr s (some v) _ _ _ _ _=>[(s,v)]
 | .grd s v _ a=>(s,v)::a.mentions
 |_=>[]
def AV.isUndef:AV→Bool
 | .undef=>true
 |_=>false
structure U where
 s:Nat
 bump:Bool
 a:AV
structure Eff where
 upd:List U
 chk:List Bool
def qbX:List Nat→Q (List U)
 |[]=> .ret []
 |s::r=> .get s fun e=>(qbX r).bind fun us=> .ret (⟨s,false,e.2.freeze⟩::us)
def qbV (o:Oper) (a:AV):List U:=match o.dst with
 |some d=>[⟨d,true,a⟩]
 |none=>[]
def okE (us:List U):Q Eff:= .ret ⟨us,[]⟩
def qp7 (op:BinOp) (k:IntKind) (x y:Int):AV×List Bool:=
 match op with
 | .add=>(.val (.int k) (qQ k x y),[])
 | .sub=>(.val (.int k) (qO k x y),[])
 | .mul=>(.val (.int k) (qmn k x y),[])
 | .quo=>(.val (.int k) (qom k x y),[neI y 0])
 | .rem=>(.val (.int k) (irem x y),[neI y 0])
 | .and=>(.val (.int k) (qux k x y),[])
 | .or=>(.val (.int k) (bor k x y),[])
 | .xor=>(.val (.int k) (qil k x y),[])
 | .andNot=>(.val (.int k) (qnH k x y),[])
 | .eql=>(.val .bool (eqI x y),[])
 | .neq=>(.val .bool (neI x y),[])
 | .lss=>(.val .bool (ltI x y),[])
 | .leq=>(.val .bool (leI x y),[])
 | .gtr=>(.val .bool (ltI y x),[])
 | .geq=>(.val .bool (leI y x),[])
 | .shl=>(.val (.int k) (qjV k x y),[leI 0 y])
 | .shr=>(.val (.int k) (qi4 k x y),[leI 0 y])
def qvf (op:BinOp) (x y:List UInt8):Option (AV×List Bool):=
 match op with
 | .add=>some (.val .str (qf3 x y),[qcI (qn x) (qn y) 1])
 | .eql=>some (.val .bool (eqS x y),[])
 | .neq=>some (.val .bool (!(eqS x y)),[])
 | .lss=>some (.val .bool (qfY x y),[])
 | .leq=>some (.val .bool (qfY x y||eqS x y),[])
 | .gtr=>some (.val .bool (!(qfY x y||eqS x y)),[])
 | .geq=>some (.val .bool (!(qfY x y)),[])
 |_=>none
def qlc:BinOp→Bool
 | .shl=>true
 | .shr=>true
 |_=>false
def binE (E:Env) (op:BinOp) (tid:Nat) (x y:VR):Option (AV×List Bool):=
 match x,y with
 |⟨.int k,a,_⟩,⟨.int k',b,_⟩=>if qlc op||k=k' then some (qp7 op k a b) else none
 |⟨.str,a,_⟩,⟨.str,b,_⟩=>qvf op a b
 |⟨.bool,a,_⟩,⟨.bool,b,_⟩=>if E.ty tid=some .bool then (match op with
  | .eql=>some (.val .bool (eqB a b),[])
  | .neq=>some (.val .bool (!(eqB a b)),[])
  |_=>none) else none
 |⟨t,a,_⟩,⟨u,b,_⟩=>if t.agg=true∧E.eqok tid=true∧E.ty tid=some t then (match Ty.as (t:=u) t b with
  |some b=>(match op with
   | .eql=>some (.val .bool (t.eqb a b),[])
   | .neq=>some (.val .bool (!(t.eqb a b)),[])
   |_=>none)
  |none=>none) else none
def unE (op:UnOp) (x:VR):Option AV:=
 match op,x with
 | .neg,⟨.int k,n,_⟩=>some (.val (.int k) (ineg k n))
 | .not,⟨.bool,b,_⟩=>some (.val .bool (!b))
 | .xor,⟨.int k,n,_⟩=>some (.val (.int k) (qil k (if k.signed then -1 else k.max) n))
 |_,_=>none
def qjw:List Nat→Bool
 |[]=>true
 |a::r=> !r.contains a&&qjw r
structure qtL (ps:List PM) where
 x:PMs.den ps
 ow:List Nat
 gone:List Nat
 ios:List Nat
@[reducible] def valPs:List Ty→List PM
 |[]=>[]
 |t::r=> .val t::valPs r
@[reducible] def valRs:List Ty→List RM
 |[]=>[]
 |t::r=> .val t::valRs r
def toPs:(ts:List Ty)→denL ts→PMs.den (valPs ts)
 |[],_=>()
 |_::r,x=>(x.1,toPs r x.2)
def qvt:(ts:List Ty)→RMs.den (valRs ts)→denL ts
 |[],_=>()
 |_::r,x=>(x.1,qvt r x.2)
def qtq:(ts:List Ty)→denL ts→RMs.den (valRs ts)
 |[],_=>()
 |_::r,x=>(x.1,qtq r x.2)
def qtR:(ts:List Ty)→PMs.den (valPs ts)→denL ts
 |[],_=>()
 |_::r,x=>(x.1,qtR r x.2)
def denL.dflt:(ts:List Ty)→denL ts
 |[]=>()
 |t::r=>(t.dflt,denL.dflt r)
def fnOf (E:Env) (ts us:List Ty):AV→Option (denL ts→Option (denL us))
 | .fnv ts' us' φ=>if h:ts'=ts∧us'=us then some (h.1 ▸ h.2 ▸ φ) else none
 | .fn f []=>(match E.fn f with
  |some C=>if h:C.ps=valPs ts∧C.rs=valRs us then some (fun x=>qhf (fun y=>qvt us (h.2 ▸ y.1)) (C.sem (h.1 ▸ toPs ts x))) else none
  |none=>none)
 |_=>none
def apart (a b:List Nat):Bool:=a.all fun x=> !b.contains x
@[reducible] def rdPs:List Ty→List PM
 |[]=>[]
 |t::r=> .rd t::rdPs r
def toRd:(us:List Ty)→denL us→PMs.den (rdPs us)
 |[],_=>()
 |_::r,y=>(y.1,toRd r y.2)
def qpD:(ts us:List Ty)→denL ts→denL us→PMs.den (valPs ts++rdPs us)
 |[],us,_,y=>toRd us y
 |_::r,us,x,y=>(x.1,qpD r us x.2 y)
def qpt:List PM→Option (List Ty×List Ty)
 |[]=>some ([],[])
 | .val t::r=>(match qpt r with
  |some q=>some (t::q.1,q.2)
  |none=>none)
 | .rd t::r=>(match qpt r with
  |some q=>some (q.1,t::q.2)
  |none=>none)
 |_=>none
def qrM:List RM→Option (List Ty)
 |[]=>some []
 | .val t::r=>(match qrM r with
  |some q=>some (t::q)
  |none=>none)
 |_=>none
def qgW:List Operand→List Nat
 |[]=>[]
 | .tmp s::r=>s::qgW r
 |_::r=>qgW r
def qqg:(us:List Ty)→List Operand→Q (denL us×List U)
 |[],[]=> .ret ((),[])
 |u::us,.tmp s::r=> .get s fun e=>(qqg us r).bind fun q=>match e.2 with
  | .box c=>if c.size=u.size then (match c.get 0 u with
   |some (x,_)=> .ret ((x,q.1),⟨s,true,.view u x 0⟩::q.2)
   |none=> .fail) else .fail
  | .view t y off=>(match t.sub y off u with
   |some x=> .ret ((x,q.1),q.2)
   |none=> .fail)
  |_=> .fail
 |_,_=> .fail
def cloE (E:Env) (o:Oper) (f:Nat) (caps:List Operand):Q Eff:=
 match E.fn f with
 |some C=>(match qpt C.ps,qrM C.rs with
  |some (ts,us),some vs=>if h:C.ps=valPs ts++rdPs us∧C.rs=valRs vs then (qqg us caps).bind fun q=>
    if qjw (qgW caps)&&apart o.dst.toList (qgW caps) then .ret ⟨q.2++qbV o (.fnv ts vs (fun x=>qhf (fun y=>qvt vs (h.2 ▸ y.1)) (C.sem (h.1 ▸ qpD ts us x q.1)))),[]⟩ else .fail
   else .fail
  |_,_=> .fail)
 |none=> .fail
def qbf (E:Env):(ps:List PM)→List Op1→Q (qtL ps)
 |[],[]=> .ret ⟨(),[],[],[]⟩
 | .val t::ps,o::os=>(toVal t o).bind fun x=>(qbf E ps os).bind fun r=> .ret ⟨(x.1,r.x),x.2++r.ow,r.gone,r.ios⟩
 | .own et e::ps,o::os=>
  match o.s,o.a with
  |some s,.own et' e' xs=>if et=et' then (match Ty.as (t:= .slice e') (.slice e) xs with
   |some xs=>(qbf E ps os).bind fun r=> .ret ⟨(xs,r.x),r.ow,s::r.gone,r.ios⟩
   |none=> .fail) else .fail
  |none,.own et' e' xs=>if et=et' then (match Ty.as (t:= .slice e') (.slice e) xs with
   |some xs=>(qbf E ps os).bind fun r=> .ret ⟨(xs,r.x),r.ow,r.gone,r.ios⟩
   |none=> .fail) else .fail
  |_,.ref s v=> .get s fun en=>if en.1=v then (match en.2 with
   | .own et' e' xs=>if et=et' then (match Ty.as (t:= .slice e') (.slice e) xs with
    |some xs=>(qbf E ps os).bind fun r=> .ret ⟨(xs,r.x),r.ow,s::r.gone,r.ios⟩
    |none=> .fail) else .fail
   |_=> .fail) else .fail
  |_,_=> .fail
 | .ior et e::ps,o::os=>
  match o.s,o.a with
  |some s,.own et' e' xs=>if et=et' then (match Ty.as (t:= .slice e') (.slice e) xs with
   |some xs=>(qbf E ps os).bind fun r=> .ret ⟨(xs,r.x),r.ow,r.gone,s::r.ios⟩
   |none=> .fail) else .fail
  |_,.ref s v=> .get s fun en=>if en.1=v then (match en.2 with
   | .own et' e' xs=>if et=et' then (match Ty.as (t:= .slice e') (.slice e) xs with
    |some xs=>(qbf E ps os).bind fun r=> .ret ⟨(xs,r.x),r.ow,r.gone,s::r.ios⟩
    |none=> .fail) else .fail
   |_=> .fail) else .fail
  |_,_=> .fail
 | .io t::ps,o::os=>
  match o.s,o.a with
  |some s,.box c=>(match (if c.size=t.size then c.get 0 t else none) with
   |some (x,_)=>(qbf E ps os).bind fun r=> .ret ⟨(x,r.x),r.ow,r.gone,s::r.ios⟩
   |none=> .fail)
  |_,.pip s 0=> .get s fun en=>(match en.2 with
   | .box c=>(match (if c.size=t.size then c.get 0 t else none) with
    |some (x,_)=>(qbf E ps os).bind fun r=> .ret ⟨(x,r.x),r.ow,r.gone,s::r.ios⟩
    |none=> .fail)
   |_=> .fail)
  |_,.pbox s v 0=> .get s fun en=>if en.1=v then (match en.2 with
   | .box c=>(match (if c.size=t.size then c.get 0 t else none) with
    |some (x,_)=>(qbf E ps os).bind fun r=> .ret ⟨(x,r.x),r.ow,r.gone,s::r.ios⟩
    |none=> .fail)
   |_=> .fail) else .fail
  |_,_=> .fail
 | .nil et e::ps,o::os=>(match o.s,o.a with
  |_,.nilr et' e'=>if et'=et∧e'=e then (qbf E ps os).bind fun r=> .ret ⟨((),r.x),r.ow,r.gone,r.ios⟩ else .fail
  |none,.own et' e' []=>if et'=et∧e'=e then (qbf E ps os).bind fun r=> .ret ⟨((),r.x),r.ow,r.gone,r.ios⟩ else .fail
  |_,_=> .fail)
 | .rd t::ps,o::os=>(match o.a with
  | .view t' y off=>(match t'.sub y off t with
   |some x=>(qbf E ps os).bind fun r=> .ret ⟨(x,r.x),r.ow,r.gone,r.ios⟩
   |none=> .fail)
  |_=> .fail)
 | .fn ts us::ps,o::os=>(match fnOf E ts us o.a with
  |some φ=>(qbf E ps os).bind fun r=> .ret ⟨(φ,r.x),r.ow,r.gone,r.ios⟩
  |none=> .fail)
 |_,_=> .fail
def qc1:(rs:List RM)→RMs.den rs→List qod
 |[],_=>[]
 | .val t::rs,y=> .val t y.1::qc1 rs y.2
 | .own et e::rs,y=> .own et e y.1::qc1 rs y.2
def qix (rs:List RM) (y:RMs.den rs):AV:=match rs,y with
 |[.val t],y=> .val t y.1
 |[.own et e],y=> .own et e y.1
 |rs,y=> .tup (qc1 rs y)
def RMs.flat:List RM→Bool
 |[]=>true
 | .val t::r=>t.flat&&RMs.flat r
 | .own _ e::r=>e.flat&&RMs.flat r
def PMs.ioFlat:List PM→Bool
 |[]=>true
 | .io t::r=>t.flat&&PMs.ioFlat r
 | .ior _ e::r=>e.flat&&PMs.ioFlat r
 |_::r=>PMs.ioFlat r
def qfp:(ps:List PM)→PMs.ioDen ps→List Nat→List U
 | .io t::ps,y,s::ss=>⟨s,true,.box (.val t y.1)⟩::qfp ps y.2 ss
 | .ior et e::ps,y,s::ss=>⟨s,true,.own et e y.1⟩::qfp ps y.2 ss
 | .val _::ps,y,ss=>qfp ps y ss
 | .own _ _::ps,y,ss=>qfp ps y ss
 | .fn _ _::ps,y,ss=>qfp ps y ss
 | .nil _ _::ps,y,ss=>qfp ps y ss
 | .rd _::ps,y,ss=>qfp ps y ss
 |_,_,_=>[]
def qvI (E:Env) (o:Oper) (C:qk) (os:List Op1):Q Eff:=
 (qbf E C.ps os).bind fun A=>
  if qjw (A.gone++A.ios)&&apart A.ow (A.gone++A.ios)&&apart o.dst.toList (A.gone++A.ios) then
   (if RMs.flat C.rs&&PMs.ioFlat C.ps then Q.ret [] else qbX A.ow).bind fun fz=>
    let y:=qp (C.sem A.x) (RMs.dflt C.rs,PMs.ioDflt C.ps)
    .ret ⟨fz++(A.gone.map (fun s=>⟨s,true,.undef⟩)++qfp C.ps y.2 A.ios++qbV o (qix C.rs y.1)),[qw (C.sem A.x)]⟩
  else .fail
def qu8 (E:Env) (o:Oper) (ts us:List Ty) (φ:denL ts→Option (denL us)) (os:List Op1):Q Eff:=
 (qbf E (valPs ts) os).bind fun A=>
  (if RMs.flat (valRs us) then Q.ret [] else qbX A.ow).bind fun fz=>
   .ret ⟨fz++qbV o (qix (valRs us) (qtq us (qp (φ (qtR ts A.x)) (denL.dflt us)))),[qw (φ (qtR ts A.x))]⟩
def opds (E:Env) (p:qhl):List Operand→List Nat→Q (List Op1)
 |[],_=> .ret []
 |x::xs,ts=>(opd E p (ts.headD 0) x).bind fun a=>(opds E p xs ts.tail).bind fun r=> .ret (a::r)
def qvh (o:Op1):Q (((e:Ty)×List e.den)×List Nat):=
 match o.a with
 | .own _ e xs=> .ret (⟨e,xs⟩,o.s.toList)
 | .nilr _ e=> .ret (⟨e,[]⟩,[])
 | .val (.slice e) xs=> .ret (⟨e,xs⟩,[])
 | .ref s v=> .get s fun en=>if en.1=v then (match en.2 with
  | .own _ e xs=> .ret (⟨e,xs⟩,[s])
  | .val (.slice e) xs=> .ret (⟨e,xs⟩,[])
  |_=> .fail) else .fail
 | .bref s v off u=>if u.agg=false then .get s fun en=>if en.1=v then (match en.2.rowAt (some off) with
  |some r=> .ret (r.2,[s])
  |none=> .fail) else .fail else .fail
 |_=> .fail
def qk4 (x:Op1):Q (Option (Nat×AV)×Nat×((e:Ty)×List e.den)):=
 match x.a with
 | .own et e xs=> .ret (x.s.map (fun s=>(s,.undef)),et,⟨e,xs⟩)
 | .nilr et e=> .ret (none,et,⟨e,[]⟩)
 | .ref s v=> .get s fun en=>if en.1=v then (match en.2 with
  | .own et e xs=> .ret (some (s,.undef),et,⟨e,xs⟩)
  |_=> .fail) else .fail
 | .bref s v off u=>if u.agg=false then .get s fun en=>if en.1=v then (match en.2.rowAt (some off),en.2.swapRow (.hole 1) (some off) with
  |some r,some a=> .ret (some (s,a),r.1,r.2)
  |_,_=> .fail) else .fail else .fail
 |_=> .fail
def qve (r:Option (Nat×AV)):List U:=r.toList.map fun p=>⟨p.1,true,p.2⟩
def qpo (E:Env) (o:Oper) (tid:Nat) (x y:Op1):Q Eff:=
 (qk4 x).bind fun r=>(qvh y).bind fun q=>match o.dst with
  |some d=>if E.ty tid=some (.slice r.2.2.1)∧r.2.1=E.etid tid∧E.bytes r.2.1≠0∧r.2.2.1.size≠0∧apart q.2 (r.1.map (·.1)).toList=true∧r.1.map (·.1)≠some d then (match Ty.as (t:= .slice q.1.1) (.slice r.2.2.1) q.1.2 with
   |some ys=> .ret ⟨qve r.1++[⟨d,true,.own r.2.1 r.2.2.1 (qf3 r.2.2.2 ys)⟩],[qcI (qn r.2.2.2) (qn ys) (E.bytes r.2.1)]⟩
   |none=> .fail) else .fail
  |none=> .fail
def qpZ (E:Env) (o:Oper) (tid tid':Nat) (x y:Op1):Q Eff:=
 (qk4 x).bind fun r=>(toVal .str y).bind fun q=>match o.dst with
  |some d=>if E.ty tid=some (.slice r.2.2.1)∧r.2.1=E.etid tid∧E.bytes r.2.1=1∧E.ty tid'=some .str∧r.1.map (·.1)≠some d then (match Ty.as (t:= .slice r.2.2.1) (.slice (.int .u8)) r.2.2.2 with
   |some xs=> .ret ⟨qve r.1++[⟨d,true,.own r.2.1 (.int .u8) (qf3 xs (qeL q.1))⟩],[qcI (qn xs) (qn q.1) 1]⟩
   |none=> .fail) else .fail
  |none=> .fail
def qpm:Option Ty→Bool
 |some (.int _)=>true
 |_=>false
def qpJ (E:Env) (o:Oper) (tid tid':Nat) (x y:Op1):Q Eff:=
 match x.a with
 | .nilr et e=>(qkM y).bind fun n=>if E.ty tid=some (.slice e)∧et=E.etid tid∧e.size≠0∧E.bytes et≠0∧qpm (E.ty tid')=true then .ret ⟨qbV o (.own et e (qqY n.2 e.dflt)),[ltI 0 n.2,quZ n.2 (E.bytes et)]⟩ else .fail
 |_=> .fail
def qnx (f:Int→Int→Int) (k:IntKind):Int→List Op1→Q Int
 |n,[]=> .ret n
 |n,o::os=>(qkM o).bind fun m=>if m.1=k then qnx f k (f n m.2) os else .fail
def qnd (E:Env) (o:Oper) (b:Builtin) (ts:List Nat) (os:List Op1):Q Eff:=
 match b,os with
 | .len,[x]=>(qmg x).bind fun r=>match r,ts with
  |⟨.slice e,xs,_⟩,t::_=>if E.ty t=some (.slice e) then okE (qbV o (.val (.int .i64) (qn xs))) else .fail
  |⟨.str,xs,_⟩,t::_=>if E.ty t=some .str then okE (qbV o (.val (.int .i64) (qn xs))) else .fail
  |_,_=> .fail
 | .append,[x,y]=>match ts with
  |[t,t']=>if t=t' then qpo E o t x y else if qpm (E.ty t')=true then qpJ E o t t' x y else qpZ E o t t' x y
  |_=> .fail
 | .cap,[x]=>(match x.a,ts with
  | .nilr _ e,t::_=>if E.ty t=some (.slice e) then okE (qbV o (.val (.int .i64) 0)) else .fail
  |_,_=> .fail)
 | .clear,[x]=>(match x.a,ts with
  | .osl s v fo sz lo hi,t::_=>if o.dst.isSome then .fail else .get s fun en=>if en.1=v then (match en.2.rowAt fo with
   |some (et,⟨e,xs⟩)=>if e.size=sz∧e.size≠0∧E.ty t=some (.slice e) then (match en.2.swapRow (.own et e (qf3 (qau xs 0 lo) (qf3 (qqY (qO .i64 hi lo) e.dflt) (qau xs hi (qn xs))))) fo with
    |some a=>okE [⟨s,false,a⟩]
    |none=> .fail) else .fail
   |none=> .fail) else .fail
  |_,_=> .fail)
 | .max,x::r=>(qkM x).bind fun m=>(qnx qvp m.1 m.2 r).bind fun n=>okE (qbV o (.val (.int m.1) n))
 | .min,x::r=>(qkM x).bind fun m=>(qnx minI m.1 m.2 r).bind fun n=>okE (qbV o (.val (.int m.1) n))
 |_,_=> .fail
def qgL (o:Op1):Option (Nat×Option Nat×Nat):=match o.s,o.a with
 |some s,.box _=>some (s,some o.v,0)
 |_,.pbox s v off=>some (s,some v,off)
 |_,.pip k off=>some (k,none,off)
 |_,_=>none
def vOk (e:Nat):Option Nat→Bool
 |some v=>decide (e=v)
 |none=>true
def qsF (s off:Nat):Option Nat→AV
 |some v=> .pbox s v off
 |none=> .pip s off
def qsW (pins:List Nat) (o:Oper) (assign:Bool) (x:Op1):Q Eff:=
 match x.s,x.a with
 |some s,.own et e xs=>
  if assign then (match o.dst with
   |some d=>if s=d then .fail else .get d fun en=>okE [⟨d,true,.own et e xs⟩,⟨s,true,.ref d (en.1+1)⟩]
   |none=> .fail)
  else okE (qbV o (.ref s x.v))
 |some s,.mp k v xs=>
  if assign then (match o.dst with
   |some d=>if s=d then .fail else .get d fun en=>okE [⟨d,true,.mp k v xs⟩,⟨s,true,.ref d (en.1+1)⟩]
   |none=> .fail)
  else okE (qbV o (.ref s x.v))
 |some s,.box c=>
  if pins.contains s then okE (qbV o (.pip s 0))
  else if assign then (match o.dst with
   |some d=>if s=d then .fail else .get d fun en=>okE [⟨d,true,.box c⟩,⟨s,true,.pbox d (en.1+1) 0⟩]
   |none=> .fail)
  else okE (qbV o (.pbox s x.v 0))
 |some s,.agg c=>match o.dst with
  |some d=>if s=d then .fail else okE [⟨d,true,.agg c⟩,⟨s,true,.undef⟩]
  |none=> .fail
 |some s,.tup cs=>match o.dst with
  |some d=>if s=d then .fail else okE [⟨d,true,.tup cs⟩,⟨s,true,.undef⟩]
  |none=> .fail
 |none,.own et e xs=>okE (qbV o (.own et e xs))
 |_,.ref s v=>if assign&&o.dst == some s then (.get s fun en=>if en.1=v then okE [] else .fail) else okE (qbV o (.ref s v))
 |_,a=>if a.unowned then okE (qbV o a) else .fail
def BC.sound:BC→Bool
 | .hole _=>false
 | .pair a b=>a.sound&&b.sound
 |_=>true
def qhs (t:Ty) (x:Op1):Q (BC×List Nat×List U):=
 match x.s,x.a with
 |some s,.own et e xs=>if t= .slice e then .ret (.own et e xs,[],[⟨s,true,.undef⟩]) else .fail
 |none,.own et e xs=>if t= .slice e then .ret (.own et e xs,[],[]) else .fail
 |some s,.agg c=>if c.size=t.size∧c.sound=true then .ret (c,[],[⟨s,true,.undef⟩]) else .fail
 |_,_=>(toVal t x).bind fun r=> .ret (.val t r.1,r.2,[])
def boxE (E:Env) (o:Oper) (tid:Nat) (x:Op1):Q Eff:=
 match E.ty tid,o.dst with
 |some t,some d=>(qhs t x).bind fun c=>if c.2.1.isEmpty&& !(c.2.2.map (·.s)).contains d then okE (c.2.2++[⟨d,true,.box c.1⟩]) else .fail
 |_,_=> .fail
def qvx (E:Env) (o:Oper) (tid:Nat) (p:Op1):Q Eff:=
 match E.ty tid with
 |none=> .fail
 |some t=>match qgL p with
  |some (s,v,off)=> .get s fun en=>if vOk en.1 v=true then (match en.2 with
   | .box c=>(match c.get off t with
    |some (x,false)=>okE (qbV o (.val t x))
    |some (_,true)=>okE (qbV o (.bref s en.1 off t))
    |none=> .fail)
   |_=> .fail) else .fail
  |none=>match p.a with
   | .prow s v fo sz i off=> .get s fun en=>if en.1=v then (match en.2.rowAt fo with
    |some (_,⟨e,xs⟩)=>if e.size=sz then (match e.sub (qh xs i e.dflt) off t with
     |some x=>okE (qbV o (.val t x))
     |none=> .fail) else .fail
    |none=> .fail) else .fail
   | .view t' x off=>(match t'.sub x off t with
    |some y=>okE (qbV o (.val t y))
    |none=> .fail)
   | .parr s v off n e i o2=> .get s fun en=>if vOk en.1 v=true then (match en.2 with
    | .box c=>(match c.get off (.arr n e) with
     |some (xs,false)=>(match e.sub (qh xs i e.dflt) o2 t with
      |some y=>okE (qbV o (.val t y))
      |none=> .fail)
     |_=> .fail)
    |_=> .fail) else .fail
   |_=> .fail
def qsP (E:Env) (tid:Nat) (p x:Op1):Q Eff:=
 match E.ty tid with
 |none=> .fail
 |some t=>match qgL p with
  |some (s,v,off)=>(qhs t x).bind fun n=>if n.2.1.isEmpty&& !(n.2.2.map (·.s)).contains s then (.get s fun en=>if vOk en.1 v=true then (match en.2 with
   | .box c=>(match c.put off n.1 with
    |some c'=>okE (n.2.2++[⟨s,true,.box c'⟩])
    |none=> .fail)
   |_=> .fail) else .fail) else .fail
  |none=>match p.a with
   | .prow s v fo sz i off=>(toVal t x).bind fun r=>if r.2.contains s=true then .fail else (qbX r.2).bind fun fz=>(.get s fun en=>if en.1=v then (match en.2.rowAt fo with
    |some (et,⟨e,xs⟩)=>if e.size=sz then (match e.upd (qh xs i e.dflt) off t r.1 with
     |some y=>(match en.2.swapRow (.own et e (qbN xs i y)) fo with
      |some a=>okE (fz++[⟨s,false,a⟩])
      |none=> .fail)
     |none=> .fail) else .fail
    |none=> .fail) else .fail)
   | .parr s v off n e i o2=>(toVal t x).bind fun r=>if r.2.isEmpty then (.get s fun en=>if vOk en.1 v=true then (match en.2 with
    | .box c=>(match c.get off (.arr n e) with
     |some (xs,false)=>(match e.upd (qh xs i e.dflt) o2 t r.1 with
      |some y=>(match c.put off (.val (.arr n e) (qbN xs i y)) with
       |some c'=>okE [⟨s,true,.box c'⟩]
       |none=> .fail)
      |none=> .fail)
     |_=> .fail)
    |_=> .fail) else .fail) else .fail
   |_=> .fail
def qvC (o:Oper) (off:Nat) (p:Op1):Q Eff:=
 match qgL p with
 |some (s,v,b)=> .get s fun en=>if vOk en.1 v=true then okE (qbV o (qsF s (b+off) v)) else .fail
 |none=>match p.a with
  | .prow s v fo sz i b=> .get s fun en=>if en.1=v then okE (qbV o (.prow s v fo sz i (b+off))) else .fail
  | .view t x b=>okE (qbV o (.view t x (b+off)))
  | .parr s v b n e i o2=> .get s fun en=>if vOk en.1 v=true then okE (qbV o (.parr s v b n e i (o2+off))) else .fail
  |_=> .fail
def qm4 (E:Env) (o:Oper) (tid:Nat) (x ix:Op1):Q Eff:=
 (qkM ix).bind fun i=>match E.ty tid with
  |some (.slice e0)=>match x.s,x.a with
   |some s,.own _ e xs=>if e.size=e0.size then .ret ⟨qbV o (.prow s x.v none e.size i.2 0),[inB i.2 (qn xs)]⟩ else .fail
   |_,.ref s v=> .get s fun en=>if en.1=v then (match en.2 with
    | .own _ e xs=>if e.size=e0.size then .ret ⟨qbV o (.prow s v none e.size i.2 0),[inB i.2 (qn xs)]⟩ else .fail
    | .val (.slice e) xs=>if e.size=e0.size then .ret ⟨qbV o (.view e (qh xs i.2 e.dflt) 0),[inB i.2 (qn xs)]⟩ else .fail
    |_=> .fail) else .fail
   |_,.val (.slice e) xs=>if e.size=e0.size then .ret ⟨qbV o (.view e (qh xs i.2 e.dflt) 0),[inB i.2 (qn xs)]⟩ else .fail
   |_,.bref s v off u=>if u.agg=false then .get s fun en=>if en.1=v then (match en.2.rowAt (some off) with
    |some (_,⟨e,xs⟩)=>if e.size=e0.size then .ret ⟨qbV o (.prow s v (some off) e.size i.2 0),[inB i.2 (qn xs)]⟩ else .fail
    |none=> .fail) else .fail else .fail
   |_,_=> .fail
  |some (.arr n e0)=>if n<2 then .fail else (match qgL x with
   |some (s,v,b)=> .get s fun en=>if vOk en.1 v=true then .ret ⟨qbV o (.parr s v b n e0 i.2 0),[inB i.2 n]⟩ else .fail
   |none=>(match x.a with
    | .view t y off=>(match t.sub y off (.arr n e0) with
     |some ys=> .ret ⟨qbV o (.view e0 (qh ys i.2 e0.dflt) 0),[inB i.2 n]⟩
     |none=> .fail)
    |_=> .fail))
  |_=> .fail
def qg7 (b:Option Op1) (d:Int):Q Int:=match b with
 |some b=>(qkM b).bind fun i=> .ret i.2
 |none=> .ret d
structure Site where
 s:Nat
 v:Nat
 fo:Option Nat
 et:Nat
 e:Ty
 xs:List e.den
def qtr (x:Op1):Q Site:=match x.s,x.a with
 |some s,.own et e xs=> .ret ⟨s,x.v,none,et,e,xs⟩
 |_,.ref s v=> .get s fun en=>if en.1=v then (match en.2 with
  | .own et e xs=> .ret ⟨s,v,none,et,e,xs⟩
  |_=> .fail) else .fail
 |_,.bref s v off u=>if u.agg=false then .get s fun en=>if en.1=v then (match en.2.rowAt (some off) with
  |some r=> .ret ⟨s,v,some off,r.1,r.2.1,r.2.2⟩
  |none=> .fail) else .fail else .fail
 |_,_=> .fail
def qlq (E:Env) (o:Oper) (tid:Nat) (x:Op1) (lo hi:Option Op1):Q Eff:=
 (qmg x).bind fun r=>match r with
 |⟨.str,xs,_⟩=>(qg7 lo 0).bind fun l=>(qg7 hi (qn xs)).bind fun h=>
  if E.ty tid=some .str then .ret ⟨qbV o (.val .str (qau xs l h)),[inS l h (qn xs)]⟩ else .fail
 |⟨.slice e,xs,[]⟩=>(qg7 lo 0).bind fun l=>(qg7 hi (qn xs)).bind fun h=>
  if E.ty tid=some (.slice e) then .ret ⟨qbV o (.val (.slice e) (qau xs l h)),[inS l h (qn xs)]⟩ else .fail
 |⟨.slice _,_,_::_⟩=>(qtr x).bind fun q=>(qg7 lo 0).bind fun l=>(qg7 hi (qn q.xs)).bind fun h=>
  if E.ty tid=some (.slice q.e) then .ret ⟨qbV o (.osl q.s q.v q.fo q.e.size l h),[inS l h (qn q.xs)]⟩ else .fail
 |_=> .fail
def qtx (E:Env) (o:Oper) (tid:Nat) (x:Op1) (s v d:Nat) (hi:Option Op1):Q Eff:=
 .get s fun en=>if en.1=v then (match en.2 with
  | .own et e xs=>if d≠s∧E.ty tid=some (.slice e) then (qg7 hi (qn xs)).bind fun h=> .ret ⟨[⟨s,true,.undef⟩,⟨d,true,.own et e (qau xs 0 h)⟩],[inS 0 h (qn xs)]⟩ else .fail
  |_=>qlq E o tid x none hi) else .fail
def cutE (E:Env) (o:Oper) (tid:Nat) (x:Op1) (hi:Option Op1):Option (Q Eff):=
 match x.s,x.a,o.dst with
 |some s,.own et e xs,some d=>if d≠s∧E.ty tid=some (.slice e) then some ((qg7 hi (qn xs)).bind fun h=> .ret ⟨[⟨s,true,.undef⟩,⟨d,true,.own et e (qau xs 0 h)⟩],[inS 0 h (qn xs)]⟩) else none
 |_,.nilr et e,_=>if E.ty tid=some (.slice e) then some ((qg7 hi 0).bind fun h=> .ret ⟨qbV o (.nilr et e),[inS 0 h 0]⟩) else none
 |_,.ref s v,some d=>some (qtx E o tid x s v d hi)
 |_,_,_=>none
def qaZ:Ty→List Nat
 | .pair a b=>a.size::qaZ b
 |_=>[]
def qqN (a b:Ty):BC→Option (BC×BC)
 | .pair c d=>if c.size=a.size then some (c,d) else none
 | .val (.pair a' b') x=>if a'.size=a.size then some (.val a' x.1,.val b' x.2) else none
 |_=>none
def qhY (z:BC) (t:Ty) (i:Nat):List (Nat×Op1)→Q (BC×List Nat)
 |ps=>match t with
  | .pair a b=>(match qqN a b z with
   |some (za,zb)=>(match ps.find? (fun p=>p.1 == i) with
    |some p=>(qhs a p.2).bind fun c=>if c.2.1.isEmpty then (qhY zb b (i+1) ps).bind fun r=> .ret (pairBC c.1 r.1,c.2.2.map (·.s)++r.2) else .fail
    |none=>(qhY zb b (i+1) ps).bind fun r=> .ret (pairBC za r.1,r.2))
   |none=> .fail)
  | .unit=> .ret (.val .unit (),[])
  |_=> .fail
where
 pairBC:BC→BC→BC
  | .val a x,.val b y=> .val (.pair a b) (x,y)
  |c,d=> .pair c d
def qi7 (e:Ty):Nat→List Op1→Q (List e.den×List Nat)
 |0,[]=> .ret ([],[])
 |n+1,o::os=>(toVal e o).bind fun x=>(qi7 e n os).bind fun r=> .ret (x.1::r.1,x.2++r.2)
 |_,_=> .fail
def qj2:Nat→List (Nat×Op1)→Bool
 |_,[]=>true
 |i,p::ps=>p.1 == i&&qj2 (i+1) ps
def qq1 (c:BC):AV:=
 match c with
 | .val t x=> .val t x
 |c=> .agg c
def qjz (E:Env) (p:qhl) (tid:Nat→Nat):List (Nat×Operand)→Q (List (Nat×Op1))
 |[]=> .ret []
 |(i,x)::r=>(opd E p (tid i) x).bind fun a=>(qjz E p tid r).bind fun q=> .ret ((i,a)::q)
def convE (E:Env) (o:Oper) (src dst:Nat) (x:Op1):Q Eff:=
 match E.ty src,E.ty dst with
 |some (.int _),some (.int k)=>(qkM x).bind fun n=>okE (qbV o (.val (.int k) (qcr k n.2)))
 |some .str,some .str=>(toVal .str x).bind fun s=>okE (qbV o (.val .str s.1))
 |some (.slice (.int .u8)),some .str=>if E.ty (E.etid src)=some (.int .u8) then ((toVal (.slice (.int .u8)) x).bind fun s=>okE (qbV o (.val .str (qui s.1)))) else .fail
 |some .str,some (.slice (.int .u8))=>if E.ty (E.etid dst)=some (.int .u8) then ((toVal .str x).bind fun s=>okE (qbV o (.val (.slice (.int .u8)) (qeL s.1)))) else .fail
 |_,_=> .fail
def qrZ (op:BinOp) (y:Operand):Bool:=match op,y with
 | .eql,.const (.slice none 0 0)=>true
 | .neq,.const (.slice none 0 0)=>true
 |_,_=>false
def qpS (op:BinOp) (y:Operand):Bool:=match op,y with
 | .eql,.const .nilIface=>true
 | .neq,.const .nilIface=>true
 |_,_=>false
def qti:Option Ty→Bool
 |some .err=>true
 |_=>false
def qp2 (op:BinOp) (y:Operand):Bool:=match op,y with
 | .eql,.const (.pointer none)=>true
 | .neq,.const (.pointer none)=>true
 |_,_=>false
def qrP:Option Ty→Bool
 |some (.opt _)=>true
 |_=>false
def qn8:Option Ty→Bool
 |some (.slice _)=>true
 |_=>false
def qif:BinOp→Bool
 | .eql=>true
 |_=>false
structure MV where
 s:Nat
 k:Ty
 v:Ty
 xs:List (k.den×v.den)
def qrD (o:Op1):Q MV:=
 match o.s,o.a with
 |some s,.mp k v xs=> .ret ⟨s,k,v,xs⟩
 |_,.ref s v=> .get s fun en=>if en.1=v then (match en.2 with
  | .mp k v xs=> .ret ⟨s,k,v,xs⟩
  |_=> .fail) else .fail
 |_,_=> .fail
def qtd (E:Env) (o:Oper) (t:Nat) (m k:Op1) (ok:Bool):Q Eff:=
 (qrD m).bind fun M=>(toVal M.k k).bind fun q=>if E.ty t=some (.map M.k M.v) then (match ok with
  |false=>okE (qbV o (.val M.v (qhn M.xs q.1 M.v.dflt)))
  |true=>okE (qbV o (.tup [.val M.v (qhn M.xs q.1 M.v.dflt),.val .bool (quI M.xs q.1)]))) else .fail
def qmS (E:Env) (t:Nat) (m k x:Op1):Q Eff:=
 (qrD m).bind fun M=>(toVal M.k k).bind fun q=>(toVal M.v x).bind fun r=>if E.ty t=some (.map M.k M.v)∧M.s∉r.2 then
  (if M.v.flat then Q.ret [] else qbX r.2).bind fun fz=>okE (fz++[⟨M.s,false,.mp M.k M.v (qmh M.xs q.1 r.1)⟩]) else .fail
def qqG (E:Env) (o:Oper) (t:Nat):Q Eff:=
 match E.ty t with
 |some (.map k v)=>okE (qbV o (.mp k v []))
 |_=> .fail
def qee (E:Env) (p:qhl) (o:Oper):Q Eff:=
 match o.op with
 | .move x=>(opd E p o.type x).bind fun x=>qsW E.pins o false x
 | .assign x=>(opd E p o.type x).bind fun x=>qsW E.pins o true x
 | .pick c a b=>(opd E p 0 c).bind fun cv=>(qmg cv).bind fun cr=>match cr with
  |⟨.bool,bc,_⟩=>
   (opd E (qpx c cv.v true bc p) o.type a).bind fun a=>(qmg a).bind fun ar=>(opd E (qpx c cv.v false bc p) o.type b).bind fun b=>(qmg b).bind fun br=>
    match Ty.as (t:=br.t) ar.t br.x with
    |some y=>if ar.ow.isEmpty&&br.ow.isEmpty then okE (qbV o (.val ar.t (bif bc then ar.x else y))) else .fail
    |none=> .fail
  |_=> .fail
 | .alloc t=>match E.zero t with
  |some c=>okE (qbV o (.box c))
  |none=> .fail
 | .box t x=>(opd E p t x).bind fun x=>boxE E o t x
 | .build t parts=>(qjz E p (fun _=>0) parts.toList).bind fun ps=>match E.ty t with
  |some (.arr n e)=>if qj2 0 ps&&(decide (0<n * e.size)&&decide ((E.zero t).map BC.size=some (n * e.size))) then (qi7 e n (ps.map (·.2))).bind fun r=>(if e.flat then Q.ret [] else qbX r.2).bind fun fz=>okE (fz++qbV o (.val (.arr n e) r.1)) else .fail
  |some T=>(qhY (if E.ownz=true then (E.zero t).getD (.val T T.dflt) else .val T T.dflt) T 0 ps).bind fun r=>(match o.dst with
   |some d=>if qjw (d::r.2)&&qjw (ps.map (·.1))&&ps.all (fun q=>decide (q.1<(qaZ T).length)) then okE (r.2.map (fun s=>⟨s,true,.undef⟩)++[⟨d,true,qq1 r.1⟩]) else .fail
   |none=> .fail)
  |none=> .fail
 | .buildSlice t n parts=>(qjz E p (fun _=>E.etid t) parts.toList).bind fun ps=>match E.ty t with
  |some (.slice e)=>if n=0∧parts.size=0 then okE (qbV o (.own (E.etid t) e [])) else if qj2 0 ps&&decide (n * e.size≤16777216)&&decide (0<n * e.size) then (qi7 e n (ps.map (·.2))).bind fun r=>(if e.flat then Q.ret [] else qbX r.2).bind fun fz=>okE (fz++qbV o (.own (E.etid t) e r.1)) else .fail
  |_=> .fail
 | .load t a=>(opd E p 0 a).bind fun a=>qvx E o t a
 | .store t a x=>if o.dst.isSome then .fail else (opd E p 0 a).bind fun a=>(opd E p t x).bind fun x=>qsP E t a x
 | .nilCheck x=>(opd E p 0 x).bind fun x=>match qgL x with
  |some (s,v,off)=> .get s fun en=>if vOk en.1 v=true then okE (qbV o (qsF s off v)) else .fail
  |none=>match x.a with
   | .prow s v fo sz i b=> .get s fun en=>if en.1=v then okE (qbV o (.prow s v fo sz i b)) else .fail
   | .view t y b=>okE (qbV o (.view t y b))
   | .val (.opt e) y=> .ret ⟨qbV o (.view e (qp y e.dflt) 0),[qw y]⟩
   |_=> .fail
 | .binOp op t x y _=>if qrZ op y&&qn8 (E.ty t) then (opd E p t x).bind fun x=>(qmg x).bind fun x=>(match x with
   |⟨.slice _,xs,_⟩=>okE (qbV o (.amb (qif op) (eqI (qn xs) 0)))
   |_=> .fail) else if qpS op y&&qti (E.ty t) then (opd E p t x).bind fun x=>(qmg x).bind fun x=>(match x with
   |⟨.err,b,_⟩=>okE (qbV o (.val .bool (bif qif op then b else !b)))
   |_=> .fail) else if qp2 op y&&qrP (E.ty t) then (opd E p t x).bind fun x=>(qmg x).bind fun x=>(match x with
   |⟨.opt _,z,_⟩=>okE (qbV o (.val .bool (bif qif op then !(qw z) else qw z)))
   |_=> .fail) else (opd E p t x).bind fun x=>(opd E p t y).bind fun y=>(qmg x).bind fun x=>(qmg y).bind fun y=>match binE E op t x y with
  |some (a,c)=> .ret ⟨qbV o a,c⟩
  |none=> .fail
 | .unOp op _ x=>(opd E p o.type x).bind fun x=>(qmg x).bind fun x=>match unE op x with
  |some a=>okE (qbV o a)
  |none=> .fail
 | .convert s d x=>(opd E p s x).bind fun x=>convE E o s d x
 | .slice t x lo hi none=>(opd E p t x).bind fun x=>match lo,hi with
  |none,none=>(match cutE E o t x none with
   |some q=>q
   |none=>qlq E o t x none none)
  |some l,none=>(opd E p 0 l).bind fun l=>qlq E o t x (some l) none
  |none,some h=>(opd E p 0 h).bind fun h=>(match cutE E o t x (some h) with
   |some q=>q
   |none=>qlq E o t x none (some h))
  |some l,some h=>(opd E p 0 l).bind fun l=>(opd E p 0 h).bind fun h=>qlq E o t x (some l) (some h)
 | .fieldAddr t x f=>(opd E p 0 x).bind fun x=>match E.off t f with
  |some off=>qvC o off x
  |none=> .fail
 | .field t x f=>(opd E p t x).bind fun x=>match E.ty t,E.off t f,E.ty (E.fty t f) with
  |some t,some off,some u=>(toVal t x).bind fun r=>match t.sub r.1 off u with
   |some y=>(if u.flat then Q.ret [] else qbX r.2).bind fun fz=>okE (fz++qbV o (.val u y))
   |none=> .fail
  |_,_,_=> .fail
 | .indexAddr t x ix=>(opd E p t x).bind fun x=>(opd E p 0 ix).bind fun ix=>qm4 E o t x ix
 | .index t x ix=>(opd E p t x).bind fun x=>(opd E p 0 ix).bind fun ix=>(qkM ix).bind fun i=>(qmg x).bind fun r=>match r with
  |⟨.str,xs,_⟩=>if E.ty t=some .str then .ret ⟨qbV o (.val (.int .u8) (qcc (qh xs i.2 0))),[inB i.2 (qn xs)]⟩ else .fail
  |⟨.arr n e,xs,[]⟩=>if E.ty t=some (.arr n e)∧E.ty (E.etid t)=some e then .ret ⟨qbV o (.val e (qh xs i.2 e.dflt)),[inB i.2 n]⟩ else .fail
  |_=> .fail
 | .extract x i=>match x with
  | .tmp t=> .get t fun en=>match qbM p en.2 with
   | .tup cs=>match cs[i]? with
    |some (.val t x)=>okE (qbV o (.val t x))
    |some (.own et e xs)=>(match o.dst with
     |some d=>if d=t then .fail else okE [⟨t,true,.tup (cs.set i .gone)⟩,⟨d,true,.own et e xs⟩]
     |none=> .fail)
    |_=> .fail
   |_=> .fail
  |_=> .fail
 | .makeSlice t l c=>(opd E p 0 l).bind fun l=>(opd E p 0 c).bind fun c=>(qkM l).bind fun n=>(qkM c).bind fun m=>match E.ty t with
  |some (.slice e)=>if E.bytes (E.etid t)≠0 then .ret ⟨qbV o (.own (E.etid t) e (qqY n.2 e.dflt)),[leI 0 n.2,leI n.2 m.2,quZ m.2 (E.bytes (E.etid t))]⟩ else .fail
  |_=> .fail
 | .makeMap t r=>if r.isNone then qqG E o t else .fail
 | .lookup t m k ok=>(opd E p 0 m).bind fun m=>(opd E p 0 k).bind fun k=>qtd E o t m k ok
 | .mapUpdate t m k x=>if o.dst.isSome then .fail else (opd E p 0 m).bind fun m=>(opd E p 0 k).bind fun k=>(opd E p (E.etid t) x).bind fun x=>qmS E t m k x
 | .makeFunc fn first caps=>match fn with
  | .func f=>if first.isEmpty then cloE E o f caps.toList else .fail
  |_=> .fail
 | .call c=>match c.callee with
  | .builtin b=>(opds E p c.args.toList c.argTypes.toList).bind fun os=>qnd E o b c.argTypes.toList os
  | .value f=>match f with
   | .func f=>(match E.fn f with
    |some C=>(opds E p c.args.toList c.argTypes.toList).bind fun os=>qvI E o C os
    |none=> .fail)
   | .tmp t=> .get t fun e=>(match qbM p e.2 with
    | .fnv ts us φ=>(opds E p c.args.toList c.argTypes.toList).bind fun os=>qu8 E o ts us φ os
    |_=> .fail)
   |_=> .fail
  |_=> .fail
 |_=> .fail
def qqc:List (Nat×Nat)→Q Unit
 |[]=> .ret ()
 |m::r=> .get m.1 fun en=>if m.2≤en.1 then qqc r else .fail
def qkf (s:Nat):List U→Nat
 |[]=>0
 |u::r=>match u.s == s&&u.bump with
  |true=>qkf s r+1
  |false=>qkf s r
def qqC (d:List Nat) (u:U):Bool:=match u.a with
 | .box _=> !d.contains u.s
 |_=>false
def qfJ (us:List U) (d:List Nat):List Nat→Q (List U)
 |[]=> .ret []
 |t::r=> .get t fun e=>match e.2 with
  | .pbox s v off=>if us.any (fun u=>u.s == s&&qqC d u)&& !us.any (fun u=>u.s == t)&& !d.contains s&& !d.contains t&&s != t then .get s fun e2=>(match e2.2 with
    | .box _=>if e2.1=v then (qfJ us d r).bind fun l=> .ret (⟨t,true,.pbox s (v+qkf s us) off⟩::l) else qfJ us d r
    |_=>qfJ us d r) else qfJ us d r
  |_=>qfJ us d r
def qnO (E:Env) (o:Oper) (f:Eff):Q Eff:=match E.rf with
 |[]=> .ret f
 |l=>if f.upd.any (qqC o.dst.toList) then (qfJ f.upd o.dst.toList l).bind fun us=> .ret ⟨f.upd++us,f.chk⟩ else .ret f
def qis (E:Env) (g:Option (Nat×Bool)) (o:Oper):Q Eff:=
 match g with
 |none=>(qee E [] o).bind fun f=>qnO E o f
 |some (s,w)=>(qdI 8 s w).bind fun p=>(qee E p o).bind fun f=>match f.upd,o.dst,p with
  |[⟨d,true,a⟩],some d',(s',v',w',_)::_=>if d=d'∧a.freeze.unowned=true∧a.freeze.isUndef=false∧p.all (fun q=>q.1 != d)=true then (qqc a.freeze.mentions).bind fun _=> .ret ⟨[⟨d,true,.grd s' v' w' a.freeze⟩],f.chk.map fun c=> !(qml p)||c⟩ else .fail
  |_,_,_=> .fail
def qR (σ:St) (u:U):St:=σ.set u.s ((if u.bump then (qt σ u.s).1+1 else (qt σ u.s).1),u.a)
def qr (σ:St) (us:List U):St:=us.foldl qR σ
def qf6 (ops:Array Oper) (o:Oper):Option (Option (Nat×Bool)):=
 match o.guard with
 |none=>some none
 |some (j,w)=>match (ops[j]?).bind (·.dst) with
  |some d=>some (some (d,w))
  |none=>none
structure qeY where
 rd:List Nat
 us:List U
def qeY.wr (f:qeY):List Nat:=f.us.map (·.s)
def qdv (E:Env) (wr:List Nat) (ops:Array Oper):List Oper→St→List Bool→List qeY→Option (St×List Bool×List qeY)
 |[],σ,c,fs=>some (σ,c,fs)
 |o::r,σ,c,fs=>match qf6 ops o with
  |none=>none
  |some g=>match (qis E g o).run (qt σ) with
   |none=>none
   |some f=>if f.upd.all (fun u=>wr.contains u.s&&decide (u.s<σ.length)) then
     qdv E wr ops r (qr σ f.upd) (c++f.chk) ({ rd:=(qis E g o).log (qt σ),us:=f.upd } ::fs)
    else none
def qb0 (o:Oper):List Nat:=(o.after.toList.filter (Region.binds .any)).map (·.on)
def qhP (ms:List Nat) (es:List Nat):Nat:=es.foldl (fun m j=>m|||(1 <<< j)|||ms.getD j 0) 0
def qe6 (f g:qeY):Bool:=apart f.wr (g.rd++g.wr)&&apart g.wr f.rd
def qnq (m:Nat) (f:qeY):Nat→List qeY→Bool
 |_,[]=>true
 |j,g::r=>(m.testBit j||qe6 f g)&&qnq m f (j+1) r
def qiw:List Oper→List qeY→List Nat→List qeY→Bool
 |[],[],_,_=>true
 |o::os,f::fs,ms,done=>(qb0 o).all (fun j=>decide (j<ms.length))&&(qnq (qhP ms (qb0 o)) f 0 done&&qiw os fs (ms++[qhP ms (qb0 o)]) (done++[f]))
 |_,_,_,_=>false
def qgp:AV→Bool
 | .own _ _ _=>true
 |_=>false
def qiY (o:Oper):Option Nat:=match o.guard,o.op with
 |none,.move (.tmp s)=>some s
 |_,_=>none
def qqJ (σ:St) (fl:List qeY) (s:Nat):Bool:=qgp (qt σ s).2&&fl.all (fun f=>f.us.all (fun u=>u.s != s||(!u.bump&&qgp u.a)))
def qi9 (σ:St) (fl:List qeY):List Oper→List qeY→List qeY
 |o::os,f::fs=>(match qiY o with
  |some s=>if qqJ σ fl s=true then { f with rd:=[] } else f
  |none=>f)::qi9 σ fl os fs
 |_,_=>[]
def qdp (E:Env) (wr:List Nat) (ops:Array Oper) (draw:Bool) (σ:St):Option (St×List Bool×List Nat):=
 match qdv E wr ops ops.toList σ [] [] with
 |some (σ',c,fs)=>if !draw||qiw ops.toList (qi9 σ fs.reverse ops.toList fs.reverse) [] [] then some (σ',c,fs.flatMap (·.wr)) else none
 |none=>none
inductive qdX where
 |val (t:Ty)
 |own (et:Nat) (e:Ty)
 |pair (a b:qdX)
 |hole (n:Nat)
inductive qfi where
 |val (t:Ty)
 |own (et:Nat) (e:Ty)
 |box (b:qdX)
 |mp (k v:Ty)
@[reducible] def qdX.den:qdX→Type
 | .val t=>t.den
 | .own _ e=>List e.den
 | .pair a b=>a.den×b.den
 | .hole _=>Unit
@[reducible] def qfi.den:qfi→Type
 | .val t=>t.den
 | .own _ e=>List e.den
 | .box b=>b.den
 | .mp k v=>List (k.den×v.den)
def qdX.un:(b:qdX)→b.den→BC
 | .val t,x=> .val t x
 | .own et e,xs=> .own et e xs
 | .pair a b,x=> .pair (a.un x.1) (b.un x.2)
 | .hole n,_=> .hole n
def qfi.un:(s:qfi)→s.den→AV
 | .val t,x=> .val t x
 | .own et e,xs=> .own et e xs
 | .box b,x=> .box (b.un x)
 | .mp k v,xs=> .mp k v xs
def BC.toVal:(t:Ty)→BC→Option t.den
 |t,.val u x=>Ty.as (t:=u) t x
 | .pair a b,.pair c d=>match BC.toVal a c,BC.toVal b d with
  |some x,some y=>some (x,y)
  |_,_=>none
 |_,_=>none
def BC.toShape:(b:qdX)→BC→Option b.den
 | .val t,c=>c.toVal t
 | .own et e,.own et' e' xs=>if et=et' then Ty.as (t:= .slice e') (.slice e) xs else none
 | .pair a b,.pair c d=>match BC.toShape a c,BC.toShape b d with
  |some x,some y=>some (x,y)
  |_,_=>none
 | .hole n,.hole m=>if n=m then some () else none
 |_,_=>none
def AV.toShape:(s:qfi)→AV→Option s.den
 | .val t,.val u x=>Ty.as (t:=u) t x
 | .own et e,.own et' e' xs=>if et=et' then Ty.as (t:= .slice e') (.slice e) xs else none
 | .box b,.box c=>c.toShape b
 | .mp k v,.mp k' v' xs=>if h:k'=k∧v'=v then some (h.1 ▸ h.2 ▸ xs) else none
 |_,_=>none
structure qnK where
 id:Nat
 wr:List Nat
 live:List (Nat×qfi)
structure qu2 where
 loops:List qnK
 lets:List (Nat×List Nat)
 frz:List (Nat×List Nat)
@[reducible] def liveDen:List (Nat×qfi)→Type
 |[]=>Unit
 |p::r=>p.2.den×liveDen r
def qpu:(l:List (Nat×qfi))→St→Option (liveDen l)
 |[],_=>some ()
 |p::r,σ=>match (qt σ p.1).2.toShape p.2,qpu r σ with
  |some x,some y=>some (x,y)
  |_,_=>none
def qfZ:(l:List (Nat×qfi))→liveDen l→St→St
 |[],_,σ=>σ
 |p::r,x,σ=>qfZ r x.2 (σ.set p.1 ((qt σ p.1).1,p.2.un x.1))
def qf4 (A:qnK) (σ:St) (p:liveDen A.live):St:=
 qfZ A.live p (A.wr.foldl (fun σ s=>σ.set s ((qt σ s).1+1,.undef)) σ)
def qic (l:List Nat) (σ:St):St:=l.foldl (fun σ s=>qR σ ⟨s,false,(qt σ s).2.freeze⟩) σ
def qhC:Code→Option Nat
 | .region id _ _=>some id
 | .seq a b=>(qhC a).orElse fun _=>qhC b
 | .cond _ a b=>(qhC a).orElse fun _=>qhC b
 | .block _ a=>qhC a
 | .loop a=>qhC a
 |_=>none
def calm (ops:Array Oper):Bool:=ops.toList.all fun o=>match o.op with
 | .panic _=>false
 |_=>true
def qmN:Code→Bool
 | .skip=>true
 | .region _ ops _=>calm ops
 | .seq a b=>qmN a&&qmN b
 | .cond _ a b=>qmN a&&qmN b
 |_=>false
def qgm (b:Bool) (x y:AV):AV:=
 match x,y with
 | .val t x,.val u y=>match Ty.as (t:=u) t y with
  |some y=> .val t (bif b then x else y)
  |none=> .undef
 | .own et e xs,.own et' e' ys=>if et=et' then (match Ty.as (t:= .slice e') (.slice e) ys with
  |some ys=> .own et e (bif b then xs else ys)
  |none=> .undef) else .undef
 | .box c,.box d=>match joinB b c d with
  |some r=> .box r
  |none=> .undef
 | .mp k v xs,.mp k' v' ys=>if h:k'=k∧v'=v then .mp k v (bif b then xs else (h.1 ▸ h.2 ▸ ys:List (k.den×v.den))) else .undef
 | .nilr et e,.own et' e' ys=>if et=et' then (match Ty.as (t:= .slice e') (.slice e) ys with
  |some ys=> .own et e (bif b then [] else ys)
  |none=> .undef) else .undef
 | .own et e xs,.nilr et' e'=>if et=et'∧e=e' then .own et e (bif b then xs else []) else .undef
 | .nilr et e,.nilr et' e'=>if et=et'∧e=e' then .nilr et e else .undef
 |_,_=> .undef
where
 joinB (b:Bool):BC→BC→Option BC
  | .val t x,.val u y=>match Ty.as (t:=u) t y with
   |some y=>some (.val t (bif b then x else y))
   |none=>none
  | .own et e xs,.own et' e' ys=>if et=et' then (match Ty.as (t:= .slice e') (.slice e) ys with
   |some ys=>some (.own et e (bif b then xs else ys))
   |none=>none) else none
  | .pair a c,.pair a' c'=>match joinB b a a',joinB b c c' with
   |some x,some y=>if a.size=a'.size then some (.pair x y) else none
   |_,_=>none
  | .hole n,.hole m=>if n=m then some (.hole n) else none
  |_,_=>none
def qkz (b:Bool) (ds:List Nat) (σ σ1 σ2:St):St:=
 ds.foldl (fun τ s=>τ.set s (max (qt σ1 s).1 (qt σ2 s).1+1,qgm b (qt σ1 s).2 (qt σ2 s).2)) σ
def mism (x y:AV):Bool:=
 match x,y with
 | .own _ _ _,.val _ _=>true
 | .box c,.box d=>(qgm.joinB true c d).isNone
 |_,_=>false
def qmt (σ1 σ2:St):List Nat→List Nat
 |[]=>[]
 |s::r=>match mism (qt σ1 s).2 (qt σ2 s).2 with
  |true=>s::qmt σ1 σ2 r
  |false=>qmt σ1 σ2 r
def joinFz (b:Bool) (ds:List Nat) (σ σ1 σ2:St):St:=qkz b ds σ (qic (qmt σ1 σ2 ds) σ1) (qic (qmt σ2 σ1 ds) σ2)
def qgT (σ:St):List (Nat×qfi)→List Nat
 |[]=>[]
 |p::r=>match ((qt σ p.1).2.toShape p.2).isNone with
  |true=>p.1::qgT σ r
  |false=>qgT σ r
def fixL (l:List (Nat×qfi)) (σ:St):St:=qic (qgT σ l) σ
def qu1:List Bool→Bool
 |[]=>true
 |[a]=>a
 |a::r=>a&&qu1 r
def qp4 (b:Bool) (c d:List Bool):List Bool:=match c,d with
 |[],[]=>[]
 |c,d=>[bif b then qu1 c else qu1 d]
def andThen {R:Type} (c:List Bool) (r:Option R):Option R:=match c with
 |[]=>r
 |c=>bif qu1 c then r else none
def qfD:List (Nat×List Nat)→Option Nat→List Nat
 |_,none=>[]
 |[],_=>[]
 |(i,l)::r,some j=>match decEq i j with
  |isTrue _=>l
  |isFalse _=>qfD r (some j)
def qlK (σ:St) (s:Nat):St:=match (qt σ s).2 with
 | .box (.val t x)=>qR σ ⟨s,true,.view t x 0⟩
 |_=>σ
def qnc (l:List Nat) (σ:St):St:=l.foldl qlK σ
def regE (E:Env) (frz:List (Nat×List Nat)) (wr:List Nat) (id:Nat) (ops:Array Oper) (d:Bool) (σ:St):Option (St×List Bool×List Nat):=
 match qfD frz (some id) with
 |[]=>qdp E wr ops d σ
 |fz=>if fz.all wr.contains&&(qfD frz (some (id+2000000000))).all fz.contains then (match qdp E wr ops d (qnc (qfD frz (some (id+2000000000))) (qic fz σ)) with
  |some (σ',c,ds)=>some (σ',c,fz++ds)
  |none=>none) else none
def qri (E:Env) (frz:List (Nat×List Nat)) (wr:List Nat):Code→St→Option (St×List Bool×List Nat)
 | .skip,σ=>some (σ,[],[])
 | .region id ops d,σ=>regE E frz wr id ops d σ
 | .seq a b,σ=>match qri E frz wr a σ with
  |some (σ1,c1,d1)=>match qri E frz wr b σ1 with
   |some (σ2,c2,d2)=>some (σ2,c1++c2,d1++d2)
   |none=>none
  |none=>none
 | .cond c a b,σ=>match Q.run (qt σ) ((opd E [] 0 c).bind qmg) with
  |some ⟨.bool,x,_⟩=>match qri E frz wr a σ,qri E frz wr b σ with
   |some (σ1,c1,d1),some (σ2,c2,d2)=>some (joinFz x (d1++d2) σ σ1 σ2,qp4 x c1 c2,d1++d2)
   |_,_=>none
  |_=>none
 |_,_=>none
structure K (R:Type) where
 n:St→Option R
 e:Nat→St→Option R
 r:St→Option R
def qfE {R:Type} :List Nat→St→(St→Option R)→Option R
 |[],σ,k=>k σ
 |s::r,σ,k=>match qt σ s with
  |(v,.val t x)=>qW x fun y=>qfE r (σ.set s (v,.val t y)) k
  |(v,.own et e xs)=>qW xs fun ys=>qfE r (σ.set s (v,.own et e ys)) k
  |(v,.box (.val t x))=>qW x fun y=>qfE r (σ.set s (v,.box (.val t y))) k
  |_=>qfE r σ k
def qvc (c:Operand) (σ:St):Option (Bool×Bool):=match c with
 | .tmp t=>(match (qt σ t).2 with
  | .amb w m=>some (w,m)
  |_=>none)
 |_=>none
def qph (E:Env) (N:Nat) (anns:qu2) {R:Type} :Code→List Nat→St→K R→Option R
 | .skip,_,σ,k=>k.n σ
 | .region id ops d,wr,σ,k=>qfE (qfD anns.lets (some id)) σ fun σ=>match regE E anns.frz wr id ops d σ with
  |some (σ',c,_)=>andThen c (k.n σ')
  |none=>none
 | .seq a b,wr,σ,k=>qph E N anns a wr σ { k with n:=fun σ'=>qph E N anns b wr σ' k }
 | .cond c a b,wr,σ,k=>qfE (qfD anns.lets ((qhC (.cond c a b)).map (· +1000000))) σ fun σ=>match qvc c σ with
  |some (w,m)=>bif m then qtt (qph E N anns a wr σ k) (qph E N anns b wr σ k) else (match w with
   |true=>qph E N anns b wr σ k
   |false=>qph E N anns a wr σ k)
  |none=>match Q.run (qt σ) ((opd E [] 0 c).bind qmg) with
  |some ⟨.bool,x,_⟩=>
   if qmN a&&qmN b then (match qri E anns.frz wr (.cond c a b) σ with
    |some (σ',ch,_)=>andThen ch (k.n σ')
    |none=>none)
   else bif x then qph E N anns a wr σ k else qph E N anns b wr σ k
  |_=>none
 | .block id a,wr,σ,k=>qph E N anns a wr σ { k with e:=fun i σ'=>if i=id then k.n σ' else k.e i σ' }
 | .exit id,_,σ,k=>k.e id σ
 | .ret,_,σ,k=>k.r σ
 | .loop a,wr,σ,k=>match (qhC a).bind (fun id=>anns.loops.find? (fun A=>A.id == id)) with
  |some A=>if A.wr.all wr.contains&&A.live.all (fun p=>A.wr.contains p.1)&&qjw (A.live.map (·.1)) then (match qpu A.live (fixL A.live σ) with
    |some p=>qZ N (fun ih p=>qph E N anns a A.wr (qf4 A σ p) { k with n:=fun σ'=>match qpu A.live (fixL A.live σ') with
     |some q=>ih q
     |none=>none }) p
    |none=>none) else none
  |none=>none
 |_,_,_,_=>none
def qmK (pin:List Nat) (l:List Oper):Bool:=l.all fun o=>apart o.dst.toList pin
def qjS (pin:List Nat):Code→Bool
 | .region _ ops _=>qmK pin ops.toList
 | .seq a b=>qjS pin a&&qjS pin b
 | .cond _ a b=>qjS pin a&&qjS pin b
 | .block _ a=>qjS pin a
 | .loop a=>qjS pin a
 | .skip=>true
 | .exit _=>true
 | .ret=>true
 |_=>false
def qdH:List PM→Nat→List Nat
 |[],_=>[]
 | .io _::r,k=>k::qdH r (k+1)
 | .val _::r,k=>qdH r (k+1)
 | .own _ _::r,k=>qdH r (k+1)
 | .fn _ _::r,k=>qdH r (k+1)
 | .nil _ _::r,k=>qdH r (k+1)
 | .rd _::r,k=>qdH r (k+1)
 | .ior _ _::r,k=>k::qdH r (k+1)
def qcq:List PM→Nat→List Nat
 |[],_=>[]
 | .io _::r,k=>k::qcq r (k+1)
 | .val _::r,k=>qcq r (k+1)
 | .own _ _::r,k=>qcq r (k+1)
 | .fn _ _::r,k=>qcq r (k+1)
 | .nil _ _::r,k=>qcq r (k+1)
 | .rd _::r,k=>qcq r (k+1)
 | .ior _ _::r,k=>qcq r (k+1)
def qe3:List PM→Nat→List Nat
 |[],_=>[]
 | .ior _ _::r,k=>k::qe3 r (k+1)
 | .io _::r,k=>qe3 r (k+1)
 | .val _::r,k=>qe3 r (k+1)
 | .own _ _::r,k=>qe3 r (k+1)
 | .fn _ _::r,k=>qe3 r (k+1)
 | .nil _ _::r,k=>qe3 r (k+1)
 | .rd _::r,k=>qe3 r (k+1)
def qvy:(p:PM)→p.den→AV
 | .val t,x=> .val t x
 | .own et e,xs=> .own et e xs
 | .io t,x=> .box (.val t x)
 | .fn ps rs,φ=> .fnv ps rs φ
 | .nil et e,_=> .nilr et e
 | .rd t,x=> .view t x 0
 | .ior et e,xs=> .own et e xs
def qbO:(ps:List PM)→PMs.den ps→St
 |[],_=>[]
 |p::ps,x=>(0,qvy p x.1)::qbO ps x.2
def qfg (fn:Func) (ps:List PM) (x:PMs.den ps):St:=qbO ps x++List.replicate (fn.ntmps - ps.length) (0,.undef)
def qoZ (E:Env) (r:RM) (v:ResultVar):Q (r.den×List Nat):=
 match r,v with
 | .val u,.cell a t=> .get a fun en=>match en.2 with
  | .box c=>if E.ty t=some u∧c.size=u.size then (match c.get 0 u with
   |some (x,f)=> .ret (x,if f then [a] else [])
   |none=> .fail) else .fail
  |_=> .fail
 | .val t,.tmp s=> .get s fun en=>toVal t ⟨some s,en.1,en.2⟩
 | .own et e,.tmp s=> .get s fun en=>match en.2 with
  | .own et' e' xs=>if et=et' then (match Ty.as (t:= .slice e') (.slice e) xs with
   |some xs=> .ret (xs,[s])
   |none=> .fail) else .fail
  | .ref s' v=> .get s' fun en=>if en.1=v then (match en.2 with
   | .own et' e' xs=>if et=et' then (match Ty.as (t:= .slice e') (.slice e) xs with
    |some xs=> .ret (xs,[s'])
    |none=> .fail) else .fail
   |_=> .fail) else .fail
  |_=> .fail
 |_,_=> .fail
def qlj (E:Env):(rs:List RM)→List ResultVar→Q (RMs.den rs×List Nat×List Nat)
 |[],[]=> .ret ((),[],[])
 |r::rs,v::vs=>(qoZ E r v).bind fun x=>(qlj E rs vs).bind fun q=>match r with
  | .own _ _=> .ret ((x.1,q.1),x.2++q.2.1,q.2.2)
  | .val _=> .ret ((x.1,q.1),q.2.1,x.2++q.2.2)
 |_,_=> .fail
def qhD:(ps:List PM)→Nat→Q (PMs.ioDen ps)
 |[],_=> .ret ()
 | .io t::ps,s=> .get s fun en=>match en.2 with
  | .box c=>match (if c.size=t.size then c.get 0 t else none) with
   |some (x,_)=>(qhD ps (s+1)).bind fun r=> .ret (x,r)
   |none=> .fail
  |_=> .fail
 | .val _::ps,s=>qhD ps (s+1)
 | .own _ _::ps,s=>qhD ps (s+1)
 | .fn _ _::ps,s=>qhD ps (s+1)
 | .nil _ _::ps,s=>qhD ps (s+1)
 | .rd _::ps,s=>qhD ps (s+1)
 | .ior et e::ps,s=> .get s fun en=>match en.2 with
  | .own et' e' xs=>if et=et' then (match Ty.as (t:= .slice e') (.slice e) xs with
   |some x=>(qhD ps (s+1)).bind fun r=> .ret (x,r)
   |none=> .fail) else .fail
  |_=> .fail
def qoi (E:Env) (fn:Func) (ps:List PM) (rs:List RM) (σ:St):Option (RMs.den rs×PMs.ioDen ps):=
 match (qlj E rs fn.results.toList).run (qt σ),(qhD ps 0).run (qt σ) with
 |some (y,gone,ow),some z=>if qjw gone&&apart ow gone&&apart (gone++ow) (qe3 ps 0) then some (y,z) else none
 |_,_=>none
def kFin (E:Env) (fn:Func) (ps:List PM) (rs:List RM):K (RMs.den rs×PMs.ioDen ps):=
 { n:=qoi E fn ps rs,e:=fun _ _=>none,r:=qoi E fn ps rs }
def runF (E:Env) (N:Nat) (anns:qu2) (fn:Func) (ps:List PM) (rs:List RM) (x:PMs.den ps):Option (RMs.den rs×PMs.ioDen ps):=
 match fn.body with
 |some c=>if qjS (qdH ps 0) c&&decide (ps.length≤fn.ntmps) then qph { E with pins:=qcq ps 0,rf:=qfD anns.frz (some 1000000007) } N anns c (List.range fn.ntmps) (qfg fn ps x) (kFin E fn ps rs) else none
 |none=>none
end
end Go.Vi
