/- The arguments of a law read as data; a contract gives the law's end. -/
import Derived.Test.YtfcdfdnlgfebmaaGreatDoorViTab
import Derived.Carry
import Derived.OpenShut
import Derived.ChangeSame
import Derived.WideShapes
set_option linter.unusedVariables false
set_option linter.unusedSimpArgs false
set_option linter.unnecessarySimpa false
set_option linter.unusedSectionVars false
namespace Go.Vi
open Go.RowKit Go.WideShapes Go.ChangeShapes
def qnU (P:Program) (a:Nat→Bool) (sa:Nat) (b:List Field→Nat→Bool):List Field→Nat→Bool
 |f::r,off=>decide (f.offset=off)&&(decide (P.cellsOf f.type=sa)&&(a f.type&&b r (off+sa)))
 |[],_=>false
def qkb (P:Program):Ty→(Nat→Bool)×(List Field→Nat→Bool)
 | .int k=>(fun t=>match P.underlying t with
  |some (.int k')=>decide (k'=k)
  |_=>false,fun _ _=>false)
 | .bool=>(fun t=>match P.underlying t with
  |some .bool=>true
  |_=>false,fun _ _=>false)
 | .str=>(fun t=>match P.underlying t with
  |some .string=>true
  |_=>false,fun _ _=>false)
 | .err=>(fun _=>false,fun _ _=>false)
 | .opt _=>(fun _=>false,fun _ _=>false)
 | .map _ _=>(fun _=>false,fun _ _=>false)
 | .unit=>(fun t=>match P.underlying t with
  |some (.struct fs)=>fs.toList.isEmpty&&decide (P.cellsOf t=0)
  |_=>false,fun fs _=>fs.isEmpty)
 | .pair a b=>(fun t=>match P.underlying t with
  |some (.struct fs)=>qnU P (qkb P a).1 a.size (qkb P b).2 fs.toList 0&&decide (P.cellsOf t=a.size+b.size)
  |_=>false,qnU P (qkb P a).1 a.size (qkb P b).2)
 | .slice e=>(fun t=>match P.underlying t with
  |some (.slice et)=>decide (P.cellsOf et=e.size)&&(decide (e.size≠0)&&(qkb P e).1 et)
  |_=>false,fun _ _=>false)
 | .arr n e=>(fun t=>match P.underlying t with
  |some (.array m et)=>decide (m=n)&&(decide (P.cellsOf et=e.size)&&(decide (P.cellsOf t=n * e.size)&&(qkb P e).1 et))
  |_=>false,fun _ _=>false)
def Ty.bulk:(t:Ty)→t.den→Nat
 | .int _,_=>1
 | .bool,_=>1
 | .str,s=>List.length (α:=UInt8) s+1
 | .unit,_=>1
 | .err,_=>1
 | .opt _,_=>1
 | .map _ _,_=>1
 | .pair a b,x=>a.bulk x.1+b.bulk x.2
 | .slice e,xs=>(List.map e.bulk xs).sum+1
 | .arr _ e,xs=>(List.map e.bulk xs).sum+1
def Ty.good:(t:Ty)→t.den→Prop
 | .int k,n=>k.has n
 | .bool,_=>True
 | .str,s=>List.length (α:=UInt8) s≤maxLen
 | .unit,_=>True
 | .err,_=>True
 | .opt e,x=>match x with
  |some y=>e.good y
  |none=>True
 | .map _ _,_=>True
 | .pair a b,x=>a.good x.1∧b.good x.2
 | .slice e,xs=>List.length (xs:List e.den)≤maxLen∧∀y∈(xs:List e.den),e.good y
 | .arr _ e,xs=>∀y∈(xs:List e.den),e.good y
theorem Rep.good {w:World} {F:Nat→Prop} : {t:Ty} → {x:t.den} → {cs:List Value} →Rep w F t x cs→t.good x
 | .int _,_,_,h=>h.2
 | .bool,_,_,_=>trivial
 | .str,_,_,h=>h.2
 | .unit,_,_,_=>trivial
 | .err,_,_,_=>trivial
 | .map _ _,_,_,_=>trivial
 | .opt e,x,_,⟨v,_,h⟩=>by
  rcases h with ⟨rfl,_⟩|⟨y,a,cs,rfl,_,_,_,_,h⟩
  ·trivial
  ·exact h.good
 | .pair _ _,_,_,⟨_,_,_,h1,h2⟩=>⟨h1.good,h2.good⟩
 | .slice e,xs,_,⟨v,_,h⟩=>by
  refine ⟨?_,?_⟩
  ·rcases h with ⟨_,h⟩|⟨a,cap,_,h1,h2,_⟩
   ·have h:xs=[]:=h
    subst h
    exact Nat.zero_le _
   ·exact Nat.le_trans h1 h2
  intro y hy
  rcases h with ⟨_,h⟩|⟨a,cap,_,_,_,hx⟩
  ·have h:xs=[]:=h
   subst h
   cases hy
  ·obtain ⟨i,hi,rfl⟩:=List.getElem_of_mem hy
   obtain ⟨_,_,cs,_,h4⟩:=hx i _ (List.getElem?_eq_getElem hi)
   exact h4.good
 | .arr n e,xs,_,⟨hl,css,hcl,hc,hx⟩=>by
  intro y hy
  obtain ⟨i,hi,rfl⟩:=List.getElem_of_mem hy
  exact (hx i _ _ (List.getElem?_eq_getElem hi) (List.getElem?_eq_getElem (by have hi:i<List.length xs:=hi; omega))).good
def qli:(us:List Ty)→PMs.den (us.map .val)→Prop
 |[],_=>True
 |u::us,x=>u.good x.1∧qli us x.2
theorem qas.good {P:Program} {w:World} {F:Nat→Prop} :(us:List Ty)→ {x:PMs.den (us.map .val)} → {vs:List Value} → {g i:List Nat} →qas P w F (us.map .val) x vs g i→qli us x
 |[],_,_,_,_,_=>trivial
 |_::us,_,_,_,_,⟨_,_,_,h2,h3⟩=>⟨h2.1.good,qas.good us h3⟩
structure qrv {H:Type} (bk:DataW H→Nat) (bkA:List (DataW H)→Nat):Prop where
 int:∀k n,1≤bk (.lit (.int k n))
 bool:∀b,1≤bk (.lit (.bool b))
 str:∀s,s.length+1≤bk (.lit (.string s))
 nil:1≤bk .nil
 slice:∀es sp,bkA es+1≤bk (.slice es sp)
 agg:∀ps,bkA ps+1≤bk (.agg ps)
 cons:∀d r,bk d+bkA r≤bkA (d::r)
section
variable {H:Type} {enc:TypeId×Value→H} {P:Program} {w:World} {bk:DataW H→Nat} {bkA:List (DataW H)→Nat}
theorem qnn {a:Addr} {n:Nat} {cs:List Value} (h:w.cells? 0 a n=some cs):cs.length=n∧qgJ w a cs∧(n≠0→a.block<w.heap.size):=by
 obtain ⟨_,h1,h2⟩:=World.cells?_some h
 refine ⟨h1,fun j u hj=> ?_,fun hn=> ?_⟩
 ·have hlt:j<n:=by
   have:=(List.getElem?_eq_some_iff.1 hj).1
   omega
  rw [h2 j hlt]
  exact hj
 ·have h0:=h2 0 (by omega)
  have:∃v,cs[0]? =some v:=⟨_,List.getElem?_eq_getElem (by omega)⟩
  obtain ⟨v,hv⟩:=this
  rw [hv] at h0
  have e:a.add 0=a:=by simp [Addr.add]
  rw [e] at h0
  unfold World.cell? at h0
  split at h0
  ·rename_i c t hh
   exact (Array.getElem?_eq_some_iff.1 hh).1
  ·cases h0
theorem qnj {α β:Type} {R:Nat→α→β→Prop} :(n:Nat)→(ys:List β)→ys.length=n→(∀i y,ys[i]? =some y→∃x,R i x y)→∃xs:List α,xs.length=n∧∀(i:Nat) (x:α) (y:β),xs[i]? =some x→ys[i]? =some y→R i x y
 |0,ys,_,_=>⟨[],rfl,fun i x y h=>by simp at h⟩
 |n+1,[],h,_=>by simp at h
 |n+1,y::ys,h,hr=>by
  obtain ⟨x,hx⟩:=hr 0 y rfl
  obtain ⟨xs,h1,h2⟩:=qnj (R:=fun i=>R (i+1)) n ys (by simpa using h) fun i y hy=>hr (i+1) y (by simpa using hy)
  refine ⟨x::xs,by simp [h1],fun i x' y' hx' hy'=> ?_⟩
  cases i with
  |zero=>simp at hx' hy'; subst hx'; subst hy'; exact hx
  |succ i=>exact h2 i x' y' (by simpa using hx') (by simpa using hy')
theorem qnv (hb:qrv bk bkA) {e:Ty} :(xs:List e.den)→(ys:List (DataW H×List MemPlace))→xs.length=ys.length→(∀(i:Nat) (x:e.den) (y:DataW H×List MemPlace),xs[i]? =some x→ys[i]? =some y→e.bulk x≤bk y.1)→(List.map e.bulk xs).sum≤bkA (ys.map (·.1))
 |[],_,_,_=>by simp
 |x::xs,[],h,_=>by simp at h
 |x::xs,y::ys,h,hr=>by
  have h0:=hr 0 x y rfl rfl
  have h1:=qnv hb xs ys (by simpa using h) fun i x y hx hy=>hr (i+1) x y (by simpa using hx) (by simpa using hy)
  have:=hb.cons y.1 (ys.map (·.1))
  simp only [List.map_cons,List.sum_cons]
  omega
theorem qtb {t:Nat} (h:(qkb P .unit).1 t=true):∃fs,P.underlying t=some (.struct fs)∧fs.toList=[]∧P.cellsOf t=0:=by
 simp only [qkb] at h
 split at h
 ·rename_i fs hu
  simp only [Bool.and_eq_true,decide_eq_true_eq] at h
  exact ⟨fs,hu,by simpa using h.1,h.2⟩
 ·cases h
theorem qhT (hb:qrv bk bkA):(u:Ty)→
  (∀(fuel t:Nat) (cs:List Value) (y:DataW H×List MemPlace),(qkb P u).1 t=true→DataW.trod enc P w 0 (fun _=>true) true fuel t cs=some y→∃x:u.den,Rep w (fun b=>b<w.heap.size) u x cs∧u.bulk x≤bk y.1)∧
  (∀(m:Nat) (fs:List Field) (off:Nat) (cs:List Value) (ys:List (DataW H×List MemPlace)),(qkb P u).2 fs off=true→ys.length=fs.length→(∀(i:Nat) (f:Field),fs[i]? =some f→DataW.trod enc P w 0 (fun _=>true) true m f.type ((cs.drop f.offset).take (P.cellsOf f.type))=ys[i]?)→cs.length=off+u.size→
   ∃x:u.den,Rep w (fun b=>b<w.heap.size) u x (cs.drop off)∧u.bulk x≤bkA (ys.map (·.1))+1)
 | .int k=>by
  refine ⟨fun fuel t cs y hd h=> ?_,fun m fs off cs ys hd=>by cases hd⟩
  simp only [qkb] at hd
  split at hd
  ·rename_i k' hu
   simp only [decide_eq_true_eq] at hd
   subst hd
   obtain ⟨n,rfl,rfl,hw⟩:=DataW.trod_int hu h
   refine ⟨n,⟨rfl,?_⟩,hb.int k' n⟩
   simpa [Lit.wf,IntKind.has] using hw
  ·cases hd
 | .bool=>by
  refine ⟨fun fuel t cs y hd h=> ?_,fun m fs off cs ys hd=>by cases hd⟩
  simp only [qkb] at hd
  split at hd
  ·rename_i hu
   obtain ⟨b,rfl,rfl⟩:=DataW.trod_bool hu h
   exact ⟨b,rfl,hb.bool b⟩
  ·cases hd
 | .err=>⟨fun fuel t cs y hd h=>(by cases hd),fun m fs off cs ys hd=>by cases hd⟩
 | .opt _=>⟨fun fuel t cs y hd h=>(by cases hd),fun m fs off cs ys hd=>by cases hd⟩
 | .map _ _=>⟨fun fuel t cs y hd h=>(by cases hd),fun m fs off cs ys hd=>by cases hd⟩
 | .str=>by
  refine ⟨fun fuel t cs y hd h=> ?_,fun m fs off cs ys hd=>by cases hd⟩
  simp only [qkb] at hd
  split at hd
  ·rename_i hu
   obtain ⟨s,rfl,rfl,hl⟩:=DataW.trod_string hu h
   refine ⟨s.data.toList,⟨by simp,?_⟩,hb.str _⟩
   rw [Array.length_toList]
   exact hl
  ·cases hd
 | .unit=>by
  refine ⟨fun fuel t cs y hd h=> ?_,fun m fs off cs ys hd hl _ hcl=> ?_⟩
  ·obtain ⟨fs,hu,hf,hc⟩:=qtb hd
   obtain ⟨xs,n,rfl,rfl,hl,_⟩:=DataW.trod_struct hu h
   have:cs=[]:=List.eq_nil_of_length_eq_zero (by omega)
   subst this
   have:=hb.agg (xs.map (·.1))
   exact ⟨(),rfl,by show 1≤_; simp only; omega⟩
  ·have:cs.drop off=[]:=List.drop_of_length_le (by rw [hcl]; exact Nat.le_refl _)
   exact ⟨(),this,by show 1≤_; omega⟩
 | .pair a b=>by
  obtain ⟨ha,_⟩:=qhT hb a
  obtain ⟨_,hb2⟩:=qhT hb b
  have fld:∀(m:Nat) (fs:List Field) (off:Nat) (cs:List Value) (ys:List (DataW H×List MemPlace)),qnU P (qkb P a).1 a.size (qkb P b).2 fs off=true→ys.length=fs.length→(∀(i:Nat) (f:Field),fs[i]? =some f→DataW.trod enc P w 0 (fun _=>true) true m f.type ((cs.drop f.offset).take (P.cellsOf f.type))=ys[i]?)→cs.length=off+(a.size+b.size)→
   ∃x:(Ty.pair a b).den,Rep w (fun b=>b<w.heap.size) (.pair a b) x (cs.drop off)∧(Ty.pair a b).bulk x≤bkA (ys.map (·.1))+1:=by
   intro m fs off cs ys hd hl hi hcl
   cases fs with
   |nil=>cases hd
   |cons f r=>
    simp only [qnU,Bool.and_eq_true,decide_eq_true_eq] at hd
    obtain ⟨h1,h2,h3,h4⟩:=hd
    cases ys with
    |nil=>simp at hl
    |cons y ys=>
     have h0:=hi 0 f rfl
     rw [h1,h2] at h0
     obtain ⟨xa,k1,k2⟩:=ha m f.type _ y h3 h0
     obtain ⟨xb,k3,k4⟩:=hb2 m r (off+a.size) cs ys h4 (by simpa using hl) (fun i f' hf'=>by have:=hi (i+1) f' (by simpa using hf'); simpa using this) (by omega)
     refine ⟨(xa,xb),⟨_,_,?_,k1,k3⟩,?_⟩
     ·rw [←List.drop_drop,List.take_append_drop]
     ·have:=hb.cons y.1 (ys.map (·.1))
      show a.bulk xa+b.bulk xb≤_
      simp only [List.map_cons]
      omega
  refine ⟨fun fuel t cs y hd h=> ?_,fld⟩
  simp only [qkb] at hd
  split at hd
  ·rename_i fs hu
   simp only [Bool.and_eq_true,decide_eq_true_eq] at hd
   obtain ⟨xs,n,rfl,rfl,hl,hxl,hxi⟩:=DataW.trod_struct hu h
   obtain ⟨x,k1,k2⟩:=fld n fs.toList 0 cs xs hd.1 (by simpa using hxl) (fun i f hf=>hxi i f (by simpa using hf)) (by omega)
   have:=hb.agg (xs.map (·.1))
   exact ⟨x,by simpa using k1,by simp only; omega⟩
  ·cases hd
 | .slice e=>by
  obtain ⟨he,_⟩:=qhT hb e
  refine ⟨fun fuel t cs y hd h=> ?_,fun m fs off cs ys hd=>by cases hd⟩
  simp only [qkb] at hd
  split at hd
  ·rename_i et hu
   simp only [Bool.and_eq_true,decide_eq_true_eq] at hd
   obtain ⟨h1,h2,h3⟩:=hd
   rcases DataW.trod_slice hu h with ⟨rfl,rfl⟩|⟨a,len,cap,elems,rest,n,rfl,rfl,rfl,_,g1,g2,g3,g4,_⟩
   ·exact ⟨[],⟨_,rfl,.inl ⟨rfl,rfl⟩⟩,by show 0+1≤_; exact hb.nil⟩
   ·obtain ⟨xs,k1,k2⟩:=qnj (α:=e.den) (R:=fun i x y=>a.block<w.heap.size∧(∃cs,qgJ w (a.add (i * e.size)) cs∧Rep w (fun b=>b<w.heap.size) e x cs)∧e.bulk x≤bk y.1) len elems g3 (fun i y hy=>by
     have hlt:i<len:=by
      have:=(List.getElem?_eq_some_iff.1 hy).1
      omega
     have:=g4 i hlt
     rw [hy,h1] at this
     obtain ⟨cs,hc1,hc2⟩:=Option.bind_eq_some_iff.1 this
     obtain ⟨q1,q2,q3⟩:=qnn hc1
     obtain ⟨x,r1,r2⟩:=he n et cs y h3 hc2
     exact ⟨x,by simpa [qT] using q3 h2,⟨cs,q2,r1⟩,r2⟩)
    have idx:∀(i:Nat) (x:e.den),xs[i]? =some x→∃y,elems[i]? =some y:=fun i x hx=>⟨_,List.getElem?_eq_getElem (by have:=(List.getElem?_eq_some_iff.1 hx).1; omega)⟩
    refine ⟨xs,⟨_,rfl,.inr ⟨a,cap,by rw [k1],by omega,g2,fun i x hx=> ?_⟩⟩,?_⟩
    ·obtain ⟨y,hy⟩:=idx i x hx
     obtain ⟨q1,q2,_⟩:=k2 i x y hx hy
     exact ⟨q1,q1,q2⟩
    ·have:=qnv hb xs elems (by omega) fun i x y hx hy=>(k2 i x y hx hy).2.2
     have:=hb.slice (elems.map (·.1)) (rest.map (·.1))
     show (List.map e.bulk xs).sum+1≤_
     simp only
     omega
  ·cases hd
 | .arr n e=>by
  obtain ⟨he,_⟩:=qhT hb e
  refine ⟨fun fuel t cs y hd h=> ?_,fun m fs off cs ys hd=>by cases hd⟩
  simp only [qkb] at hd
  split at hd
  ·rename_i m et hu
   simp only [Bool.and_eq_true,decide_eq_true_eq] at hd
   obtain ⟨rfl,h1,h2,h3⟩:=hd
   obtain ⟨ys,k,rfl,rfl,g1,g2,g3⟩:=DataW.trod_array hu h
   obtain ⟨xs,k1,k2⟩:=qnj (α:=e.den) (R:=fun i x y=>Rep w (fun b=>b<w.heap.size) e x ((cs.drop (i * e.size)).take e.size)∧e.bulk x≤bk y.1) m ys g2 (fun i y hy=>by
    have hlt:i<m:=by
     have:=(List.getElem?_eq_some_iff.1 hy).1
     omega
    have:=g3 i hlt
    rw [hy,h1] at this
    exact he k et _ y h3 this)
   refine ⟨xs,⟨k1,(List.range m).map (fun i=>(cs.drop (i * e.size)).take e.size),by simp,?_,fun i x c hi hc=> ?_⟩,?_⟩
   ·rw [h2] at g1
    clear g3 k2 k1 g2 h hu h2
    induction m generalizing cs with
    |zero=>simp at g1; subst g1; rfl
    |succ m ih=>
     have:=ih (cs:=cs.drop e.size) (by rw [List.length_drop,g1,Nat.add_mul]; omega)
     rw [List.range_succ_eq_map,List.map_cons,List.flatten_cons,List.map_map]
     rw [Nat.zero_mul,List.drop_zero]
     have e2:((fun i=>List.take e.size (List.drop (i * e.size) cs)) ∘ Nat.succ)=fun i=>List.take e.size (List.drop (i * e.size) (cs.drop e.size)):=by
      funext i
      simp only [Function.comp,List.drop_drop]
      rw [Nat.succ_mul,Nat.add_comm]
     rw [e2,←this,List.take_append_drop]
   ·have hlt:i<m:=by
     have:=(List.getElem?_eq_some_iff.1 hi).1
     omega
    have hy:ys[i]? =some (ys[i]'(by omega)):=List.getElem?_eq_getElem (by omega)
    rw [List.getElem?_map,List.getElem?_range hlt] at hc
    simp only [Option.map_some,Option.some.injEq] at hc
    rw [←hc]
    exact (k2 i x _ hi hy).1
   ·have:=qnv hb xs ys (by omega) fun i x y hx hy=>(k2 i x y hx hy).2
    have:=hb.agg (ys.map (·.1))
    show (List.map e.bulk xs).sum+1≤_
    simp only
    omega
  ·cases hd
theorem qr6 {u:Ty} {t:Nat} {v:Value} {r:Reach} {b0:Nat} (hd:(qkb P u).1 t=true) (hv:Value.okWide P w r b0 t v):(u.agg=true→∃cs,v= .agg cs)∧(u.agg=false→∀cs,v≠ .agg cs):=by
 cases u with
 |err=>cases hd
 |opt _=>cases hd
 |map _ _=>cases hd
 |int k=>
  simp only [qkb] at hd
  split at hd
  ·rename_i hu
   obtain ⟨n,rfl⟩:=okWide_int hu hv
   exact ⟨fun h=>(by cases h),fun _ cs h=>(by cases h)⟩
  ·cases hd
 |bool=>
  simp only [qkb] at hd
  split at hd
  ·rename_i hu
   obtain ⟨n,rfl⟩:=okWide_bool hu hv
   exact ⟨fun h=>(by cases h),fun _ cs h=>(by cases h)⟩
  ·cases hd
 |str=>
  simp only [qkb] at hd
  split at hd
  ·rename_i hu
   obtain ⟨n,rfl⟩:=okWide_string hu hv
   exact ⟨fun h=>(by cases h),fun _ cs h=>(by cases h)⟩
  ·cases hd
 |slice e=>
  simp only [qkb] at hd
  split at hd
  ·rename_i hu
   obtain ⟨a,n,c,rfl⟩:=okWide_slice hu hv
   exact ⟨fun h=>(by cases h),fun _ cs h=>(by cases h)⟩
  ·cases hd
 |unit=>
  simp only [qkb] at hd
  split at hd
  ·rename_i hu
   obtain ⟨cs,h,_⟩:=okWide_struct hu hv
   exact ⟨fun _=>⟨cs,h⟩,fun h=>(by cases h)⟩
  ·cases hd
 |pair a b=>
  simp only [qkb] at hd
  split at hd
  ·rename_i hu
   obtain ⟨cs,h,_⟩:=okWide_struct hu hv
   exact ⟨fun _=>⟨cs,h⟩,fun h=>(by cases h)⟩
  ·cases hd
 |arr n e=>
  simp only [qkb] at hd
  split at hd
  ·rename_i hu
   unfold Value.okWide at hv
   rw [hu] at hv
   obtain ⟨cs,h,_⟩:=hv
   exact ⟨fun _=>⟨cs,h⟩,fun h=>(by cases h)⟩
  ·cases hd
def qkn:(us:List Ty)→PMs.den (us.map .val)→Nat
 |[],_=>0
 |u::us,x=>u.bulk x.1+qkn us x.2
def qiJ (P:Program):List Ty→List Nat→Bool
 |[],[]=>true
 |u::us,t::ts=>(qkb P u).1 t&&qiJ P us ts
 |_,_=>false
theorem qoN (hb:qrv bk bkA) {r:Reach} {b0:Nat} :(us:List Ty)→ {ts:List Nat} → {vs:List Value} → {ds:List (DataW H)} → {ps:List MemPlace} →qiJ P us ts=true→(∀(j:Nat) t v,ts[j]? =some t→vs[j]? =some v→Value.okWide P w r b0 t v)→
  DataW.TrodAll enc P w 0 (fun _=>true) true ts vs ds ps→∃x:PMs.den (us.map .val),qas P w (fun b=>b<w.heap.size) (us.map .val) x vs [] []∧qkn us x≤bkA ds
 |[],[],vs,ds,ps,_,_,h=>by
  obtain ⟨rfl,rfl,rfl⟩:=trodAll_nil h
  exact ⟨(),⟨rfl,rfl,rfl⟩,Nat.zero_le _⟩
 |u::us,t::ts,vs,ds,ps,hd,hv,h=>by
  simp only [qiJ,Bool.and_eq_true] at hd
  obtain ⟨v,vs',d,ds',p,q,rfl,rfl,rfl,h0,hr⟩:=trodAll_cons h
  obtain ⟨fuel,h0⟩:=h0
  obtain ⟨x,k1,k2⟩:=(qhT hb u).1 fuel t _ _ hd.1 h0
  obtain ⟨xs,k3,k4⟩:=qoN hb us hd.2 (fun j t' v' ht hv'=>hv (j+1) t' v' (by simpa using ht) (by simpa using hv')) hr
  have:=hb.cons d ds'
  exact ⟨(x,xs),⟨v,vs',rfl,⟨k1,qr6 hd.1 (hv 0 t v rfl rfl)⟩,k3⟩,by show u.bulk x+qkn us xs≤_; simp only at k2; omega⟩
theorem qoY {W W':World} {sp:Nat→Bool} (hl:laidOutB P=true): {ts:List Nat} → {vs:List Value} → {ds:List (DataW H)} → {ps:List MemPlace} →(∀t∈ts,P.readableRec t=true∧t<P.types.size)→DataW.TrodAll enc P W 0 (fun _=>true) true ts vs ds ps→Below W.heap.size W W'→(∀x∈ps,x.block<W.heap.size)→(∀x∈ps,sp x.block=true)→
  DataW.TrodAll enc P W' 0 sp true ts vs ds ps
 |[],_,_,_,_,h,_,_,_=>by
  obtain ⟨rfl,rfl,rfl⟩:=trodAll_nil h
  rfl
 |t::ts,_,_,_,ht,h,hb,hlt,hs=>by
  obtain ⟨v,vs',d,ds',p,q,rfl,rfl,rfl,h0,hr⟩:=trodAll_cons h
  exact trodAll_cons_mk (WideElems.Trod_stays hl (ht t List.mem_cons_self).1 (ht t List.mem_cons_self).2 h0 (fun x hx=>hb.same (hlt x (List.mem_append_left _ hx))) fun x hx=>hs x (List.mem_append_left _ hx)) (qoY hl (fun t' h'=>ht t' (List.mem_cons_of_mem _ h')) hr hb (fun x hx=>hlt x (List.mem_append_right _ hx)) fun x hx=>hs x (List.mem_append_right _ hx))
end
end Go.Vi
