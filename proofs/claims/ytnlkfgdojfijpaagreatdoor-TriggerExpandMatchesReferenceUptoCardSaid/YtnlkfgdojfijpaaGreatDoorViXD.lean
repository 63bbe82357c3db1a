import Derived.Test.YtnlkfgdojfijpaaGreatDoorViXC
import Derived.Carry
import Derived.OpenShut
import Derived.ChangeSame
import Derived.WideShapes
import Derived.Lib.Bytealg
import Derived.Lib.LaidTab
import Derived.Lib.ItoaNum
import Derived.Lib.ItoaLen
import Derived.Lib.AtoiAllCases
import Derived.Lib.ParseIntBTie
import Derived.Lib.AtoiErrMem
import Derived.Lib.AppendIntMem
import Derived.Laws.CopyRow
import Derived.Laws.IdiomCopy
set_option linter.unusedVariables false
set_option linter.unusedSimpArgs false
set_option linter.unnecessarySimpa false
set_option linter.unusedSectionVars false
namespace Go.Vi
open Go.RowKit Go.WideShapes Go.ChangeShapes
def qok (P:Program) (a:Nat→Bool) (sa:Nat) (b:List Field→Nat→Bool):List Field→Nat→Bool
 |f::r,off=>decide (f.offset=off)&&(decide (P.cellsOf f.type=sa)&&(a f.type&&b r (off+sa)))
 |[],_=>false
def qkW (P:Program):Ty→(Nat→Bool)×(List Field→Nat→Bool)
 | .int k=>(fun t=>match P.underlying t with
  |some (.int k')=>decide (k'=k)
  |_=>false,fun _ _=>false)
 | .bool=>(fun t=>match P.underlying t with
  |some .bool=>true
  |_=>false,fun _ _=>false)
 | .str=>(fun t=>match P.underlying t with
  |some .string=>true
  |_=>false,fun _ _=>false)
 | .err=>(fun _=>false,fun _ _=>false)
 | .opt _=>(fun _=>false,fun _ _=>false)
 | .map _ _=>(fun _=>false,fun _ _=>false)
 | .unit=>(fun t=>match P.underlying t with
  |some (.struct fs)=>fs.toList.isEmpty&&decide (P.cellsOf t=0)
  |_=>false,fun fs _=>fs.isEmpty)
 | .pair a b=>(fun t=>match P.underlying t with
  |some (.struct fs)=>qok P (qkW P a).1 a.size (qkW P b).2 fs.toList 0&&decide (P.cellsOf t=a.size+b.size)
  |_=>false,qok P (qkW P a).1 a.size (qkW P b).2)
 | .slice e=>(fun t=>match P.underlying t with
  |some (.slice et)=>decide (P.cellsOf et=e.size)&&(decide (e.size≠0)&&(qkW P e).1 et)
  |_=>false,fun _ _=>false)
 | .arr n e=>(fun t=>match P.underlying t with
  |some (.array m et)=>decide (m=n)&&(decide (P.cellsOf et=e.size)&&(decide (P.cellsOf t=n * e.size)&&(qkW P e).1 et))
  |_=>false,fun _ _=>false)
def Ty.bulk:(t:Ty)→t.den→Nat
 | .int _,_=>1
 | .bool,_=>1
 | .str,s=>List.length (α:=UInt8) s+1
 | .unit,_=>1
 | .err,_=>1
 | .opt _,_=>1
 | .map _ _,_=>1
 | .pair a b,x=>a.bulk x.1+b.bulk x.2
 | .slice e,xs=>(List.map e.bulk xs).sum+1
 | .arr _ e,xs=>(List.map e.bulk xs).sum+1
def Ty.good:(t:Ty)→t.den→Prop
 | .int k,n=>k.has n
 | .bool,_=>True
 | .str,s=>List.length (α:=UInt8) s≤maxLen
 | .unit,_=>True
 | .err,_=>True
 | .opt e,x=>match x with
  |some y=>e.good y
  |none=>True
 | .map _ _,_=>True
 | .pair a b,x=>a.good x.1∧b.good x.2
 | .slice e,xs=>List.length (xs:List e.den)≤maxLen∧∀y∈(xs:List e.den),e.good y
 | .arr _ e,xs=>∀y∈(xs:List e.den),e.good y
theorem Rep.good {w:World} {F:Nat→Prop} : {t:Ty} → {x:t.den} → {cs:List Value} →Rep w F t x cs→t.good x
 | .int _,_,_,h=>h.2
 | .bool,_,_,_=>trivial
 | .str,_,_,h=>h.2
 | .unit,_,_,_=>trivial
 | .err,_,_,_=>trivial
 | .map _ _,_,_,_=>trivial
 | .opt e,x,_,⟨v,_,h⟩=>by
  rcases h with ⟨rfl,_⟩|⟨y,a,cs,rfl,_,_,_,_,h⟩
  ·trivial
  ·exact h.good
 | .pair _ _,_,_,⟨_,_,_,h1,h2⟩=>⟨h1.good,h2.good⟩
 | .slice e,xs,_,⟨v,_,h⟩=>by
  refine ⟨?_,?_⟩
  ·rcases h with ⟨_,h⟩|⟨a,cap,_,h1,h2,_⟩
   ·have h:xs=[]:=h
    subst h
    exact Nat.zero_le _
   ·exact Nat.le_trans h1 h2
  intro y hy
  rcases h with ⟨_,h⟩|⟨a,cap,_,_,_,hx⟩
  ·have h:xs=[]:=h
   subst h
   cases hy
  ·obtain ⟨i,hi,rfl⟩:=List.getElem_of_mem hy
   obtain ⟨_,_,cs,_,h4⟩:=hx i _ (List.getElem?_eq_getElem hi)
   exact h4.good
 | .arr n e,xs,_,⟨hl,css,hcl,hc,hx⟩=>by
  intro y hy
  obtain ⟨i,hi,rfl⟩:=List.getElem_of_mem hy
  exact (hx i _ _ (List.getElem?_eq_getElem hi) (List.getElem?_eq_getElem (by have hi:i<List.length xs:=hi; omega))).good
def qoG:(us:List Ty)→PMs.den (us.map .val)→Prop
 |[],_=>True
 |u::us,x=>u.good x.1∧qoG us x.2
theorem qaA.good {P:Program} {w:World} {F:Nat→Prop} :(us:List Ty)→ {x:PMs.den (us.map .val)} → {vs:List Value} → {g i:List Nat} →qaA P w F (us.map .val) x vs g i→qoG us x
 |[],_,_,_,_,_=>trivial
 |_::us,_,_,_,_,⟨_,_,_,h2,h3⟩=>⟨h2.1.good,qaA.good us h3⟩
structure qug {H:Type} (bk:DataW H→Nat) (bkA:List (DataW H)→Nat):Prop where
 int:∀k n,1≤bk (.lit (.int k n))
 bool:∀b,1≤bk (.lit (.bool b))
 str:∀s,s.length+1≤bk (.lit (.string s))
 nil:1≤bk .nil
 slice:∀es sp,bkA es+1≤bk (.slice es sp)
 agg:∀ps,bkA ps+1≤bk (.agg ps)
 cons:∀d r,bk d+bkA r≤bkA (d::r)
section
variable {H:Type} {enc:TypeId×Value→H} {P:Program} {w:World} {bk:DataW H→Nat} {bkA:List (DataW H)→Nat}
theorem qoQ {a:Addr} {n:Nat} {cs:List Value} (h:w.cells? 0 a n=some cs):cs.length=n∧qhf w a cs∧(n≠0→a.block<w.heap.size):=by
 obtain ⟨_,h1,h2⟩:=World.cells?_some h
 refine ⟨h1,fun j u hj=> ?_,fun hn=> ?_⟩
 ·have hlt:j<n:=by
   have:=(List.getElem?_eq_some_iff.1 hj).1
   omega
  rw [h2 j hlt]
  exact hj
 ·have h0:=h2 0 (by omega)
  have:∃v,cs[0]? =some v:=⟨_,List.getElem?_eq_getElem (by omega)⟩
  obtain ⟨v,hv⟩:=this
  rw [hv] at h0
  have e:a.add 0=a:=by simp [Addr.add]
  rw [e] at h0
  unfold World.cell? at h0
  split at h0
  ·rename_i c t hh
   exact (Array.getElem?_eq_some_iff.1 hh).1
  ·cases h0
theorem qoP {α β:Type} {R:Nat→α→β→Prop} :(n:Nat)→(ys:List β)→ys.length=n→(∀i y,ys[i]? =some y→∃x,R i x y)→∃xs:List α,xs.length=n∧∀(i:Nat) (x:α) (y:β),xs[i]? =some x→ys[i]? =some y→R i x y
 |0,ys,_,_=>⟨[],rfl,fun i x y h=>by simp at h⟩
 |n+1,[],h,_=>by simp at h
 |n+1,y::ys,h,hr=>by
  obtain ⟨x,hx⟩:=hr 0 y rfl
  obtain ⟨xs,h1,h2⟩:=qoP (R:=fun i=>R (i+1)) n ys (by simpa using h) fun i y hy=>hr (i+1) y (by simpa using hy)
  refine ⟨x::xs,by simp [h1],fun i x' y' hx' hy'=> ?_⟩
  cases i with
  |zero=>simp at hx' hy'; subst hx'; subst hy'; exact hx
  |succ i=>exact h2 i x' y' (by simpa using hx') (by simpa using hy')
theorem qoI (hb:qug bk bkA) {e:Ty} :(xs:List e.den)→(ys:List (DataW H×List MemPlace))→xs.length=ys.length→(∀(i:Nat) (x:e.den) (y:DataW H×List MemPlace),xs[i]? =some x→ys[i]? =some y→e.bulk x≤bk y.1)→(List.map e.bulk xs).sum≤bkA (ys.map (·.1))
 |[],_,_,_=>by simp
 |x::xs,[],h,_=>by simp at h
 |x::xs,y::ys,h,hr=>by
  have h0:=hr 0 x y rfl rfl
  have h1:=qoI hb xs ys (by simpa using h) fun i x y hx hy=>hr (i+1) x y (by simpa using hx) (by simpa using hy)
  have:=hb.cons y.1 (ys.map (·.1))
  simp only [List.map_cons,List.sum_cons]
  omega
theorem qs7 {t:Nat} (h:(qkW P .unit).1 t=true):∃fs,P.underlying t=some (.struct fs)∧fs.toList=[]∧P.cellsOf t=0:=by
 simp only [qkW] at h
 split at h
 ·rename_i fs hu
  simp only [Bool.and_eq_true,decide_eq_true_eq] at h
  exact ⟨fs,hu,by simpa using h.1,h.2⟩
 ·cases h
theorem qiq (hb:qug bk bkA):(u:Ty)→
  (∀(fuel t:Nat) (cs:List Value) (y:DataW H×List MemPlace),(qkW P u).1 t=true→DataW.trod enc P w 0 (fun _=>true) true fuel t cs=some y→∃x:u.den,Rep w (fun b=>b<w.heap.size) u x cs∧u.bulk x≤bk y.1)∧
  (∀(m:Nat) (fs:List Field) (off:Nat) (cs:List Value) (ys:List (DataW H×List MemPlace)),(qkW P u).2 fs off=true→ys.length=fs.length→(∀(i:Nat) (f:Field),fs[i]? =some f→DataW.trod enc P w 0 (fun _=>true) true m f.type ((cs.drop f.offset).take (P.cellsOf f.type))=ys[i]?)→cs.length=off+u.size→
   ∃x:u.den,Rep w (fun b=>b<w.heap.size) u x (cs.drop off)∧u.bulk x≤bkA (ys.map (·.1))+1)
 | .int k=>by
  refine ⟨fun fuel t cs y hd h=> ?_,fun m fs off cs ys hd=>by cases hd⟩
  simp only [qkW] at hd
  split at hd
  ·rename_i k' hu
   simp only [decide_eq_true_eq] at hd
   subst hd
   obtain ⟨n,rfl,rfl,hw⟩:=DataW.trod_int hu h
   refine ⟨n,⟨rfl,?_⟩,hb.int k' n⟩
   simpa [Lit.wf,IntKind.has] using hw
  ·cases hd
 | .bool=>by
  refine ⟨fun fuel t cs y hd h=> ?_,fun m fs off cs ys hd=>by cases hd⟩
  simp only [qkW] at hd
  split at hd
  ·rename_i hu
   obtain ⟨b,rfl,rfl⟩:=DataW.trod_bool hu h
   exact ⟨b,rfl,hb.bool b⟩
  ·cases hd
 | .err=>⟨fun fuel t cs y hd h=>(by cases hd),fun m fs off cs ys hd=>by cases hd⟩
 | .opt _=>⟨fun fuel t cs y hd h=>(by cases hd),fun m fs off cs ys hd=>by cases hd⟩
 | .map _ _=>⟨fun fuel t cs y hd h=>(by cases hd),fun m fs off cs ys hd=>by cases hd⟩
 | .str=>by
  refine ⟨fun fuel t cs y hd h=> ?_,fun m fs off cs ys hd=>by cases hd⟩
  simp only [qkW] at hd
  split at hd
  ·rename_i hu
   obtain ⟨s,rfl,rfl,hl⟩:=DataW.trod_string hu h
   refine ⟨s.data.toList,⟨by simp,?_⟩,hb.str _⟩
   rw [Array.length_toList]
   exact hl
  ·cases hd
 | .unit=>by
  refine ⟨fun fuel t cs y hd h=> ?_,fun m fs off cs ys hd hl _ hcl=> ?_⟩
  ·obtain ⟨fs,hu,hf,hc⟩:=qs7 hd
   obtain ⟨xs,n,rfl,rfl,hl,_⟩:=DataW.trod_struct hu h
   have:cs=[]:=List.eq_nil_of_length_eq_zero (by omega)
   subst this
   have:=hb.agg (xs.map (·.1))
   exact ⟨(),rfl,by show 1≤_; simp only; omega⟩
  ·have:cs.drop off=[]:=List.drop_of_length_le (by rw [hcl]; exact Nat.le_refl _)
   exact ⟨(),this,by show 1≤_; omega⟩
 | .pair a b=>by
  obtain ⟨ha,_⟩:=qiq hb a
  obtain ⟨_,hb2⟩:=qiq hb b
  have fld:∀(m:Nat) (fs:List Field) (off:Nat) (cs:List Value) (ys:List (DataW H×List MemPlace)),qok P (qkW P a).1 a.size (qkW P b).2 fs off=true→ys.length=fs.length→(∀(i:Nat) (f:Field),fs[i]? =some f→DataW.trod enc P w 0 (fun _=>true) true m f.type ((cs.drop f.offset).take (P.cellsOf f.type))=ys[i]?)→cs.length=off+(a.size+b.size)→
   ∃x:(Ty.pair a b).den,Rep w (fun b=>b<w.heap.size) (.pair a b) x (cs.drop off)∧(Ty.pair a b).bulk x≤bkA (ys.map (·.1))+1:=by
   intro m fs off cs ys hd hl hi hcl
   cases fs with
   |nil=>cases hd
   |cons f r=>
    simp only [qok,Bool.and_eq_true,decide_eq_true_eq] at hd
    obtain ⟨h1,h2,h3,h4⟩:=hd
    cases ys with
    |nil=>simp at hl
    |cons y ys=>
     have h0:=hi 0 f rfl
     rw [h1,h2] at h0
     obtain ⟨xa,k1,k2⟩:=ha m f.type _ y h3 h0
     obtain ⟨xb,k3,k4⟩:=hb2 m r (off+a.size) cs ys h4 (by simpa using hl) (fun i f' hf'=>by have:=hi (i+1) f' (by simpa using hf'); simpa using this) (by omega)
     refine ⟨(xa,xb),⟨_,_,?_,k1,k3⟩,?_⟩
     ·rw [←List.drop_drop,List.take_append_drop]
     ·have:=hb.cons y.1 (ys.map (·.1))
      show a.bulk xa+b.bulk xb≤_
      simp only [List.map_cons]
      omega
  refine ⟨fun fuel t cs y hd h=> ?_,fld⟩
  simp only [qkW] at hd
  split at hd
  ·rename_i fs hu
   simp only [Bool.and_eq_true,decide_eq_true_eq] at hd
   obtain ⟨xs,n,rfl,rfl,hl,hxl,hxi⟩:=DataW.trod_struct hu h
   obtain ⟨x,k1,k2⟩:=fld n fs.toList 0 cs xs hd.1 (by simpa using hxl) (fun i f hf=>hxi i f (by simpa using hf)) (by omega)
   have:=hb.agg (xs.map (·.1))
   exact ⟨x,by simpa using k1,by simp only; omega⟩
  ·cases hd
 | .slice e=>by
  obtain ⟨he,_⟩:=qiq hb e
  refine ⟨fun fuel t cs y hd h=> ?_,fun m fs off cs ys hd=>by cases hd⟩
  simp only [qkW] at hd
  split at hd
  ·rename_i et hu
   simp only [Bool.and_eq_true,decide_eq_true_eq] at hd
   obtain ⟨h1,h2,h3⟩:=hd
   rcases DataW.trod_slice hu h with ⟨rfl,rfl⟩|⟨a,len,cap,elems,rest,n,rfl,rfl,rfl,_,g1,g2,g3,g4,_⟩
   ·exact ⟨[],⟨_,rfl,.inl ⟨rfl,rfl⟩⟩,by show 0+1≤_; exact hb.nil⟩
   ·obtain ⟨xs,k1,k2⟩:=qoP (α:=e.den) (R:=fun i x y=>a.block<w.heap.size∧(∃cs,qhf w (a.add (i * e.size)) cs∧Rep w (fun b=>b<w.heap.size) e x cs)∧e.bulk x≤bk y.1) len elems g3 (fun i y hy=>by
     have hlt:i<len:=by
      have:=(List.getElem?_eq_some_iff.1 hy).1
      omega
     have:=g4 i hlt
     rw [hy,h1] at this
     obtain ⟨cs,hc1,hc2⟩:=Option.bind_eq_some_iff.1 this
     obtain ⟨q1,q2,q3⟩:=qoQ hc1
     obtain ⟨x,r1,r2⟩:=he n et cs y h3 hc2
     exact ⟨x,by simpa [q8] using q3 h2,⟨cs,q2,r1⟩,r2⟩)
    have idx:∀(i:Nat) (x:e.den),xs[i]? =some x→∃y,elems[i]? =some y:=fun i x hx=>⟨_,List.getElem?_eq_getElem (by have:=(List.getElem?_eq_some_iff.1 hx).1; omega)⟩
    refine ⟨xs,⟨_,rfl,.inr ⟨a,cap,by rw [k1],by omega,g2,fun i x hx=> ?_⟩⟩,?_⟩
    ·obtain ⟨y,hy⟩:=idx i x hx
     obtain ⟨q1,q2,_⟩:=k2 i x y hx hy
     exact ⟨q1,q1,q2⟩
    ·have:=qoI hb xs elems (by omega) fun i x y hx hy=>(k2 i x y hx hy).2.2
     have:=hb.slice (elems.map (·.1)) (rest.map (·.1))
     show (List.map e.bulk xs).sum+1≤_
     simp only
     omega
  ·cases hd
 | .arr n e=>by
  obtain ⟨he,_⟩:=qiq hb e
  refine ⟨fun fuel t cs y hd h=> ?_,fun m fs off cs ys hd=>by cases hd⟩
  simp only [qkW] at hd
  split at hd
  ·rename_i m et hu
   simp only [Bool.and_eq_true,decide_eq_true_eq] at hd
   obtain ⟨rfl,h1,h2,h3⟩:=hd
   obtain ⟨ys,k,rfl,rfl,g1,g2,g3⟩:=DataW.trod_array hu h
   obtain ⟨xs,k1,k2⟩:=qoP (α:=e.den) (R:=fun i x y=>Rep w (fun b=>b<w.heap.size) e x ((cs.drop (i * e.size)).take e.size)∧e.bulk x≤bk y.1) m ys g2 (fun i y hy=>by
    have hlt:i<m:=by
     have:=(List.getElem?_eq_some_iff.1 hy).1
     omega
    have:=g3 i hlt
    rw [hy,h1] at this
    exact he k et _ y h3 this)
   refine ⟨xs,⟨k1,(List.range m).map (fun i=>(cs.drop (i * e.size)).take e.size),by simp,?_,fun i x c hi hc=> ?_⟩,?_⟩
   ·rw [h2] at g1
    clear g3 k2 k1 g2 h hu h2
    induction m generalizing cs with
    |zero=>simp at g1; subst g1; rfl
    |succ m ih=>
     have:=ih (cs:=cs.drop e.size) (by rw [List.length_drop,g1,Nat.add_mul]; omega)
     rw [List.range_succ_eq_map,List.map_cons,List.flatten_cons,List.map_map]
     rw [Nat.zero_mul,List.drop_zero]
     have e2:((fun i=>List.take e.size (List.drop (i * e.size) cs)) ∘ Nat.succ)=fun i=>List.take e.size (List.drop (i * e.size) (cs.drop e.size)):=by
      funext i
      simp only [Function.comp,List.drop_drop]
      rw [Nat.succ_mul,Nat.add_comm]
     rw [e2,←this,List.take_append_drop]
   ·have hlt:i<m:=by
     have:=(List.getElem?_eq_some_iff.1 hi).1
     omega
    have hy:ys[i]? =some (ys[i]'(by omega)):=List.getElem?_eq_getElem (by omega)
    rw [List.getElem?_map,List.getElem?_range hlt] at hc
    simp only [Option.map_some,Option.some.injEq] at hc
    rw [←hc]
    exact (k2 i x _ hi hy).1
   ·have:=qoI hb xs ys (by omega) fun i x y hx hy=>(k2 i x y hx hy).2
    have:=hb.agg (ys.map (·.1))
    show (List.map e.bulk xs).sum+1≤_
    simp only
    omega
  ·cases hd
theorem qsZ {u:Ty} {t:Nat} {v:Value} {r:Reach} {b0:Nat} (hd:(qkW P u).1 t=true) (hv:Value.okWide P w r b0 t v):(u.agg=true→∃cs,v= .agg cs)∧(u.agg=false→∀cs,v≠ .agg cs):=by
 cases u with
 |err=>cases hd
 |opt _=>cases hd
 |map _ _=>cases hd
 |int k=>
  simp only [qkW] at hd
  split at hd
  ·rename_i hu
   obtain ⟨n,rfl⟩:=okWide_int hu hv
   exact ⟨fun h=>(by cases h),fun _ cs h=>(by cases h)⟩
  ·cases hd
 |bool=>
  simp only [qkW] at hd
  split at hd
  ·rename_i hu
   obtain ⟨n,rfl⟩:=okWide_bool hu hv
   exact ⟨fun h=>(by cases h),fun _ cs h=>(by cases h)⟩
  ·cases hd
 |str=>
  simp only [qkW] at hd
  split at hd
  ·rename_i hu
   obtain ⟨n,rfl⟩:=okWide_string hu hv
   exact ⟨fun h=>(by cases h),fun _ cs h=>(by cases h)⟩
  ·cases hd
 |slice e=>
  simp only [qkW] at hd
  split at hd
  ·rename_i hu
   obtain ⟨a,n,c,rfl⟩:=okWide_slice hu hv
   exact ⟨fun h=>(by cases h),fun _ cs h=>(by cases h)⟩
  ·cases hd
 |unit=>
  simp only [qkW] at hd
  split at hd
  ·rename_i hu
   obtain ⟨cs,h,_⟩:=okWide_struct hu hv
   exact ⟨fun _=>⟨cs,h⟩,fun h=>(by cases h)⟩
  ·cases hd
 |pair a b=>
  simp only [qkW] at hd
  split at hd
  ·rename_i hu
   obtain ⟨cs,h,_⟩:=okWide_struct hu hv
   exact ⟨fun _=>⟨cs,h⟩,fun h=>(by cases h)⟩
  ·cases hd
 |arr n e=>
  simp only [qkW] at hd
  split at hd
  ·rename_i hu
   unfold Value.okWide at hv
   rw [hu] at hv
   obtain ⟨cs,h,_⟩:=hv
   exact ⟨fun _=>⟨cs,h⟩,fun h=>(by cases h)⟩
  ·cases hd
def qmn:(us:List Ty)→PMs.den (us.map .val)→Nat
 |[],_=>0
 |u::us,x=>u.bulk x.1+qmn us x.2
def qkO (P:Program):List Ty→List Nat→Bool
 |[],[]=>true
 |u::us,t::ts=>(qkW P u).1 t&&qkO P us ts
 |_,_=>false
theorem qpA (hb:qug bk bkA) {r:Reach} {b0:Nat} :(us:List Ty)→ {ts:List Nat} → {vs:List Value} → {ds:List (DataW H)} → {ps:List MemPlace} →qkO P us ts=true→(∀(j:Nat) t v,ts[j]? =some t→vs[j]? =some v→Value.okWide P w r b0 t v)→
  DataW.TrodAll enc P w 0 (fun _=>true) true ts vs ds ps→∃x:PMs.den (us.map .val),qaA P w (fun b=>b<w.heap.size) (us.map .val) x vs [] []∧qmn us x≤bkA ds
 |[],[],vs,ds,ps,_,_,h=>by
  obtain ⟨rfl,rfl,rfl⟩:=trodAll_nil h
  exact ⟨(),⟨rfl,rfl,rfl⟩,Nat.zero_le _⟩
 |u::us,t::ts,vs,ds,ps,hd,hv,h=>by
  simp only [qkO,Bool.and_eq_true] at hd
  obtain ⟨v,vs',d,ds',p,q,rfl,rfl,rfl,h0,hr⟩:=trodAll_cons h
  obtain ⟨fuel,h0⟩:=h0
  obtain ⟨x,k1,k2⟩:=(qiq hb u).1 fuel t _ _ hd.1 h0
  obtain ⟨xs,k3,k4⟩:=qpA hb us hd.2 (fun j t' v' ht hv'=>hv (j+1) t' v' (by simpa using ht) (by simpa using hv')) hr
  have:=hb.cons d ds'
  exact ⟨(x,xs),⟨v,vs',rfl,⟨k1,qsZ hd.1 (hv 0 t v rfl rfl)⟩,k3⟩,by show u.bulk x+qmn us xs≤_; simp only at k2; omega⟩
theorem qpO {W W':World} {sp:Nat→Bool} (hl:laidOutB P=true): {ts:List Nat} → {vs:List Value} → {ds:List (DataW H)} → {ps:List MemPlace} →(∀t∈ts,P.readableRec t=true∧t<P.types.size)→DataW.TrodAll enc P W 0 (fun _=>true) true ts vs ds ps→Below W.heap.size W W'→(∀x∈ps,x.block<W.heap.size)→(∀x∈ps,sp x.block=true)→
  DataW.TrodAll enc P W' 0 sp true ts vs ds ps
 |[],_,_,_,_,h,_,_,_=>by
  obtain ⟨rfl,rfl,rfl⟩:=trodAll_nil h
  rfl
 |t::ts,_,_,_,ht,h,hb,hlt,hs=>by
  obtain ⟨v,vs',d,ds',p,q,rfl,rfl,rfl,h0,hr⟩:=trodAll_cons h
  exact trodAll_cons_mk (WideElems.Trod_stays hl (ht t List.mem_cons_self).1 (ht t List.mem_cons_self).2 h0 (fun x hx=>hb.same (hlt x (List.mem_append_left _ hx))) fun x hx=>hs x (List.mem_append_left _ hx)) (qpO hl (fun t' h'=>ht t' (List.mem_cons_of_mem _ h')) hr hb (fun x hx=>hlt x (List.mem_append_right _ hx)) fun x hx=>hs x (List.mem_append_right _ hx))
end
end Go.Vi
namespace Go.Vi
open Go.RowKit Go.WideShapes Go.ChangeShapes
section
variable {H:Type} {enc:TypeId×Value→H} {P:Program}
theorem qsg {f:Func} {s:ChangeSpec} {apart fresh handsOn again:Bool} {W W':World} {args:Array Value} {v:Value} {ds gs:List (DataW H)} {before pa pv:List MemPlace}
  (hW:DataW.Whole enc P f.params.toList s.vars apart W args.toList ds gs before)
  (hres:∀(b:Nat) (sp:Nat→Bool) (hd:Bool),DataW.TrodAll enc P W' b sp hd f.resultTypes.toList (v.resultList f.resultTypes.size) (s.fn H (ds++gs)).results [])
  (hargs:∀sp:Nat→Bool,(∀p∈before,sp p.block=true)→DataW.TrodAll enc P W' 0 sp true f.params.toList args.toList (s.fn H (ds++gs)).args pa)
  (hvars:∀sp:Nat→Bool,(∀p∈before,sp p.block=true)→DataW.TrodVars enc P W' sp s.vars (s.fn H (ds++gs)).vars pv)
  (hps:before=pa++pv) (hb:Below W.heap.size W W')
  (hok:∀(j:Nat) (t:TypeId) (r:Value),f.resultTypes[j]? =some t→(v.resultList f.resultTypes.size)[j]? =some r→Value.okWide P W' .any 0 t r):
  s.post enc P f apart fresh handsOn again W args v W':=by
 have hlt:∀p∈before,p.block<W.heap.size:=fun p hp=>hW.lt p hp
 have hold:∀p∈before,(fun b=>decide (b<W.heap.size)) p.block=true:=fun p hp=>by simpa using hlt p hp
 refine ⟨ds,gs,before,[],pa,pv,hW,hres _ _ _,hargs _ hold,hvars _ hold,World.keptBut_mono (fun p hp=>⟨hp,?_⟩) (hb.frame (· ∈before)),fun _=> ?_⟩
 ·rw [hps,List.mem_append] at hp
  exact Or.inr hp
 ·obtain ⟨_,_,_,_,_,hz,hn⟩:=hW
  refine ⟨hok,_,_,([]++pa)++pv,⟨[]++pa,pv,trodAll_append (hargs _ (fun _ _=>rfl)) (hres _ _ _),hvars _ (fun _ _=>rfl),rfl,?_,?_⟩,?_⟩
  ·intro b off hp
   have hin:MemPlace.cell b off∈before:=by rw [hps]; simpa using hp
   rw [hb.frozen (hlt _ hin)]
   exact hz b off hin
  ·intro ha
   have:=hn ha
   rw [hps] at this
   simpa using this
  ·intro p hp _
   rw [hps]
   simpa using hp
theorem qoL {T:qlC} {bk:DataW H→Nat} {bkA:List (DataW H)→Nat} (hb:qug bk bkA) {B:Nat} {fi:Nat} {fn:Func} {s:ChangeSpec} {apart fresh handsOn again:Bool} {us:List Ty} {ts:List Nat} {tb:Nat} {sem:Nat→PMs.den (us.map .val)→Option (RMs.den [.val .bool]×PMs.ioDen (us.map .val))}
  (hp:fn.params.toList=ts) (hr:fn.resultTypes= #[tb]) (htb:P.underlying tb=some .bool) (hdeep:qkO P us ts=true) (hl:laidOutB P=true) (hread:ts.all (fun t=>P.readableRec t&&decide (t<P.types.size))=true) (hvars:s.vars=[])
  (hfn:∀ds:List (DataW H),ds.length=us.length→s.fn H ds= { results:=[.lit (.bool true)],args:=ds })
  (hC:∀N,qs.okT P T fi ⟨us.map .val,[.val .bool],sem N⟩) (hsem:∀x,qoG us x→qmn us x≤B→∃N z,sem N x=some ((true,()),z))
  {W:World} {args:Array Value} {ds gs:List (DataW H)} {before:List MemPlace} {r:Reach} {base:Nat}
  (hT:qd8 T W fun b=>b<W.heap.size)
  (hval:∀(j:Nat) t v,fn.params[j]? =some t→args[j]? =some v→Value.okWide P W r base t v)
  (hW:DataW.Whole enc P fn.params.toList s.vars apart W args.toList ds gs before) (hk:bkA (ds++gs)≤B):
  Calls P fi args W fun e W'=>∃v,e= .returned v∧s.post enc P fn apart fresh handsOn again W args v W':=by
 have hW':=hW
 obtain ⟨p,q,hA,hV,rfl,hfz,hnd⟩:=hW
 rw [hvars] at hV
 obtain ⟨rfl,rfl⟩:=trodVars_none hV
 rw [hp] at hA
 have hrd:∀t∈ts,P.readableRec t=true∧t<P.types.size:=fun t ht=>by
  have:=List.all_eq_true.1 hread t ht
  simpa using this
 have hlen:∀ {ts:List Nat} {us:List Ty} {vs:List Value} {ds:List (DataW H)} {p:List MemPlace},qkO P us ts=true→DataW.TrodAll enc P W 0 (fun _=>true) true ts vs ds p→ds.length=us.length:=by
  intro ts
  induction ts with
  |nil=>
   intro us vs ds p hd h
   obtain ⟨rfl,rfl,rfl⟩:=trodAll_nil h
   cases us with
   |nil=>rfl
   |cons u us=>cases hd
  |cons t ts ih=>
   intro us vs ds p hd h
   obtain ⟨v,vs',d,ds',p,q,rfl,rfl,rfl,h0,hr⟩:=trodAll_cons h
   cases us with
   |nil=>cases hd
   |cons u us=>
    simp only [qkO,Bool.and_eq_true] at hd
    simp only [List.length_cons]
    rw [ih hd.2 hr]
 have hdl:=hlen hdeep hA
 obtain ⟨x,k1,k2⟩:=qpA hb us hdeep (fun j t v ht hv=>hval j t v (by rw [←Array.getElem?_toList,hp]; exact ht) (by rw [←Array.getElem?_toList]; exact hv)) hA
 rw [List.append_nil] at hk
 obtain ⟨N,z,hz⟩:=hsem x (qaA.good us k1) (by omega)
 have:=(hC N).2 W (fun b=>b<W.heap.size) x ((true,()),z) args.toList [] [] hT k1 (fun b hb=>by cases hb) List.nodup_nil hz
 rw [Array.toArray_toList] at this
 refine this.mono fun e W' ⟨v,he,vs,bs,js,hv,_,_,hcs,_,hkept⟩=>⟨v,he,?_⟩
 obtain ⟨v',r',b1,b2,rfl,rfl,⟨rfl,hrep,_,hna⟩,hnil,_⟩:=hcs
 subst hnil
 have hv':v'= .bool true:=by
  have:v'.cells.toList=[.bool true]:=hrep
  have hna:=hna rfl
  cases v' <;> simp_all [Value.cells]
 rw [hv'] at hv
 have hv:v= .bool true:=hv
 rw [hv]
 have hbelow:Below W.heap.size W W':=⟨hkept.os,hkept.tape,hkept.output,hkept.size,fun k hk=>hkept.block k hk fun h=>by cases h⟩
 have hlt:∀x∈p,x.block<W.heap.size:=fun x hx=>hW'.lt x (by simpa using hx)
 refine qsg (pa:=p) (pv:=[]) hW' (fun b sp hd=> ?_) (fun sp hsp=> ?_) (fun sp _=> ?_) rfl hbelow (ok_one hr rfl (okWide_bool_mk htb true))
 ·rw [List.append_nil,hfn ds hdl,hr]
  exact trodAll_cons_mk (p':=[]) (shut_bool htb true) trodAll_mk0
 ·rw [List.append_nil,hfn ds hdl,hp]
  exact qpO hl hrd hA hbelow hlt fun x hx=>hsp x (by simpa using hx)
 ·rw [List.append_nil,hfn ds hdl,hvars]
  rfl
end
end Go.Vi
namespace Go.Vi
open Go.RowKit
theorem qsr {P:Program} {f:Nat} {fn:Func} (hf:P.funcs[f]? =some fn) (hb:fn.body.isSome=true) (hname:(fn.name == "runtime.NumGoroutine")=false) (φ:List UInt8→List UInt8→Int) (hφ:∀a b,IntKind.i64.has (φ a b))
  (h:∀(a b:ByteArray) (w:World),Calls P f #[.string a,.string b] w fun e w'=>e= .returned (.int .i64 (φ a.data.toList b.data.toList))∧w'=w):
  qs.ok P f ⟨[.val .str,.val .str],[.val (.int .i64)],fun x=>some ((φ x.1 x.2.1,()),())⟩:=by
 obtain ⟨c,hc⟩:=Option.isSome_iff_exists.1 hb
 refine ⟨fun as w=>qdS hf hc hname as w,fun w F x y as g i _ hp hpre hn hy=> ?_⟩
 obtain ⟨a,b,_⟩:=x
 obtain ⟨v1,r1,rfl,h1,v2,r2,rfl,h2,rfl,rfl,rfl⟩:=hp
 obtain ⟨e1,_⟩:=qaN.str h1
 obtain ⟨e2,_⟩:=qaN.str h2
 subst e1
 subst e2
 injection hy with hy
 subst hy
 refine (h ⟨List.toArray a⟩ ⟨List.toArray b⟩ w).mono fun e w' ⟨he,hw⟩=>⟨_,he,?_⟩
 subst hw
 refine qs.Post.mk0 [_] [] rfl List.nodup_nil (fun b hb=>(by cases hb)) ⟨_,_,[],[],rfl,rfl,⟨rfl,?_⟩,rfl,rfl⟩ ⟨rfl,rfl⟩ (qcQ.refl _ _)
 exact qaN.ofInt _ _ (hφ _ _)
theorem qs.lift {P:Program} {f:Nat} {C:qs} {T:qlC} (h:C.ok P f):C.okT P T f:=⟨h.1,fun w F x y as g i _ a b c d=>h.2 w F x y as g i qd8.none a b c d⟩
theorem qlL (a b:List UInt8):IntKind.i64.has (Lib.compareBytes a b):=by
 have:Lib.compareBytes a b= -1∨Lib.compareBytes a b=0∨Lib.compareBytes a b=1:=by
  induction a generalizing b with
  |nil=>cases b <;> simp [Lib.compareBytes]
  |cons x a ih=>cases b with
   |nil=>simp [Lib.compareBytes]
   |cons y b=>
    simp only [Lib.compareBytes]
    split
    ·simp
    ·split
     ·simp
     ·exact ih b
 rcases this with h|h|h <;> rw [h] <;> exact ⟨by decide,by decide⟩
end Go.Vi
namespace Go.Vi
open Go.RowKit
theorem qcQ.ofBelow {w w':World} (h:Below w.heap.size w w'):qcQ (fun _=>False) w w':=⟨h.os,h.tape,h.output,h.size,fun k hk _=>h.block k hk⟩
theorem qrg {P:Program} {T:qlC} {f:Nat} {fn:Func} (hf:P.funcs[f]? =some fn) (hb:fn.body.isSome=true) (hname:(fn.name == "runtime.NumGoroutine")=false) (ts us:List Ty) (φ:denL ts→Option (denL us))
  (h:∀(w:World) (F:Nat→Prop) (x:denL ts) (y:denL us) (as:List Value),qd8 T w F→qek w F ts x as→φ x=some y→
   Calls P f as.toArray w fun e w'=>∃vs,e= .returned (qfg vs)∧qek w' (fun b=>F b∨w.heap.size≤b) us y vs∧qcQ (fun _=>False) w w'):
  qs.okT P T f ⟨valPs ts,valRs us,fun x=>qkf (fun y=>(quT us y,PMs.ioDflt (valPs ts))) (φ (qvE ts x))⟩:=by
 obtain ⟨c,hc⟩:=Option.isSome_iff_exists.1 hb
 refine ⟨fun as w=>qdS hf hc hname as w,fun w F x y as g i hT hp hpre hn hy=> ?_⟩
 simp only [qd2,Option.map_eq_some_iff] at hy
 obtain ⟨z,hz,rfl⟩:=hy
 obtain ⟨k1,rfl,rfl⟩:=qjs ts hp
 refine (h w F _ z as hT k1 hz).mono ?_
 rintro e w' ⟨vs,rfl,hv,hk⟩
 refine ⟨_,rfl,qs.Post.mk0 vs [] rfl List.nodup_nil (fun b hb=>(by cases hb)) (qkG us (hv.mono us fun b hb=> ?_)) (qiC ts) (hk.mono fun _ h=>h.elim)⟩
 exact ⟨hb.elim .inl fun h=> .inr (.inr h),by simp,by simp⟩
theorem qpa (k:IntKind):(l:List Int)→(css:List (List Value))→css.length=l.length→(∀(i:Nat) (x:Int) (c:List Value),l[i]? =some x→css[i]? =some c→c=[.int k x])→css.flatten=l.map (fun z=> .int k z)
 |[],[],_,_=>rfl
 |[],_::_,h,_=>by simp at h
 |_::_,[],h,_=>by simp at h
 |x::l,c::css,h,hx=>by
  have h0:=hx 0 x c rfl rfl
  have ih:=qpa k l css (by simpa using h) fun i x c h1 h2=>hx (i+1) x c (by simpa using h1) (by simpa using h2)
  rw [List.flatten_cons,ih,h0]
  rfl
theorem qrC {P:Program} {T:qlC} {w:World} {F:Nat→Prop} (hT:qd8 T w F) {name:String} {g n:Nat} {k:IntKind} {tab zs:List Int} (hg:P.globalNamed name=some g) (ht:T g=some ⟨.arr n (.int k),tab⟩) (hz:tab=zs):Lib.TabIs P w name k zs:=by
 subst hz
 obtain ⟨_,_,cs,te,fz,h3,hl,css,hcl,rfl,hx⟩:=hT g _ ht
 have e:=qpa k tab css (by rw [hcl]; exact hl.symm) fun i x c h1 h2=>(hx i x c h1 h2).1
 rw [Lib.TabIs,World.var?,hg]
 simp only [Option.bind_some,h3,e]
theorem qlU (s:List UInt8):(⟨s.toArray⟩:ByteArray).size=s.length:=by
 show s.toArray.size=s.length
 simp
theorem qwF {P:Program} {T:qlC} {f g:Nat} {fn:Func} {tab:List Int} (hf:P.funcs[f]? =some fn) (hb:fn.body.isSome=true) (hname:(fn.name == "runtime.NumGoroutine")=false)
  (hg:P.globalNamed "internal/strconv.uint64pow10" =some g) (ht:T g=some ⟨.arr 20 (.int .u64),tab⟩) (hz:tab=Lib.pow10Tab)
  (h:∀(n:Int),-9223372036854775808≤n→n≤9223372036854775807→∀(w:World),Lib.TabIs P w "internal/strconv.uint64pow10" .u64 Lib.pow10Tab→
   Calls P f #[.int .i64 n] w fun e w'=>e= .returned (.string ⟨(Lib.itoa n).toArray⟩)∧∃k os,w'=Sort.grow (w.drewN k) os):
  qs.okT P T f ⟨[.val (.int .i64)],[.val .str],fun x=>some ((Lib.itoa x.1,()),())⟩:=by
 have:=qrg (T:=T) hf hb hname [.int .i64] [.str] (fun x=>some (Lib.itoa x.1,())) (fun w F x y as hT hv hy=>by
  obtain ⟨v,r,rfl,h1,rfl⟩:=hv
  obtain ⟨rfl,hn⟩:=qaN.int h1
  injection hy with hy
  subst hy
  have hn': -9223372036854775808≤x.1∧x.1≤9223372036854775807:=by simpa [IntKind.has,IntKind.min,IntKind.max,IntKind.signed,IntKind.bits] using hn
  refine (h x.1 hn'.1 hn'.2 w (qrC hT hg ht hz)).mono ?_
  rintro e w' ⟨rfl,k,os,rfl⟩
  refine ⟨[_],rfl,⟨_,[],rfl,qaN.ofStr _ _ ?_,rfl⟩,qcQ.ofBelow (Lib.below_grow _ _ (Nat.le_refl _) _ _)⟩
  have:=Lib.itoa_length_le x.1 hn'.1 hn'.2
  simp only [maxLen]
  omega)
 refine ⟨this.1,fun w F x y as g i a b c d e=>this.2 w F x y as g i a b c d ?_⟩
 injection e with e
 subst e
 simp only [qd2]
 rfl
def qms (w:World) (g:Nat) (r:(t:Ty)×t.den):Prop:=g<w.heap.size∧∃(cs:List Value) (te:Nat) (fz:Nat×Nat),w.heap[g]? =some (.cells cs.toArray te fz)∧Rep w (fun b=>b<w.heap.size) r.1 r.2 cs
theorem qpt {P:Program} {w:World} {n:String} {g:Nat} {cs:Array Value} (hg:P.globalNamed n=some g) (h:w.var? P n=some cs):g<w.heap.size∧∃(te:Nat) (fz:Nat×Nat),w.heap[g]? =some (.cells cs te fz):=by
 rw [World.var?,hg] at h
 simp only [Option.bind_some] at h
 split at h
 ·rename_i c te fz e
  injection h with h
  subst h
  exact ⟨(Array.getElem?_eq_some_iff.1 e).1,te,fz,e⟩
 ·cases h
theorem qms.err {P:Program} {w:World} {n:String} {g:Nat} {t:TypeId} {x:Value} (hg:P.globalNamed n=some g) (h:w.var? P n=some #[.iface t x]):qms w g ⟨.err,false⟩:=by
 obtain ⟨h1,te,fz,h2⟩:=qpt hg h
 exact ⟨h1,[.iface t x],te,fz,h2,_,rfl,.inr ⟨rfl,t,x,rfl⟩⟩
theorem qlq {α β:Type} (f:α→β):(l:List α)→l.map f=(l.map fun z=>[f z]).flatten
 |[]=>rfl
 |x::l=>by simp only [List.map_cons,List.flatten_cons,←qlq f l]; rfl
theorem qms.ints {P:Program} {w:World} {name:String} {g n:Nat} {k:IntKind} {tab zs:List Int} (hg:P.globalNamed name=some g) (hn:zs.length=n) (hk:zs.all (fun z=>decide (k.min≤z∧z≤k.max))=true) (ht:tab=zs) (h:Lib.TabIs P w name k zs):qms w g ⟨.arr n (.int k),tab⟩:=by
 subst ht
 obtain ⟨h1,te,fz,h2⟩:=qpt hg h
 refine ⟨h1,tab.map (fun z=> .int k z),te,fz,h2,hn,tab.map (fun z=>[.int k z]),by rw [List.length_map,hn],qlq _ _,fun i x c hx hc=> ?_⟩
 rw [List.getElem?_map,hx] at hc
 injection hc with hc
 subst hc
 have h3:k.min≤x∧x≤k.max:=of_decide_eq_true (List.all_eq_true.1 hk x (List.mem_of_getElem? hx))
 exact ⟨rfl,h3⟩
def qlv (v:Int×(Int×(List UInt8×Unit))):List UInt8:=124::(Lib.itoa v.1++44::(Lib.itoa v.2.1++44::(Lib.itoa (v.2.2.1.length:Int)++44::v.2.2.1)))
def qe0 (xs:List (Int×(Int×(List UInt8×Unit)))):List UInt8:=Lib.itoa (xs.length:Int)++(xs.map qlv).flatten
def qo1 (s t:List UInt8):Option ((Int×Unit)×Unit):=match t with
 |[c]=>some ((Lib.indexByte s c,()),())
 |_=>none
theorem qiA:(s:List UInt8)→(c:UInt8)→ -1≤Lib.indexByte s c∧Lib.indexByte s c<(s.length:Int)+1
 |[],_=>by simp [Lib.indexByte]
 |b::l,c=>by
  have:=qiA l c
  simp only [Lib.indexByte]
  split
  ·simp only [List.length_cons]; omega
  ·split
   ·simp only [List.length_cons]; omega
   ·simp only [List.length_cons]; omega
theorem qtQ {P:Program} {T:qlC} {f:Nat} {fn:Func} (hf:P.funcs[f]? =some fn) (hb:fn.body.isSome=true) (hname:(fn.name == "runtime.NumGoroutine")=false)
  (h:∀(s:ByteArray) (c:UInt8) (w:World),Calls P f #[.string s,.string ⟨#[c]⟩] w fun e w'=>e= .returned (.int .i64 (Lib.indexByte s.data.toList c))∧w'=w):
  qs.okT P T f ⟨[.val .str,.val .str],[.val (.int .i64)],fun x=>qo1 x.1 x.2.1⟩:=by
 have:=qrg (T:=T) hf hb hname [.str,.str] [.int .i64] (fun x=>match x.2.1 with
  |[c]=>some (Lib.indexByte x.1 c,())
  |_=>none) (fun w F x y as hT hv hy=>by
  obtain ⟨v,r,rfl,h1,v2,r2,rfl,h2,rfl⟩:=hv
  obtain ⟨rfl,hn⟩:=qaN.str h1
  obtain ⟨rfl,hn2⟩:=qaN.str h2
  obtain ⟨s,t,u⟩:=x
  simp only at hy hn hn2⊢
  split at hy
  ·rename_i c
   injection hy with hy
   subst hy
   refine (h ⟨s.toArray⟩ c w).mono ?_
   rintro e w' ⟨rfl,rfl⟩
   refine ⟨[_],rfl,⟨_,[],rfl,qaN.ofInt _ _ ?_,rfl⟩,qcQ.refl _ _⟩
   have h3:=qiA s c
   simp only [maxLen] at hn
   simp [IntKind.has,IntKind.min,IntKind.max,IntKind.signed,IntKind.bits]
   omega
  ·cases hy)
 refine ⟨this.1,fun w F x y as g i a b c d e=>this.2 w F x y as g i a b c d ?_⟩
 obtain ⟨s,t,u⟩:=x
 simp only [qo1] at e
 simp only [qd2,qvE]
 split at e
 ·injection e with e
  subst e
  rfl
 ·cases e
end Go.Vi
namespace Go.Vi
open Go.RowKit
theorem qfq {P:Program} (w:World) (dT sT ty elem:TypeId) (sz:Nat) (g o dLen dCap:Nat) (a:Addr) (sLen sCap:Nat) (cur:List Value) (t:TypeId) (cs:List Value)
  (hu:P.underlying dT=some (.slice elem)) (hs:(P.info? elem).map (·.size)=some sz)
  (hg:w.heap[g]? =some (.cells cur.toArray t (0,0))) (hn:cs.length=Nat.min sLen dLen * sz)
  (hsrc:∀j v,cs[j]? =some v→w.cell? (a.add j)=some v) (hfit:o+cs.length≤cur.length) (h1:∀v∈cs,v.oneCell'=true):
  (Builtin.copy_ #[dT,sT] ty #[.slice (some ⟨g,o,none⟩) dLen dCap,.slice (some a) sLen sCap]).run P w=
   .ok (goInt (Nat.min sLen dLen)) (w.setRow g (cur.take o++cs++cur.drop (o+cs.length)).toArray):=by
 have hl:=run_loadCells_list (P:=P) w a cs hsrc
 have hst:=run_storeCells_at P g o t cs 0 cur.toArray w hg (by simpa using hfit) h1
 simp only [Nat.add_zero] at hst
 cases hq:P.info? elem with
 |none=>simp [hq] at hs
 |some i=>
  have hi:i.size=sz:=by simpa [hq] using hs
  simp [Builtin.copy_,run_underlying hu,Builtin.lenOf,Builtin.firstCells,sizeOf,typeInfo,hq,hi,←hn,hl,hst]
theorem qkz {P:Program} {ops:Array Oper} {o:Oper} {a:Act} {w:World} {K:Act→World→Prop} {Q:Exit→Act→World→Prop} {E:Prop}
  (hg:o.guard=none) (d x:Operand) (dT sT:TypeId) (hop:o.op=Op.call { callee:=Callee.builtin Builtin.copy,args:= #[d,x],argTypes:= #[dT,sT] })
  (v u:Value) (hd:a.eval d=v) (hx:a.eval x=u) {v':Value} {w':World} (hr:(Builtin.copy_ #[dT,sT] o.type #[v,u]).run P w= .ok v' w') (hK:K (a.put o.dst v') w'):
  if Region.wanted o (yielded ops a.tmps)=true then Oper.wp P o a w K Q else E:=by
 have hw:Region.wanted o (yielded ops a.tmps)=true:=by simp [Region.wanted,hg]
 rw [if_pos hw]
 unfold Oper.wp
 simp [execOp,hop,resolve,invoke,builtin,hd,hx,hr,Result.andThen]
 exact hK
theorem qcQ.setRow {O:Nat→Prop} {w0 w:World} {g:Nat} (h:qcQ O w0 w) (hg:O g) (cs:Array Value):qcQ O w0 (w.setRow g cs):=
 h.trans ⟨rfl,rfl,rfl,by simp [World.setRow],fun k _ hk=>setRow_other w g k cs (fun e=>hk (e ▸ hg))⟩
theorem qc5 {w:World} {g:Nat} {cur:List Value} {t:TypeId} {fz:Nat×Nat} (h:w.heap[g]? =some (.cells cur.toArray t fz)) (cs:Array Value):(w.setRow g cs).heap[g]? =some (.cells cs t fz):=setRow_heap w g _ cs t fz h
def qdX {α:Type} (R:α→List Value→Prop) (sz:Nat) (xs:List α) (cells:List Value):Prop:=
 cells.length=xs.length * sz∧∀(j:Nat) (x:α),xs[j]? =some x→R x ((cells.drop (j * sz)).take sz)
theorem qdX.append {α:Type} {R:α→List Value→Prop} {sz:Nat} {xs ys:List α} {a b:List Value} (h:qdX R sz xs a) (k:qdX R sz ys b):qdX R sz (xs++ys) (a++b):=by
 refine ⟨by rw [List.length_append,List.length_append,h.1,k.1,Nat.add_mul],fun j x hj=> ?_⟩
 by_cases hlt:j<xs.length
 ·rw [List.getElem?_append_left hlt] at hj
  have h1:(j+1) * sz≤xs.length * sz:=Nat.mul_le_mul_right _ hlt
  rw [Nat.add_mul,Nat.one_mul] at h1
  have h2:=h.2 j x hj
  rwa [List.drop_append_of_le_length (by rw [h.1]; omega),List.take_append_of_le_length (by rw [List.length_drop,h.1]; omega)]
 ·rw [List.getElem?_append_right (by omega)] at hj
  have h2:=k.2 _ x hj
  have e:j * sz=xs.length * sz+(j - xs.length) * sz:=by rw [←Nat.add_mul]; congr 1; omega
  rw [e,List.drop_append,List.drop_of_length_le (l:=a) (by rw [h.1]; omega),List.nil_append,h.1,Nat.add_sub_cancel_left]
  exact h2
theorem qdX.take {α:Type} {R:α→List Value→Prop} {sz:Nat} {xs:List α} {a:List Value} (h:qdX R sz xs a) (k:Nat) (hk:k≤xs.length):qdX R sz (xs.take k) (a.take (k * sz)):=by
 have h0:k * sz≤xs.length * sz:=Nat.mul_le_mul_right _ hk
 refine ⟨by rw [List.length_take,List.length_take,h.1,Nat.min_eq_left h0,Nat.min_eq_left hk],fun j x hj=> ?_⟩
 rw [List.getElem?_take] at hj
 split at hj
 case isFalse=>cases hj
 rename_i hlt
 have h1:(j+1) * sz≤k * sz:=Nat.mul_le_mul_right _ hlt
 rw [Nat.add_mul,Nat.one_mul] at h1
 have h2:=h.2 j x hj
 rwa [List.drop_take,List.take_take,Nat.min_eq_left (by omega)]
theorem qdX.drop {α:Type} {R:α→List Value→Prop} {sz:Nat} {xs:List α} {a:List Value} (h:qdX R sz xs a) (k:Nat):qdX R sz (xs.drop k) (a.drop (k * sz)):=by
 refine ⟨by rw [List.length_drop,List.length_drop,h.1,Nat.sub_mul],fun j x hj=> ?_⟩
 rw [List.getElem?_drop] at hj
 have h2:=h.2 _ x hj
 rwa [List.drop_drop,←Nat.add_mul]
theorem qdX.mono {α:Type} {R R':α→List Value→Prop} {sz:Nat} {xs:List α} {a:List Value} (h:qdX R sz xs a) (hR:∀x c,R x c→R' x c):qdX R' sz xs a:=⟨h.1,fun j x hj=>hR _ _ (h.2 j x hj)⟩
theorem qak.chunks {w:World} {F:Nat→Prop} {et:Nat} {e:Ty} {xs:List e.den} {v:Value} {bs:List Nat} (h:qak w F et e xs v bs):∃cells,w.ownsRow 0 et e.size v xs.length cells∧bs=v.ownBlock.toList∧qdX (Rep w F e) e.size xs cells:=by
 obtain ⟨cells,h1,h2,h3⟩:=h
 exact ⟨cells,h1,h2,h1.1,h3⟩
theorem qdX.own {w:World} {F:Nat→Prop} {et:Nat} {e:Ty} {xs:List e.den} {v:Value} {cells:List Value} {n:Nat} (h:qdX (Rep w F e) e.size xs cells) (ho:w.ownsRow 0 et e.size v n cells) (hn:n=xs.length):qak w F et e xs v v.ownBlock.toList:=by
 subst hn
 exact ⟨cells,ho,rfl,h.2⟩
theorem qdX.oneCell {w:World} {F:Nat→Prop} {e:Ty} : {xs:List e.den} → {cells:List Value} →qdX (Rep w F e) e.size xs cells→∀u∈cells,u.oneCell'=true
 |[],cells,h,u,hu=>by
  have:cells=[]:=List.eq_nil_of_length_eq_zero (by rw [h.1]; simp)
  rw [this] at hu
  cases hu
 |x::xs,cells,h,u,hu=>by
  have h0:=h.2 0 x rfl
  rw [Nat.zero_mul,List.drop_zero] at h0
  rw [←List.take_append_drop e.size cells] at hu
  rcases List.mem_append.1 hu with hu|hu
  ·exact h0.oneCell u hu
  ·have h1:=h.drop 1
   rw [Nat.one_mul] at h1
   exact qdX.oneCell (xs:=xs) h1 u hu
def quu (P:Program) (f te sz bytes:Nat):Prop:=∀(w:World) (v vv:Value) (n m i:Nat) (xs vs:List Value),w.ownsRow 0 te sz v n xs→w.ownsRow 0 te sz vv m vs→(∀b,v.ownBlock=some b→vv.ownBlock≠some b)→i≤n→
 (n+m) * bytes≤140737488355328→(∀u∈xs,u.oneCell'=true)→(∀u∈vs,u.oneCell'=true)→
 Calls P f #[v,.int .i64 i,vv] w fun e w'=>∃v',e= .returned v'∧w'.ownsRow 0 te sz v' (n+m) (xs.take (i * sz)++vs++xs.drop (i * sz))∧qcQ (fun b=>v.ownBlock=some b) w w'∧∀b,v'.ownBlock=some b→v.ownBlock=some b∨w.heap.size≤b
theorem qwe {w:World} {te sz n:Nat} {v:Value} {xs:List Value} (h:w.ownsRow 0 te sz v n xs):∀b,v.ownBlock=some b→b<w.heap.size:=fun b hb=>(h.lt b hb).2
theorem qmT {o:Option Nat} {b:Nat} (h:b∈o.toList):o=some b:=by
 cases o with
 |none=>cases h
 |some c=>simp at h; rw [h]
theorem qtt {i:Int} {n:Nat} (h0:0≤i) (h1:i≤(n:Int)):∃j:Nat,i=(j:Int)∧j≤n:=⟨i.toNat,by omega,by omega⟩
theorem qts {P:Program} {T:qlC} {f te bytes:Nat} {fn:Func} {e:Ty} (hf:P.funcs[f]? =some fn) (hb:fn.body.isSome=true) (hname:(fn.name == "runtime.NumGoroutine")=false) (hw:quu P f te e.size bytes):
  qs.okT P T f ⟨[.own te e,.val (.int .i64),.own te e],[.own te e],fun x=>if 0≤x.2.1∧x.2.1≤(x.1.length:Int)∧(x.1.length+x.2.2.1.length) * bytes≤140737488355328 then some ((x.1.take x.2.1.toNat++x.2.2.1++x.1.drop x.2.1.toNat,()),()) else none⟩:=by
 obtain ⟨c,hc⟩:=Option.isSome_iff_exists.1 hb
 refine ⟨fun as w=>qdS hf hc hname as w,fun w F x y as g io hT hp hpre hn hy=> ?_⟩
 obtain ⟨xs,i,vs,⟨⟩⟩:=x
 obtain ⟨v1,r1,g1,g2,rfl,rfl,o1,v2,r2,rfl,h2,v3,r3,g3,g4,rfl,rfl,o3,rfl,rfl,rfl⟩:=hp
 simp only at hy
 split at hy
 case isFalse=>cases hy
 rename_i hcond
 obtain ⟨c1,c2,c3⟩:=hcond
 injection hy with hy
 subst hy
 obtain ⟨rfl,_⟩:=qaN.int h2
 simp only at o1 o3 c1 c2 c3
 obtain ⟨cs1,w1,rfl,k1⟩:=o1.chunks
 obtain ⟨cs3,w3,rfl,k3⟩:=o3.chunks
 obtain ⟨j,rfl,hj⟩:=qtt c1 c2
 simp only [List.append_nil] at hpre hn
 have hne:∀b,v1.ownBlock=some b→v3.ownBlock≠some b:=fun b h1 h3=>by
  rw [h1,h3] at hn
  simp at hn
 have hF:∀b,F b→v1.ownBlock≠some b:=fun b hb h=>(hpre b (List.mem_append_left _ (by rw [h]; simp))).1 hb
 refine (hw w v1 v3 xs.length vs.length j cs1 cs3 w1 w3 hne hj c3 k1.oneCell k3.oneCell).mono ?_
 rintro en w' ⟨v',rfl,a1,a2,a3⟩
 have inBs:∀b,b∈v'.ownBlock.toList→(v1.ownBlock=some b∨w.heap.size≤b)∧b<w'.heap.size:=fun b hb=>by
  have e:=qmT hb
  exact ⟨a3 b e,qwe a1 b e⟩
 have keep:∀b,F b→b<w.heap.size→qjH w F (v1.ownBlock.toList++v3.ownBlock.toList) [] v'.ownBlock.toList b∧b<w'.heap.size∧w'.heap[b]? =w.heap[b]? :=fun b hb hlt=>by
  refine ⟨⟨.inl hb,fun hm=> ?_,by simp⟩,Nat.lt_of_lt_of_le hlt a2.size,a2.block b hlt (hF b hb)⟩
  rcases (inBs b hm).1 with h|h
  ·exact hF b hb h
  ·omega
 refine ⟨v',rfl,qs.Post.mk0 [v'] v'.ownBlock.toList rfl ?_ (fun b hb=> ?_) ⟨v',[],_,[],rfl,by rw [List.append_nil],?_,rfl,rfl⟩ ⟨rfl,rfl⟩ ?_⟩
 ·cases v'.ownBlock <;> simp
 ·obtain ⟨h1,h2⟩:=inBs b hb
  refine ⟨h1.imp (fun h=> ?_) id,h2⟩
  rw [List.append_nil]
  exact List.mem_append_left _ (by rw [h]; simp)
 ·have hk:=((k1.take j hj).append k3).append (k1.drop j)
  have hl:(xs.take j++vs++xs.drop j).length=xs.length+vs.length:=by
   simp only [List.length_append,List.length_take,List.length_drop]; omega
  have:=(hk.mono fun x c h=>h.keep keep).own a1 hl.symm
  simp only [Int.toNat_natCast,List.append_nil]
  exact this
 ·refine a2.mono fun b hb=> ?_
  rw [List.append_nil,List.append_nil]
  exact List.mem_append_left _ (by rw [hb]; simp)
theorem qml {P:Program} (w:World) (t ty e:TypeId) (sz:Nat) (ht:P.underlying t=some (.slice e)) (hs:(P.info? e).map (·.size)=some sz) (g sLen sCap:Nat) (a:Addr) (m c:Nat) (cur:List Value) (t':TypeId) (cs:List Value)
  (hg:w.heap[g]? =some (.cells cur.toArray t' (0,0))) (hn:cs.length=m * sz) (hsrc:∀j v,cs[j]? =some v→w.cell? (a.add j)=some v) (h1:∀v∈cs,v.oneCell'=true) (hroom:sLen+m≤sCap) (hfit:sLen * sz+cs.length≤cur.length):
  (Builtin.append_ #[t,t] ty #[.slice (some ⟨g,0,none⟩) sLen sCap,.slice (some a) m c]).run P w= .ok (.slice (some ⟨g,0,none⟩) (sLen+m) sCap) (w.setRow g (cur.take (sLen * sz)++cs++cur.drop (sLen * sz+cs.length)).toArray):=by
 obtain ⟨i,hi,hiz⟩:=Option.map_eq_some_iff.1 hs
 have hfc:=run_firstCells_some (P:=P) w i.size m a m c cs (by rw [hiz]; exact hn) hsrc
 have hst:=run_storeCells_at P g (sLen * sz) t' cs 0 cur.toArray w hg (by simpa using hfit) h1
 simp only [Nat.add_zero] at hst
 rw [hiz] at hfc
 simp [Builtin.append_,run_underlying ht,sizeOf,typeInfo,hi,hiz,Builtin.lenOf,hroom,hfc,Addr.add_lit,hst]
theorem qiu {P:Program} {ops:Array Oper} {o:Oper} {a:Act} {w:World} {K:Act→World→Prop} {Q:Exit→Act→World→Prop} {E:Prop}
  (hg:o.guard=none) (d x:Operand) (dT sT:TypeId) (hop:o.op=Op.call { callee:=Callee.builtin Builtin.append,args:= #[d,x],argTypes:= #[dT,sT] })
  (v u:Value) (hd:a.eval d=v) (hx:a.eval x=u) {v':Value} {w':World} (hr:(Builtin.append_ #[dT,sT] o.type #[v,u]).run P w= .ok v' w') (hK:K (a.put o.dst v') w'):
  if Region.wanted o (yielded ops a.tmps)=true then Oper.wp P o a w K Q else E:=by
 have hw:Region.wanted o (yielded ops a.tmps)=true:=by simp [Region.wanted,hg]
 rw [if_pos hw]
 unfold Oper.wp
 simp [execOp,hop,resolve,invoke,builtin,hd,hx,hr,Result.andThen]
 exact hK
def qtx (P:Program) (f te sz:Nat):Prop:=∀(w:World) (v:Value) (n i j:Nat) (xs:List Value),w.ownsRow 0 te sz v n xs→i≤j→j≤n→(∀u∈xs,u.oneCell'=true)→
 Calls P f #[v,.int .i64 i,.int .i64 j] w fun e w'=>∃v',e= .returned v'∧w'.ownsRow 0 te sz v' (i+(n - j)) (xs.take (i * sz)++xs.drop (j * sz))∧qcQ (fun b=>v.ownBlock=some b) w w'∧v'.ownBlock=v.ownBlock
theorem qtd {P:Program} {T:qlC} {f te:Nat} {fn:Func} {e:Ty} (hf:P.funcs[f]? =some fn) (hb:fn.body.isSome=true) (hname:(fn.name == "runtime.NumGoroutine")=false) (hw:qtx P f te e.size):
  qs.okT P T f ⟨[.own te e,.val (.int .i64),.val (.int .i64)],[.own te e],fun x=>if 0≤x.2.1∧x.2.1≤x.2.2.1∧x.2.2.1≤(x.1.length:Int) then some ((x.1.take x.2.1.toNat++x.1.drop x.2.2.1.toNat,()),()) else none⟩:=by
 obtain ⟨c,hc⟩:=Option.isSome_iff_exists.1 hb
 refine ⟨fun as w=>qdS hf hc hname as w,fun w F x y as g io hT hp hpre hn hy=> ?_⟩
 obtain ⟨xs,i,j,⟨⟩⟩:=x
 obtain ⟨v1,r1,g1,g2,rfl,rfl,o1,v2,r2,rfl,h2,v3,r3,rfl,h3,rfl,rfl,rfl⟩:=hp
 simp only at hy
 split at hy
 case isFalse=>cases hy
 rename_i hcond
 obtain ⟨c1,c2,c3⟩:=hcond
 injection hy with hy
 subst hy
 obtain ⟨rfl,_⟩:=qaN.int h2
 obtain ⟨rfl,_⟩:=qaN.int h3
 simp only at o1 c1 c2 c3
 obtain ⟨cs1,w1,rfl,k1⟩:=o1.chunks
 obtain ⟨b,rfl,hj⟩:=qtt (Int.le_trans c1 c2) c3
 obtain ⟨a,rfl,hi⟩:=qtt c1 c2
 simp only [List.append_nil] at hpre hn
 have hF:∀b,F b→v1.ownBlock≠some b:=fun b hb h=>(hpre b (by rw [h]; simp)).1 hb
 refine (hw w v1 xs.length a b cs1 w1 hi hj k1.oneCell).mono ?_
 rintro en w' ⟨v',rfl,a1,a2,a3⟩
 have keep:∀b,F b→b<w.heap.size→qjH w F v1.ownBlock.toList [] v'.ownBlock.toList b∧b<w'.heap.size∧w'.heap[b]? =w.heap[b]? :=fun b hb hlt=>
  ⟨⟨.inl hb,fun hm=>hF b hb (by rw [←a3]; exact qmT hm),by simp⟩,Nat.lt_of_lt_of_le hlt a2.size,a2.block b hlt (hF b hb)⟩
 refine ⟨v',rfl,qs.Post.mk0 [v'] v'.ownBlock.toList rfl ?_ (fun b hb=> ?_) ⟨v',[],_,[],rfl,by rw [List.append_nil],?_,rfl,rfl⟩ ⟨rfl,rfl⟩ ?_⟩
 ·cases v'.ownBlock <;> simp
 ·rw [List.append_nil,←a3]
  exact ⟨.inl hb,qwe a1 b (qmT hb)⟩
 ·have hk:=(k1.take a (Nat.le_trans hi hj)).append (k1.drop b)
  have hl:(xs.take a++xs.drop b).length=a+(xs.length - b):=by
   simp only [List.length_append,List.length_take,List.length_drop]; omega
  have:=(hk.mono fun x c h=>h.keep keep).own a1 hl.symm
  simp only [Int.toNat_natCast,List.append_nil]
  exact this
 ·refine a2.mono fun b hb=> ?_
  rw [List.append_nil,List.append_nil]
  rw [hb]; simp
end Go.Vi
namespace Go.Vi
theorem qcW {S R:Type} (n:Nat) (step:(S→Option R)→S→Option R) (s:S):qad (n+1) step s=step (qad n step) s:=rfl
theorem qeC {S R:Type} {step:(S→Option R)→S→Option R} (m:S→Nat) (I:S→Prop) (out:S→R) (h:∀(ih:S→Option R) (s:S),I s→(∀s',I s'→m s'<m s→ih s'=some (out s'))→step ih s=some (out s)):∀(n:Nat) (s:S),I s→m s<n→qad n step s=some (out s)
 |0,s,_,hm=>absurd hm (Nat.not_lt_zero _)
 |n+1,s,hI,hm=>h (qad n step) s hI fun s' hI' hm'=>qeC m I out h n s' hI' (by omega)
theorem qp {α:Type} (x:α):qB (some x)=true:=by rw [qgF]; rfl
theorem qu {α:Type} (x d:α):qx (some x) d=x:=by rw [ql9]; rfl
theorem qiR {α:Type} :qB (none:Option α)=false:=by rw [qgF]; rfl
theorem qn3 {z:Int} (h1: -9223372036854775808≤z) (h2:z<9223372036854775808):IntKind.wrap .i64 z=z:=by
 simp [IntKind.wrap,IntKind.signed,IntKind.bits]
 split <;> omega
theorem qJ {α:Type} {c:Bool} {a b:α} (h:c=true):(bif c then a else b)=a:=by rw [h]; rfl
theorem qE {α:Type} {c:Bool} {a b:α} (h:c=false):(bif c then a else b)=b:=by rw [h]; rfl
theorem qaJ {α:Type} {p:Prop} [Decidable p] {a b:α} :(bif decide p then a else b)=if p then a else b:=by by_cases h:p <;> simp [h]
theorem qaC (x y:Int):eqI x y=decide (x=y):=by rw [qmB]; rfl
theorem qan (x y:Int):neI x y= !decide (x=y):=by rw [qmL]; rfl
theorem qbs (x y:List UInt8):eqS x y=decide (x=y):=by rw [qqx]; by_cases h:x=y <;> simp [h]
theorem quW {α:Type} (c:Bool) (a b:α):(bif c then a else b)=if c=true then a else b:=by cases c <;> rfl
theorem condO {α:Type} (c:Bool) (a b:Option α):(bif c then a else b)=if c=true then a else b:=by cases c <;> rfl
theorem qiW {α:Type} {xs:List α} {i:Nat} {d x:α} (h:xs[i]? =some x):qk xs (i:Int) d=x:=by
 rw [qdu]
 simp [List.getD,h]
theorem qwD {i n:Nat} (h:i<n):inB (i:Int) (n:Int)=true:=by
 rw [qdq]
 simp
 omega
theorem qfT:(t:Ty)→(x:t.den)→1≤t.bulk x
 | .int _,_=>Nat.le_refl _
 | .bool,_=>Nat.le_refl _
 | .str,_=>Nat.le_add_left _ _
 | .unit,_=>Nat.le_refl _
 | .err,_=>Nat.le_refl _
 | .opt _,_=>Nat.le_refl _
 | .map _ _,_=>Nat.le_refl _
 | .pair a b,x=>by have:=qfT a x.1; show 1≤a.bulk x.1+b.bulk x.2; omega
 | .slice e,xs=>Nat.le_add_left _ _
 | .arr _ e,xs=>Nat.le_add_left _ _
theorem qgZ (e:Ty):(xs:List e.den)→xs.length+1≤(Ty.slice e).bulk xs
 |[]=>Nat.le_refl _
 |x::xs=>by
  have:=qgZ e xs
  have h1:=qfT e x
  simp only [Ty.bulk,List.map_cons,List.sum_cons,List.length_cons] at this⊢
  omega
end Go.Vi
namespace Go.Vi
theorem qgx {S R:Type} {step:(S→Option R)→S→Option R} {s0:S} (st:Nat→S) (n:Nat) (r:R) (h0:st 0=s0) (hs:∀i,i<n→∀ih,step ih (st i)=ih (st (i+1))) (he:∀ih,step ih (st n)=some r) {N:Nat} (hN:n<N):qad N step s0=some r:=by
 rw [←h0]
 have:∀k i,i+k=n→∀M,k<M→qad M step (st i)=some r:=by
  intro k
  induction k with
  |zero=>
   intro i hi M hM
   obtain ⟨M,rfl⟩:∃m,M=m+1:=⟨M - 1,by omega⟩
   rw [qcW,show i=n by omega]; exact he _
  |succ k ih=>
   intro i hi M hM
   obtain ⟨M,rfl⟩:∃m,M=m+1:=⟨M - 1,by omega⟩
   rw [qcW,hs i (by omega)]
   exact ih (i+1) (by omega) M (by omega)
 exact this n 0 (by omega) N hN
theorem qc0 {S R:Type} {step:(S→Option R)→S→Option R} {s0:S} (st:Nat→S) (n:Nat) (r:Option R) (h0:st 0=s0) (hs:∀i,i<n→∀ih,step ih (st i)=ih (st (i+1))) (he:∀ih,step ih (st n)=r) {N:Nat} (hN:n<N):qad N step s0=r:=by
 rw [←h0]
 have:∀k i,i+k=n→∀M,k<M→qad M step (st i)=r:=by
  intro k
  induction k with
  |zero=>
   intro i hi M hM
   obtain ⟨M,rfl⟩:∃m,M=m+1:=⟨M - 1,by omega⟩
   rw [qcW,show i=n by omega]; exact he _
  |succ k ih=>
   intro i hi M hM
   obtain ⟨M,rfl⟩:∃m,M=m+1:=⟨M - 1,by omega⟩
   rw [qcW,hs i (by omega)]
   exact ih (i+1) (by omega) M (by omega)
 exact this n 0 (by omega) N hN
theorem qaF (x y:Int):ltI x y=decide (x<y):=qbr x y
theorem qcO (x y:Int):leI x y=decide (x≤y):=qcp x y
theorem qdj (i n:Int):inB i n=decide (0≤i∧i<n):=by rw [qdq]; simp
theorem qlb (l h n:Int):inS l h n=decide (0≤l∧l≤h∧h≤n):=by rw [qk9]; simp
theorem qeS {x y:Int} (h1: -9223372036854775808≤x+y) (h2:x+y<9223372036854775808):qax .i64 x y=x+y:=by rw [qj2,qn3 h1 h2]
theorem qcP {x y:Int} (h1: -9223372036854775808≤x - y) (h2:x - y<9223372036854775808):qbn .i64 x y=x - y:=by rw [ql3,qn3 h1 h2]
theorem qwU {x:Int} (h1: -9223372036854775808≤x) (h2:x<9223372036854775808):qjn .i64 x=x:=by rw [qkb,qn3 h1 h2]
theorem qO {i:Nat} (h:i<4611686018427387904):qax .i64 (i:Int) 1=((i+1:Nat):Int):=by
 rw [qj2,qn3 (by omega) (by omega)]
 omega
theorem qav {α:Type} {xs:List α} {i:Nat} (h:i<xs.length):ltI (i:Int) (qr xs)=true:=by rw [qbr,qt]; simp; omega
theorem qac {α:Type} {xs:List α} {i:Nat} (h:¬i<xs.length):ltI (i:Int) (qr xs)=false:=by rw [qbr,qt]; simp; omega
theorem qC {α:Type} {xs:List α} {i:Nat} (h:i<xs.length):inB (i:Int) (qr xs)=true:=by rw [qt]; exact qwD h
theorem qbi {α:Type} {xs:List α} {i:Nat} (h:i<xs.length):xs.take (i+1)=xs.take i++[xs[i]]:=by rw [List.take_succ_eq_append_getElem h]
theorem qD {α:Type} {xs:List α} {i:Nat} (d:α) (h:i<xs.length):qk xs (i:Int) d=xs[i]:=qiW (List.getElem?_eq_getElem h)
theorem qc4 {α β:Type} {xs:List α} {ys:List β} {b:Nat} (h:(xs.length+ys.length) * b≤140737488355328):qcq (qr xs) (qr ys) b=true:=by
 rw [qki,qt,qt]
 refine decide_eq_true ?_
 have:(((xs.length+ys.length) * b:Nat):Int)≤140737488355328:=by omega
 rwa [Int.natCast_mul,Int.natCast_add] at this
theorem qse {α:Type} (xs:List α) (i:Nat):qaB xs (i:Int) (qr xs)=xs.drop i:=by
 rw [qcF,qt]; simp
theorem ql4 {α:Type} (xs:List α) (i:Nat):qaB xs 0 (i:Int)=xs.take i:=by
 rw [qcF]; simp
theorem qrL {α:Type} {xs:List α} {i:Nat} (h:i≤xs.length):inS (i:Int) (qr xs) (qr xs)=true:=by
 rw [qk9,qt]; simp; omega
theorem qvu (n:Int):IntKind.wrap .u64 n=n % 18446744073709551616:=by simp [IntKind.wrap,IntKind.signed,IntKind.bits]
theorem qiF {α β:Type} (p:α×β) (xs:List (α×β)) (k:α) (d:β):qf7 (p::xs) k d=open Classical in if p.1=k then p.2 else qf7 xs k d:=by
 rw [qj1,qj1]
 have:qh0 (p::xs) k=open Classical in if p.1=k then 0 else qh0 xs k+1:=by
  unfold qh0
  rw [List.findIdx_cons]
  by_cases h:p.1=k <;> simp [h]
 rw [this]
 by_cases h:p.1=k <;> simp [h]
theorem qu6 {α β:Type} (k:α) (d:β):qf7 ([]:List (α×β)) k d=d:=by rw [qj1]; rfl
theorem qu7 {α β:Type} (k:α) (v:β):qlW ([]:List (α×β)) k v=[(k,v)]:=by rw [qj8]; rfl
theorem qtv {α β:Type} (p:α×β) (xs:List (α×β)) (k:α) (v:β):qlW (p::xs) k v=open Classical in if p.1=k then (p.1,v)::xs else p::qlW xs k v:=by
 rw [qj8,qj8]
 have:qh0 (p::xs) k=open Classical in if p.1=k then 0 else qh0 xs k+1:=by
  unfold qh0
  rw [List.findIdx_cons]
  by_cases h:p.1=k <;> simp [h]
 rw [this]
 by_cases h:p.1=k
 ·simp [h,qtY]
 ·simp only [h,if_false,List.length_cons,Nat.add_lt_add_iff_right]
  by_cases h2:qh0 xs k<xs.length
  ·simp only [h2,if_true,qtY,List.getElem?_cons_succ,List.getElem?_eq_getElem h2,List.set_cons_succ]
  ·simp [h2]
theorem qky {α β:Type} (xs:List (α×β)) (k:α) (v:β) (k':α) (d:β):qf7 (qlW xs k v) k' d=open Classical in if k=k' then v else qf7 xs k' d:=by
 induction xs with
 |nil=>rw [qu7,qiF]
 |cons p r ih=>
  rw [qtv]
  by_cases h:p.1=k
  ·rw [if_pos h,qiF,qiF]
   by_cases h2:k=k'
   ·simp [h,h2]
   ·simp [h,h2]
  ·rw [if_neg h,qiF,qiF,ih]
   by_cases h2:p.1=k'
   ·have:¬k=k':=fun e=>h (h2.trans e.symm)
    simp [h2,this]
   ·simp [h2]
noncomputable def qqi {α:Type} (ks:List α):List (α×Int):=ks.foldl (fun m k=>qlW m k (qax .i64 (qf7 m k 0) 1)) []
theorem qvR {α:Type} :qqi ([]:List α)=[]:=rfl
theorem qmA {α:Type} (ks:List α) (k:α):qqi (ks++[k])=qlW (qqi ks) k (qax .i64 (qf7 (qqi ks) k 0) 1):=by simp [qqi]
theorem qv1 {α:Type} (ks:List α) (h:ks.length<4611686018427387904) (k:α):0≤qf7 (qqi ks) k 0∧qf7 (qqi ks) k 0≤(ks.length:Int)∧(0<qf7 (qqi ks) k 0↔k∈ks):=by
 have key:∀(l:List α),l.length<4611686018427387904→∀k,0≤qf7 (qqi l.reverse) k 0∧qf7 (qqi l.reverse) k 0≤(l.length:Int)∧(0<qf7 (qqi l.reverse) k 0↔k∈l):=by
  intro l
  induction l with
  |nil=>intro _ k; simp [qvR,qu6]
  |cons a l ih=>
   intro hl k
   rw [List.length_cons] at hl
   rw [List.reverse_cons,qmA,qky]
   obtain ⟨h1,h2,h3⟩:=ih (by omega) a
   obtain ⟨g1,g2,g3⟩:=ih (by omega) k
   by_cases e:a=k
   ·subst e
    rw [if_pos rfl,qeS (by omega) (by omega),List.length_cons]
    refine ⟨by omega,by omega,by simp; omega⟩
   ·rw [if_neg e,List.length_cons]
    refine ⟨g1,by omega,by rw [g3]; simp [Ne.symm e]⟩
 have:=key ks.reverse (by simpa using h) k
 simpa using this
theorem qnQ {α:Type} (ks:List α) (h:ks.length<4611686018427387904) (k:α):ltI 1 (qf7 (qlW (qqi ks) k (qax .i64 (qf7 (qqi ks) k 0) 1)) k 0)=open Classical in decide (k∈ks):=by
 obtain ⟨h1,h2,h3⟩:=qv1 ks h k
 rw [qky,if_pos rfl,qeS (by omega) (by omega),qaF]
 by_cases hk:k∈ks
 ·have:=h3.2 hk
  simp [hk]; omega
 ·have:¬0<qf7 (qqi ks) k 0:=fun e=>hk (h3.1 e)
  simp [hk]; omega
def qR {E:Type} (g:Nat→Option E):Nat→Option E
 |0=>none
 |n+1=>match qR g n with
  |some e=>some e
  |none=>g n
theorem qaq {E:Type} {g:Nat→Option E} : {n:Nat} →qR g n=none→∀i,i<n→g i=none
 |0,_,i,hi=>by omega
 |n+1,h,i,hi=>by
  simp only [qR] at h
  split at h
  ·cases h
  ·rename_i h0
   by_cases e:i=n
   ·rw [e]; exact h
   ·exact qaq h0 i (by omega)
theorem qbb {E:Type} {g:Nat→Option E} {e:E} : {n:Nat} →qR g n=some e→∃i,i<n∧g i=some e∧qR g i=none
 |0,h=>by cases h
 |n+1,h=>by
  simp only [qR] at h
  split at h
  ·rename_i e' h0
   injection h with h
   subst h
   obtain ⟨i,h1,h2⟩:=qbb h0
   exact ⟨i,by omega,h2⟩
  ·rename_i h0
   exact ⟨n,by omega,h,h0⟩
theorem qW {S R E:Type} {step:(S→Option R)→S→Option R} {s0:S} (st:Nat→S) (n:Nat) (g:Nat→Option E) (out:E→Option R) (fin:Option R) (h0:st 0=s0)
  (hs:∀i,i<n→qR g i=none→∀ih,step ih (st i)=match g i with
   |some e=>out e
   |none=>ih (st (i+1)))
  (he:qR g n=none→∀ih,step ih (st n)=fin) {N:Nat} (hN:n<N):qad N step s0=match qR g n with
   |some e=>out e
   |none=>fin:=by
 rw [←h0]
 have:∀k i,i+k=n→qR g i=none→∀M,k<M→qad M step (st i)=match qR g n with
   |some e=>out e
   |none=>fin:=by
  intro k
  induction k with
  |zero=>
   intro i hi hg M hM
   obtain ⟨M,rfl⟩:∃m,M=m+1:=⟨M - 1,by omega⟩
   have hin:i=n:=by omega
   subst hin
   rw [qcW,hg]
   exact he hg _
  |succ k ih=>
   intro i hi hg M hM
   obtain ⟨M,rfl⟩:∃m,M=m+1:=⟨M - 1,by omega⟩
   rw [qcW,hs i (by omega) hg]
   cases hgi:g i with
   |none=>exact ih (i+1) (by omega) (by simp only [qR,hg,hgi]) M (by omega)
   |some e=>
    have:∀m,qR g (i+1+m)=some e:=by
     intro m
     induction m with
     |zero=>simp only [Nat.add_zero,qR,hg,hgi]
     |succ m ihm=>rw [←Nat.add_assoc]; simp only [qR,ihm]
    have:=this k
    rw [show i+1+k=n by omega] at this
    rw [this]
 exact this n 0 (by omega) rfl N hN
end Go.Vi
set_option linter.unusedSimpArgs false
set_option maxRecDepth 100000
namespace Go.Vi
noncomputable section
def qne {α:Type} (d:α) (N:Nat) (x:((List α)×(Int×(Int×(((α×(α×Unit))→(Option (Int×Unit)))×Unit))))):(Option (Unit×((List α)×Unit))):=
 (qad (S:=((List α)×(Int×Unit))) (R:=(Unit×((List α)×Unit))) N (fun ih0=>(fun p1=>(bif (ltI p1.2.1 x.2.2.1) then (qad (S:=((List α)×(Int×Unit))) (R:=(Unit×((List α)×Unit))) N (fun ih2=>(fun p3=>(bif (((!(ltI x.2.1 p3.2.1))||(inB p3.2.1 (qr p3.1)))&&(((!(ltI x.2.1 p3.2.1))||(inB (qbn .i64 p3.2.1 1) (qr p3.1)))&&((!(ltI x.2.1 p3.2.1))||(qB (x.2.2.2.1 ((qk p3.1 p3.2.1 d),((qk p3.1 (qbn .i64 p3.2.1 1) d),()))))))) then (bif ((ltI x.2.1 p3.2.1)&&(ltI (qx (x.2.2.2.1 ((qk p3.1 p3.2.1 d),((qk p3.1 (qbn .i64 p3.2.1 1) d),()))) (0,())).1 0)) then (bif ((inB (qbn .i64 p3.2.1 1) (qr p3.1))&&((inB p3.2.1 (qr p3.1))&&((inB p3.2.1 (qr p3.1))&&(inB (qbn .i64 p3.2.1 1) (qr (qgW p3.1 p3.2.1 (qk p3.1 (qbn .i64 p3.2.1 1) d))))))) then (ih2 ((qgW (qgW p3.1 p3.2.1 (qk p3.1 (qbn .i64 p3.2.1 1) d)) (qbn .i64 p3.2.1 1) (qk p3.1 p3.2.1 d)),((qbn .i64 p3.2.1 1),()))) else none) else (ih0 (p3.1,((qax .i64 p1.2.1 1),())))) else none))) (p1.1,(p1.2.1,()))) else (some ((),(p1.1,())))))) (x.1,((qax .i64 x.2.1 1),())))
def qkD {α:Type} (d:α) (N:Nat) (x:((List α)×(Int×(Int×(Int×(((α×(α×Unit))→(Option (Int×Unit)))×Unit)))))):(Option (Unit×((List α)×Unit))):=
 (qad (S:=((List α)×(Int×Unit))) (R:=(Unit×((List α)×Unit))) N (fun ih0=>(fun p1=>(bif (ltI p1.2.1 x.2.2.2.1) then (bif ((inB (qax .i64 x.2.2.1 p1.2.1) (qr p1.1))&&((inB (qax .i64 x.2.1 p1.2.1) (qr p1.1))&&((inB (qax .i64 x.2.1 p1.2.1) (qr p1.1))&&(inB (qax .i64 x.2.2.1 p1.2.1) (qr (qgW p1.1 (qax .i64 x.2.1 p1.2.1) (qk p1.1 (qax .i64 x.2.2.1 p1.2.1) d))))))) then (ih0 ((qgW (qgW p1.1 (qax .i64 x.2.1 p1.2.1) (qk p1.1 (qax .i64 x.2.2.1 p1.2.1) d)) (qax .i64 x.2.2.1 p1.2.1) (qk p1.1 (qax .i64 x.2.1 p1.2.1) d)),((qax .i64 p1.2.1 1),()))) else none) else (some ((),(p1.1,())))))) (x.1,(0,())))
def qgz {α:Type} (d:α) (N:Nat) (x:((List α)×(Int×(Int×(Int×(((α×(α×Unit))→(Option (Int×Unit)))×Unit)))))):(Option (Unit×((List α)×Unit))):=
 (q7 (qbn .i64 x.2.2.1 x.2.1) (fun y0=>(qad (S:=((List α)×(Int×(Int×Unit)))) (R:=(Unit×((List α)×Unit))) N (fun ih1=>(fun p2=>(bif (neI p2.2.1 p2.2.2.1) then (bif (bif (ltI p2.2.2.1 p2.2.1) then (qB (qkD d N (p2.1,((qbn .i64 x.2.2.1 p2.2.1),(x.2.2.1,(p2.2.2.1,(x.2.2.2.2.1,()))))))) else (qB (qkD d N (p2.1,((qbn .i64 x.2.2.1 p2.2.1),((qbn .i64 (qax .i64 x.2.2.1 p2.2.2.1) p2.2.1),(p2.2.1,(x.2.2.2.2.1,())))))))) then (ih1 ((bif (ltI p2.2.2.1 p2.2.1) then (qx (qkD d N (p2.1,((qbn .i64 x.2.2.1 p2.2.1),(x.2.2.1,(p2.2.2.1,(x.2.2.2.2.1,())))))) ((),(([]:List α),()))).2.1 else (qx (qkD d N (p2.1,((qbn .i64 x.2.2.1 p2.2.1),((qbn .i64 (qax .i64 x.2.2.1 p2.2.2.1) p2.2.1),(p2.2.1,(x.2.2.2.2.1,())))))) ((),(([]:List α),()))).2.1),((bif (ltI p2.2.2.1 p2.2.1) then (qbn .i64 p2.2.1 p2.2.2.1) else p2.2.1),((bif (ltI p2.2.2.1 p2.2.1) then p2.2.2.1 else (qbn .i64 p2.2.2.1 p2.2.1)),())))) else none) else (bif (qB (qkD d N (p2.1,((qbn .i64 x.2.2.1 p2.2.1),(x.2.2.1,(p2.2.1,(x.2.2.2.2.1,()))))))) then (some ((),((qx (qkD d N (p2.1,((qbn .i64 x.2.2.1 p2.2.1),(x.2.2.1,(p2.2.1,(x.2.2.2.2.1,())))))) ((),(([]:List α),()))).2.1,()))) else none)))) (x.1,(y0,((qbn .i64 x.2.2.2.1 x.2.2.1),()))))))
def qqA {α:Type} (d:α) (N:Nat) (Fs:((List α)×(Int×(Int×(Int×(((α×(α×Unit))→(Option (Int×Unit)))×Unit)))))→(Option (Unit×((List α)×Unit)))) (x:((List α)×(Int×(Int×(Int×(((α×(α×Unit))→(Option (Int×Unit)))×Unit)))))):(Option (Unit×((List α)×Unit))):=
 (bif (eqI (qbn .i64 x.2.2.1 x.2.1) 1) then (qad (S:=((List α)×(Int×(Int×Unit)))) (R:=(Unit×((List α)×Unit))) N (fun ih0=>(fun p1=>(bif (ltI p1.2.1 p1.2.2.1) then (bif (leI 0 1) then (q7 (qjn .i64 (quQ .u64 (qjn .u64 (qax .i64 p1.2.1 p1.2.2.1)) 1)) (fun y2=>(bif ((inB y2 (qr p1.1))&&((inB x.2.1 (qr p1.1))&&(qB (x.2.2.2.2.1 ((qk p1.1 y2 d),((qk p1.1 x.2.1 d),())))))) then (ih0 (p1.1,((bif (ltI (qx (x.2.2.2.2.1 ((qk p1.1 y2 d),((qk p1.1 x.2.1 d),()))) (0,())).1 0) then (qax .i64 y2 1) else p1.2.1),((bif (ltI (qx (x.2.2.2.2.1 ((qk p1.1 y2 d),((qk p1.1 x.2.1 d),()))) (0,())).1 0) then p1.2.2.1 else y2),())))) else none))) else none) else (qad (S:=((List α)×(Int×Unit))) (R:=(Unit×((List α)×Unit))) N (fun ih2=>(fun p3=>(bif (ltI p3.2.1 (qbn .i64 p1.2.1 1)) then (bif ((inB (qax .i64 p3.2.1 1) (qr p3.1))&&((inB p3.2.1 (qr p3.1))&&((inB p3.2.1 (qr p3.1))&&(inB (qax .i64 p3.2.1 1) (qr (qgW p3.1 p3.2.1 (qk p3.1 (qax .i64 p3.2.1 1) d))))))) then (ih2 ((qgW (qgW p3.1 p3.2.1 (qk p3.1 (qax .i64 p3.2.1 1) d)) (qax .i64 p3.2.1 1) (qk p3.1 p3.2.1 d)),((qax .i64 p3.2.1 1),()))) else none) else (some ((),(p3.1,())))))) (p1.1,(x.2.1,())))))) (x.1,(x.2.2.1,(x.2.2.2.1,())))) else (bif (eqI (qbn .i64 x.2.2.2.1 x.2.2.1) 1) then (qad (S:=((List α)×(Int×(Int×Unit)))) (R:=(Unit×((List α)×Unit))) N (fun ih0=>(fun p1=>(bif (ltI p1.2.1 p1.2.2.1) then (bif (leI 0 1) then (q7 (qjn .i64 (quQ .u64 (qjn .u64 (qax .i64 p1.2.1 p1.2.2.1)) 1)) (fun y2=>(bif ((inB x.2.2.1 (qr p1.1))&&((inB y2 (qr p1.1))&&(qB (x.2.2.2.2.1 ((qk p1.1 x.2.2.1 d),((qk p1.1 y2 d),())))))) then (ih0 (p1.1,((bif (!(ltI (qx (x.2.2.2.2.1 ((qk p1.1 x.2.2.1 d),((qk p1.1 y2 d),()))) (0,())).1 0)) then (qax .i64 y2 1) else p1.2.1),((bif (!(ltI (qx (x.2.2.2.2.1 ((qk p1.1 x.2.2.1 d),((qk p1.1 y2 d),()))) (0,())).1 0)) then p1.2.2.1 else y2),())))) else none))) else none) else (qad (S:=((List α)×(Int×Unit))) (R:=(Unit×((List α)×Unit))) N (fun ih2=>(fun p3=>(bif (ltI p1.2.1 p3.2.1) then (bif ((inB (qbn .i64 p3.2.1 1) (qr p3.1))&&((inB p3.2.1 (qr p3.1))&&((inB p3.2.1 (qr p3.1))&&(inB (qbn .i64 p3.2.1 1) (qr (qgW p3.1 p3.2.1 (qk p3.1 (qbn .i64 p3.2.1 1) d))))))) then (ih2 ((qgW (qgW p3.1 p3.2.1 (qk p3.1 (qbn .i64 p3.2.1 1) d)) (qbn .i64 p3.2.1 1) (qk p3.1 p3.2.1 d)),((qbn .i64 p3.2.1 1),()))) else none) else (some ((),(p3.1,())))))) (p1.1,(x.2.2.1,())))))) (x.1,(x.2.1,(x.2.2.1,())))) else (bif (leI 0 1) then (q7 (qjn .i64 (quQ .u64 (qjn .u64 (qax .i64 x.2.1 x.2.2.2.1)) 1)) (fun y0=>(q7 (qax .i64 y0 x.2.2.1) (fun y1=>(q7 (bif (ltI y0 x.2.2.1) then (qbn .i64 y1 x.2.2.2.1) else x.2.1) (fun y2=>(q7 (bif (ltI y0 x.2.2.1) then y0 else x.2.2.1) (fun y3=>(qad (S:=((List α)×(Int×(Int×Unit)))) (R:=(Unit×((List α)×Unit))) N (fun ih4=>(fun p5=>(bif (ltI p5.2.1 p5.2.2.1) then (bif (leI 0 1) then (q7 (qjn .i64 (quQ .u64 (qjn .u64 (qax .i64 p5.2.1 p5.2.2.1)) 1)) (fun y6=>(bif ((inB (qbn .i64 (qbn .i64 y1 1) y6) (qr p5.1))&&((inB y6 (qr p5.1))&&(qB (x.2.2.2.2.1 ((qk p5.1 (qbn .i64 (qbn .i64 y1 1) y6) d),((qk p5.1 y6 d),())))))) then (ih4 (p5.1,((bif (!(ltI (qx (x.2.2.2.2.1 ((qk p5.1 (qbn .i64 (qbn .i64 y1 1) y6) d),((qk p5.1 y6 d),()))) (0,())).1 0)) then (qax .i64 y6 1) else p5.2.1),((bif (!(ltI (qx (x.2.2.2.2.1 ((qk p5.1 (qbn .i64 (qbn .i64 y1 1) y6) d),((qk p5.1 y6 d),()))) (0,())).1 0)) then p5.2.2.1 else y6),())))) else none))) else none) else (q7 (qbn .i64 y1 p5.2.1) (fun y6=>(q7 ((ltI p5.2.1 x.2.2.1)&&(ltI x.2.2.1 y6)) (fun y7=>(bif (bif y7 then (qB (qgz d N (p5.1,(p5.2.1,(x.2.2.1,(y6,(x.2.2.2.2.1,()))))))) else true) then (q7 ((ltI x.2.1 p5.2.1)&&(ltI p5.2.1 y0)) (fun y8=>(bif (bif y8 then (qB (Fs ((bif y7 then (qx (qgz d N (p5.1,(p5.2.1,(x.2.2.1,(y6,(x.2.2.2.2.1,())))))) ((),(([]:List α),()))).2.1 else p5.1),(x.2.1,(p5.2.1,(y0,(x.2.2.2.2.1,()))))))) else true) then (q7 ((ltI y0 y6)&&(ltI y6 x.2.2.2.1)) (fun y9=>(bif (bif y9 then (qB (Fs ((bif y8 then (qx (Fs ((bif y7 then (qx (qgz d N (p5.1,(p5.2.1,(x.2.2.1,(y6,(x.2.2.2.2.1,())))))) ((),(([]:List α),()))).2.1 else p5.1),(x.2.1,(p5.2.1,(y0,(x.2.2.2.2.1,())))))) ((),(([]:List α),()))).2.1 else (bif y7 then (qx (qgz d N (p5.1,(p5.2.1,(x.2.2.1,(y6,(x.2.2.2.2.1,())))))) ((),(([]:List α),()))).2.1 else p5.1)),(y0,(y6,(x.2.2.2.1,(x.2.2.2.2.1,()))))))) else true) then (some ((),((bif y9 then (qx (Fs ((bif y8 then (qx (Fs ((bif y7 then (qx (qgz d N (p5.1,(p5.2.1,(x.2.2.1,(y6,(x.2.2.2.2.1,())))))) ((),(([]:List α),()))).2.1 else p5.1),(x.2.1,(p5.2.1,(y0,(x.2.2.2.2.1,())))))) ((),(([]:List α),()))).2.1 else (bif y7 then (qx (qgz d N (p5.1,(p5.2.1,(x.2.2.1,(y6,(x.2.2.2.2.1,())))))) ((),(([]:List α),()))).2.1 else p5.1)),(y0,(y6,(x.2.2.2.1,(x.2.2.2.2.1,())))))) ((),(([]:List α),()))).2.1 else (bif y8 then (qx (Fs ((bif y7 then (qx (qgz d N (p5.1,(p5.2.1,(x.2.2.1,(y6,(x.2.2.2.2.1,())))))) ((),(([]:List α),()))).2.1 else p5.1),(x.2.1,(p5.2.1,(y0,(x.2.2.2.2.1,())))))) ((),(([]:List α),()))).2.1 else (bif y7 then (qx (qgz d N (p5.1,(p5.2.1,(x.2.2.1,(y6,(x.2.2.2.2.1,())))))) ((),(([]:List α),()))).2.1 else p5.1))),()))) else none))) else none))) else none)))))))) (x.1,(y2,(y3,())))))))))))) else none)))
def qqE {α:Type} (d:α) (N:Nat) (M:Nat):((List α)×(Int×(Int×(Int×(((α×(α×Unit))→(Option (Int×Unit)))×Unit)))))→(Option (Unit×((List α)×Unit))):=
 Nat.rec (motive:=fun _=>((List α)×(Int×(Int×(Int×(((α×(α×Unit))→(Option (Int×Unit)))×Unit)))))→(Option (Unit×((List α)×Unit)))) (fun _=>none) (fun _ Fs=>qqA d N Fs) M
def qnI {α:Type} (d:α) (N:Nat):((List α)×(Int×(Int×(Int×(((α×(α×Unit))→(Option (Int×Unit)))×Unit)))))→(Option (Unit×((List α)×Unit))):=qqE d N N
def qp4 {α:Type} (d:α) (N:Nat) (x:((List α)×(Int×(((α×(α×Unit))→(Option (Int×Unit)))×Unit)))):(Option (Unit×((List α)×Unit))):=
 (qad (S:=((List α)×(Int×(Int×Unit)))) (R:=(Unit×((List α)×Unit))) N (fun ih0=>(fun p1=>(bif (leI p1.2.2.1 x.2.1) then (bif (qB (qne d N (p1.1,(p1.2.1,(p1.2.2.1,(x.2.2.1,())))))) then (q7 (qx (qne d N (p1.1,(p1.2.1,(p1.2.2.1,(x.2.2.1,()))))) ((),(([]:List α),()))).2.1 (fun ys2=>(q7 p1.2.2.1 (fun y3=>(ih0 (ys2,(y3,((qax .i64 y3 20),())))))))) else none) else (bif (qB (qne d N (p1.1,(p1.2.1,(x.2.1,(x.2.2.1,())))))) then (qad (S:=((List α)×(Int×Unit))) (R:=(Unit×((List α)×Unit))) N (fun ih2=>(fun p3=>(bif (ltI p3.2.1 x.2.1) then (qad (S:=((List α)×(Int×(Int×Unit)))) (R:=(Unit×((List α)×Unit))) N (fun ih4=>(fun p5=>(bif (leI p5.2.2.1 x.2.1) then (bif (qB (qnI d N (p5.1,(p5.2.1,((qax .i64 p5.2.1 p3.2.1),(p5.2.2.1,(x.2.2.1,()))))))) then (q7 (qx (qnI d N (p5.1,(p5.2.1,((qax .i64 p5.2.1 p3.2.1),(p5.2.2.1,(x.2.2.1,())))))) ((),(([]:List α),()))).2.1 (fun ys6=>(q7 p5.2.2.1 (fun y7=>(ih4 (ys6,(y7,((qax .i64 y7 (qvY .i64 2 p3.2.1)),())))))))) else none) else (q7 (qax .i64 p5.2.1 p3.2.1) (fun y6=>(bif (bif (ltI y6 x.2.1) then (qB (qnI d N (p5.1,(p5.2.1,(y6,(x.2.1,(x.2.2.1,()))))))) else true) then (ih2 ((bif (ltI y6 x.2.1) then (qx (qnI d N (p5.1,(p5.2.1,(y6,(x.2.1,(x.2.2.1,())))))) ((),(([]:List α),()))).2.1 else p5.1),((qvY .i64 p3.2.1 2),()))) else none)))))) (p3.1,(0,((qvY .i64 2 p3.2.1),())))) else (some ((),(p3.1,())))))) ((qx (qne d N (p1.1,(p1.2.1,(x.2.1,(x.2.2.1,()))))) ((),(([]:List α),()))).2.1,(20,()))) else none)))) (x.1,(0,(20,()))))
def qtL {α:Type} (d:α) (N:Nat) (x:((List α)×(((α×(α×Unit))→(Option (Int×Unit)))×Unit))):(Option (Unit×((List α)×Unit))):=
 (bif (qB (qp4 d N (x.1,((qr x.1),(x.2.1,()))))) then (some ((),((qx (qp4 d N (x.1,((qr x.1),(x.2.1,())))) ((),(([]:List α),()))).2.1,()))) else none)
structure Ck {α:Type} (P:α→Prop) (n:Nat) (ys:List α):Prop where
 len:ys.length=n
 all:∀x∈ys,P x
theorem Ck.inB {α:Type} {P:α→Prop} {n:Nat} {ys:List α} (h:Ck P n ys) {i:Int} (h0:0≤i) (h1:i<(n:Int)):inB i (qr ys)=true:=by
 rw [qdj,qt,h.len]; simp; omega
theorem Ck.get {α:Type} {P:α→Prop} {n:Nat} {ys:List α} (h:Ck P n ys) (d:α) {i:Int} (h0:0≤i) (h1:i<(n:Int)):P (qk ys i d):=by
 obtain ⟨k,rfl⟩:∃k:Nat,i=(k:Int):=⟨i.toNat,by omega⟩
 have hk:k<ys.length:=by rw [h.len]; omega
 rw [qD _ hk]
 exact h.all _ (List.getElem_mem hk)
theorem Ck.set {α:Type} {P:α→Prop} {n:Nat} {ys:List α} (h:Ck P n ys) (i:Int) {v:α} (hv:P v):Ck P n (qgW ys i v):=by
 rw [qbm]
 refine ⟨by rw [List.length_set]; exact h.len,fun x hx=> ?_⟩
 rcases List.mem_or_eq_of_mem_set hx with hx|rfl
 ·exact h.all x hx
 ·exact hv
theorem ltT {x y:Int} (h:x<y):ltI x y=true:=by rw [qaF]; exact decide_eq_true h
theorem ltF {x y:Int} (h:¬x<y):ltI x y=false:=by rw [qaF]; exact decide_eq_false h
theorem leT {x y:Int} (h:x≤y):leI x y=true:=by rw [qcp]; exact decide_eq_true h
theorem leF {x y:Int} (h:¬x≤y):leI x y=false:=by rw [qcp]; exact decide_eq_false h
theorem eqT {x y:Int} (h:x=y):eqI x y=true:=by rw [qaC]; exact decide_eq_true h
theorem eqF {x y:Int} (h:¬x=y):eqI x y=false:=by rw [qaC]; exact decide_eq_false h
theorem neT {x y:Int} (h:¬x=y):neI x y=true:=by rw [qan]; simp [h]
theorem neF {x y:Int} (h:x=y):neI x y=false:=by rw [qan]; simp [h]
theorem qrW {x y:Int} (hx:0≤x) (hy:0≤y) (h:x+y≤4398046511104):qjn .i64 (quQ .u64 (qjn .u64 (qax .i64 x y)) 1)=(x+y) / 2:=by
 have e1:qax .i64 x y=x+y:=qeS (by omega) (by omega)
 have e2:qjn .u64 (x+y)=x+y:=by rw [qkb,qvu]; omega
 have e3:quQ .u64 (x+y) 1=(x+y) / 2:=by
  rw [qoY]
  have:(2:Int)^ (min (1:Int).toNat IntKind.u64.bits)=2:=by decide
  rw [this,Int.fdiv_eq_ediv_of_nonneg _ (by omega)]
 rw [e1,e2,e3,qwU (by omega) (by omega)]
section
variable {α:Type} {P:α→Prop} {n:Nat} (d:α) {φ ψ:(α×(α×Unit))→Option (Int×Unit)} {N:Nat}
end
end
end Go.Vi
namespace Go.Vi
def dig (b:UInt8):Prop:=b=45∨(48≤b.toNat∧b.toNat≤57)
instance (b:UInt8):Decidable (dig b):=by unfold dig; infer_instance
theorem qhA {d:Nat} (h:d<10):(UInt8.ofNat (48+d)).toNat=48+d:=by
 rw [UInt8.toNat_ofNat']; omega
theorem qhg (u:Nat):∀b∈Lib.decDigits u,48≤b.toNat∧b.toNat≤57:=by
 induction u using Nat.strongRecOn with
 |ind u ih=>
  intro b hb
  rw [Lib.decDigits] at hb
  split at hb
  ·rename_i h
   simp only [List.mem_singleton] at hb
   subst hb
   rw [qhA h]; omega
  ·rename_i h
   rcases List.mem_append.1 hb with hb|hb
   ·exact ih (u / 10) (by omega) b hb
   ·simp only [List.mem_singleton] at hb
    subst hb
    rw [qhA (Nat.mod_lt _ (by omega))]; omega
def qqS (l:List UInt8):Nat:=l.foldl (fun n b=>n * 10+(b.toNat - 48)) 0
theorem qsk (l:List UInt8) (b:UInt8):qqS (l++[b])=qqS l * 10+(b.toNat - 48):=by simp [qqS]
theorem qed (u:Nat):qqS (Lib.decDigits u)=u:=by
 induction u using Nat.strongRecOn with
 |ind u ih=>
  rw [Lib.decDigits]
  split
  ·rename_i h
   simp only [qqS,List.foldl_cons,List.foldl_nil,qhA h]; omega
  ·rename_i h
   rw [qsk,ih (u / 10) (by omega),qhA (Nat.mod_lt _ (by omega))]
   omega
theorem qrP (n:Int):∀b∈Lib.itoa n,dig b:=by
 intro b hb
 unfold Lib.itoa at hb
 split at hb
 ·rcases List.mem_cons.1 hb with rfl|hb
  ·exact .inl rfl
  ·exact .inr (qhg _ b hb)
 ·exact .inr (qhg _ b hb)
theorem qvQ {a b:Int} (h:Lib.itoa a=Lib.itoa b):a=b:=by
 have no45:∀u:Nat,∀r,Lib.decDigits u≠45::r:=fun u r e=>by
  have:=qhg u 45 (by rw [e]; exact List.mem_cons_self)
  have:(48:Nat)≤45:=this.1
  omega
 unfold Lib.itoa at h
 split at h <;> split at h
 ·have e:=congrArg qqS (List.cons.inj h).2
  rw [qed,qed] at e
  omega
 ·exact absurd h.symm (no45 _ _)
 ·exact absurd h (no45 _ _)
 ·have e:=congrArg qqS h
  rw [qed,qed] at e
  omega
def qjc (P:UInt8→Prop) (r:List UInt8):Prop:=∀b t,r=b::t→¬P b
theorem qgr (P:UInt8→Prop):qjc P []:=fun _ _ h=>by cases h
theorem qc9 {P:UInt8→Prop} {b:UInt8} {t:List UInt8} (h:¬P b):qjc P (b::t):=fun _ _ e=>by cases e; exact h
theorem part {P:UInt8→Prop} :(a b:List UInt8)→ {r s:List UInt8} →(∀x∈a,P x)→(∀x∈b,P x)→qjc P r→qjc P s→a++r=b++s→a=b∧r=s
 |[],[],_,_,_,_,_,_,h=>⟨rfl,h⟩
 |[],y::b,r,s,_,hb,hr,_,h=>absurd (hb y List.mem_cons_self) (hr y (b++s) h)
 |x::a,[],r,s,ha,_,_,hs,h=>absurd (ha x List.mem_cons_self) (hs x (a++r) h.symm)
 |x::a,y::b,r,s,ha,hb,hr,hs,h=>by
  injection h with h1 h2
  obtain ⟨h3,h4⟩:=part a b (fun z hz=>ha z (List.mem_cons_of_mem _ hz)) (fun z hz=>hb z (List.mem_cons_of_mem _ hz)) hr hs h2
  exact ⟨by rw [h1,h3],h4⟩
theorem qgu {a b:Int} {r s:List UInt8} (hr:qjc dig r) (hs:qjc dig s) (h:Lib.itoa a++r=Lib.itoa b++s):a=b∧r=s:=by
 obtain ⟨h1,h2⟩:=part _ _ (qrP a) (qrP b) hr hs h
 exact ⟨qvQ h1,h2⟩
def qfz (s:List UInt8):List UInt8:=Lib.itoa (s.length:Int)++58::s
theorem qmv {a b r s:List UInt8} (h:qfz a++r=qfz b++s):a=b∧r=s:=by
 unfold qfz at h
 rw [List.append_assoc,List.append_assoc] at h
 obtain ⟨h1,h2⟩:=qgu (qc9 (by decide)) (qc9 (by decide)) h
 exact List.append_inj (List.cons.inj h2).2 (by omega)
theorem qur {a b:Int×(Int×(List UInt8×Unit))} {r s:List UInt8} (h:qlv a++r=qlv b++s):a=b∧r=s:=by
 obtain ⟨a1,a2,a3,⟨⟩⟩:=a
 obtain ⟨b1,b2,b3,⟨⟩⟩:=b
 unfold qlv at h
 simp only [List.cons_append,List.append_assoc] at h
 injection h with _ h
 obtain ⟨h1,h2⟩:=qgu (qc9 (by decide)) (qc9 (by decide)) h
 obtain ⟨h3,h4⟩:=qgu (qc9 (by decide)) (qc9 (by decide)) (List.cons.inj h2).2
 obtain ⟨h5,h6⟩:=qgu (qc9 (by decide)) (qc9 (by decide)) (List.cons.inj h4).2
 obtain ⟨h7,h8⟩:=List.append_inj (List.cons.inj h6).2 (by omega)
 exact ⟨by rw [h1,h3,h7],h8⟩
theorem qnY:(xs ys:List (Int×(Int×(List UInt8×Unit))))→ {r s:List UInt8} →xs.length=ys.length→(xs.map qlv).flatten++r=(ys.map qlv).flatten++s→xs=ys∧r=s
 |[],[],_,_,_,h=>⟨rfl,h⟩
 |x::xs,y::ys,r,s,hl,h=>by
  simp only [List.map_cons,List.flatten_cons,List.append_assoc] at h
  obtain ⟨h1,h2⟩:=qur h
  obtain ⟨h3,h4⟩:=qnY xs ys (by simpa using hl) h2
  exact ⟨by rw [h1,h3],h4⟩
theorem qte {xs ys:List (Int×(Int×(List UInt8×Unit)))} {r s:List UInt8} (hr:qjc dig r) (hs:qjc dig s) (h:qe0 xs++r=qe0 ys++s):xs=ys∧r=s:=by
 have st:∀(l:List (Int×(Int×(List UInt8×Unit)))) (r:List UInt8),qjc dig r→qjc dig ((l.map qlv).flatten++r):=fun l r hr=>by
  cases l with
  |nil=>exact hr
  |cons x l=>
   rw [List.map_cons,List.flatten_cons,qlv]
   exact qc9 (by decide)
 unfold qe0 at h
 rw [List.append_assoc,List.append_assoc] at h
 obtain ⟨h1,h2⟩:=qgu (st xs r hr) (st ys s hs) h
 exact qnY xs ys (by omega) h2
theorem qvn {xs ys:List (Int×(Int×(List UInt8×Unit)))} (h:qe0 xs=qe0 ys):xs=ys:=
 (qte (r:=[]) (s:=[]) (qgr _) (qgr _) (by rw [List.append_nil,List.append_nil]; exact h)).1
def qi8 (l:List Int):List UInt8:=(l.map fun i=>44::Lib.itoa i).flatten
theorem qkZ (i:Int) (l:List Int):qi8 (i::l)=44::(Lib.itoa i++qi8 l):=rfl
theorem qmG (l:List Int) {r:List UInt8} (hr:qjc dig r):qjc dig (qi8 l++r):=by
 cases l with
 |nil=>exact hr
 |cons i l=>rw [qkZ]; exact qc9 (by decide)
theorem qoe:(a b:List Int)→ {r s:List UInt8} →qjc dig r→qjc dig s→qjc (· =44) r→qjc (· =44) s→qi8 a++r=qi8 b++s→a=b∧r=s
 |[],[],_,_,_,_,_,_,h=>⟨rfl,h⟩
 |[],j::b,r,s,_,_,hr,_,h=>absurd rfl (hr 44 (Lib.itoa j++qi8 b++s) h)
 |i::a,[],r,s,_,_,_,hs,h=>absurd rfl (hs 44 (Lib.itoa i++qi8 a++r) h.symm)
 |i::a,j::b,r,s,hr,hs,hr',hs',h=>by
  simp only [qkZ,List.cons_append,List.append_assoc] at h
  injection h with _ h
  obtain ⟨h1,h2⟩:=qgu (qmG a hr) (qmG b hs) h
  obtain ⟨h3,h4⟩:=qoe a b hr hs hr' hs' h2
  exact ⟨by rw [h1,h3],h4⟩
abbrev DFk:Type:=List UInt8×(List Int×(List UInt8×Unit))
def fkC (f:DFk):List UInt8:=qfz f.1++(qfz f.2.2.1++qi8 f.2.1)
theorem qw4 {a b:DFk} (h:fkC a=fkC b):a=b:=by
 obtain ⟨a1,a2,a3,⟨⟩⟩:=a
 obtain ⟨b1,b2,b3,⟨⟩⟩:=b
 unfold fkC at h
 obtain ⟨h1,h2⟩:=qmv h
 obtain ⟨h3,h4⟩:=qmv h2
 obtain ⟨h5,_⟩:=qoe a2 b2 (r:=[]) (s:=[]) (qgr _) (qgr _) (qgr _) (qgr _) (by rw [List.append_nil,List.append_nil]; exact h4)
 simp only at h1 h3
 rw [h1,h3,h5]
abbrev DCol:Type:=List UInt8×(Int×(Bool×Unit))
abbrev DTab:Type:=List UInt8×(List DCol×(List Int×Unit))
abbrev qre:Type:=Int×(Int×(List UInt8×Unit))
abbrev DCon:Type:=List UInt8×(Int×(List UInt8×(Int×(qre×Unit))))
theorem qpq {α:Type} [DecidableEq α] {ne:α→α→Bool} (hne:∀a b,ne a b= !decide (a=b)) (xs ys:List α) (d:α) (hl:xs.length=ys.length) (hb:xs.length≤1099511627776) {N:Nat} (hN:xs.length<N):
  qad (S:=Int×Unit) (R:=(Bool×Unit)×Unit) N (fun ih0=>fun p1=>(bif (ltI p1.1 (qr xs)) then (bif ((inB p1.1 (qr xs))&&(inB p1.1 (qr ys))) then (bif (ne (qk xs p1.1 d) (qk ys p1.1 d)) then (some ((false,()),())) else (ih0 ((qax .i64 p1.1 1),()))) else none) else (some ((true,()),())))) (0,())=some ((decide (xs=ys),()),()):=by
 refine qeC (S:=Int×Unit) (R:=(Bool×Unit)×Unit) (fun p=>xs.length - p.1.toNat) (fun p=>∃i:Nat,p.1=(i:Int)∧i≤xs.length∧xs.take i=ys.take i) (fun _=>((decide (xs=ys),()),())) ?_ N _ ⟨0,rfl,Nat.zero_le _,by simp⟩ (by simp; omega)
 rintro ih ⟨_,_⟩ ⟨i,rfl,h2,h3⟩ hih
 simp only [Int.toNat_natCast] at hih⊢
 by_cases hi:i<xs.length
 ·have hj:i<ys.length:=by omega
  rw [qJ (qav hi),qC hi,qC hj,qD d hi,qD d hj,hne]
  simp only [Bool.and_self,cond_true]
  by_cases e:xs[i]=ys[i]
  ·rw [qE (by simp [e]),qO (by omega),hih _ ⟨i+1,rfl,by omega,by rw [qbi hi,qbi hj,h3,e]⟩ (by simp only [Int.toNat_natCast]; omega)]
  ·rw [qJ (by simp [e])]
   have:xs≠ys:=fun h=>e (by subst h; rfl)
   simp [this]
 ·rw [qE (qac hi)]
  have e1:i=xs.length:=by omega
  subst e1
  have:xs=ys:=by
   have:=h3
   rwa [List.take_length,hl,List.take_length] at this
  simp [this]
theorem qpI {α:Type} (xs:List α) (b:Nat) (h:xs.length * b≤140737488355328):
  (bif (eqI (qr xs) 0) then (qsx (some ((([]:List α),()),())) (bif (qcq (qr ([]:List α)) (qr xs) b) then (some (((qem ([]:List α) xs),()),())) else none)) else (bif (qcq (qr ([]:List α)) (qr xs) b) then (some (((qem ([]:List α) xs),()),())) else none))=some ((xs,()),()):=by
 have e:qcq (qr ([]:List α)) (qr xs) b=true:=qc4 (by simpa using h)
 rw [e,cond_true,qbv,List.nil_append]
 cases xs with
 |nil=>rw [qJ (by rw [qaC,qt]; rfl),qpY,if_pos rfl]
 |cons x xs=>rw [qE (by rw [qaC,qt]; simp; omega)]
theorem quF {a b:List UInt8} (ha:a.length≤4398046511104) (hb:b.length≤4398046511104):qcq (qr a) (qr b) 1=true:=qc4 (by omega)
theorem qog {n:Int} (h:IntKind.i64.has n):(Lib.itoa n).length≤21:=by
 have h': -9223372036854775808≤n∧n≤9223372036854775807:=by simpa [IntKind.has,IntKind.min,IntKind.max,IntKind.signed,IntKind.bits] using h
 exact Lib.itoa_length_le n h'.1 h'.2
theorem qil {n:Nat} (h:n≤maxLen):(Lib.itoa (n:Int)).length≤21:=by
 unfold maxLen at h
 exact Lib.itoa_length_le _ (by omega) (by omega)
theorem qnN {s:List UInt8} (h:s.length≤maxLen):(qfz s).length≤s.length+22:=by
 have:=qil h
 unfold qfz
 simp only [List.length_append,List.length_cons]
 omega
theorem qv7 {v:qre} (h:IntKind.i64.has v.1∧IntKind.i64.has v.2.1∧v.2.2.1.length≤maxLen):(qlv v).length≤v.2.2.1.length+67:=by
 have h1:=qog h.1
 have h2:=qog h.2.1
 have h3:=qil h.2.2
 unfold qlv
 simp only [List.length_append,List.length_cons]
 omega
theorem qp1: {l:List Int} →(∀i∈l,IntKind.i64.has i)→(qi8 l).length≤22 * l.length
 |[],_=>Nat.zero_le _
 |i::l,h=>by
  have h1:=qog (h i List.mem_cons_self)
  have h2:=qp1 (l:=l) fun j hj=>h j (List.mem_cons_of_mem _ hj)
  rw [qkZ]
  simp only [List.length_append,List.length_cons] at h2⊢
  omega
abbrev TCol:Ty:= .pair .str (.pair (.int .i64) (.pair .bool .unit))
theorem qiH:(l:List Int)→(l.map (Ty.bulk (.int .i64))).sum=l.length
 |[]=>rfl
 |i::l=>by
  have:Ty.bulk (.int .i64) i=1:=rfl
  rw [List.map_cons,List.sum_cons,qiH l,this,List.length_cons]; omega
abbrev qhT:Ty:= .pair (.int .i64) (.pair (.int .i64) (.pair .str .unit))
abbrev qtE:Ty:= .pair .str (.pair (.slice TCol) (.pair (.slice (.int .i64)) .unit))
abbrev TFk:Ty:= .pair .str (.pair (.slice (.int .i64)) (.pair .str .unit))
abbrev TCon:Ty:= .pair .str (.pair (.int .i64) (.pair .str (.pair (.int .i64) (.pair qhT .unit))))
theorem qw9 {f:DFk} (h:TFk.good f):(fkC f).length≤50 * TFk.bulk f:=by
 obtain ⟨f1,f2,f3,⟨⟩⟩:=f
 have h1:=qnN (s:=f1) h.1
 have h2:=qnN (s:=f3) h.2.2.1
 have h3:=qp1 (l:=f2) h.2.1.2
 have h5:TFk.bulk (f1,f2,f3,PUnit.unit)=f1.length+1+((f2.map (Ty.bulk (.int .i64))).sum+1+(f3.length+1+1)):=rfl
 rw [qiH] at h5
 simp only [fkC,List.length_append]
 omega
theorem qrm:IntKind.i64.has 0:=⟨by decide,by decide⟩
abbrev TSch:Ty:= .pair (.slice qtE) (.pair (.slice TFk) (.pair (.slice TCon) .unit))
theorem qlZ (a:List DTab) (b:List DFk) (c:List DCon):TSch.bulk (a,b,c,PUnit.unit)=(a.map qtE.bulk).sum+1+((b.map TFk.bulk).sum+1+((c.map TCon.bulk).sum+1+1)):=rfl
theorem qrQ (a b:List UInt8):Lib.compareBytes a b= -1∨Lib.compareBytes a b=0∨Lib.compareBytes a b=1:=by
 induction a generalizing b with
 |nil=>cases b <;> simp [Lib.compareBytes]
 |cons x a ih=>cases b with
  |nil=>simp [Lib.compareBytes]
  |cons y b=>
   simp only [Lib.compareBytes]
   split
   ·simp
   ·split
    ·simp
    ·exact ih b
theorem quy (a b:List UInt8):Lib.compareBytes b a= - Lib.compareBytes a b:=by
 induction a generalizing b with
 |nil=>cases b <;> simp [Lib.compareBytes]
 |cons x a ih=>cases b with
  |nil=>simp [Lib.compareBytes]
  |cons y b=>
   simp only [Lib.compareBytes]
   by_cases h1:x<y
   ·have h2:¬y<x:=fun h=>by have:=UInt8.lt_iff_toNat_lt.1 h; have:=UInt8.lt_iff_toNat_lt.1 h1; omega
    simp [h1,h2]
   ·by_cases h2:y<x
    ·simp [h1,h2]
    ·simp [h1,h2,ih b]
theorem qoN (a b:List UInt8):Lib.compareBytes a b=0↔a=b:=by
 induction a generalizing b with
 |nil=>cases b <;> simp [Lib.compareBytes]
 |cons x a ih=>cases b with
  |nil=>simp [Lib.compareBytes]
  |cons y b=>
   simp only [Lib.compareBytes]
   by_cases h1:x<y
   ·have:x≠y:=fun e=>by subst e; have:=UInt8.lt_iff_toNat_lt.1 h1; omega
    simp [h1,this]
   ·by_cases h2:y<x
    ·have:x≠y:=fun e=>by subst e; have:=UInt8.lt_iff_toNat_lt.1 h2; omega
     simp [h1,h2,this]
    ·have:x=y:=UInt8.toNat_inj.1 (by
      have h1:¬x.toNat<y.toNat:=fun h=>h1 (UInt8.lt_iff_toNat_lt.2 h)
      have h2:¬y.toNat<x.toNat:=fun h=>h2 (UInt8.lt_iff_toNat_lt.2 h)
      omega)
     simp [h1,h2,ih b,this]
theorem qi0 (a b:List UInt8):qgf a b=decide (Lib.compareBytes a b<0):=by
 rw [qqg]
 induction a generalizing b with
 |nil=>cases b <;> simp [Lib.compareBytes,Op.bytesLess]
 |cons x a ih=>cases b with
  |nil=>simp [Lib.compareBytes,Op.bytesLess]
  |cons y b=>
   simp only [Lib.compareBytes,Op.bytesLess]
   by_cases h1:x<y
   ·simp [h1]
   ·by_cases h2:y<x
    ·have:x≠y:=fun e=>by subst e; have:=UInt8.lt_iff_toNat_lt.1 h2; omega
     simp [h1,h2,this]
    ·have:x=y:=UInt8.toNat_inj.1 (by
      have h1:¬x.toNat<y.toNat:=fun h=>h1 (UInt8.lt_iff_toNat_lt.2 h)
      have h2:¬y.toNat<x.toNat:=fun h=>h2 (UInt8.lt_iff_toNat_lt.2 h)
      omega)
     simp [h1,h2,ih b,this]
theorem qqy (a b:List UInt8):(qgf a b||eqS a b)= !qgf b a:=by
 rw [qi0,qi0,quy a b,qbs]
 rcases qrQ a b with h|h|h
 ·simp [h]
 ·rw [h]; simp [(qoN a b).1 h]
 ·have:a≠b:=fun e=>by rw [(qoN a b).2 e] at h; omega
  simp [h,this]
end Go.Vi
namespace Go.Vi
noncomputable section
def ic (x y:Int):Int:=if x<y then -1 else if y<x then 1 else 0
def vc (a b:qre):Int:=if ic a.1 b.1≠0 then ic a.1 b.1 else if ic a.2.1 b.2.1≠0 then ic a.2.1 b.2.1 else Lib.compareBytes a.2.2.1 b.2.2.1
theorem qbu (x y:Int):(x<y∧ic x y= -1)∨(x=y∧ic x y=0)∨(y<x∧ic x y=1):=by
 unfold ic
 split
 ·simp [*]
 ·split
  ·simp [*]
  ·have:x=y:=by omega
   simp [this]
theorem qr3 (a b:qre):vc a b= -1∨vc a b=0∨vc a b=1:=by
 unfold vc
 have h1:=qbu a.1 b.1
 have h2:=qbu a.2.1 b.2.1
 have h3:=qrQ a.2.2.1 b.2.2.1
 split
 ·omega
 ·split
  ·omega
  ·exact h3
theorem quh (a b:qre):vc b a= - vc a b:=by
 have s:∀x y,ic y x= - ic x y:=fun x y=>by
  have h1:=qbu x y
  have h2:=qbu y x
  omega
 unfold vc
 rw [s a.1 b.1,s a.2.1 b.2.1,quy]
 split <;> split <;> first|omega|(split <;> split <;> omega)
theorem qqu (a b:qre):vc a b=0↔a=b:=by
 obtain ⟨k,n,s,_⟩:=a
 obtain ⟨k',n',s',_⟩:=b
 have h1:=qbu k k'
 have h2:=qbu n n'
 have h3:=qoN s s'
 simp only [vc,Prod.mk.injEq,and_true]
 split
 ·rename_i h
  constructor
  ·intro h0; exact absurd h0 h
  ·rintro ⟨rfl,_⟩; omega
 ·split
  ·rename_i h
   constructor
   ·intro h0; exact absurd h0 h
   ·rintro ⟨_,rfl,_⟩; omega
  ·rw [h3]
   constructor
   ·intro h; exact ⟨by omega,by omega,h⟩
   ·exact fun h=>h.2.2
abbrev qam:Type:=List qre
def qZ:qam→qam→Int
 |[],ys=>ic 0 (ys.length:Int)
 |_::xs,[]=>ic ((xs.length:Int)+1) 0
 |x::xs,y::ys=>if vc x y≠0 then vc x y else qZ xs ys
theorem qwn (a b k:Int):ic (a+k) (b+k)=ic a b:=by
 unfold ic
 by_cases h1:a<b
 ·rw [if_pos h1,if_pos (by omega)]
 ·rw [if_neg h1,if_neg (by omega)]
  by_cases h2:b<a
  ·rw [if_pos h2,if_pos (by omega)]
  ·rw [if_neg h2,if_neg (by omega)]
theorem qn7 (xs ys:qam) (i:Nat) (h:¬(i<xs.length∧i<ys.length)) (hx:i≤xs.length) (hy:i≤ys.length):qZ (xs.drop i) (ys.drop i)=ic (xs.length:Int) (ys.length:Int):=by
 by_cases h1:i<xs.length
 ·have h2:¬i<ys.length:=fun h2=>h ⟨h1,h2⟩
  rw [List.drop_eq_getElem_cons h1,List.drop_of_length_le (l:=ys) (by omega),qZ]
  have e1:((xs.drop (i+1)).length:Int)+1=(xs.length:Int)+(-(i:Int)):=by rw [List.length_drop]; omega
  have e2:(0:Int)=(ys.length:Int)+(-(i:Int)):=by omega
  rw [e1,show ic ((xs.length:Int)+ -(i:Int)) 0=ic ((xs.length:Int)+ -(i:Int)) ((ys.length:Int)+ -(i:Int)) by rw [←e2],qwn]
 ·rw [List.drop_of_length_le (l:=xs) (by omega)]
  rw [qZ.eq_def]
  simp only
  have e1:((ys.drop i).length:Int)=(ys.length:Int)+(-(i:Int)):=by rw [List.length_drop]; omega
  have e2:(0:Int)=(xs.length:Int)+(-(i:Int)):=by omega
  rw [e1,show ic 0 ((ys.length:Int)+ -(i:Int))=ic ((xs.length:Int)+ -(i:Int)) ((ys.length:Int)+ -(i:Int)) by rw [←e2],qwn]
abbrev zV:qre:=(0,(0,(([]:List UInt8),())))
def qqr (row:qam) (i:Int):qre:=if h:0≤i∧i<(row.length:Int) then row[i.toNat]'(by omega) else zV
def qaY (pk:List Int) (row:qam):qam:=pk.map (qqr row)
theorem qdf (pk:List Int) (row:qam):(qaY pk row).length=pk.length:=by simp [qaY]
def qdh (f:qam→Int):List qam→Nat×Bool
 |[]=>(0,false)
 |r::rs=>if 0≤f r then (0,decide (f r=0)) else ((qdh f rs).1+1,(qdh f rs).2)
theorem qlf (f:qam→Int):(rows:List qam)→(qdh f rows).1≤rows.length∧((qdh f rows).1=rows.length→(qdh f rows).2=false)∧(∀r,rows[(qdh f rows).1]? =some r→0≤f r∧(qdh f rows).2=decide (f r=0))
 |[]=>⟨Nat.le_refl _,fun _=>rfl,fun r h=>by simp at h⟩
 |r::rs=>by
  have ih:=qlf f rs
  unfold qdh
  split
  ·rename_i h
   refine ⟨Nat.zero_le _,fun h=>by simp at h,fun q hq=> ?_⟩
   simp at hq
   subst hq
   exact ⟨h,rfl⟩
  ·refine ⟨by simpa using ih.1,fun h=>ih.2.1 (by simpa using h),fun q hq=>ih.2.2 q (by simpa using hq)⟩
theorem qoz:(a b c:List UInt8)→Lib.compareBytes a b<0→Lib.compareBytes b c<0→Lib.compareBytes a c<0
 |[],[],_,h,_=>by simp [Lib.compareBytes] at h
 |[],_::_,[],_,h=>by simp [Lib.compareBytes] at h
 |[],_::_,_::_,_,_=>by simp [Lib.compareBytes]
 |_::_,[],_,h,_=>by simp [Lib.compareBytes] at h
 |_::_,_::_,[],_,h=>by simp [Lib.compareBytes] at h
 |x::a,y::b,z::c,h1,h2=>by
  simp only [Lib.compareBytes,UInt8.lt_iff_toNat_lt] at h1 h2⊢
  have ih:=qoz a b c
  by_cases e1:x.toNat<y.toNat
  ·by_cases e2:y.toNat<z.toNat
   ·rw [if_pos (by omega)]; omega
   ·by_cases e3:z.toNat<y.toNat
    ·rw [if_neg e2,if_pos e3] at h2; omega
    ·rw [if_pos (by omega)]; omega
  ·by_cases e4:y.toNat<x.toNat
   ·rw [if_neg e1,if_pos e4] at h1; omega
   ·rw [if_neg e1,if_neg e4] at h1
    by_cases e2:y.toNat<z.toNat
    ·rw [if_pos (by omega)]; omega
    ·by_cases e3:z.toNat<y.toNat
     ·rw [if_neg e2,if_pos e3] at h2; omega
     ·rw [if_neg e2,if_neg e3] at h2
      rw [if_neg (by omega),if_neg (by omega)]
      exact ih h1 h2
theorem qvM {a b c:qre} (h1:vc a b<0) (h2:vc b c<0):vc a c<0:=by
 unfold vc at *
 have a1:=qbu a.1 b.1
 have a2:=qbu b.1 c.1
 have a3:=qbu a.1 c.1
 have b1:=qbu a.2.1 b.2.1
 have b2:=qbu b.2.1 c.2.1
 have b3:=qbu a.2.1 c.2.1
 have tr:=qoz a.2.2.1 b.2.2.1 c.2.2.1
 generalize Lib.compareBytes a.2.2.1 b.2.2.1=s1 at *
 generalize Lib.compareBytes b.2.2.1 c.2.2.1=s2 at *
 generalize Lib.compareBytes a.2.2.1 c.2.2.1=s3 at *
 generalize ic a.1 b.1=i1 at *
 generalize ic b.1 c.1=i2 at *
 generalize ic a.1 c.1=i3 at *
 generalize ic a.2.1 b.2.1=j1 at *
 generalize ic b.2.1 c.2.1=j2 at *
 generalize ic a.2.1 c.2.1=j3 at *
 have k1:i1= -1∨(i1=0∧(j1= -1∨(j1=0∧s1<0))):=by
  split at h1
  ·omega
  ·split at h1 <;> omega
 have k2:i2= -1∨(i2=0∧(j2= -1∨(j2=0∧s2<0))):=by
  split at h2
  ·omega
  ·split at h2 <;> omega
 have k3:i3= -1∨(i3=0∧(j3= -1∨(j3=0∧s3<0))):=by
  rcases k1 with k1|⟨k1,k1'|⟨k1',k1''⟩⟩ <;> rcases k2 with k2|⟨k2,k2'|⟨k2',k2''⟩⟩ <;> first|omega|exact .inr ⟨by omega,.inr ⟨by omega,tr k1'' k2''⟩⟩
 split
 ·omega
 ·split <;> omega
theorem qtg (x y:Int):ic y x= - ic x y:=by
 have h1:=qbu x y
 have h2:=qbu y x
 omega
theorem qoC:(a b:qam)→qZ b a= - qZ a b
 |[],[]=>by simp [qZ,ic]
 |[],y::ys=>by simp only [qZ,List.length_cons]; rw [qtg]; simp
 |x::xs,[]=>by simp only [qZ,List.length_cons]; rw [qtg]; simp
 |x::xs,y::ys=>by
  simp only [qZ,quh x y,qoC xs ys]
  by_cases h:vc x y=0
  ·simp [h]
  ·have:¬(-vc x y=0):=by omega
   simp [h,this]
theorem qdt:(a b:qam)→(qZ a b=0↔a=b)
 |[],[]=>by simp [qZ,ic]
 |[],y::ys=>by
  have:=qbu 0 (((y::ys).length:Nat):Int)
  simp only [qZ,List.length_cons] at this⊢
  constructor
  ·intro h; omega
  ·intro h; cases h
 |x::xs,[]=>by
  have:=qbu ((xs.length:Int)+1) 0
  simp only [qZ]
  constructor
  ·intro h; omega
  ·intro h; cases h
 |x::xs,y::ys=>by
  simp only [qZ,List.cons.injEq,←qqu x y,←qdt xs ys]
  by_cases h:vc x y=0
  ·simp [h]
  ·simp [h]
theorem qg2:(a b c:qam)→qZ a b<0→qZ b c<0→qZ a c<0
 |[],[],_,h,_=>by simp [qZ,ic] at h
 |[],y::ys,[],_,h=>by
  have:=qbu ((ys.length:Int)+1) 0
  simp only [qZ] at h
  omega
 |[],_::_,z::zs,_,_=>by
  have:=qbu 0 (((z::zs).length:Nat):Int)
  simp only [qZ,List.length_cons] at this⊢
  omega
 |x::xs,[],_,h,_=>by
  have:=qbu ((xs.length:Int)+1) 0
  simp only [qZ] at h
  omega
 |_::_,y::ys,[],_,h=>by
  have:=qbu ((ys.length:Int)+1) 0
  simp only [qZ] at h
  omega
 |x::xs,y::ys,z::zs,h1,h2=>by
  simp only [qZ] at h1 h2⊢
  have ih:=qg2 xs ys zs
  by_cases e1:vc x y=0
  ·have e1':=(qqu x y).1 e1
   subst e1'
   simp only [e1,ne_eq,not_true_eq_false,if_false] at h1
   by_cases e2:vc x z=0
   ·simp only [e2,ne_eq,not_true_eq_false,if_false] at h2⊢
    exact ih h1 h2
   ·simp only [e2,ne_eq,not_false_eq_true,if_true] at h2⊢
    exact h2
  ·simp only [e1,ne_eq,not_false_eq_true,if_true] at h1
   by_cases e2:vc y z=0
   ·have e2':=(qqu y z).1 e2
    subst e2'
    simp only [e1,ne_eq,not_false_eq_true,if_true]
    exact h1
   ·simp only [e2,ne_eq,not_false_eq_true,if_true] at h2
    have:=qvM h1 h2
    have e3:¬vc x z=0:=by omega
    simp only [e3,ne_eq,not_false_eq_true,if_true]
    exact this
theorem qs8 {α:Type} (R:α→α→Prop) (tr:∀a b c,R a b→R b c→R a c) (l:List α) (h:∀i (hi:i+1<l.length),R (l[i]'(by omega)) l[i+1]):∀(k i:Nat) (hk:i+1+k<l.length),R (l[i]'(by omega)) (l[i+1+k]'hk)
 |0,i,hk=>h i hk
 |k+1,i,hk=>tr _ _ _ (qs8 R tr l h k i (by omega)) (h (i+1+k) (by omega))
theorem qm0 {α:Type} (R:α→α→Prop) (tr:∀a b c,R a b→R b c→R a c) (l:List α) (h:∀i (hi:i+1<l.length),R (l[i]'(by omega)) l[i+1]):l.Pairwise R:=
 List.pairwise_iff_getElem.2 fun i j hi hj hij=>by
  have:=qs8 R tr l h (j - (i+1)) i (by omega)
  have e:i+1+(j - (i+1))=j:=by omega
  simpa only [e] using this
theorem qrs (f:qam→Int):(rows:List qam)→rows.Pairwise (fun a b=>0≤f a→0<f b)→(qdh f rows).2=rows.any (fun r=>decide (f r=0))
 |[],_=>rfl
 |r::rs,h=>by
  obtain ⟨h1,h2⟩:=List.pairwise_cons.1 h
  unfold qdh
  by_cases h0:0≤f r
  ·rw [if_pos h0,List.any_cons]
   have:rs.any (fun r=>decide (f r=0))=false:=by
    rw [List.any_eq_false]
    intro x hx he
    have:=h1 x hx h0
    rw [decide_eq_true_eq] at he
    omega
   rw [this]
   simp
  ·rw [if_neg h0,List.any_cons,qrs f rs h2]
   have:decide (f r=0)=false:=decide_eq_false (by omega)
   rw [this]
   simp
end
end Go.Vi
set_option linter.unusedSimpArgs false
set_option maxRecDepth 100000
namespace Go.Vi
noncomputable section
abbrev qwJ:Type:=Int×(List UInt8×(qam×(qam×Unit)))
def delC (n:List UInt8) (k:qam):qwJ:=(2,(n,(k,(([]:qam),()))))
def upsC (n:List UInt8) (r:qam):qwJ:=(1,(n,(([]:qam),(r,()))))
def qsj (n:List UInt8) (pk:List Int):List qam→List qam→List qwJ
 |[],[]=>[]
 |a::as,[]=>delC n (qaY pk a)::qsj n pk as []
 |[],b::bs=>upsC n b::qsj n pk [] bs
 |a::as,b::bs=>if qZ (qaY pk a) (qaY pk b)<0 then delC n (qaY pk a)::qsj n pk as (b::bs)
  else if 0<qZ (qaY pk a) (qaY pk b) then upsC n b::qsj n pk (a::as) bs
  else (if a=b then [] else [upsC n b])++qsj n pk as bs
termination_by a b=>a.length+b.length
abbrev qew (pk:List Int) (rows:List qam):Prop:=rows.Pairwise (fun a b=>qZ (qaY pk a) (qaY pk b)<0)
theorem qm2 (a:qam):¬qZ a a<0:=by rw [(qdt a a).2 rfl]; omega
theorem cmp_eq {a b:qam} (h1:¬qZ a b<0) (h2:¬qZ b a<0):a=b:=by
 rw [qoC a b] at h2
 exact (qdt a b).1 (by omega)
end
end Go.Vi
set_option linter.unusedSimpArgs false
set_option linter.unusedVariables false
set_option maxRecDepth 100000
namespace Go.Vi
noncomputable section
theorem qcG {S R:Type} {st:(S→Option R)→S→Option R} (μ:S→Nat) (I:S→Prop) (Q:Option R→Prop)
  (hs:∀ih p,I p→(∀q,I q→μ q<μ p→Q (ih q))→Q (st ih p)):∀(N:Nat) (p:S),I p→μ p<N→Q (qad N st p)
 |0,p,_,h=>by omega
 |N+1,p,hI,h=>by
  rw [qcW]
  exact hs _ p hI fun q hq hm=>qcG μ I Q hs N q hq (by omega)
structure Cmp {α:Type} (P:α→Prop) (φ:(α×(α×Unit))→Option (Int×Unit)) (le:α→α→Prop):Prop where
 ans:∀a b,P a→P b→∃c,φ (a,(b,()))=some (c,())∧(c<0↔¬le b a)
 tot:∀a b,P a→P b→le a b∨le b a
 trans:∀a b c,P a→P b→P c→le a b→le b c→le a c
section
variable {α:Type} {P:α→Prop} {n:Nat} (d:α) {φ:(α×(α×Unit))→Option (Int×Unit)} {le:α→α→Prop} {N:Nat}
theorem Cmp.refl (h:Cmp P φ le) {a:α} (ha:P a):le a a:=(h.tot a a ha ha).elim id id
structure Seg (d:α) (n:Nat) (a b:Int) (xs ys:List α):Prop where
 perm:ys.Perm xs
 out:∀k:Int,0≤k→k<(n:Int)→(k<a∨b≤k)→qk ys k d=qk xs k d
 inn:∀k:Int,a≤k→k<b→∃m,a≤m∧m<b∧qk ys k d=qk xs m d
theorem Seg.refl (a b:Int) (xs:List α):Seg d n a b xs xs:=⟨.refl _,fun _ _ _ _=>rfl,fun k h1 h2=>⟨k,h1,h2,rfl⟩⟩
theorem Seg.trans {a b:Int} {xs ys zs:List α} (h1:Seg d n a b xs ys) (h2:Seg d n a b ys zs):Seg d n a b xs zs:=
 ⟨h2.perm.trans h1.perm,fun k q1 q2 q3=>(h2.out k q1 q2 q3).trans (h1.out k q1 q2 q3),fun k q1 q2=>by
  obtain ⟨m,m1,m2,m3⟩:=h2.inn k q1 q2
  obtain ⟨l,l1,l2,l3⟩:=h1.inn m m1 m2
  exact ⟨l,l1,l2,m3.trans l3⟩⟩
theorem Seg.mono {a b a' b':Int} {xs ys:List α} (h:Seg d n a b xs ys) (h0:0≤a') (hn:b'≤(n:Int)) (ha:a'≤a) (hb:b≤b'):Seg d n a' b' xs ys:=
 ⟨h.perm,fun k q1 q2 q3=>h.out k q1 q2 (by omega),fun k q1 q2=>by
  by_cases hk:a≤k∧k<b
  ·obtain ⟨m,m1,m2,m3⟩:=h.inn k hk.1 hk.2
   exact ⟨m,by omega,by omega,m3⟩
  ·exact ⟨k,q1,q2,h.out k (by omega) (by omega) (by omega)⟩⟩
theorem Seg.ck {a b:Int} {xs ys:List α} (h:Seg d n a b xs ys) (hx:Ck P n xs):Ck P n ys:=
 ⟨by rw [h.perm.length_eq]; exact hx.len,fun x q=>hx.all x (h.perm.mem_iff.1 q)⟩
theorem qp7 {xs:List α} (hl:xs.length=n) {i k:Int} (h0:0≤i) (h1:i<(n:Int)) (h2:0≤k) (v:α):qk (qgW xs i v) k d=if k=i then v else qk xs k d:=by
 rw [qdu,qdu,qbm]
 by_cases h:k=i
 ·subst h
  rw [if_pos rfl,List.getD_eq_getElem?_getD,List.getElem?_set_self (by omega)]
  rfl
 ·rw [if_neg h,List.getD_eq_getElem?_getD,List.getD_eq_getElem?_getD,List.getElem?_set_ne (by omega)]
def swp (xs:List α) (i j:Int):List α:=qgW (qgW xs i (qk xs j d)) j (qk xs i d)
theorem qiJ {xs:List α} (hl:xs.length=n) {i j:Int} (i0:0≤i) (i1:i<(n:Int)) (j0:0≤j) (j1:j<(n:Int)) (k:Int) (h2:0≤k):qk (swp d xs i j) k d=if k=j then qk xs i d else if k=i then qk xs j d else qk xs k d:=by
 unfold swp
 rw [qp7 d (n:=n) (by rw [qbm,List.length_set]; exact hl) j0 j1 h2,qp7 d hl i0 i1 h2]
theorem qla {xs:List α} (hl:xs.length=n) {a b i j:Int} (a0:0≤a) (bn:b≤(n:Int)) (i0:a≤i) (i1:i<b) (j0:a≤j) (j1:j<b):Seg d n a b xs (swp d xs i j):=by
 have g:=qiJ d hl (i:=i) (j:=j) (by omega) (by omega) (by omega) (by omega)
 refine ⟨?_,fun k q1 q2 q3=> ?_,fun k q1 q2=> ?_⟩
 ·unfold swp
  have hi:i.toNat<xs.length:=by omega
  have hj:j.toNat<xs.length:=by omega
  have e1:qk xs i d=xs[i.toNat]:=by rw [qdu,List.getD_eq_getElem?_getD,List.getElem?_eq_getElem hi]; rfl
  have e2:qk xs j d=xs[j.toNat]:=by rw [qdu,List.getD_eq_getElem?_getD,List.getElem?_eq_getElem hj]; rfl
  rw [e1,e2,qbm,qbm]
  exact List.set_set_perm hi hj
 ·rw [g k q1,if_neg (by omega),if_neg (by omega)]
 ·rw [g k (by omega)]
  by_cases h1:k=j
  ·exact ⟨i,i0,i1,by rw [if_pos h1]⟩
  ·by_cases h2:k=i
   ·exact ⟨j,j0,j1,by rw [if_neg h1,if_pos h2]⟩
   ·exact ⟨k,q1,q2,by rw [if_neg h1,if_neg h2]⟩
theorem qlQ (xs:List α) (i k:Int) (v:α):inB k (qr (qgW xs i v))=inB k (qr xs):=by
 rw [qdj,qdj,qt,qt,qbm,List.length_set]
def Srt (d:α) (le:α→α→Prop) (a b:Int) (xs:List α):Prop:=∀i j,a≤i→i≤j→j<b→le (qk xs i d) (qk xs j d)
def qqh (P:α→Prop) (d:α) (n:Nat) (le:α→α→Prop) (a b:Int) (xs:List α) (r:Option (Unit×(List α×Unit))):Prop:=∃out,r=some ((),(out,()))∧Seg d n a b xs out∧Srt d le a b out
theorem qnJ (hφ:Cmp P φ le) (hn:n≤1099511627776) (hN:n+1<N) {xs:List α} (h:Ck P n xs) {a b:Int} (ha:0≤a) (ha2:a≤(n:Int)) (hb:b≤(n:Int)):qqh P d n le a b xs (qne d N (xs,(a,(b,(φ,()))))):=by
 simp only [qne]
 have ea:qax .i64 a 1=a+1:=qeS (by omega) (by omega)
 rw [ea]
 by_cases hab:¬a<b
 ·obtain ⟨M,rfl⟩:∃M,N=M+1:=⟨N - 1,by omega⟩
  rw [qcW]
  simp only [ltF (show ¬a+1<b by omega),cond_false]
  exact ⟨xs,rfl,.refl d a b xs,fun i j h1 h2 h3=>by omega⟩
 refine qcG (S:=List α×(Int×Unit)) (fun p=>(b - p.2.1).toNat) (fun p=>Seg d n a b xs p.1∧a+1≤p.2.1∧p.2.1≤(n:Int)+1∧Srt d le a p.2.1 p.1) (qqh P d n le a b xs) ?_ N _ ⟨.refl d a b xs,by simp only; omega,by simp only; omega,fun i j h1 h2 h3=>by
  simp only at h3
  have:i=j:=by omega
  subst this
  exact hφ.refl (h.get d (by omega) (by omega))⟩ (by simp only; omega)
 rintro ih ⟨ys,i,⟨⟩⟩ ⟨hs,hi,hi2,hsrt⟩ hih
 simp only at hs hi hi2 hsrt hih⊢
 by_cases hc:i<b
 ·simp only [ltT hc,cond_true]
  refine qcG (S:=List α×(Int×Unit)) (fun p=>(p.2.1 - a).toNat) (fun p=>Seg d n a b xs p.1∧a≤p.2.1∧p.2.1≤i∧∀x y,a≤x→x<y→y≤i→y≠p.2.1→le (qk p.1 x d) (qk p.1 y d)) (qqh P d n le a b xs) ?_ N _ ⟨hs,by simp only; omega,by simp only; omega,fun x y h1 h2 h3 h4=>hsrt x y h1 (by omega) (by simp only at h4⊢; omega)⟩ (by simp only; omega)
  rintro jh ⟨zs,j,⟨⟩⟩ ⟨hz,hj1,hj2,hord⟩ hjh
  simp only at hz hj1 hj2 hord hjh⊢
  have hzc:=hz.ck d h
  have ei:qax .i64 i 1=i+1:=qeS (by omega) (by omega)
  have fin:(a<j→le (qk zs (j - 1) d) (qk zs j d))→Srt d le a (i+1) zs:=fun hle x y h1 h2 h3=>by
   by_cases hxy:x=y
   ·subst hxy; exact hφ.refl (hzc.get d (by omega) (by omega))
   by_cases hyj:y=j
   ·subst hyj
    by_cases hx:x=y - 1
    ·rw [hx]; exact hle (by omega)
    ·exact hφ.trans _ _ _ (hzc.get d (by omega) (by omega)) (hzc.get d (i:=y - 1) (by omega) (by omega)) (hzc.get d (by omega) (by omega)) (hord x (y - 1) h1 (by omega) (by omega) (by omega)) (hle (by omega))
   ·exact hord x y h1 (by omega) (by omega) hyj
  by_cases hja:a<j
  ·have s1:qbn .i64 j 1=j - 1:=qcP (by omega) (by omega)
   have pj:=hzc.get d (i:=j) (by omega) (by omega)
   have pk:=hzc.get d (i:=j - 1) (by omega) (by omega)
   obtain ⟨c,e1,e3⟩:=hφ.ans _ _ pj pk
   have b1:=hzc.inB (i:=j) (by omega) (by omega)
   have b2:=hzc.inB (i:=j - 1) (by omega) (by omega)
   simp only [ltT hja,s1,b1,b2,e1,qp,qu,Bool.not_true,Bool.false_or,Bool.and_self,cond_true,Bool.true_and,qlQ]
   by_cases hc0:c<0
   ·simp only [ltT hc0,cond_true]
    have hnle:=e3.1 hc0
    have hle:le (qk zs j d) (qk zs (j - 1) d):=(hφ.tot _ _ pj pk).elim id (fun q=>absurd q hnle)
    have hsg:=qla d hzc.len (a:=a) (b:=b) (i:=j) (j:=j - 1) ha hb (by omega) (by omega) (by omega) (by omega)
    have g:=qiJ d hzc.len (i:=j) (j:=j - 1) (by omega) (by omega) (by omega) (by omega)
    refine hjh (swp d zs j (j - 1),(j - 1,())) ⟨hz.trans d hsg,by simp only; omega,by simp only; omega,fun x y h1 h2 h3 h4=> ?_⟩ (by simp only; omega)
    simp only at h4⊢
    rw [g x (by omega),g y (by omega)]
    rw [if_neg h4]
    by_cases hy:y=j
    ·rw [if_pos hy]
     by_cases hx:x=j - 1
     ·rw [if_pos hx]; exact hle
     ·rw [if_neg hx,if_neg (by omega)]; exact hord x (j - 1) h1 (by omega) (by omega) (by omega)
    ·rw [if_neg hy]
     by_cases hx:x=j - 1
     ·rw [if_pos hx]; exact hord j y (by omega) (by omega) h3 hy
     ·rw [if_neg hx]
      by_cases hx2:x=j
      ·rw [if_pos hx2]; exact hord (j - 1) y (by omega) (by omega) h3 hy
      ·rw [if_neg hx2]; exact hord x y h1 h2 h3 hy
   ·simp only [ltF hc0,cond_false,ei]
    have hle:le (qk zs (j - 1) d) (qk zs j d):=Classical.byContradiction fun q=>hc0 (e3.2 q)
    exact hih _ ⟨hz,by simp only; omega,by simp only; omega,fin fun _=>hle⟩ (by simp only; omega)
  ·simp only [ltF hja,Bool.not_false,Bool.true_or,Bool.and_self,cond_true,Bool.false_and,cond_false,ei]
   exact hih _ ⟨hz,by simp only; omega,by simp only; omega,fin fun q=>absurd q hja⟩ (by simp only; omega)
 ·simp only [ltF hc,cond_false]
  exact ⟨ys,rfl,hs,fun x y h1 h2 h3=>hsrt x y h1 h2 (by omega)⟩
def HpAt (d:α) (le:α→α→Prop) (f hi:Int) (ys:List α) (k:Int):Prop:=(2 * k+1<hi→le (qk ys (f+(2 * k+1)) d) (qk ys (f+k) d))∧(2 * k+2<hi→le (qk ys (f+(2 * k+2)) d) (qk ys (f+k) d))
structure Sft (d:α) (le:α→α→Prop) (f lo hi:Int) (ys:List α) (r:Int):Prop where
 rest:∀k,lo≤k→k<hi→k≠r→HpAt d le f hi ys k
 up:∀p,lo≤p→(2 * p+1=r∨2 * p+2=r)→(2 * r+1<hi→le (qk ys (f+(2 * r+1)) d) (qk ys (f+p) d))∧(2 * r+2<hi→le (qk ys (f+(2 * r+2)) d) (qk ys (f+p) d))
theorem Sft.done {f lo hi:Int} {ys:List α} {r:Int} (h:Sft d le f lo hi ys r) (hr:HpAt d le f hi ys r):∀k,lo≤k→k<hi→HpAt d le f hi ys k:=fun k h1 h2=>by
 by_cases hk:k=r
 ·rw [hk]; exact hr
 ·exact h.rest k h1 h2 hk
theorem Sft.step (hφ:Cmp P φ le) {ys:List α} (hc:Ck P n ys) {f lo hi:Int} (f0:0≤f) (fn:f+hi≤(n:Int)) (l0:0≤lo) {r c:Int} (h:Sft d le f lo hi ys r) (hr:lo≤r) (hcr:c=2 * r+1∨c=2 * r+2) (hch:c<hi)
  (hle:le (qk ys (f+r) d) (qk ys (f+c) d)) (hmax:∀o,(o=2 * r+1∨o=2 * r+2)→o<hi→le (qk ys (f+o) d) (qk ys (f+c) d)):Sft d le f lo hi (swp d ys (f+r) (f+c)) c:=by
 have g:=qiJ d hc.len (i:=f+r) (j:=f+c) (by omega) (by omega) (by omega) (by omega)
 have gc:qk (swp d ys (f+r) (f+c)) (f+c) d=qk ys (f+r) d:=by rw [g _ (by omega),if_pos rfl]
 have gr:qk (swp d ys (f+r) (f+c)) (f+r) d=qk ys (f+c) d:=by rw [g _ (by omega),if_neg (by omega),if_pos rfl]
 have go:∀k,0≤k→k≠r→k≠c→qk (swp d ys (f+r) (f+c)) (f+k) d=qk ys (f+k) d:=fun k h0 h1 h2=>by rw [g _ (by omega),if_neg (by omega),if_neg (by omega)]
 have key:∀k,lo≤k→k<hi→k≠c→∀o,(o=2 * k+1∨o=2 * k+2)→o<hi→le (qk (swp d ys (f+r) (f+c)) (f+o) d) (qk (swp d ys (f+r) (f+c)) (f+k) d):=fun k k1 k2 k3 o ho oh=>by
  by_cases hk:k=r
  ·subst hk
   rw [gr]
   by_cases hoc:o=c
   ·rw [hoc,gc]; exact hle
   ·rw [go o (by omega) (by omega) hoc]; exact hmax o ho oh
  ·have hold:=h.rest k k1 k2 hk
   by_cases hor:o=r
   ·rw [hor,gr,go k (by omega) hk k3]
    have hu:=h.up k k1 (by omega)
    rcases hcr with q|q
    ·rw [q]; exact hu.1 (by omega)
    ·rw [q]; exact hu.2 (by omega)
   ·rw [go o (by omega) hor (by omega),go k (by omega) hk k3]
    rcases ho with q|q
    ·rw [q]; exact hold.1 (by omega)
    ·rw [q]; exact hold.2 (by omega)
 refine ⟨fun k k1 k2 k3=>⟨fun q=>key k k1 k2 k3 _ (.inl rfl) q,fun q=>key k k1 k2 k3 _ (.inr rfl) q⟩,fun p p1 p2=> ?_⟩
 have hp:p=r:=by omega
 subst hp
 have hold:=h.rest c (by omega) hch (by omega)
 rw [gr]
 exact ⟨fun q=>by rw [go _ (by omega) (by omega) (by omega)]; exact hold.1 q,fun q=>by rw [go _ (by omega) (by omega) (by omega)]; exact hold.2 q⟩
theorem Cmp.flip (hφ:Cmp P φ le) {u v:α} (pu:P u) (pv:P v) (h:¬le v u):le u v:=(hφ.tot u v pu pv).elim id fun q=>absurd q h
structure PInv (d:α) (n:Nat) (le:α→α→Prop) (a b:Int) (xs:List α) (p:α) (ys:List α) (i j:Int):Prop where
 seg:Seg d n a b xs ys
 ai:a<i
 ij:i≤j+1
 jb:j<b
 at_:qk ys a d=p
 lo:∀k,a<k→k<i→le (qk ys k d) p
 hi:∀k,j<k→k<b→le p (qk ys k d)
def PPost (d:α) (n:Nat) (le:α→α→Prop) (a b:Int) (xs:List α) (r:Option ((Int×(Bool×Unit))×(List α×Unit))):Prop:=∃out mid fl,r=some ((mid,(fl,())),(out,()))∧Seg d n a b xs out∧a≤mid∧mid<b∧(∀k,a≤k→k<mid→le (qk out k d) (qk out mid d))∧∀k,mid<k→k<b→le (qk out mid d) (qk out k d)
theorem PInv.fin {a b:Int} {xs ys:List α} {p:α} {i j:Int} (h:PInv d n le a b xs p ys i j) (hc:Ck P n ys) (ha:0≤a) (hb:b≤(n:Int)) (hij:j<i) (fl:Bool):PPost d n le a b xs (some ((j,(fl,())),(swp d ys j a,()))):=by
 have h1:=h.ai; have h2:=h.ij; have h3:=h.jb
 have g:=qiJ d hc.len (i:=j) (j:=a) (by omega) (by omega) (by omega) (by omega)
 have gj:qk (swp d ys j a) j d=p:=by
  rw [g j (by omega)]
  by_cases q:j=a
  ·rw [if_pos q,q]; exact h.at_
  ·rw [if_neg q,if_pos rfl]; exact h.at_
 refine ⟨_,j,fl,rfl,h.seg.trans d (qla d hc.len ha hb (by omega) (by omega) (by omega) (by omega)),by omega,by omega,fun k k1 k2=> ?_,fun k k1 k2=> ?_⟩
 ·rw [gj,g k (by omega)]
  by_cases q:k=a
  ·rw [if_pos q]; exact h.lo j (by omega) (by omega)
  ·rw [if_neg q,if_neg (by omega)]; exact h.lo k (by omega) (by omega)
 ·rw [gj,g k (by omega),if_neg (by omega),if_neg (by omega)]; exact h.hi k k1 k2
theorem PInv.swap {a b:Int} {xs ys:List α} {p:α} {i j:Int} (h:PInv d n le a b xs p ys i j) (hc:Ck P n ys) (ha:0≤a) (hb:b≤(n:Int)) (hij:i<j) (hj:le (qk ys j d) p) (hi:le p (qk ys i d)):PInv d n le a b xs p (swp d ys i j) (i+1) (j - 1):=by
 have h1:=h.ai; have h2:=h.ij; have h3:=h.jb
 have g:=qiJ d hc.len (i:=i) (j:=j) (by omega) (by omega) (by omega) (by omega)
 refine ⟨h.seg.trans d (qla d hc.len ha hb (by omega) (by omega) (by omega) (by omega)),by omega,by omega,by omega,?_,fun k k1 k2=> ?_,fun k k1 k2=> ?_⟩
 ·rw [g a ha,if_neg (by omega),if_neg (by omega)]; exact h.at_
 ·rw [g k (by omega),if_neg (by omega)]
  by_cases q:k=i
  ·rw [if_pos q]; exact hj
  ·rw [if_neg q]; exact h.lo k k1 (by omega)
 ·rw [g k (by omega)]
  by_cases q:k=j
  ·rw [if_pos q]; exact hi
  ·rw [if_neg q,if_neg (by omega)]; exact h.hi k (by omega) k2
def Pre (d:α) (le:α→α→Prop) (a b:Int) (xs:List α):Prop:=0<a→∀k,a≤k→k<b→le (qk xs (a - 1) d) (qk xs k d)
theorem Seg.pre {a b:Int} {xs ys:List α} (h:Seg d n a b xs ys) (hb:b≤(n:Int)) (hp:Pre d le a b xs):Pre d le a b ys:=fun a0 k k1 k2=>by
 obtain ⟨m,m1,m2,m3⟩:=h.inn k k1 k2
 rw [h.out (a - 1) (by omega) (by omega) (by omega),m3]
 exact hp a0 m m1 m2
theorem qqN (hφ:Cmp P φ le) {u v:α} (pu:P u) (pv:P v):∃c,φ (u,(v,()))=some (c,())∧((c<0)∧¬le v u∧le u v∨¬(c<0)∧le v u):=by
 obtain ⟨c,a1,a2⟩:=hφ.ans u v pu pv
 by_cases hc:c<0
 ·exact ⟨c,a1,.inl ⟨hc,a2.1 hc,hφ.flip pu pv (a2.1 hc)⟩⟩
 ·exact ⟨c,a1,.inr ⟨hc,Classical.byContradiction fun w=>hc (a2.2 w)⟩⟩
structure qwW (d:α) (n:Nat) (le:α→α→Prop) (a0 b0:Int) (xs ys:List α) (a b:Int):Prop where
 seg:Seg d n a0 b0 xs ys
 la:a0≤a
 ab:a≤b
 rb:b≤b0
 pre:Pre d le a b ys
 lo:∀i j,a0≤i→i<a→i≤j→j<b0→le (qk ys i d) (qk ys j d)
 hi:∀i j,a0≤i→i≤j→b≤j→j<b0→le (qk ys i d) (qk ys j d)
theorem qwW.move {a0 b0 a b:Int} {xs ys zs:List α} (h:qwW d n le a0 b0 xs ys a b) (h0:0≤a0) (hn:b0≤(n:Int)) (hs:Seg d n a b ys zs):qwW d n le a0 b0 xs zs a b:=by
 have h1:=h.la; have h2:=h.rb; have h3:=h.ab
 refine ⟨h.seg.trans d (hs.mono d h0 hn h1 h2),h1,h3,h2,hs.pre d (by omega) h.pre,fun i j q1 q2 q3 q4=> ?_,fun i j q1 q2 q3 q4=> ?_⟩
 ·rw [hs.out i (by omega) (by omega) (by omega)]
  by_cases w:a≤j∧j<b
  ·obtain ⟨m,m1,m2,m3⟩:=hs.inn j w.1 w.2
   rw [m3]; exact h.lo i m q1 q2 (by omega) (by omega)
  ·rw [hs.out j (by omega) (by omega) (by omega)]; exact h.lo i j q1 q2 q3 q4
 ·rw [hs.out j (by omega) (by omega) (by omega)]
  by_cases w:a≤i∧i<b
  ·obtain ⟨m,m1,m2,m3⟩:=hs.inn i w.1 w.2
   rw [m3]; exact h.hi m j (by omega) (by omega) q3 q4
  ·rw [hs.out i (by omega) (by omega) (by omega)]; exact h.hi i j q1 q2 q3 q4
theorem qwW.fin {a0 b0 a b:Int} {xs ys:List α} (h:qwW d n le a0 b0 xs ys a b) (hs:Srt d le a b ys):Srt d le a0 b0 ys:=fun i j q1 q2 q3=>by
 by_cases w1:i<a
 ·exact h.lo i j q1 w1 q2 q3
 ·by_cases w2:b≤j
  ·exact h.hi i j q1 q2 w2 q3
  ·exact hs i j (by omega) q2 (by omega)
theorem qwW.ends {a0 b0 a b:Int} {xs ys zs:List α} (h:qwW d n le a0 b0 xs ys a b) (h0:0≤a0) (hn:b0≤(n:Int)) (hs:Seg d n a b ys zs) (hz:Srt d le a b zs):qqh P d n le a0 b0 xs (some ((),(zs,()))):=
 ⟨zs,rfl,(h.move d h0 hn hs).seg,(h.move d h0 hn hs).fin d hz⟩
end
end
end Go.Vi
set_option linter.unusedSimpArgs false
set_option maxRecDepth 100000
namespace Go.Vi
noncomputable section
end
end Go.Vi
set_option linter.unusedSimpArgs false
set_option maxRecDepth 100000
namespace Go.Vi
noncomputable section
def qwr (rows:List qam) (q:Nat×Bool) (row:qam):List qam:=bif q.2 then qgW rows (q.1:Int) row else rows.take q.1++[row]++rows.drop q.1
def qwt (rows:List qam) (q:Nat×Bool):List qam:=bif q.2 then rows.take q.1++rows.drop (q.1+1) else rows
def qo6 (pk:List Int) (r:qam):List qam→List qam
 |[]=>[r]
 |x::xs=>if qZ (qaY pk x) (qaY pk r)<0 then x::qo6 pk r xs else if qZ (qaY pk x) (qaY pk r)=0 then r::xs else r::x::xs
abbrev qiU (pk:List Int) (k:qam) (rows:List qam):List qam:=rows.filter (fun r=> !decide (qaY pk r=k))
theorem qkH (f:qam→Int) (x:qam) (xs:List qam):qdh f (x::xs)=if 0≤f x then (0,decide (f x=0)) else ((qdh f xs).1+1,(qdh f xs).2):=rfl
theorem quG {α:Type} (x:α) (xs:List α) (i:Nat) (v:α):qgW (x::xs) ((i+1:Nat):Int) v=x::qgW xs (i:Int) v:=by
 rw [qbm,qbm]; simp
theorem qto (pk:List Int) (r:qam):(rows:List qam)→qwr rows (qdh (fun x=>qZ (qaY pk x) (qaY pk r)) rows) r=qo6 pk r rows
 |[]=>by simp [qwr,qo6,qdh]
 |x::xs=>by
  have ih:=qto pk r xs
  rw [qkH]
  simp only [qo6]
  by_cases h:qZ (qaY pk x) (qaY pk r)<0
  ·rw [if_neg (by omega),if_pos h,←ih]
   generalize qdh (fun x=>qZ (qaY pk x) (qaY pk r)) xs=q
   obtain ⟨i,b⟩:=q
   cases b with
   |true=>simp only [qwr,cond_true]; exact quG _ _ _ _
   |false=>simp [qwr]
  ·rw [if_pos (by omega),if_neg h]
   by_cases h0:qZ (qaY pk x) (qaY pk r)=0
   ·rw [if_pos h0,decide_eq_true h0]
    simp only [qwr,cond_true,qbm]; rfl
   ·rw [if_neg h0,decide_eq_false h0]
    simp [qwr]
theorem qkh {pk:List Int} {k:qam} {rows:List qam} (h:∀r∈rows,qaY pk r≠k):qiU pk k rows=rows:=
 List.filter_eq_self.2 fun r hr=>by simpa using h r hr
theorem qtc (pk:List Int) (k:qam):(rows:List qam)→qew pk rows→qwt rows (qdh (fun x=>qZ (qaY pk x) k) rows)=qiU pk k rows
 |[],_=>by simp [qwt,qdh]
 |x::xs,hs=>by
  have hc:=List.pairwise_cons.1 hs
  have ih:=qtc pk k xs hc.2
  rw [qkH]
  by_cases h:qZ (qaY pk x) k<0
  ·have hne:qaY pk x≠k:=fun e=>by rw [e] at h; exact qm2 _ h
   rw [if_neg (by omega)]
   have e1:qiU pk k (x::xs)=x::qiU pk k xs:=by simp [qiU,List.filter_cons,hne]
   rw [e1,←ih]
   generalize qdh (fun x=>qZ (qaY pk x) k) xs=q
   obtain ⟨i,b⟩:=q
   cases b with
   |true=>simp [qwt]
   |false=>simp [qwt]
  ·rw [if_pos (by omega)]
   by_cases h0:qZ (qaY pk x) k=0
   ·have e:=(qdt _ _).1 h0
    have e2:qiU pk k xs=xs:=qkh fun r hr e3=>by
     have:=hc.1 r hr
     rw [e,e3] at this
     exact qm2 _ this
    have e1:qiU pk k (x::xs)=qiU pk k xs:=by simp [qiU,List.filter_cons,e]
    rw [e1,e2,decide_eq_true h0]
    simp [qwt]
   ·rw [decide_eq_false h0]
    have e2:qiU pk k (x::xs)=x::xs:=qkh fun r hr e3=>by
     rcases List.mem_cons.1 hr with rfl|hr
     ·exact h0 ((qdt _ _).2 e3)
     ·have h1:=hc.1 r hr
      rw [e3] at h1
      exact h h1
    rw [e2]
    simp [qwt]
theorem ql0 {pk:List Int} {r:qam} : {rows:List qam} →∀x∈qo6 pk r rows,x=r∨x∈rows
 |[],x,h=>by simp [qo6] at h; exact .inl h
 |y::ys,x,h=>by
  simp only [qo6] at h
  split at h
  ·rcases List.mem_cons.1 h with rfl|h
   ·exact .inr List.mem_cons_self
   ·exact (ql0 x h).imp id (List.mem_cons_of_mem _)
  ·split at h
   ·rcases List.mem_cons.1 h with rfl|h
    ·exact .inl rfl
    ·exact .inr (List.mem_cons_of_mem _ h)
   ·rcases List.mem_cons.1 h with rfl|h
    ·exact .inl rfl
    ·exact .inr h
theorem qmr {pk:List Int} {r:qam} : {rows:List qam} →qew pk rows→qew pk (qo6 pk r rows)
 |[],_=>by simp [qo6,qew]
 |y::ys,h=>by
  have hc:=List.pairwise_cons.1 h
  simp only [qo6]
  split
  ·rename_i h1
   refine List.pairwise_cons.2 ⟨fun x hx=> ?_,qmr hc.2⟩
   rcases ql0 x hx with rfl|hx
   ·exact h1
   ·exact hc.1 x hx
  ·rename_i h1
   split
   ·rename_i h2
    have e:=(qdt _ _).1 h2
    exact List.pairwise_cons.2 ⟨fun x hx=>by rw [←e]; exact hc.1 x hx,hc.2⟩
   ·rename_i h2
    have h3:qZ (qaY pk r) (qaY pk y)<0:=by
     rw [qoC (qaY pk y) (qaY pk r)]; omega
    refine List.pairwise_cons.2 ⟨fun x hx=> ?_,h⟩
    rcases List.mem_cons.1 hx with rfl|hx
    ·exact h3
    ·exact qg2 _ _ _ h3 (hc.1 x hx)
theorem qpW {pk:List Int} {r:qam} : {rows:List qam} →qew pk rows→(qo6 pk r rows).Perm (qiU pk (qaY pk r) rows++[r])
 |[],_=>by simp [qo6,qiU]
 |y::ys,h=>by
  have hc:=List.pairwise_cons.1 h
  simp only [qo6]
  split
  ·rename_i h1
   have hne:qaY pk y≠qaY pk r:=fun e=>by rw [e] at h1; exact qm2 _ h1
   have e1:qiU pk (qaY pk r) (y::ys)=y::qiU pk (qaY pk r) ys:=by simp [qiU,List.filter_cons,hne]
   rw [e1,List.cons_append]
   exact (qpW hc.2).cons y
  ·rename_i h1
   split
   ·rename_i h2
    have e:=(qdt _ _).1 h2
    have e2:qiU pk (qaY pk r) ys=ys:=qkh fun x hx e3=>by
     have:=hc.1 x hx
     rw [e,e3] at this
     exact qm2 _ this
    have e1:qiU pk (qaY pk r) (y::ys)=qiU pk (qaY pk r) ys:=by simp [qiU,List.filter_cons,e]
    rw [e1,e2]
    exact (List.perm_append_singleton r ys).symm
   ·rename_i h2
    have e2:qiU pk (qaY pk r) (y::ys)=y::ys:=qkh fun x hx e3=>by
     rcases List.mem_cons.1 hx with rfl|hx
     ·exact h2 ((qdt _ _).2 e3)
     ·have h3:=hc.1 x hx
      rw [e3] at h3
      exact h1 h3
    rw [e2]
    exact (List.perm_append_singleton r (y::ys)).symm
theorem qm1 {pk:List Int} : {l P:List qam} →l.Perm P→l.Pairwise (fun a b=>¬qZ (qaY pk b) (qaY pk a)<0)→qew pk P→l=P
 |l,[],hp,_,_=>hp.eq_nil
 |l,m::P,hp,h1,h2=>by
  cases l with
  |nil=>exact absurd hp.symm.eq_nil (by simp)
  |cons h l=>
   have hc1:=List.pairwise_cons.1 h1
   have hc2:=List.pairwise_cons.1 h2
   have hm:h=m:=by
    rcases List.mem_cons.1 (hp.mem_iff.1 (List.mem_cons_self:h∈h::l)) with e|he
    ·exact e
    ·rcases List.mem_cons.1 (hp.mem_iff.2 (List.mem_cons_self:m∈m::P)) with e|hm
     ·exact e.symm
     ·exact absurd (hc2.1 h he) (hc1.1 m hm)
   subst hm
   rw [qm1 (List.Perm.cons_inv hp) hc1.2 hc2.2]
theorem qqM {pk:List Int} {k:qam} {rows:List qam} (h:qew pk rows):qew pk (qiU pk k rows):=h.filter _
theorem qvO {pk:List Int} {k:qam} {rows:List qam} :((qiU pk k rows).length=rows.length↔rows.any (fun r=>decide (qaY pk r=k))=false):=by
 rw [List.any_eq_false]
 constructor
 ·intro h r hr
  have h2:=List.length_filter_eq_length_iff.1 h r hr
  simpa using h2
 ·intro h
  exact List.length_filter_eq_length_iff.2 fun r hr=>by simpa using h r hr
end
end Go.Vi
set_option linter.unusedSimpArgs false
set_option linter.unusedVariables false
set_option maxRecDepth 100000
namespace Go.Vi
noncomputable section
section
variable {α:Type} {P:α→Prop} {n:Nat} (d:α) {φ:(α×(α×Unit))→Option (Int×Unit)} {le:α→α→Prop} {N:Nat}
theorem qk5 (hn:n≤1099511627776) (hN:n+1<N) {xs:List α} (h:Ck P n xs) {a b m:Int} (ha:0≤a) (hab:a+m≤b) (hm:0≤m) (hb2:b+m≤(n:Int)):
  ∃out,qkD d N (xs,(a,(b,(m,(φ,())))))=some ((),(out,()))∧Seg d n a (b+m) xs out∧∀k,0≤k→k<(n:Int)→qk out k d=if a≤k∧k<a+m then qk xs (k+(b - a)) d else if b≤k∧k<b+m then qk xs (k - (b - a)) d else qk xs k d:=by
 simp only [qkD]
 refine qcG (S:=List α×(Int×Unit)) (fun p=>(m - p.2.1).toNat) (fun p=>Seg d n a (b+m) xs p.1∧0≤p.2.1∧p.2.1≤m∧∀k,0≤k→k<(n:Int)→qk p.1 k d=if a≤k∧k<a+p.2.1 then qk xs (k+(b - a)) d else if b≤k∧k<b+p.2.1 then qk xs (k - (b - a)) d else qk xs k d)
  (fun r=>∃out,r=some ((),(out,()))∧Seg d n a (b+m) xs out∧∀k,0≤k→k<(n:Int)→qk out k d=if a≤k∧k<a+m then qk xs (k+(b - a)) d else if b≤k∧k<b+m then qk xs (k - (b - a)) d else qk xs k d) ?_ N _
  ⟨.refl d _ _ xs,by simp only; omega,by simp only; omega,fun k k0 k1=>by simp only; rw [if_neg (by omega),if_neg (by omega)]⟩ (by simp only; omega)
 rintro ih ⟨ys,i,⟨⟩⟩ ⟨hs,hi0,him,hg⟩ hih
 simp only at hs hi0 him hg hih⊢
 have hc:=hs.ck d h
 by_cases q:i<m
 ·have e1:qax .i64 a i=a+i:=qeS (by omega) (by omega)
  have e2:qax .i64 b i=b+i:=qeS (by omega) (by omega)
  have e3:qax .i64 i 1=i+1:=qeS (by omega) (by omega)
  simp only [ltT q,cond_true,e1,e2,e3,hc.inB (i:=a+i) (by omega) (by omega),hc.inB (i:=b+i) (by omega) (by omega),qlQ,Bool.and_self]
  have g:=qiJ d hc.len (i:=a+i) (j:=b+i) (by omega) (by omega) (by omega) (by omega)
  refine hih (swp d ys (a+i) (b+i),(i+1,())) ⟨hs.trans d (qla d hc.len ha (by omega) (by omega) (by omega) (by omega) (by omega)),by simp only; omega,by simp only; omega,fun k k0 k1=> ?_⟩ (by simp only; omega)
  simp only
  rw [g k k0]
  by_cases w1:k=b+i
  ·rw [if_pos w1,if_neg (by omega),if_pos (by omega),hg (a+i) (by omega) (by omega),if_neg (by omega),if_neg (by omega),w1,show b+i - (b - a)=a+i by omega]
  rw [if_neg w1]
  by_cases w2:k=a+i
  ·rw [if_pos w2,if_pos (by omega),hg (b+i) (by omega) (by omega),if_neg (by omega),if_neg (by omega),w2,show a+i+(b - a)=b+i by omega]
  rw [if_neg w2,hg k k0 k1]
  by_cases w3:a≤k∧k<a+i
  ·rw [if_pos w3,if_pos (by omega)]
  rw [if_neg w3]
  by_cases w4:b≤k∧k<b+i
  ·rw [if_pos w4,if_neg (by omega),if_pos (by omega)]
  rw [if_neg w4,if_neg (by omega),if_neg (by omega)]
 ·have:i=m:=by omega
  subst this
  simp only [ltF q,cond_false]
  exact ⟨ys,rfl,hs,hg⟩
def quO (d:α) (xs:List α) (a m b k:Int):α:=if a≤k∧k<a+(b - m) then qk xs (k+(m - a)) d else if a+(b - m)≤k∧k<b then qk xs (k - (b - m)) d else qk xs k d
theorem qg6 (xs:List α) {a m b k:Int} (h1:a≤k) (h2:k<a+(b - m)):quO d xs a m b k=qk xs (k+(m - a)) d:=by rw [quO,if_pos ⟨h1,h2⟩]
theorem qhe (xs:List α) {a m b k:Int} (h1:a+(b - m)≤k) (h2:k<b):quO d xs a m b k=qk xs (k - (b - m)) d:=by rw [quO,if_neg (by omega),if_pos ⟨h1,h2⟩]
theorem qf6 (xs:List α) {a m b k:Int} (h1:m≤b) (h2:a≤m) (h3:k<a∨b≤k):quO d xs a m b k=qk xs k d:=by rw [quO,if_neg (by omega),if_neg (by omega)]
theorem qr8 (hn:n≤1099511627776) (hN:2 * n+1<N) {xs:List α} (h:Ck P n xs) {a m b:Int} (ha:0≤a) (h1:a<m) (h2:m<b) (hb:b≤(n:Int)):
  ∃out,qgz d N (xs,(a,(m,(b,(φ,())))))=some ((),(out,()))∧Seg d n a b xs out∧∀k,0≤k→k<(n:Int)→qk out k d=quO d xs a m b k:=by
 have e1:qbn .i64 m a=m - a:=qcP (by omega) (by omega)
 have e2:qbn .i64 b m=b - m:=qcP (by omega) (by omega)
 simp only [qgz,qK,e1,e2]
 refine qcG (S:=List α×(Int×(Int×Unit))) (fun p=>(p.2.1+p.2.2.1).toNat) (fun p=>Seg d n a b xs p.1∧0<p.2.1∧p.2.1≤m - a∧0<p.2.2.1∧p.2.2.1≤b - m∧∀k,0≤k→k<(n:Int)→quO d p.1 (m - p.2.1) m (m+p.2.2.1) k=quO d xs a m b k)
  (fun r=>∃out,r=some ((),(out,()))∧Seg d n a b xs out∧∀k,0≤k→k<(n:Int)→qk out k d=quO d xs a m b k) ?_ N _
  ⟨.refl d _ _ xs,by simp only; omega,by simp only; omega,by simp only; omega,by simp only; omega,fun k k0 k1=>by simp only; rw [show m - (m - a)=a by omega,show m+(b - m)=b by omega]⟩ (by simp only; omega)
 rintro ih ⟨ys,i,j,⟨⟩⟩ ⟨hs,hi0,him,hj0,hjm,hg⟩ hih
 simp only at hs hi0 him hj0 hjm hg hih⊢
 have hc:=hs.ck d h
 have s1:qbn .i64 m i=m - i:=qcP (by omega) (by omega)
 by_cases q:i=j
 ·obtain ⟨out,o1,o2,o3⟩:=qk5 (φ:=φ) (P:=P) d hn (by omega:n+1<N) hc (a:=m - i) (b:=m) (m:=i) (by omega) (by omega) (by omega) (by omega)
  simp only [neF q,cond_false,s1,o1,qp,qu,cond_true]
  refine ⟨out,rfl,hs.trans d (o2.mono d ha hb (by omega) (by omega)),fun k k0 k1=> ?_⟩
  rw [←hg k k0 k1,o3 k k0 k1]
  subst q
  by_cases w1:m - i≤k∧k<m
  ·rw [if_pos (by omega),qg6 d ys (by omega) (by omega)]
  ·rw [if_neg (by omega)]
   by_cases w2:m≤k∧k<m+i
   ·rw [if_pos (by omega),qhe d ys (by omega) (by omega)]
    congr 1; omega
   ·rw [if_neg (by omega),qf6 d ys (by omega) (by omega) (by omega)]
 simp only [neT q,cond_true]
 by_cases q2:j<i
 ·obtain ⟨out,o1,o2,o3⟩:=qk5 (φ:=φ) (P:=P) d hn (by omega:n+1<N) hc (a:=m - i) (b:=m) (m:=j) (by omega) (by omega) (by omega) (by omega)
  have s2:qbn .i64 i j=i - j:=qcP (by omega) (by omega)
  simp only [ltT q2,cond_true,s1,s2,o1,qp,qu]
  refine hih (out,(i - j,(j,()))) ⟨hs.trans d (o2.mono d ha hb (by omega) (by omega)),by simp only; omega,by simp only; omega,hj0,hjm,fun k k0 k1=> ?_⟩ (by simp only; omega)
  simp only
  rw [←hg k k0 k1]
  by_cases w0:k<m - i+j∨m+j≤k
  ·rw [qf6 d out (by omega) (by omega) (by omega),o3 k k0 k1]
   by_cases w1:m - i≤k∧k<m+j
   ·rw [if_pos (by omega),qg6 d ys (by omega) (by omega)]
   ·rw [if_neg (by omega),if_neg (by omega),qf6 d ys (by omega) (by omega) (by omega)]
  ·rw [qhe d ys (by omega) (by omega)]
   by_cases w1:k - (m - i+j)<j
   ·rw [qg6 d out (by omega) (by omega),o3 _ (by omega) (by omega),if_neg (by omega),if_pos (by omega)]
    congr 1; omega
   ·rw [qhe d out (by omega) (by omega),o3 _ (by omega) (by omega),if_neg (by omega),if_neg (by omega)]
 ·obtain ⟨out,o1,o2,o3⟩:=qk5 (φ:=φ) (P:=P) d hn (by omega:n+1<N) hc (a:=m - i) (b:=m+j - i) (m:=i) (by omega) (by omega) (by omega) (by omega)
  have s2:qbn .i64 j i=j - i:=qcP (by omega) (by omega)
  have s3:qax .i64 m j=m+j:=qeS (by omega) (by omega)
  have s4:qbn .i64 (m+j) i=m+j - i:=qcP (by omega) (by omega)
  simp only [ltF q2,cond_false,s1,s2,s3,s4,o1,qp,qu,cond_true]
  refine hih (out,(i,(j - i,()))) ⟨hs.trans d (o2.mono d ha hb (by omega) (by omega)),hi0,him,by simp only; omega,by simp only; omega,fun k k0 k1=> ?_⟩ (by simp only; omega)
  simp only
  rw [←hg k k0 k1]
  by_cases w0:k<m - i∨m+(j - i)≤k
  ·rw [qf6 d out (by omega) (by omega) (by omega),o3 k k0 k1]
   by_cases w1:m - i≤k∧k<m+j
   ·rw [if_neg (by omega),if_pos (by omega),qhe d ys (by omega) (by omega)]
    congr 1; omega
   ·rw [if_neg (by omega),if_neg (by omega),qf6 d ys (by omega) (by omega) (by omega)]
  ·rw [qg6 d ys (by omega) (by omega)]
   by_cases w1:k - (m - i)<j - i
   ·rw [qg6 d out (by omega) (by omega),o3 _ (by omega) (by omega),if_neg (by omega),if_neg (by omega)]
   ·rw [qhe d out (by omega) (by omega),o3 _ (by omega) (by omega),if_pos (by omega)]
    congr 1; omega
def qwY (P:α→Prop) (d:α) (n:Nat) (le:α→α→Prop) (φ:(α×(α×Unit))→Option (Int×Unit)) (M:Nat) (Fs:((List α)×(Int×(Int×(Int×(((α×(α×Unit))→(Option (Int×Unit)))×Unit)))))→(Option (Unit×((List α)×Unit)))):Prop:=
 ∀(xs:List α),Ck P n xs→∀(a m b:Int),0≤a→a<m→m<b→b≤(n:Int)→(b - a).toNat<M→Srt d le a m xs→Srt d le m b xs→qqh P d n le a b xs (Fs (xs,(a,(m,(b,(φ,()))))))
set_option maxHeartbeats 2000000 in
theorem qso (hφ:Cmp P φ le) (hn:n≤1099511627776) (hN:2 * n+1<N) {M:Nat} {Fs} (ih:qwY P d n le φ M Fs):qwY P d n le φ (M+1) (qqA d N Fs):=by
 intro xs h a m b ha h1 h2 hb hM sl sr
 have e1:qbn .i64 m a=m - a:=qcP (by omega) (by omega)
 have e2:qbn .i64 b m=b - m:=qcP (by omega) (by omega)
 have l01:leI 0 1=true:=leT (by omega)
 simp only [qqA,qK,e1,e2,l01,cond_true]
 by_cases q1:m - a=1
 ·simp only [eqT q1,cond_true]
  refine qcG (S:=List α×(Int×(Int×Unit))) (fun p=>(p.2.2.1 - p.2.1).toNat) (fun p=>p.1=xs∧m≤p.2.1∧p.2.1≤p.2.2.1∧p.2.2.1≤b∧(∀k,m≤k→k<p.2.1→le (qk xs k d) (qk xs a d))∧∀k,p.2.2.1≤k→k<b→le (qk xs a d) (qk xs k d)) (qqh P d n le a b xs) ?_ N _ ⟨rfl,by simp only; omega,by simp only; omega,by simp only; omega,fun k k1 k2=>by simp only at k2; omega,fun k k1 k2=>by simp only at k1; omega⟩ (by simp only; omega)
  rintro ih1 ⟨ys,i,j,⟨⟩⟩ ⟨hy,hi,hij,hj,lo,hi'⟩ hih
  simp only at hy hi hij hj lo hi' hih⊢
  subst hy
  have pa:=h.get d (i:=a) (by omega) (by omega)
  by_cases hc:i<j
  ·have em:=qrW (x:=i) (y:=j) (by omega) (by omega) (by omega)
   have em1:qax .i64 ((i+j) / 2) 1=(i+j) / 2+1:=qeS (by omega) (by omega)
   have pm:=h.get d (i:=(i+j) / 2) (by omega) (by omega)
   obtain ⟨c,e3,e4⟩:=qqN hφ pm pa
   simp only [ltT hc,cond_true,em,em1,h.inB (i:=(i+j) / 2) (by omega) (by omega),h.inB (i:=a) (by omega) (by omega),e3,qp,qu,Bool.and_self]
   rcases e4 with ⟨c0,-,c2⟩|⟨c0,c1⟩
   ·simp only [ltT c0,cond_true]
    refine hih _ ⟨rfl,by simp only; omega,by simp only; omega,hj,fun k k1 k2=> ?_,hi'⟩ (by simp only; omega)
    simp only at k2
    exact hφ.trans _ _ _ (h.get d (by omega) (by omega)) pm pa (sr k ((i+j) / 2) k1 (by omega) (by omega)) c2
   ·simp only [ltF c0,cond_false]
    refine hih _ ⟨rfl,hi,by simp only; omega,by simp only; omega,lo,fun k k1 k2=> ?_⟩ (by simp only; omega)
    simp only at k1
    exact hφ.trans _ _ _ pa pm (h.get d (by omega) (by omega)) c1 (sr ((i+j) / 2) k (by omega) k1 k2)
  ·have:i=j:=by omega
   subst this
   simp only [ltF hc,cond_false]
   have ei:qbn .i64 i 1=i - 1:=qcP (by omega) (by omega)
   rw [ei]
   refine qcG (S:=List α×(Int×Unit)) (fun p=>(i - p.2.1).toNat) (fun p=>Seg d n a b ys p.1∧a≤p.2.1∧p.2.1≤i - 1∧∀k,0≤k→k<(n:Int)→qk p.1 k d=if a≤k∧k<p.2.1 then qk ys (k+1) d else if k=p.2.1 then qk ys a d else qk ys k d) (qqh P d n le a b ys) ?_ N _ ⟨.refl d _ _ ys,by simp only; omega,by simp only; omega,fun k k0 k1=>by
    simp only
    rw [if_neg (by omega)]
    by_cases w:k=a
    ·rw [if_pos w,w]
    ·rw [if_neg w]⟩ (by simp only; omega)
   rintro jh ⟨zs,k,⟨⟩⟩ ⟨hz,hk,hki,hg⟩ hjh
   simp only at hz hk hki hg hjh⊢
   have hzc:=hz.ck d h
   by_cases hk2:k<i - 1
   ·have s1:qax .i64 k 1=k+1:=qeS (by omega) (by omega)
    simp only [ltT hk2,s1,hzc.inB (i:=k) (by omega) (by omega),hzc.inB (i:=k+1) (by omega) (by omega),qlQ,Bool.and_self,cond_true]
    have g:=qiJ d hzc.len (i:=k) (j:=k+1) (by omega) (by omega) (by omega) (by omega)
    refine hjh (swp d zs k (k+1),(k+1,())) ⟨hz.trans d (qla d hzc.len ha hb (by omega) (by omega) (by omega) (by omega)),by simp only; omega,by simp only; omega,fun x x0 x1=> ?_⟩ (by simp only; omega)
    simp only
    rw [g x x0]
    by_cases w1:x=k+1
    ·rw [if_pos w1,if_neg (by omega),if_pos w1,hg k (by omega) (by omega),if_neg (by omega),if_pos rfl]
    rw [if_neg w1]
    by_cases w2:x=k
    ·rw [if_pos w2,if_pos (by omega),hg (k+1) (by omega) (by omega),if_neg (by omega),if_neg (by omega),w2]
    rw [if_neg w2,hg x x0 x1]
    by_cases w3:a≤x∧x<k
    ·rw [if_pos w3,if_pos (by omega)]
    ·rw [if_neg w3,if_neg w2,if_neg (by omega),if_neg w1]
   ·have:k=i - 1:=by omega
    subst this
    simp only [ltF hk2,cond_false]
    refine ⟨zs,rfl,hz,fun x y x1 x2 x3=> ?_⟩
    rw [hg x (by omega) (by omega),hg y (by omega) (by omega)]
    by_cases w1:a≤x∧x<i - 1
    ·rw [if_pos w1]
     by_cases w2:a≤y∧y<i - 1
     ·rw [if_pos w2]; exact sr (x+1) (y+1) (by omega) (by omega) (by omega)
     ·rw [if_neg w2]
      by_cases w3:y=i - 1
      ·rw [if_pos w3]; exact lo (x+1) (by omega) (by omega)
      ·rw [if_neg w3]; exact sr (x+1) y (by omega) (by omega) (by omega)
    ·rw [if_neg w1,if_neg (by omega:¬(a≤y∧y<i - 1))]
     by_cases w2:x=i - 1
     ·rw [if_pos w2]
      by_cases w3:y=i - 1
      ·rw [if_pos w3]; exact hφ.refl pa
      ·rw [if_neg w3]; exact hi' y (by omega) (by omega)
     ·rw [if_neg w2,if_neg (by omega:¬y=i - 1)]; exact sr x y (by omega) x2 (by omega)
 simp only [eqF q1,cond_false]
 by_cases q2:b - m=1
 ·simp only [eqT q2,cond_true]
  refine qcG (S:=List α×(Int×(Int×Unit))) (fun p=>(p.2.2.1 - p.2.1).toNat) (fun p=>p.1=xs∧a≤p.2.1∧p.2.1≤p.2.2.1∧p.2.2.1≤m∧(∀k,a≤k→k<p.2.1→le (qk xs k d) (qk xs m d))∧∀k,p.2.2.1≤k→k<m→le (qk xs m d) (qk xs k d)) (qqh P d n le a b xs) ?_ N _ ⟨rfl,by simp only; omega,by simp only; omega,by simp only; omega,fun k k1 k2=>by simp only at k2; omega,fun k k1 k2=>by simp only at k1; omega⟩ (by simp only; omega)
  rintro ih1 ⟨ys,i,j,⟨⟩⟩ ⟨hy,hi,hij,hj,lo,hi'⟩ hih
  simp only at hy hi hij hj lo hi' hih⊢
  subst hy
  have pm:=h.get d (i:=m) (by omega) (by omega)
  by_cases hc:i<j
  ·have em:=qrW (x:=i) (y:=j) (by omega) (by omega) (by omega)
   have em1:qax .i64 ((i+j) / 2) 1=(i+j) / 2+1:=qeS (by omega) (by omega)
   have ph:=h.get d (i:=(i+j) / 2) (by omega) (by omega)
   obtain ⟨c,e3,e4⟩:=qqN hφ pm ph
   simp only [ltT hc,cond_true,em,em1,h.inB (i:=(i+j) / 2) (by omega) (by omega),h.inB (i:=m) (by omega) (by omega),e3,qp,qu,Bool.and_self]
   rcases e4 with ⟨c0,-,c2⟩|⟨c0,c1⟩
   ·simp only [ltT c0,Bool.not_true,cond_false]
    refine hih _ ⟨rfl,hi,by simp only; omega,by simp only; omega,lo,fun k k1 k2=> ?_⟩ (by simp only; omega)
    simp only at k1
    exact hφ.trans _ _ _ pm ph (h.get d (by omega) (by omega)) c2 (sl ((i+j) / 2) k (by omega) k1 k2)
   ·simp only [ltF c0,Bool.not_false,cond_true]
    refine hih _ ⟨rfl,by simp only; omega,by simp only; omega,hj,fun k k1 k2=> ?_,hi'⟩ (by simp only; omega)
    simp only at k2
    exact hφ.trans _ _ _ (h.get d (by omega) (by omega)) ph pm (sl k ((i+j) / 2) k1 (by omega) (by omega)) c1
  ·have:i=j:=by omega
   subst this
   simp only [ltF hc,cond_false]
   refine qcG (S:=List α×(Int×Unit)) (fun p=>(p.2.1 - i).toNat) (fun p=>Seg d n a b ys p.1∧i≤p.2.1∧p.2.1≤m∧∀k,0≤k→k<(n:Int)→qk p.1 k d=if p.2.1<k∧k≤m then qk ys (k - 1) d else if k=p.2.1 then qk ys m d else qk ys k d) (qqh P d n le a b ys) ?_ N _ ⟨.refl d _ _ ys,by simp only; omega,by simp only; omega,fun k k0 k1=>by
    simp only
    rw [if_neg (by omega)]
    by_cases w:k=m
    ·rw [if_pos w,w]
    ·rw [if_neg w]⟩ (by simp only; omega)
   rintro jh ⟨zs,k,⟨⟩⟩ ⟨hz,hk,hki,hg⟩ hjh
   simp only at hz hk hki hg hjh⊢
   have hzc:=hz.ck d h
   by_cases hk2:i<k
   ·have s1:qbn .i64 k 1=k - 1:=qcP (by omega) (by omega)
    simp only [ltT hk2,s1,hzc.inB (i:=k) (by omega) (by omega),hzc.inB (i:=k - 1) (by omega) (by omega),qlQ,Bool.and_self,cond_true]
    have g:=qiJ d hzc.len (i:=k) (j:=k - 1) (by omega) (by omega) (by omega) (by omega)
    refine hjh (swp d zs k (k - 1),(k - 1,())) ⟨hz.trans d (qla d hzc.len ha hb (by omega) (by omega) (by omega) (by omega)),by simp only; omega,by simp only; omega,fun x x0 x1=> ?_⟩ (by simp only; omega)
    simp only
    rw [g x x0]
    by_cases w1:x=k - 1
    ·rw [if_pos w1,if_neg (by omega),if_pos w1,hg k (by omega) (by omega),if_neg (by omega),if_pos rfl]
    rw [if_neg w1]
    by_cases w2:x=k
    ·rw [if_pos w2,if_pos (by omega),hg (k - 1) (by omega) (by omega),if_neg (by omega),if_neg (by omega),w2]
    rw [if_neg w2,hg x x0 x1]
    by_cases w3:k<x∧x≤m
    ·rw [if_pos w3,if_pos (by omega)]
    ·rw [if_neg w3,if_neg w2,if_neg (by omega),if_neg w1]
   ·have:k=i:=by omega
    subst this
    simp only [ltF hk2,cond_false]
    refine ⟨zs,rfl,hz,fun x y x1 x2 x3=> ?_⟩
    rw [hg x (by omega) (by omega),hg y (by omega) (by omega)]
    by_cases w1:k<x∧x≤m
    ·rw [if_pos w1,if_pos (by omega:k<y∧y≤m)]
     exact sl (x - 1) (y - 1) (by omega) (by omega) (by omega)
    ·rw [if_neg w1]
     by_cases w2:x=k
     ·rw [if_pos w2]
      by_cases w3:k<y∧y≤m
      ·rw [if_pos w3]; exact hi' (y - 1) (by omega) (by omega)
      ·rw [if_neg w3,if_pos (by omega:y=k)]; exact hφ.refl pm
     ·rw [if_neg w2]
      by_cases w3:k<y∧y≤m
      ·rw [if_pos w3]; exact sl x (y - 1) (by omega) (by omega) (by omega)
      ·rw [if_neg w3]
       by_cases w4:y=k
       ·rw [if_pos w4]; exact lo x (by omega) (by omega)
       ·rw [if_neg w4]; exact sl x y (by omega) x2 (by omega)
 simp only [eqF q2,cond_false]
 have em:=qrW (x:=a) (y:=b) (by omega) (by omega) (by omega)
 rw [em]
 generalize hmid:(a+b) / 2=mid
 have hm1:a<mid:=by omega
 have hm2:mid<b:=by omega
 have en:qax .i64 mid m=mid+m:=qeS (by omega) (by omega)
 have en2:qbn .i64 (mid+m) b=mid+m - b:=qcP (by omega) (by omega)
 have en3:qbn .i64 (mid+m) 1=mid+m - 1:=qcP (by omega) (by omega)
 simp only [en,en2,en3]
 obtain ⟨st,r,hst,hr,g1,g2,g3,g4,g5,g6,g7⟩:∃st r:Int,(bif ltI mid m then mid+m - b else a)=st∧(bif ltI mid m then mid else m)=r∧a≤st∧st≤r∧r≤mid∧r≤m∧mid+m - st≤b∧(st=a∨mid+m - st=b)∧(r=mid∨r=m):=by
  by_cases hq:mid<m
  ·exact ⟨_,_,rfl,rfl,by rw [ltT hq]; simp only [cond_true]; exact ⟨by omega,by omega,by omega,by omega,by omega,.inr (by omega),.inl trivial⟩⟩
  ·exact ⟨_,_,rfl,rfl,by rw [ltF hq]; simp only [cond_false]; exact ⟨by omega,by omega,by omega,by omega,by omega,.inl trivial,.inr trivial⟩⟩
 simp only [hst,hr]
 refine qcG (S:=List α×(Int×(Int×Unit))) (fun p=>(p.2.2.1 - p.2.1).toNat) (fun p=>p.1=xs∧st≤p.2.1∧p.2.1≤p.2.2.1∧p.2.2.1≤r∧(st<p.2.1→le (qk xs (p.2.1 - 1) d) (qk xs (mid+m - p.2.1) d))∧(p.2.2.1<r→le (qk xs (mid+m - 1 - p.2.2.1) d) (qk xs p.2.2.1 d))) (qqh P d n le a b xs) ?_ N _ ⟨rfl,by simp only; omega,by simp only; omega,by simp only; omega,fun w=>by simp only at w; omega,fun w=>by simp only at w; omega⟩ (by simp only; omega)
 rintro ih1 ⟨ys,i,j,⟨⟩⟩ ⟨hy,hi,hij,hj,lo,hi'⟩ hih
 simp only at hy hi hij hj lo hi' hih⊢
 subst hy
 by_cases hc:i<j
 ·have em:=qrW (x:=i) (y:=j) (by omega) (by omega) (by omega)
  have em1:qax .i64 ((i+j) / 2) 1=(i+j) / 2+1:=qeS (by omega) (by omega)
  have em2:qbn .i64 (mid+m - 1) ((i+j) / 2)=mid+m - 1 - (i+j) / 2:=qcP (by omega) (by omega)
  obtain ⟨c,e3,e4⟩:=qqN hφ (h.get d (i:=mid+m - 1 - (i+j) / 2) (by omega) (by omega)) (h.get d (i:=(i+j) / 2) (by omega) (by omega))
  simp only [ltT hc,cond_true,em,em1,em2,h.inB (i:=mid+m - 1 - (i+j) / 2) (by omega) (by omega),h.inB (i:=(i+j) / 2) (by omega) (by omega),e3,qp,qu,Bool.and_self]
  rcases e4 with ⟨c0,-,c2⟩|⟨c0,c1⟩
  ·simp only [ltT c0,Bool.not_true,cond_false]
   exact hih _ ⟨rfl,hi,by simp only; omega,by simp only; omega,lo,fun _=>c2⟩ (by simp only; omega)
  ·simp only [ltF c0,Bool.not_false,cond_true]
   refine hih _ ⟨rfl,by simp only; omega,by simp only; omega,hj,fun _=> ?_,hi'⟩ (by simp only; omega)
   simp only
   rw [show (i+j) / 2+1 - 1=(i+j) / 2 by omega,show mid+m - ((i+j) / 2+1)=mid+m - 1 - (i+j) / 2 by omega]
   exact c1
 ·have hijq:i=j:=by omega
  subst hijq
  have ee:qbn .i64 (mid+m) i=mid+m - i:=qcP (by omega) (by omega)
  simp only [ltF hc,cond_false,ee]
  generalize hen:mid+m - i=en at *
  obtain ⟨zs,z1,z2,z3,z4⟩:∃zs,Seg d n a b ys zs∧(bif (ltI i m&&ltI m en) then qB (qgz d N (ys,(i,(m,(en,(φ,())))))) else true)=true∧(bif (ltI i m&&ltI m en) then (qx (qgz d N (ys,(i,(m,(en,(φ,())))))) ((),(([]:List α),()))).2.1 else ys)=zs∧∀k,0≤k→k<(n:Int)→qk zs k d=quO d ys i m en k:=by
   by_cases hq:i<m∧m<en
   ·obtain ⟨out,k1,k2,k3⟩:=qr8 (φ:=φ) (P:=P) d hn hN h (a:=i) (m:=m) (b:=en) (by omega) hq.1 hq.2 (by omega)
    exact ⟨out,k2.mono d ha hb (by omega) (by omega),by simp only [ltT hq.1,ltT hq.2,Bool.and_self,cond_true,k1,qp],by simp only [ltT hq.1,ltT hq.2,Bool.and_self,cond_true,k1,qu],k3⟩
   ·have e:(ltI i m&&ltI m en)=false:=by
     by_cases hq1:i<m
     ·rw [ltF (fun hq2=>hq ⟨hq1,hq2⟩),Bool.and_false]
     ·rw [ltF hq1,Bool.false_and]
    refine ⟨ys,.refl d _ _ ys,by simp only [e,cond_false],by simp only [e,cond_false],fun k k0 k1=> ?_⟩
    by_cases w0:i≤k∧k<en
    ·by_cases w1:i=m
     ·rw [qg6 d ys (by omega) (by omega)]; congr 1; omega
     ·rw [qhe d ys (by omega) (by omega)]; congr 1; omega
    ·rw [qf6 d ys (by omega) (by omega) (by omega)]
  have zc:=z1.ck d h
  simp only [z2,z3,cond_true]
  have hL1:∀k,a≤k→k<i→qk zs k d=qk ys k d:=fun k k1 k2=>by rw [z4 k (by omega) (by omega),qf6 d ys (by omega) (by omega) (by omega)]
  have hL2:∀k,i≤k→k<mid→qk zs k d=qk ys (k+(m - i)) d:=fun k k1 k2=>by rw [z4 k (by omega) (by omega),qg6 d ys (by omega) (by omega)]
  have hR1:∀k,mid≤k→k<en→qk zs k d=qk ys (k - (en - m)) d:=fun k k1 k2=>by rw [z4 k (by omega) (by omega),qhe d ys (by omega) (by omega)]
  have hR2:∀k,en≤k→k<b→qk zs k d=qk ys k d:=fun k k1 k2=>by rw [z4 k (by omega) (by omega),qf6 d ys (by omega) (by omega) (by omega)]
  have cross:∀x y,a≤x→x<mid→mid≤y→y<b→le (qk zs x d) (qk zs y d):=fun x y x1 x2 y1 y2=>by
   by_cases wx:x<i
   ·rw [hL1 x x1 wx]
    by_cases wy:y<en
    ·rw [hR1 y y1 wy]; exact sl x _ x1 (by omega) (by omega)
    ·rw [hR2 y (by omega) y2]
     have:=lo (by omega)
     refine hφ.trans _ _ _ (h.get d (by omega) (by omega)) (h.get d (i:=i - 1) (by omega) (by omega)) (h.get d (by omega) (by omega)) (sl x (i - 1) x1 (by omega) (by omega)) (hφ.trans _ _ _ (h.get d (i:=i - 1) (by omega) (by omega)) (h.get d (i:=en) (by omega) (by omega)) (h.get d (by omega) (by omega)) this (sr en y (by omega) (by omega) y2))
   ·rw [hL2 x (by omega) x2]
    by_cases wy:y<en
    ·rw [hR1 y y1 wy]
     have:=hi' (by omega)
     rw [show mid+m - 1 - i=en - 1 by omega] at this
     refine hφ.trans _ _ _ (h.get d (by omega) (by omega)) (h.get d (i:=en - 1) (by omega) (by omega)) (h.get d (by omega) (by omega)) (sr _ (en - 1) (by omega) (by omega) (by omega)) (hφ.trans _ _ _ (h.get d (i:=en - 1) (by omega) (by omega)) (h.get d (i:=i) (by omega) (by omega)) (h.get d (by omega) (by omega)) this (sl i _ (by omega) (by omega) (by omega)))
    ·rw [hR2 y (by omega) y2]; exact sr _ y (by omega) (by omega) y2
  have s1:Srt d le a i zs:=fun x y x1 x2 x3=>by rw [hL1 x x1 (by omega),hL1 y (by omega) x3]; exact sl x y x1 x2 (by omega)
  have s2:Srt d le i mid zs:=fun x y x1 x2 x3=>by rw [hL2 x x1 (by omega),hL2 y (by omega) x3]; exact sr _ _ (by omega) (by omega) (by omega)
  have s3:Srt d le mid en zs:=fun x y x1 x2 x3=>by rw [hR1 x x1 (by omega),hR1 y (by omega) x3]; exact sl _ _ (by omega) (by omega) (by omega)
  have s4:Srt d le en b zs:=fun x y x1 x2 x3=>by rw [hR2 x x1 (by omega),hR2 y (by omega) x3]; exact sr x y (by omega) x2 x3
  obtain ⟨ws,w1,w2,w3,w4⟩:∃ws,Seg d n a mid zs ws∧(bif (ltI a i&&ltI i mid) then qB (Fs (zs,(a,(i,(mid,(φ,())))))) else true)=true∧(bif (ltI a i&&ltI i mid) then (qx (Fs (zs,(a,(i,(mid,(φ,())))))) ((),(([]:List α),()))).2.1 else zs)=ws∧Srt d le a mid ws:=by
   by_cases hq:a<i∧i<mid
   ·obtain ⟨out,k1,k2,k3⟩:=ih zs zc a i mid ha hq.1 hq.2 (by omega) (by omega) s1 s2
    exact ⟨out,k2,by simp only [ltT hq.1,ltT hq.2,Bool.and_self,cond_true,k1,qp],by simp only [ltT hq.1,ltT hq.2,Bool.and_self,cond_true,k1,qu],k3⟩
   ·have e:(ltI a i&&ltI i mid)=false:=by
     by_cases hq1:a<i
     ·rw [ltF (fun hq2=>hq ⟨hq1,hq2⟩),Bool.and_false]
     ·rw [ltF hq1,Bool.false_and]
    refine ⟨zs,.refl d _ _ zs,by simp only [e,cond_false],by simp only [e,cond_false],?_⟩
    by_cases hq1:a<i
    ·rw [show mid=i by omega]; exact s1
    ·rw [show a=i by omega]; exact s2
  have wc:=w1.ck d zc
  simp only [w2,w3,cond_true]
  have s3':Srt d le mid en ws:=fun x y x1 x2 x3=>by rw [w1.out x (by omega) (by omega) (by omega),w1.out y (by omega) (by omega) (by omega)]; exact s3 x y x1 x2 x3
  have s4':Srt d le en b ws:=fun x y x1 x2 x3=>by rw [w1.out x (by omega) (by omega) (by omega),w1.out y (by omega) (by omega) (by omega)]; exact s4 x y x1 x2 x3
  have cross':∀x y,a≤x→x<mid→mid≤y→y<b→le (qk ws x d) (qk ws y d):=fun x y x1 x2 y1 y2=>by
   obtain ⟨k,k1,k2,k3⟩:=w1.inn x x1 x2
   rw [k3,w1.out y (by omega) (by omega) (by omega)]; exact cross k y k1 k2 y1 y2
  have last:∀out,Seg d n mid b ws out→Srt d le mid b out→qqh P d n le a b ys (some ((),(out,()))):=fun out o1 o2=>by
   refine ⟨out,rfl,z1.trans d ((w1.mono d ha hb (by omega) (by omega)).trans d (o1.mono d ha hb (by omega) (by omega))),fun x y x1 x2 x3=> ?_⟩
   by_cases wy:y<mid
   ·rw [o1.out x (by omega) (by omega) (by omega),o1.out y (by omega) (by omega) (by omega)]; exact w4 x y x1 x2 wy
   ·by_cases wx:x<mid
    ·obtain ⟨k,k1,k2,k3⟩:=o1.inn y (by omega) x3
     rw [k3,o1.out x (by omega) (by omega) (by omega)]; exact cross' x k x1 wx k1 k2
    ·exact o2 x y (by omega) x2 x3
  by_cases hq:mid<en∧en<b
  ·obtain ⟨out,k1,k2,k3⟩:=ih ws wc mid en b (by omega) hq.1 hq.2 hb (by omega) s3' s4'
   simp only [ltT hq.1,ltT hq.2,Bool.and_self,cond_true,k1,qp,qu]
   exact last out k2 k3
  ·have e:(ltI mid en&&ltI en b)=false:=by
    by_cases hq1:mid<en
    ·rw [ltF (fun hq2=>hq ⟨hq1,hq2⟩),Bool.and_false]
    ·rw [ltF hq1,Bool.false_and]
   simp only [e,cond_false,cond_true]
   refine last ws (.refl d _ _ ws) ?_
   by_cases hq1:mid<en
   ·have:en=b:=by omega
    rw [←this]; exact s3'
   ·have:mid=en:=by omega
    rw [this]; exact s4'
theorem qjJ (hφ:Cmp P φ le) (hn:n≤1099511627776) (hN:2 * n+1<N):∀M:Nat,qwY P d n le φ M (qqE d N M)
 |0=>fun xs h a m b ha h1 h2 hb hM=>by omega
 |M+1=>qso d hφ hn hN (qjJ hφ hn hN M)
inductive Bk (d:α) (le:α→α→Prop) (n:Nat) (s:Int) (xs:List α):Int→Prop where
 |last {a:Int} :a≤(n:Int)→(n:Int)≤a+s→Srt d le a (n:Int) xs→Bk d le n s xs a
 |step {a:Int} :a+s≤(n:Int)→Srt d le a (a+s) xs→Bk d le n s xs (a+s)→Bk d le n s xs a
inductive Pf (d:α) (le:α→α→Prop) (s:Int) (xs:List α):Int→Prop where
 |zero:Pf d le s xs 0
 |step {a:Int} :0≤a→Pf d le s xs a→Srt d le a (a+s) xs→Pf d le s xs (a+s)
theorem Pf.bk {s:Int} {xs:List α} :∀ {a:Int},Pf d le s xs a→a≤(n:Int)→0≤s→Bk d le n s xs a→Bk d le n s xs 0
 |_,.zero,_,_,h=>h
 |_,.step h0 hp hs,hn,h0s,h=>hp.bk (by omega) h0s (.step (by omega) hs h)
theorem Srt.same {a b:Int} {xs ys:List α} (h:Srt d le a b xs) (he:∀k,a≤k→k<b→qk ys k d=qk xs k d):Srt d le a b ys:=fun x y x1 x2 x3=>by
 rw [he x x1 (by omega),he y (by omega) x3]; exact h x y x1 x2 x3
theorem Pf.same {s:Int} {xs ys:List α} (h0s:0≤s):∀ {a:Int},Pf d le s xs a→(∀k,0≤k→k<a→qk ys k d=qk xs k d)→Pf d le s ys a
 |_,.zero,_=> .zero
 |_,.step h0 hp hs,he=> .step h0 (hp.same h0s fun k k0 k1=>he k k0 (by omega)) (hs.same d fun k k0 k1=>he k (by omega) (by omega))
theorem Bk.same {s:Int} {xs ys:List α} (h0s:0≤s):∀ {a:Int},Bk d le n s xs a→(∀k,a≤k→k<(n:Int)→qk ys k d=qk xs k d)→Bk d le n s ys a
 |_,.last h1 h2 hs,he=> .last h1 h2 (hs.same d fun k k0 k1=>he k k0 k1)
 |_,.step h1 hs hb,he=> .step h1 (hs.same d fun k k0 k1=>he k k0 (by omega)) (hb.same h0s fun k k0 k1=>he k (by omega) k1)
theorem Bk.two {s a:Int} {xs:List α} (h:Bk d le n s xs a) (hs:1≤s) (hb:a+2 * s≤(n:Int)):Srt d le a (a+s) xs∧Srt d le (a+s) (a+2 * s) xs∧Bk d le n s xs (a+2 * s):=by
 cases h with
 |last h1 h2 h3=>omega
 |step h1 h2 h3=>
  refine ⟨h2,?_⟩
  generalize hq:a+s=q at *
  rw [show a+2 * s=q+s by omega]
  cases h3 with
  |last k1 k2 k3=>
   have:(n:Int)=q+s:=by omega
   exact ⟨by rw [←this]; exact k3,by rw [←this]; exact .last (Int.le_refl _) (by omega) fun x y x1 x2 x3=>by omega⟩
  |step k1 k2 k3=>exact ⟨k2,k3⟩
theorem Bk.one {s a:Int} {xs:List α} (h:Bk d le n s xs a) (hs:1≤s) (hb:(n:Int)<a+2 * s) (hm:a+s<(n:Int)):Srt d le a (a+s) xs∧Srt d le (a+s) (n:Int) xs:=by
 cases h with
 |last h1 h2 h3=>omega
 |step h1 h2 h3=>
  refine ⟨h2,?_⟩
  generalize hq:a+s=q at *
  cases h3 with
  |last k1 k2 k3=>exact k3
  |step k1 k2 k3=>omega
theorem Bk.nil {s a:Int} {xs:List α} (h:Bk d le n s xs a) (hm:(n:Int)≤a+s):Srt d le a (n:Int) xs:=by
 cases h with
 |last h1 h2 h3=>exact h3
 |step h1 h2 h3=>
  have:(n:Int)=a+s:=by omega
  rw [this]; exact h2
theorem qsy (hφ:Cmp P φ le) (hn:n≤1099511627776) (hN:2 * n+100<N) {xs:List α} (h:Ck P n xs):qqh P d n le 0 (n:Int) xs (qp4 d N (xs,((n:Int),(φ,())))):=by
 simp only [qp4,qK]
 refine qcG (S:=List α×(Int×(Int×Unit))) (fun p=>((n:Int)+20 - p.2.2.1).toNat) (fun p=>Seg d n 0 (n:Int) xs p.1∧0≤p.2.1∧p.2.1≤(n:Int)∧p.2.2.1=p.2.1+20∧Pf d le 20 p.1 p.2.1) (qqh P d n le 0 (n:Int) xs) ?_ N _ ⟨.refl d _ _ xs,by simp only; omega,by simp only; omega,by simp only; omega,.zero⟩ (by simp only; omega)
 rintro ih ⟨ys,a,b,⟨⟩⟩ ⟨hs,ha,ha2,hb,hp⟩ hih
 simp only at hs ha ha2 hb hp hih⊢
 have hc:=hs.ck d h
 by_cases q:b≤(n:Int)
 ·obtain ⟨out,o1,o2,o3⟩:=qnJ d (N:=N) hφ hn (by omega) hc (a:=a) (b:=b) ha ha2 q
  have e1:qax .i64 b 20=b+20:=qeS (by omega) (by omega)
  simp only [leT q,cond_true,o1,qp,qu,e1]
  subst hb
  exact hih _ ⟨hs.trans d (o2.mono d (Int.le_refl 0) (Int.le_refl _) ha q),by simp only; omega,by simp only; omega,by simp only,.step ha (hp.same d (by omega) fun k k0 k1=>o2.out k k0 (by omega) (by omega)) o3⟩ (by simp only; omega)
 ·obtain ⟨out,o1,o2,o3⟩:=qnJ d (N:=N) hφ hn (by omega) hc (a:=a) (b:=(n:Int)) ha ha2 (Int.le_refl _)
  simp only [leF q,cond_false,o1,qp,qu,cond_true]
  have hbk:Bk d le n 20 out 0:=(hp.same d (by omega) fun k k0 k1=>o2.out k k0 (by omega) (by omega)).bk d ha2 (by omega) (.last ha2 (by omega) o3)
  refine qcG (S:=List α×(Int×Unit)) (fun p=>((n:Int) - p.2.1).toNat) (fun p=>Seg d n 0 (n:Int) xs p.1∧1≤p.2.1∧p.2.1≤2 * (n:Int)+20∧Bk d le n p.2.1 p.1 0) (qqh P d n le 0 (n:Int) xs) ?_ N _ ⟨hs.trans d (o2.mono d (Int.le_refl 0) (Int.le_refl _) ha (Int.le_refl _)),by simp only; omega,by simp only; omega,hbk⟩ (by simp only; omega)
  rintro jh ⟨ys,s,⟨⟩⟩ ⟨hs,hs1,hs2,hk⟩ hjh
  simp only at hs hs1 hs2 hk hjh⊢
  have hc:=hs.ck d h
  by_cases hsn:s<(n:Int)
  ·have e1:qvY .i64 2 s=2 * s:=by rw [qlP,qn3 (by omega) (by omega)]
   have e2:qvY .i64 s 2=2 * s:=by rw [qlP,qn3 (by omega) (by omega)]; omega
   simp only [ltT hsn,cond_true,e1,e2]
   refine qcG (S:=List α×(Int×(Int×Unit))) (fun p=>((n:Int)+2 * s - p.2.2.1).toNat) (fun p=>Seg d n 0 (n:Int) xs p.1∧0≤p.2.1∧p.2.1≤(n:Int)∧p.2.2.1=p.2.1+2 * s∧Pf d le (2 * s) p.1 p.2.1∧Bk d le n s p.1 p.2.1) (qqh P d n le 0 (n:Int) xs) ?_ N _ ⟨hs,by simp only; omega,by simp only; omega,by simp only; omega,.zero,hk⟩ (by simp only; omega)
   rintro kh ⟨zs,a,b,⟨⟩⟩ ⟨hz,ha,ha2,hb,hp,hk⟩ hkh
   simp only at hz ha ha2 hb hp hk hkh⊢
   have hzc:=hz.ck d h
   have e3:qax .i64 a s=a+s:=qeS (by omega) (by omega)
   by_cases q:b≤(n:Int)
   ·subst hb
    obtain ⟨b1,b2,b3⟩:=hk.two d hs1 q
    obtain ⟨out,o1,o2,o3⟩:=qjJ d hφ hn (by omega:2 * n+1<N) N zs hzc a (a+s) (a+2 * s) ha (by omega) (by omega) q (by omega) b1 b2
    have e4:qax .i64 (a+2 * s) (2 * s)=a+2 * s+2 * s:=qeS (by omega) (by omega)
    have o1':qnI d N (zs,(a,(a+s,(a+2 * s,(φ,())))))=some ((),(out,())):=o1
    simp only [leT q,cond_true,e3,o1',qp,qu,e4]
    exact hkh _ ⟨hz.trans d (o2.mono d (Int.le_refl 0) (Int.le_refl _) ha q),by simp only; omega,by simp only; omega,by simp only,.step ha (hp.same d (by omega) fun k k0 k1=>o2.out k k0 (by omega) (by omega)) o3,b3.same d (by omega) fun k k0 k1=>o2.out k (by omega) k1 (by omega)⟩ (by simp only; omega)
   ·simp only [leF q,cond_false,e3]
    have fin:∀out,Seg d n a (n:Int) zs out→Srt d le a (n:Int) out→qqh P d n le 0 (n:Int) xs (jh (out,(2 * s,()))):=fun out o1 o2=>
     hjh _ ⟨hz.trans d (o1.mono d (Int.le_refl 0) (Int.le_refl _) ha (Int.le_refl _)),by simp only; omega,by simp only; omega,(hp.same d (by omega) fun k k0 k1=>o1.out k k0 (by omega) (by omega)).bk d ha2 (by omega) (.last ha2 (by omega) o2)⟩ (by simp only; omega)
    by_cases hq:a+s<(n:Int)
    ·obtain ⟨b1,b2⟩:=hk.one d hs1 (by omega) hq
     obtain ⟨out,o1,o2,o3⟩:=qjJ d hφ hn (by omega:2 * n+1<N) N zs hzc a (a+s) (n:Int) ha (by omega) hq (Int.le_refl _) (by omega) b1 b2
     have o1':qnI d N (zs,(a,(a+s,((n:Int),(φ,())))))=some ((),(out,())):=o1
     simp only [ltT hq,cond_true,o1',qp,qu]
     exact fin out o2 o3
    ·simp only [ltF hq,cond_false,cond_true]
     exact fin zs (.refl d _ _ zs) (hk.nil d (by omega))
  ·simp only [ltF hsn,cond_false]
   exact ⟨ys,rfl,hs,hk.nil d (by omega)⟩
theorem qsi (hφ:Cmp P φ le) {xs:List α} (hn:xs.length≤1099511627776) (hN:2 * xs.length+100<N) (h:∀x∈xs,P x):∃out,qtL d N (xs,(φ,()))=some ((),(out,()))∧out.Perm xs∧Srt d le 0 (xs.length:Int) out:=by
 obtain ⟨out,o1,o2,o3⟩:=qsy d hφ hn hN ⟨rfl,h⟩
 refine ⟨out,?_,o2.perm,o3⟩
 simp only [qtL,qt,o1,qp,qu,cond_true]
end
end
end Go.Vi
