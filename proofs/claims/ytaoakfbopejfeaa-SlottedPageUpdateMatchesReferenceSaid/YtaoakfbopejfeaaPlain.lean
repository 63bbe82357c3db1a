import Derived.Test.YtaoakfbopejfeaaFns
import Derived.Test.YtaoakfbopejfeaaViXD
import Derived.Test.YtaoakfbopejfeaaViXA
set_option linter.unusedVariables false
set_option linter.unusedSimpArgs false
set_option linter.unnecessarySimpa false
set_option linter.unusedSectionVars false
set_option linter.unusedSimpArgs false
set_option maxRecDepth 100000
namespace Go.Proofs.Ytaoakfbopejfeaa
open Go.Vi
open Classical
noncomputable section
theorem qd {α:Type} {b:Bool} {x y:α} (h:b=true):(bif b then x else y)=x:=by rw [h]; rfl
theorem qx {α:Type} {b:Bool} {x y:α} (h:b=false):(bif b then x else y)=y:=by rw [h]; rfl
theorem qbG (x y:Int):eqI x y=decide (x=y):=by rw [qeb]; by_cases h:x=y <;> simp [h]
theorem qaN (x y:Int):neI x y=decide (x≠y):=by rw [qfR]; by_cases h:x=y <;> simp [h]
structure qaL (p:List Int):Prop where
 len:p.length=256
 byte:∀x∈p,0≤x∧x<256
def gp (p:List Int) (k:Nat):Int:=p.getD k 0
def pN (p:List Int):Nat:=(gp p 0).toNat
def pS (p:List Int):Nat:=if gp p 1=0 then 256 else (gp p 1).toNat
def pO (p:List Int) (i:Nat):Nat:=(gp p (2+2 * i)).toNat
def pL (p:List Int) (i:Nat):Nat:=(gp p (3+2 * i)).toNat
theorem qn1 {p:List Int} (h:qaL p) (k:Nat):0≤gp p k∧gp p k<256:=by
 unfold gp
 rw [List.getD_eq_getElem?_getD]
 by_cases hk:k<p.length
 ·rw [List.getElem?_eq_getElem hk]; exact h.byte _ (List.getElem_mem hk)
 ·rw [List.getElem?_eq_none (by omega)]; exact ⟨Int.le_refl _,by decide⟩
theorem qiR (p:List Int) (k:Nat):qbt p (k:Int) 0=gp p k:=by rw [qip]; rfl
theorem qbo {p:List Int} (h:qaL p) (k:Nat):qaw .i64 (gp p k)=gp p k:=by
 have:=qn1 h k
 exact qgJ (by omega) (by omega)
theorem qjT {p:List Int} (h:qaL p) (k:Nat):gp p k=((gp p k).toNat:Int):=by
 have:=qn1 h k
 omega
theorem qgX {p:List Int} (h:qaL p):gp p 0=(pN p:Int):=qjT h 0
theorem pO_is {p:List Int} (h:qaL p) (i:Nat):gp p (2+2 * i)=(pO p i:Int):=qjT h _
theorem pL_is {p:List Int} (h:qaL p) (i:Nat):gp p (3+2 * i)=(pL p i:Int):=qjT h _
theorem qmn {p:List Int} (h:qaL p):pN p<256:=by have:=qn1 h 0; unfold pN; omega
theorem qns {p:List Int} (h:qaL p) (i:Nat):pO p i<256:=by have:=qn1 h (2+2 * i); unfold pO; omega
theorem qng {p:List Int} (h:qaL p) (i:Nat):pL p i<256:=by have:=qn1 h (3+2 * i); unfold pL; omega
theorem qdF {p:List Int} (h:qaL p):1≤pS p∧pS p≤256:=by have:=qn1 h 1; unfold pS; split <;> omega
theorem qnm {p:List Int} (h:qaL p):qaw .i64 (pN p:Int)=(pN p:Int):=by have:=qmn h; exact qgJ (by omega) (by omega)
theorem pO_w {p:List Int} (h:qaL p) (i:Nat):qaw .i64 (pO p i:Int)=(pO p i:Int):=by have:=qns h i; exact qgJ (by omega) (by omega)
theorem pL_w {p:List Int} (h:qaL p) (i:Nat):qaw .i64 (pL p i:Int)=(pL p i:Int):=by have:=qng h i; exact qgJ (by omega) (by omega)
theorem ad2 {i:Nat} (h:i<1152921504606846976):qaX .i64 2 (qfc .i64 2 (i:Int))=((2+2 * i:Nat):Int):=by
 rw [qff (by omega) (by omega),qcz (by omega) (by omega)]; omega
theorem ad3 {i:Nat} (h:i<1152921504606846976):qaX .i64 3 (qfc .i64 2 (i:Int))=((3+2 * i:Nat):Int):=by
 rw [qff (by omega) (by omega),qcz (by omega) (by omega)]; omega
theorem qah {p:List Int} (h:qaL p):qR p=256:=by rw [qf,h.len]; rfl
theorem qhu (p:List Int):qbt p 0 0=gp p 0:=qiR p 0
theorem lget1 (p:List Int):qbt p 1 0=gp p 1:=qiR p 1
theorem qc7 (N:Nat) {p:List Int} (h:qaL p) {i:Nat} (hi:i<127):qi N (p,((i:Int),()))=some (((pO p i:Int),((pL p i:Int),())),()):=by
 simp only [qi,ad2 (show i<1152921504606846976 by omega),ad3 (show i<1152921504606846976 by omega),qiR,qbo h,pO_is h,pL_is h,pO_w h,pL_w h,qah h,qaF]
 rw [qd (by simp; omega)]
theorem qbM (N:Nat) {p:List Int} (h:qaL p):qh N (p,())=some (((pS p:Int),()),()):=by
 simp only [qh,lget1,qbo h,qah h,qaF]
 rw [qd (by simp),qbG]
 by_cases h1:gp p 1=0
 ·rw [qd (by simp [h1])]; simp [pS,h1]
 ·rw [qx (by simp [h1]),qd (by simp)]; simp only [pS,if_neg h1]; rw [←qjT h]
def usd (p:List Int) (i:Nat):Prop:=¬(pO p i=0∧pL p i=0)
def keys (p:List Int):Nat→List Nat
 |0=>[]
 |i+1=>keys p i++(if usd p i then (List.range (pL p i)).map (pO p i+ ·) else [])
def bad (p:List Int) (i:Nat):Prop:=usd p i∧(pL p i<1∨100<pL p i∨pO p i<pS p∨256<pO p i+pL p i∨∃k,k<pL p i∧pO p i+k∈keys p i)
def gB (p:List Int) (i:Nat):Option Unit:=if bad p i then some () else none
theorem qee {E:Type} {g:Nat→Option E} : {n:Nat} →(∀i,i<n→g i=none)→qaU g n=none
 |0,_=>rfl
 |n+1,h=>by simp only [qaU]; rw [qee fun i hi=>h i (by omega)]; exact h n (by omega)
theorem qlN {E:Type} {g:Nat→Option E} {n:Nat} :qaU g n=none↔∀i,i<n→g i=none:=⟨qbF,qee⟩
def qlB (ks:List Nat):List Bool:=(List.range 256).map fun x=>decide (x∈ks)
theorem qnK {ks:List Nat} {k:Nat} (h:k<256):qbt (qlB ks) (k:Int) false=decide (k∈ks):=by
 rw [qip,List.getD_eq_getElem?_getD]
 simp [qlB,h]
theorem qnf {ks:List Nat} {k:Nat} (h:k<256):qcr (qlB ks) (k:Int) true=qlB (ks++[k]):=by
 rw [qaA]
 refine List.ext_getElem (by simp [qlB]) fun i h1 h2=> ?_
 rw [List.getElem_set]
 simp only [qlB,List.getElem_map,List.getElem_range,Int.toNat_natCast,List.mem_append,List.mem_singleton]
 by_cases e:k=i
 ·simp [e]
 ·have:¬i=k:=fun h=>e h.symm
  simp [e,this]
theorem qnB:List.replicate 256 false=qlB []:=by
 have:(fun x:Nat=>decide (x∈([]:List Nat)))=fun _=>false:=by funext x; simp
 unfold qlB
 rw [this,List.map_const',List.length_range]
theorem qnZ (o j:Nat):(List.range (j+1)).map (o+ ·)=(List.range j).map (o+ ·)++[o+j]:=by
 rw [List.range_succ,List.map_append]; rfl
theorem qhF (o j:Nat):o+j∉(List.range j).map (o+ ·):=by
 intro h
 obtain ⟨x,hx,e⟩:=List.mem_map.1 h
 have:=List.mem_range.1 hx
 omega
theorem qkg (N:Nat) (hN:1000<N) {p:List Int} (h:qaL p) (hs:2+2 * pN p≤pS p):qY N (p,())=some (((qaU (gB p) (pN p)).isNone,()),()):=by
 have hS:=qdF h
 simp only [qY,qV,qhu,qbo h,qgX h,qnm h,qah h]
 rw [qd (by rw [qaF]; simp)]
 refine Eq.trans (qcx (N:=N) (fun i=>(qlB (keys p i),((i:Int),()))) (pN p) (gB p) (fun _=>some ((false,()),())) (some ((true,()),())) ?_ ?_ ?_ (by have:=qmn h; omega)) (by cases qaU (gB p) (pN p) <;> rfl)
 ·show (qlB [],((0:Nat):Int),())=_
  rw [←qnB]
  rfl
 ·intro i hi hg ih
  have hO:=qns h i
  have hL:=qng h i
  dsimp only
  rw [qd (by rw [qag]; simp; omega),qc7 N h (show i<127 by omega),qbM N h]
  simp only [ql,qu,cond_true,Bool.or_true,qbG,qag]
  rw [qbe (show i<4611686018427387904 by omega),qcz (x:=(pO p i:Int)) (y:=(pL p i:Int)) (by omega) (by omega)]
  by_cases hu:pO p i=0∧pL p i=0
  ·rw [qd (by simp [hu.1,hu.2])]
   have:gB p i=none:=if_neg fun hb=>hb.1 hu
   rw [this]
   simp only [keys]
   rw [if_neg (fun hh=>hh hu),List.append_nil]
  ·rw [qx (by simp; omega)]
   by_cases hv:pL p i<1∨100<pL p i∨pO p i<pS p∨256<pO p i+pL p i
   ·rw [qd (by simp; omega)]
    have:gB p i=some ():=if_pos ⟨hu,by
     rcases hv with a|a|a|a
     ·exact .inl a
     ·exact .inr (.inl a)
     ·exact .inr (.inr (.inl a))
     ·exact .inr (.inr (.inr (.inl a)))⟩
    rw [this]
   ·rw [qx (by simp; omega)]
    have hk:keys p (i+1)=keys p i++(List.range (pL p i)).map (pO p i+ ·):=by simp only [keys]; rw [if_pos (show usd p i from hu)]
    rw [hk]
    have hfst:=qcx (N:=N) (S:=(List Bool)×(Int×Unit)) (R:=(Bool×Unit)×Unit) (step:=fun ih7 p8=>(bif (ltI p8.2.1 ((pO p i:Int)+(pL p i:Int))) then (bif (inB p8.2.1 256) then (bif (qbt p8.1 p8.2.1 false) then (some ((false,()),())) else (bif (inB p8.2.1 256) then (ih7 ((qcr p8.1 p8.2.1 true),((qaX .i64 p8.2.1 1),()))) else none)) else none) else (ih (p8.1,(((i+1:Nat):Int),()))))) (s0:=(qlB (keys p i),((pO p i:Int),())))
     (fun j=>(qlB (keys p i++(List.range j).map (pO p i+ ·)),(((pO p i+j:Nat):Int),()))) (pL p i) (fun j=>if pO p i+j∈keys p i then some () else none) (fun _=>some ((false,()),())) (ih (qlB (keys p i++(List.range (pL p i)).map (pO p i+ ·)),(((i+1:Nat):Int),()))) (by simp) ?_ ?_ (by omega)
    ·simp only [qag] at hfst
     rw [hfst]
     by_cases hd:∃k,k<pL p i∧pO p i+k∈keys p i
     ·have:gB p i=some ():=if_pos ⟨hu,.inr (.inr (.inr (.inr hd)))⟩
      rw [this]
      obtain ⟨k,hk1,hk2⟩:=hd
      cases hf:qaU (fun j=>if pO p i+j∈keys p i then some () else none) (pL p i) with
      |some _=>rfl
      |none=>have:=qbF hf k hk1; rw [if_pos hk2] at this; cases this
     ·have:gB p i=none:=if_neg fun hb=>by
       rcases hb.2 with a|a|a|a|a
       ·exact hv (.inl a)
       ·exact hv (.inr (.inl a))
       ·exact hv (.inr (.inr (.inl a)))
       ·exact hv (.inr (.inr (.inr a)))
       ·exact hd a
      rw [this,qee (fun j hj=>if_neg fun hm=>hd ⟨j,hj,hm⟩)]
    ·intro j hj _ ih7
     dsimp only
     rw [qd (by rw [qag]; simp; omega),qd (by rw [qaF]; simp; omega),qnK (by omega)]
     by_cases hm:pO p i+j∈keys p i
     ·rw [qd (by simp [hm]),if_pos hm]
     ·rw [qx (by
       have:=qhF (pO p i) j
       rw [decide_eq_false_iff_not,List.mem_append]
       rintro (a|a)
       ·exact hm a
       ·exact this a),qd (by rw [qaF]; simp; omega),qnf (by omega),qbe (by omega),if_neg hm,qnZ,List.append_assoc]
      rfl
    ·intro _ ih7
     dsimp only
     rw [qx (by rw [qag]; simp)]
 ·intro _ ih
  dsimp only
  rw [qx (by rw [qag]; simp)]
end
end Go.Proofs.Ytaoakfbopejfeaa
namespace Go.Proofs.Ytaoakfbopejfeaa
open Go.Vi
open Classical
noncomputable section
def okP (p:List Int):Prop:=2+2 * pN p≤pS p∧(0<pN p→pO p (pN p - 1)≠0)∧∀i,i<pN p→¬bad p i
theorem qi0 (N:Nat) (hN:1000<N) {p:List Int} (h:qaL p):qK N (p,())=some (((if okP p then 0 else 3),()),()):=by
 have hS:=qdF h
 have hn:=qmn h
 simp only [qK,qV,qah h,qhu,qbo h,qgX h,qbM N h,ql,qu,cond_true,qaN,qaF,qag,qbG]
 rw [qx (by simp),qd (by simp),qnm h,qff (by omega) (by omega),qcz (by omega) (by omega)]
 by_cases h1:2+2 * pN p≤pS p
 ·rw [qx (by simp; omega),qkg N hN h h1]
  simp only [ql,qu,cond_true]
  have hd:(qaU (gB p) (pN p)).isNone=decide (∀i,i<pN p→¬bad p i):=by
   rw [Bool.eq_iff_iff,Option.isNone_iff_eq_none,decide_eq_true_eq,qlN]
   refine forall_congr' fun i=>forall_congr' fun hi=> ?_
   unfold gB
   by_cases hb:bad p i <;> simp [hb]
  rw [hd]
  by_cases h2:0<pN p
  ·have e:qcQ .i64 (pN p:Int) 1=((pN p - 1:Nat):Int):=by rw [qcJ (by omega) (by omega)]; omega
   rw [qd (by simpa using h2),e,qc7 N h (show pN p - 1<127 by omega)]
   simp only [ql,qu,cond_true]
   by_cases h3:pO p (pN p - 1)=0
   ·rw [qd (by simp [h3]),if_neg fun ho=>ho.2.1 h2 h3]
   ·rw [qx (by simp [h3])]
    by_cases h4:∀i,i<pN p→¬bad p i
    ·rw [qx (by simpa using h4),if_pos ⟨h1,fun _=>h3,h4⟩]
    ·rw [qd (by simpa using h4),if_neg fun ho=>h4 ho.2.2]
  ·rw [qx (by simpa using h2)]
   by_cases h4:∀i,i<pN p→¬bad p i
   ·rw [qx (by simpa using h4),if_pos ⟨h1,fun h=>absurd h h2,h4⟩]
   ·rw [qd (by simpa using h4),if_neg fun ho=>h4 ho.2.2]
 ·rw [qd (by simp; omega),if_neg fun ho=>h1 ho.1]
theorem qjh (N:Nat) {p:List Int} (h:p.length≠256):qK N (p,())=some ((3,()),()):=by
 simp only [qK,qV,qaN]
 rw [qd (by rw [qf]; simp; omega)]
theorem qfy {α β:Type} {xs:List (α×β)} {k:α} {v:β} (h:∀q∈xs,q.1≠k):qfz xs k v=xs++[(k,v)]:=by
 induction xs with
 |nil=>exact qiW k v
 |cons q r ih=>rw [qjy,if_neg (h q List.mem_cons_self),ih fun z hz=>h z (List.mem_cons_of_mem _ hz)]; rfl
def qhx (ks:List Nat):List (Int×Bool):=ks.map fun (k:Nat)=>((k:Int),true)
theorem qmU (ks:List Nat) (k:Nat):qcY (qhx ks) (k:Int) false=decide (k∈ks):=by
 induction ks with
 |nil=>simp [qhx,qkS]
 |cons a r ih=>
  show qcY (((a:Int),true)::qhx r) _ _=_
  rw [qdm]
  by_cases e:a=k
  ·subst e; simp
  ·have e':¬k=a:=fun x=>e x.symm
   rw [if_neg (by intro x; exact e (by omega)),ih]
   simp [e']
theorem qmL {ks:List Nat} {k:Nat} (h:k∉ks):qfz (qhx ks) (k:Int) true=qhx (ks++[k]):=by
 rw [qfy fun q hq=>by
  obtain ⟨z,hz,rfl⟩:=List.mem_map.1 hq
  intro e
  have e:(z:Int)=(k:Int):=e
  exact h (by rwa [show k=z by omega])]
 simp [qhx]
def byt (p:List Int) (i:Nat):List UInt8:=qcf (qQ p (pO p i:Int) ((pO p i:Int)+(pL p i:Int)))
def recM (p:List Int):Nat→List (Int×List UInt8)
 |0=>[]
 |i+1=>if usd p i then qfz (recM p i) (i:Int) (byt p i) else recM p i
def badR (p:List Int) (i:Nat):Prop:=(¬usd p i∧i+1=pN p)∨bad p i
def gR (p:List Int) (i:Nat):Option Unit:=if badR p i then some () else none
theorem qmJ {p:List Int} (h:qaL p):okP p↔2+2 * pN p≤pS p∧∀i,i<pN p→¬badR p i:=by
 have hS:=qdF h
 constructor
 ·rintro ⟨h1,h2,h3⟩
  refine ⟨h1,fun i hi hb=> ?_⟩
  rcases hb with ⟨hu,e⟩|hb
  ·have:pO p i=0∧pL p i=0:=Classical.byContradiction hu
   have:=h2 (by omega)
   rw [show pN p - 1=i by omega] at this
   omega
  ·exact h3 i hi hb
 ·rintro ⟨h1,h2⟩
  refine ⟨h1,fun hn h0=> ?_,fun i hi hb=>h2 i hi (.inr hb)⟩
  by_cases hu:usd p (pN p - 1)
  ·exact h2 (pN p - 1) (by omega) (.inr ⟨hu,.inr (.inr (.inl (by omega)))⟩)
  ·exact h2 (pN p - 1) (by omega) (.inl ⟨hu,by omega⟩)
theorem qh9 (N:Nat) (hN:1000<N) {p:List Int} (h:qaL p):qw N (p,())=some ((if okP p then (qgg (recM p (pN p)),((pN p:Int),(true,()))) else ([],(0,(false,())))),()):=by
 have hS:=qdF h
 have hn:=qmn h
 simp only [qw,qV,qah h,qhu,lget1,qbo h,qgX h,qaN,qaF]
 rw [qx (by simp),qd (by simp),qd (by simp),qnm h]
 have hs:(bif eqI (gp p 1) 0 then (256:Int) else gp p 1)=(pS p:Int):=by
  rw [qbG]
  by_cases h1:gp p 1=0
  ·rw [qd (by simp [h1])]; simp [pS,h1]
  ·rw [qx (by simp [h1])]; simp only [pS,if_neg h1]; rw [←qjT h]
 rw [hs,qff (by omega) (by omega),qcz (x:=2) (by omega) (by omega)]
 by_cases h1:2+2 * pN p≤pS p
 ·rw [qx (by rw [qag]; simp; omega)]
  refine Eq.trans (qcx (N:=N) (fun i=>(recM p i,((pN p:Int),(qhx (keys p i),((i:Int),()))))) (pN p) (gR p) (fun _=>some (([],(0,(false,()))),())) (some ((qgg (recM p (pN p)),((pN p:Int),(true,()))),())) ?_ ?_ ?_ (by omega)) ?_
  ·rfl
  ·intro i hi hg ih
   have hO:=qns h i
   have hL:=qng h i
   dsimp only
   rw [qd (by rw [qag]; simp; omega),ad2 (show i<1152921504606846976 by omega),ad3 (show i<1152921504606846976 by omega),qd (by simp; omega)]
   simp only [qiR,qbo h,pO_is h,pL_is h,pO_w h,pL_w h,qbG,qag]
   rw [qbe (show i<4611686018427387904 by omega),qcz (x:=(pO p i:Int)) (y:=(pL p i:Int)) (by omega) (by omega),qcJ (by omega) (by omega)]
   by_cases hu:pO p i=0∧pL p i=0
   ·have hnu:¬usd p i:=fun hh=>hh hu
    rw [qd (by simp [hu.1,hu.2])]
    by_cases he:i+1=pN p
    ·rw [qd (by simp; omega)]
     have:gR p i=some ():=if_pos (.inl ⟨hnu,he⟩)
     rw [this]
    ·rw [qx (by simp; omega)]
     have:gR p i=none:=if_neg fun hb=>by
      rcases hb with hb|hb
      ·exact he hb.2
      ·exact hb.1 hu
     rw [this]
     simp only [keys,recM]
     rw [if_neg hnu,if_neg hnu,List.append_nil]
   ·rw [qx (by simp; omega)]
    have hus:usd p i:=hu
    by_cases hv:pL p i<1∨100<pL p i∨pO p i<pS p∨256<pO p i+pL p i
    ·rw [qd (by simp; omega)]
     have:gR p i=some ():=if_pos (.inr ⟨hu,by
      rcases hv with a|a|a|a
      ·exact .inl a
      ·exact .inr (.inl a)
      ·exact .inr (.inr (.inl a))
      ·exact .inr (.inr (.inr (.inl a)))⟩)
     rw [this]
    ·rw [qx (by simp; omega)]
     have hk:keys p (i+1)=keys p i++(List.range (pL p i)).map (pO p i+ ·):=by simp only [keys]; rw [if_pos hus]
     have hr:recM p (i+1)=qfz (recM p i) (i:Int) (byt p i):=by simp only [recM]; rw [if_pos hus]
     rw [hk,hr]
     have hfst:=qcx (N:=N) (S:=(List (Int×(List UInt8)))×(Int×((List (Int×Bool))×(Int×Unit)))) (R:=((List (Int×(List UInt8)))×(Int×(Bool×Unit)))×Unit)
      (step:=fun ih9 p10=>(bif (ltI p10.2.2.2.1 ((pO p i:Int)+(pL p i:Int))) then (bif (qcY p10.2.2.1 p10.2.2.2.1 false) then (some ((([]:List (Int×(List UInt8))),(0,(false,()))),())) else (ih9 (p10.1,(p10.2.1,((qfz p10.2.2.1 p10.2.2.2.1 true),((qaX .i64 p10.2.2.2.1 1),())))))) else (bif (inS (pO p i:Int) ((pO p i:Int)+(pL p i:Int)) 256) then (ih ((qfz p10.1 (i:Int) (qcf (qQ p (pO p i:Int) ((pO p i:Int)+(pL p i:Int))))),(p10.2.1,(p10.2.2.1,(((i+1:Nat):Int),()))))) else none)))
      (s0:=(recM p i,((pN p:Int),(qhx (keys p i),((pO p i:Int),())))))
      (fun j=>(recM p i,((pN p:Int),(qhx (keys p i++(List.range j).map (pO p i+ ·)),(((pO p i+j:Nat):Int),()))))) (pL p i) (fun j=>if pO p i+j∈keys p i then some () else none) (fun _=>some (([],(0,(false,()))),())) (ih (qfz (recM p i) (i:Int) (byt p i),((pN p:Int),(qhx (keys p i++(List.range (pL p i)).map (pO p i+ ·)),(((i+1:Nat):Int),()))))) (by simp) ?_ ?_ (by omega)
     ·simp only [qag] at hfst
      rw [hfst]
      by_cases hd:∃k,k<pL p i∧pO p i+k∈keys p i
      ·have:gR p i=some ():=if_pos (.inr ⟨hu,.inr (.inr (.inr (.inr hd)))⟩)
       rw [this]
       obtain ⟨k,hk1,hk2⟩:=hd
       cases hf:qaU (fun j=>if pO p i+j∈keys p i then some () else none) (pL p i) with
       |some _=>rfl
       |none=>have:=qbF hf k hk1; rw [if_pos hk2] at this; cases this
      ·have:gR p i=none:=if_neg fun hb=>by
        rcases hb with hb|hb
        ·exact hb.1 hus
        rcases hb.2 with a|a|a|a|a
        ·exact hv (.inl a)
        ·exact hv (.inr (.inl a))
        ·exact hv (.inr (.inr (.inl a)))
        ·exact hv (.inr (.inr (.inr a)))
        ·exact hd a
       rw [this,qee (fun j hj=>if_neg fun hm=>hd ⟨j,hj,hm⟩)]
     ·intro j hj _ ih7
      dsimp only
      rw [qd (by rw [qag]; simp; omega),qmU]
      by_cases hm:pO p i+j∈keys p i
      ·rw [qd (by simp [hm]),if_pos hm]
      ·have hm2:pO p i+j∉keys p i++(List.range j).map (pO p i+ ·):=by
        have:=qhF (pO p i) j
        rw [List.mem_append]
        rintro (a|a)
        ·exact hm a
        ·exact this a
       rw [qx (by simpa using hm2),qmL hm2,qbe (by omega),if_neg hm,qnZ,List.append_assoc]
       rfl
     ·intro _ ih7
      dsimp only
      rw [qx (by rw [qag]; simp),qd (by rw [qg9]; simp; omega)]
      rfl
  ·intro _ ih
   dsimp only
   rw [qx (by rw [qag]; simp)]
  ·by_cases ho:okP p
   ·rw [if_pos ho,qee (g:=gR p) fun i hi=>if_neg (((qmJ h).1 ho).2 i hi)]
   ·rw [if_neg ho]
    cases hf:qaU (gR p) (pN p) with
    |some _=>rfl
    |none=>
     refine absurd ((qmJ h).2 ⟨h1,fun i hi hb=> ?_⟩) ho
     have:=qbF hf i hi
     rw [gR,if_pos hb] at this
     cases this
 ·rw [qd (by rw [qag]; simp; omega),if_neg fun ho=>h1 ho.1]
theorem qkD (N:Nat) {p:List Int} (h:p.length≠256):qw N (p,())=some (([],(0,(false,()))),()):=by
 simp only [qw,qaN]
 rw [qd (by rw [qf]; simp; omega)]
end
end Go.Proofs.Ytaoakfbopejfeaa
namespace Go.Proofs.Ytaoakfbopejfeaa
open Go.Vi
open Classical
noncomputable section
structure Slot (p:List Int) (i:Nat):Prop where
 lo:pS p≤pO p i
 pos:1≤pL p i
 max:pL p i≤100
 hi:pO p i+pL p i≤256
 new:∀k,k<pL p i→pO p i+k∉keys p i
theorem qot {p:List Int} {i:Nat} (h:¬bad p i) (hu:usd p i):Slot p i:=by
 have hb:¬(pL p i<1∨100<pL p i∨pO p i<pS p∨256<pO p i+pL p i∨∃k,k<pL p i∧pO p i+k∈keys p i):=fun hh=>h ⟨hu,hh⟩
 simp only [not_or] at hb
 obtain ⟨h1,h2,h3,h4,h5⟩:=hb
 exact ⟨by omega,by omega,by omega,by omega,fun k hk hm=>h5 ⟨k,hk,hm⟩⟩
theorem okP.slot {p:List Int} (h:okP p) {i:Nat} (hi:i<pN p) (hu:usd p i):Slot p i:=qot (h.2.2 i hi) hu
theorem qjv {p:List Int} (hp:qaL p) (h:okP p) {i:Nat} (hi:i<pN p):0<pO p i↔usd p i:=by
 constructor
 ·intro h1 h2; omega
 ·intro hu
  have:=(h.slot hi hu).lo
  have:=qdF hp
  omega
theorem okP.lt {p:List Int} (hp:qaL p) (h:okP p):pN p<128:=by have:=h.1; have:=qdF hp; omega
theorem qm4 {p:List Int} (hp:qaL p) {i:Nat} (h:pO p i+pL p i≤256):(byt p i).length=pL p i:=by
 unfold byt
 rw [show (pO p i:Int)+(pL p i:Int)=((pO p i+pL p i:Nat):Int) by omega,qkU,qc5]
 simp [hp.len]
 omega
theorem byt_ne {p:List Int} (hp:qaL p) {i:Nat} (h:Slot p i):byt p i≠[]:=by
 intro e
 have:=qm4 hp h.hi
 rw [e] at this
 have h1:=h.pos
 rw [←this] at h1
 exact absurd h1 (by simp)
theorem qiZ (p:List Int) (z:Int):(n:Nat)→qcY (recM p n) z []=if 0≤z∧z.toNat<n∧usd p z.toNat then byt p z.toNat else []
 |0=>by simp [recM,qkS]
 |n+1=>by
  simp only [recM]
  have ih:=qiZ p z n
  by_cases hu:usd p n
  ·rw [if_pos hu,qms,ih]
   by_cases e:(n:Int)=z
   ·subst e
    rw [if_pos rfl,if_pos ⟨by omega,by omega,by simpa using hu⟩]
    simp
   ·rw [if_neg e]
    by_cases h2:0≤z∧z.toNat<n∧usd p z.toNat
    ·rw [if_pos h2,if_pos ⟨h2.1,by omega,h2.2.2⟩]
    ·rw [if_neg h2,if_neg fun hh=>h2 ⟨hh.1,by omega,hh.2.2⟩]
  ·rw [if_neg hu,ih]
   by_cases h2:0≤z∧z.toNat<n∧usd p z.toNat
   ·rw [if_pos h2,if_pos ⟨h2.1,by omega,h2.2.2⟩]
   ·rw [if_neg h2,if_neg fun hh=>h2 ⟨hh.1,by
     have:z.toNat≠n:=fun e=>hu (e ▸ hh.2.2)
     omega,hh.2.2⟩]
theorem qfF {p:List Int} (hp:qaL p) (h:okP p) (z:Int):qcY (recM p (pN p)) z []=[]↔¬(0≤z∧z.toNat<pN p∧usd p z.toNat):=by
 rw [qiZ]
 by_cases h1:0≤z∧z.toNat<pN p∧usd p z.toNat
 ·rw [if_pos h1]
  have:=byt_ne hp (h.slot h1.2.1 h1.2.2)
  simp [this,h1]
 ·rw [if_neg h1]; simp [h1]
theorem qil (N:Nat) {xs:List Int} (h:xs.length≤256):qaB N (xs,())=some ((xs,()),()):=by
 simp only [qaB]
 have hr:qhz (qR ([]:List Int)) (qR xs) 1=true:=qnQ (by simp; omega)
 have hl:qcD ([]:List Int) xs=xs:=by rw [qa1]; rfl
 rw [hr,hl]
 simp only [cond_true]
 rw [qbG]
 by_cases e:xs=[]
 ·subst e
  rw [qd (by rw [qf]; rfl),qjC,if_pos rfl]
 ·rw [qx (by
   rw [qf,decide_eq_false_iff_not]
   intro hh
   exact e (List.length_eq_zero_iff.1 (by omega)))]
def qol (p:List Int) (z:Int):Prop:=0≤z∧z.toNat<pN p∧usd p z.toNat
theorem qhX (N:Nat) (hN:1000<N) {p:List Int} (hp:qaL p) (z:Int) (hz: -9223372036854775808≤z∧z<9223372036854775808):qaa N (p,(z,()))=some (if okP p then (if qol p z then (qQ p (pO p z.toNat:Int) ((pO p z.toNat:Int)+(pL p z.toNat:Int)),(0,())) else ([],(4,()))) else ([],(3,())),()):=by
 simp only [qaa,qV,qi0 N hN hp,ql,qu,cond_true,qaN]
 by_cases ho:okP p
 ·simp only [if_pos ho]
  rw [qx (by simp),qah hp,qd (by rw [qaF]; simp)]
  simp only [qhu,qbo hp,qgX hp,qnm hp,qag,qgS]
  by_cases h1:0≤z∧z<(pN p:Int)
  ·rw [qx (by simp; omega)]
   obtain ⟨i,rfl⟩:∃i:Nat,z=(i:Int):=⟨z.toNat,by omega⟩
   have hi:i<pN p:=by omega
   have:=ho.lt hp
   rw [qc7 N hp (show i<127 by have:=ho.1; have:=qdF hp; omega)]
   simp only [ql,qu,cond_true,Int.toNat_natCast,qbG]
   have hO:=qns hp i
   have hL:=qng hp i
   by_cases hu:usd p i
   ·have hs:=ho.slot hi hu
    have:=(qjv hp ho hi).2 hu
    have hh:=hs.hi
    rw [qx (by simp; omega),qcz (by omega) (by omega),if_pos ⟨by omega,by simpa using hi,by simpa using hu⟩]
    have hcl:=qil N (xs:=qQ p (pO p i:Int) ((pO p i:Int)+(pL p i:Int))) (by
     rw [qaW]; simp [hp.len]; omega)
    rw [hcl]
    simp only [ql,qu]
    rw [qd (by rw [qg9]; simp; omega)]
   ·have:¬0<pO p i:=fun hh=>hu ((qjv hp ho hi).1 hh)
    rw [qd (by simp; omega),if_neg fun hh=>hu (by simpa using hh.2.2)]
  ·rw [qd (by simp; omega),if_neg fun hh=>h1 ⟨hh.1,by have:=hh.2.1; have:=hh.1; omega⟩]
 ·simp only [if_neg ho]
  rw [qd (by simp)]
theorem qmB (N:Nat) {p:List Int} (h:p.length≠256) (z:Int):qaa N (p,(z,()))=some (([],(3,())),()):=by
 simp only [qaa,qV,qjh N h,ql,qu,cond_true,qaN]
 rw [qd (by simp)]
def gF (p:List Int) (i:Nat):Option Nat:=if usd p i then none else some i
def free (p:List Int):Nat:=(qaU (gF p) (pN p)).getD (pN p)
theorem qev (p:List Int):free p≤pN p∧(∀i,i<free p→usd p i)∧(free p<pN p→¬usd p (free p)):=by
 unfold free
 cases h:qaU (gF p) (pN p) with
 |none=>
  refine ⟨Nat.le_refl _,fun i hi=> ?_,fun hh=>absurd hh (Nat.lt_irrefl _)⟩
  have:=qbF h i hi
  exact Classical.byContradiction fun hu=>by rw [gF,if_neg hu] at this; cases this
 |some j=>
  obtain ⟨i,h1,h2,h3⟩:=qhe h
  have hi:¬usd p i∧i=j:=by
   unfold gF at h2
   split at h2
   ·cases h2
   ·rename_i hu; exact ⟨hu,by injection h2⟩
  obtain ⟨hu,rfl⟩:=hi
  refine ⟨by simp; omega,fun k hk=> ?_,fun _=>hu⟩
  have:=qbF h3 k hk
  exact Classical.byContradiction fun hu=>by rw [gF,if_neg hu] at this; cases this
theorem qfS (N:Nat) (hN:1000<N) {p:List Int} (hp:qaL p) (ho:okP p):qU N (p,())=some (((free p:Int),()),()):=by
 have hn:=ho.lt hp
 simp only [qU,qV,qah hp,qhu,qbo hp,qgX hp,qnm hp,qaF]
 rw [qd (by simp)]
 refine Eq.trans (qcx (N:=N) (fun i=>((i:Int),())) (pN p) (gF p) (fun j=>some (((j:Int),()),())) (some (((pN p:Int),()),())) ?_ ?_ ?_ (by omega)) (by
  unfold free; cases qaU (gF p) (pN p) <;> rfl)
 ·rfl
 ·intro i hi _ ih
  dsimp only
  rw [qd (by rw [qag]; simp; omega),qc7 N hp (show i<127 by have:=ho.1; have:=qdF hp; omega)]
  simp only [ql,qu,cond_true,qbG]
  have hpo:=qjv hp ho hi
  by_cases hu:usd p i
  ·have h1:=hpo.2 hu
   rw [qx (by simp; omega),qbe (by omega),gF,if_pos hu]
  ·have h1:¬0<pO p i:=fun hh=>hu (hpo.1 hh)
   rw [qd (by simp; omega),gF,if_neg hu]
 ·intro _ ih
  dsimp only
  rw [qx (by rw [qag]; simp),qd (by simp)]
end
end Go.Proofs.Ytaoakfbopejfeaa
namespace Go.Proofs.Ytaoakfbopejfeaa
open Go.Vi
open Classical
noncomputable section
theorem qeI {S R:Type} {st:(S→Option R)→S→Option R} (μ:S→Nat) (I:S→Prop) (Q:Option R→Prop)
  (hs:∀ih p,I p→(∀q,I q→μ q<μ p→Q (ih q))→Q (st ih p)):∀(N:Nat) (p:S),I p→μ p<N→Q (qc8 N st p)
 |0,p,_,h=>by omega
 |N+1,p,hI,h=>by
  rw [qdj]
  exact hs _ p hI fun q hq hm=>qeI μ I Q hs N q hq (by omega)
theorem qfk {E S R:Type} {step:(S→Option R)→E→List E→S→Option R} {fin:S→Option R} {r:R} (I:List E→S→Prop) (h0:∀s,I [] s→fin s=some r)
  (hs:∀(xs:List E) (s:S) (j:Nat) (hj:j<xs.length),I xs s→∀ih:S→Option R,(∀s',I (xs.eraseIdx j) s'→ih s'=some r)→step ih xs[j] (xs.eraseIdx j) s=some r):∀(n:Nat) (xs:List E) (s:S),xs.length=n→I xs s→qj5 step fin xs s=some r
 |0,xs,s,hl,hI=>by
  obtain rfl:=List.length_eq_zero_iff.1 hl
  rw [qkX]; exact h0 s hI
 |n+1,xs,s,hl,hI=>by
  refine qlR (by intro e; rw [e] at hl; cases hl) fun j hj=>hs xs s j hj hI _ fun s' hs'=> ?_
  exact qfk I h0 hs n _ _ (by rw [List.length_eraseIdx_of_lt hj]; omega) hs'
theorem qdx {p:List Int} : {n:Nat} →∀q∈recM p n,∃j,j<n∧usd p j∧q=((j:Int),byt p j)
 |0=>by intro q hq; cases hq
 |n+1=>by
  intro q hq
  simp only [recM] at hq
  split at hq
  ·rename_i hu
   rw [qfy (fun z hz=>by
    obtain ⟨j,hj,_,rfl⟩:=qdx z hz
    intro e
    have e:(j:Int)=(n:Int):=e
    omega)] at hq
   rcases List.mem_append.1 hq with h|h
   ·obtain ⟨j,hj,a,b⟩:=qdx q h
    exact ⟨j,by omega,a,b⟩
   ·exact ⟨n,by omega,hu,List.mem_singleton.1 h⟩
  ·obtain ⟨j,hj,a,b⟩:=qdx q hq
   exact ⟨j,by omega,a,b⟩
theorem qcd {p:List Int} {n:Nat} (hu:usd p n):recM p (n+1)=recM p n++[((n:Int),byt p n)]:=by
 simp only [recM]
 rw [if_pos hu,qfy fun z hz=>by
  obtain ⟨j,hj,_,rfl⟩:=qdx z hz
  intro e
  have e:(j:Int)=(n:Int):=e
  omega]
theorem qk2 {p:List Int} :(n:Nat)→(recM p n).length≤n
 |0=>Nat.le_refl _
 |n+1=>by
  have:=qk2 (p:=p) n
  by_cases hu:usd p n
  ·rw [qcd hu]; simp; omega
  ·simp only [recM]; rw [if_neg hu]; omega
def qhr (p:List Int):Nat→Nat
 |0=>0
 |i+1=>qhr p i+(if usd p i then pL p i else 0)
theorem qjr {p:List Int} {i j:Nat} (h:i≤j):qhr p i≤qhr p j:=by
 induction j with
 |zero=>rw [show i=0 by omega]; exact Nat.le_refl _
 |succ j ih=>
  by_cases e:i=j+1
  ·rw [e]; exact Nat.le_refl _
  ·have:=ih (by omega); simp only [qhr]; omega
theorem qja {p:List Int} {i:Nat} (h:usd p i):qhr p (i+1)=qhr p i+pL p i:=by simp only [qhr]; rw [if_pos h]
theorem qju {p:List Int} {i:Nat} (h:¬usd p i):qhr p (i+1)=qhr p i:=by simp only [qhr]; rw [if_neg h]; omega
theorem qlW {S:Nat} : {m:Nat} → {l:List Nat} →l.Nodup→(∀x∈l,S≤x∧x<S+m)→l.length≤m
 |0,l,_,h=>by
  cases l with
  |nil=>exact Nat.le_refl _
  |cons a r=>have:=h a List.mem_cons_self; omega
 |m+1,l,hn,h=>by
  by_cases hm:S+m∈l
  ·have h1:=List.length_erase_of_mem hm
   have h2:=qlW (S:=S) (m:=m) (hn.erase (S+m)) fun x hx=>by
    have:=(hn.mem_erase_iff).1 hx
    have:=h x this.2
    omega
   have:0<l.length:=List.length_pos_of_mem hm
   omega
  ·have:=qlW (S:=S) (m:=m) hn fun x hx=>by
    have h1:=h x hx
    have:x≠S+m:=fun e=>hm (e ▸ hx)
    omega
   omega
theorem qkM (p:List Int):(n:Nat)→(keys p n).length=qhr p n
 |0=>rfl
 |n+1=>by
  simp only [keys,qhr,List.length_append,qkM p n]
  split <;> simp
theorem qlV {p:List Int} (ho:okP p): {n:Nat} →n≤pN p→∀x∈keys p n,pS p≤x∧x<256
 |0,_=>by intro x hx; cases hx
 |n+1,hn=>by
  intro x hx
  simp only [keys] at hx
  rcases List.mem_append.1 hx with h|h
  ·exact qlV ho (by omega) x h
  ·split at h
   ·rename_i hu
    obtain ⟨k,hk,rfl⟩:=List.mem_map.1 h
    have:=List.mem_range.1 hk
    have hs:=ho.slot (by omega:n<pN p) hu
    have h1:=hs.lo
    have h2:=hs.hi
    omega
   ·cases h
theorem qh8 {p:List Int} (ho:okP p): {n:Nat} →n≤pN p→(keys p n).Nodup
 |0,_=>List.nodup_nil
 |n+1,hn=>by
  have ih:=qh8 ho (n:=n) (by omega)
  simp only [keys]
  split
  ·rename_i hu
   have hs:=ho.slot (by omega:n<pN p) hu
   refine List.nodup_append.2 ⟨ih,?_,fun a ha b hb e=> ?_⟩
   ·refine List.Pairwise.map _ (fun a b hab=> ?_) List.nodup_range
    intro e; exact hab (by have e:pO p n+a=pO p n+b:=e; omega)
   ·subst e
    obtain ⟨k,hk,rfl⟩:=List.mem_map.1 hb
    exact hs.new k (List.mem_range.1 hk) ha
  ·rw [List.append_nil]; exact ih
theorem ql4 {p:List Int} (hp:qaL p) (ho:okP p):qhr p (pN p)+pS p≤256:=by
 have hS:=qdF hp
 have:=qlW (S:=pS p) (m:=256 - pS p) (qh8 ho (Nat.le_refl _)) fun x hx=>by
  have:=qlV ho (Nat.le_refl _) x hx
  omega
 rw [qkM] at this
 omega
theorem qfZ {p:List Int} {i k:Nat} {v:Int} (h:i<p.length):gp (p.set i v) k=if k=i then v else gp p k:=by
 unfold gp
 rw [List.getD_eq_getElem?_getD,List.getD_eq_getElem?_getD,List.getElem?_set]
 by_cases e:i=k
 ·subst e; simp [h]
 ·have e':¬k=i:=fun x=>e x.symm
  simp [e,e']
theorem qaL.set {p:List Int} (h:qaL p) {i:Nat} {v:Int} (hv:0≤v∧v<256):qaL (p.set i v):=
 ⟨by rw [List.length_set]; exact h.len,fun x hx=>by
  rcases List.mem_or_eq_of_mem_set hx with hh|rfl
  ·exact h.byte x hh
  ·exact hv⟩
def qna (p:List Int) (i:Nat) (a l:Int):List Int:=(p.set (2+2 * i) a).set (3+2 * i) l
theorem qet {p:List Int} (h:qaL p) {i:Nat} {a l:Int} (ha:0≤a∧a<256) (hl:0≤l∧l<256):qaL (qna p i a l):=(h.set ha).set hl
theorem qiL {p:List Int} (h:qaL p) {i:Nat} (hi:i<127) {a l:Int} (k:Nat):gp (qna p i a l) k=if k=3+2 * i then l else if k=2+2 * i then a else gp p k:=by
 unfold qna
 rw [qfZ (by rw [List.length_set,h.len]; omega),qfZ (by rw [h.len]; omega)]
theorem qey (N:Nat) {p:List Int} (h:qaL p) {i:Nat} (hi:i<127) {a l:Int} (ha:0≤a∧a<256) (hl:0≤l∧l<256):qF N (p,((i:Int),(a,(l,()))))=some ((),(qna p i a l,())):=by
 simp only [qF,ad2 (show i<1152921504606846976 by omega),ad3 (show i<1152921504606846976 by omega),qeG ha.1 ha.2,qeG hl.1 hl.2,qaF]
 have e:qR (qcr p ((2+2 * i:Nat):Int) a)=256:=by rw [qaA,qf,List.length_set,h.len]; rfl
 rw [e,qah h,qd (by simp; omega),qaA,qaA]
 simp only [Int.toNat_natCast]
 rfl
def cpy (p:List Int) (a:Nat) (D:List Int):List Int:=p.take a++(D++p.drop (a+D.length))
theorem qnX {p D:List Int} (h:p.length=256) {a:Nat} (ha:a+D.length≤256) (k:Nat):gp (cpy p a D) k=if a≤k∧k<a+D.length then gp D (k - a) else gp p k:=by
 unfold gp cpy
 rw [List.getD_eq_getElem?_getD,List.getD_eq_getElem?_getD,List.getD_eq_getElem?_getD]
 have hl:(p.take a).length=a:=by rw [List.length_take]; omega
 by_cases h1:k<a
 ·rw [List.getElem?_append_left (by omega),if_neg (by omega),List.getElem?_take_of_lt h1]
 ·rw [List.getElem?_append_right (by omega),hl]
  by_cases h2:k<a+D.length
  ·rw [List.getElem?_append_left (by omega),if_pos ⟨by omega,h2⟩]
  ·rw [List.getElem?_append_right (by omega),if_neg (by omega),List.getElem?_drop]
   congr 2; omega
theorem qid {p D:List Int} (h:qaL p) {a:Nat} (ha:a+D.length≤256) (hD:∀x∈D,0≤x∧x<256):qaL (cpy p a D):=by
 have:=h.len
 refine ⟨by unfold cpy; simp; omega,fun x hx=> ?_⟩
 unfold cpy at hx
 rcases List.mem_append.1 hx with hx|hx
 ·exact h.byte x (List.mem_of_mem_take hx)
 ·rcases List.mem_append.1 hx with hx|hx
  ·exact hD x hx
  ·exact h.byte x (List.mem_of_mem_drop hx)
def part (p:List Int) (o l:Nat):List Int:=(p.take (o+l)).drop o
theorem qcO {p:List Int} (h:qaL p) {o l:Nat} (hl:o+l≤256):(part p o l).length=l:=by
 have:=h.len
 simp [part]; omega
theorem qit {p:List Int} (h:qaL p) {o l k:Nat} (hk:k<l):gp (part p o l) k=gp p (o+k):=by
 unfold gp part
 rw [List.getD_eq_getElem?_getD,List.getD_eq_getElem?_getD,List.getElem?_drop,List.getElem?_take_of_lt (by omega)]
theorem qjK {p:List Int} (h:qaL p) {o l:Nat} :∀x∈part p o l,0≤x∧x<256:=fun x hx=>h.byte x (List.mem_of_mem_take (List.mem_of_mem_drop hx))
theorem qfG (p:List Int) (o l:Nat):qQ p (o:Int) ((o:Int)+(l:Int))=part p o l:=by
 rw [show (o:Int)+(l:Int)=((o+l:Nat):Int) by omega,qkU]; rfl
theorem qir {p c:List Int} (hp:qaL p) (hc:qaL c) {o a l:Nat} (h1:o+l≤256) (h2:a+l≤256) (h:∀k,k<l→gp c (a+k)=gp p (o+k)):part c a l=part p o l:=by
 refine List.ext_getElem (by rw [qcO hc h2,qcO hp h1]) fun k g1 g2=> ?_
 rw [qcO hc h2] at g1
 have e1:=qit hc (o:=a) g1
 have e2:=qit hp (o:=o) g1
 have f:∀(q:List Int) (hq:k<q.length),gp q k=q[k]:=fun q hq=>by
  unfold gp; rw [List.getD_eq_getElem?_getD,List.getElem?_eq_getElem hq]; rfl
 rw [←f _ (by rw [qcO hc h2]; exact g1),←f _ (by rw [qcO hp h1]; exact g1),e1,e2]
 exact h k g1
theorem qdL (p:List Int) (i:Nat):byt p i=qcf (part p (pO p i) (pL p i)):=by unfold byt; rw [qfG]
end
end Go.Proofs.Ytaoakfbopejfeaa
namespace Go.Proofs.Ytaoakfbopejfeaa
open Go.Vi
open Classical
noncomputable section
def qcb (p:List Int) (i:Nat):Nat:=256 - qhr p i
structure CI (p:List Int) (i:Nat) (out:List Int):Prop where
 page:qaL out
 h0:gp out 0=gp p 0
 h1:gp out 1=0
 slots:∀j,j<i→usd p j→gp out (2+2 * j)=(qcb p (j+1):Int)∧gp out (3+2 * j)=(pL p j:Int)
 zero:∀j,j<pN p→(¬usd p j∨i≤j)→gp out (2+2 * j)=0∧gp out (3+2 * j)=0
 data:∀j,j<i→usd p j→∀k,k<pL p j→gp out (qcb p (j+1)+k)=gp p (pO p j+k)
structure qjR (p c:List Int):Prop where
 page:qaL c
 num:pN c=pN p
 start:pS c=qcb p (pN p)
 used:∀j,j<pN p→usd p j→pO c j=qcb p (j+1)∧pL c j=pL p j
 free:∀j,j<pN p→¬usd p j→pO c j=0∧pL c j=0
 data:∀j,j<pN p→usd p j→∀k,k<pL p j→gp c (qcb p (j+1)+k)=gp p (pO p j+k)
theorem qgd (k:Nat):gp (List.replicate 256 0) k=0:=by
 unfold gp
 rw [List.getD_eq_getElem?_getD,List.getElem?_replicate]
 split <;> rfl
theorem zeroP:qaL (List.replicate 256 0):=⟨List.length_replicate,fun x hx=>by rw [(List.mem_replicate.1 hx).2]; decide⟩
theorem qn7 (N:Nat):qW N ()=some ((List.replicate 256 0,()),()):=by
 simp only [qW,qgS,qiy,qeE]
 rw [qd (by decide)]
 rfl
theorem CI.start {p:List Int} (hp:qaL p) (hn:pN p<128):CI p 0 ((List.replicate 256 0).set 0 (gp p 0)):=by
 have hg:∀k,gp ((List.replicate 256 (0:Int)).set 0 (gp p 0)) k=if k=0 then gp p 0 else 0:=fun k=>by
  rw [qfZ (by simp),qgd]
 refine ⟨zeroP.set (qn1 hp 0),by rw [hg,if_pos rfl],by rw [hg,if_neg (by omega)],fun j hj=>by omega,fun j _ _=>⟨by rw [hg,if_neg (by omega)],by rw [hg,if_neg (by omega)]⟩,fun j hj=>by omega⟩
theorem qbj {p:List Int} (hp:qaL p) (ho:okP p) {i:Nat} (hi:i≤pN p):pS p≤qcb p i∧qcb p i≤256∧qcb p i+qhr p i=256:=by
 have h1:=ql4 hp ho
 have h2:=qjr (p:=p) hi
 unfold qcb
 omega
theorem qfv {p:List Int} (hp:qaL p) (ho:okP p) {i:Nat} (hi:i<pN p) (hu:usd p i):qcb p (i+1)+pL p i=qcb p i:=by
 have h1:=qbj hp ho (i:=i+1) (by omega)
 have h2:=qbj hp ho (i:=i) (by omega)
 have:=qja hu
 omega
theorem qfx {p:List Int} {i j:Nat} (h:i≤j):qcb p j≤qcb p i:=by
 have:=qjr (p:=p) h
 unfold qcb
 omega
theorem CI.next {p:List Int} (hp:qaL p) (ho:okP p) {i:Nat} (hi:i<pN p) {out:List Int} (h:CI p i out) (hu:usd p i):
  CI p (i+1) (qna (cpy out (qcb p (i+1)) (part p (pO p i) (pL p i))) i (qcb p (i+1):Int) (pL p i:Int)):=by
 have hs:=ho.slot hi hu
 have he1:=qbj hp ho (i:=i+1) (by omega)
 have he:=qbj hp ho (i:=i) (by omega)
 have hU:=qfv hp ho hi hu
 have h1:=ho.1
 have hS:=qdF hp
 have hpos:=hs.pos
 have hlen:(part p (pO p i) (pL p i)).length=pL p i:=qcO hp hs.hi
 have hpg:qaL (cpy out (qcb p (i+1)) (part p (pO p i) (pL p i))):=qid h.page (by omega) (qjK hp)
 have hg:∀k,gp (qna (cpy out (qcb p (i+1)) (part p (pO p i) (pL p i))) i (qcb p (i+1):Int) (pL p i:Int)) k=if k=3+2 * i then (pL p i:Int) else if k=2+2 * i then (qcb p (i+1):Int) else if qcb p (i+1)≤k∧k<qcb p i then gp p (pO p i+(k - qcb p (i+1))) else gp out k:=fun k=>by
  rw [qiL hpg (by omega),qnX h.page.len (by omega),hlen,hU]
  by_cases hk:qcb p (i+1)≤k∧k<qcb p i
  ·rw [if_pos hk,if_pos hk,qit hp (by omega)]
  ·rw [if_neg hk,if_neg hk]
 have hmx:=hs.max
 refine ⟨qet hpg (by omega) (by omega),?_,?_,fun j hj hu'=> ?_,fun j hj hz=> ?_,fun j hj hu' k hk=> ?_⟩
 ·rw [hg,if_neg (by omega),if_neg (by omega),if_neg (by omega)]; exact h.h0
 ·rw [hg,if_neg (by omega),if_neg (by omega),if_neg (by omega)]; exact h.h1
 ·rw [hg,hg]
  by_cases e:j=i
  ·subst e
   rw [if_neg (by omega),if_pos rfl,if_pos rfl]; exact ⟨rfl,rfl⟩
  ·rw [if_neg (by omega),if_neg (by omega),if_neg (by omega),if_neg (by omega),if_neg (by omega),if_neg (by omega)]
   exact h.slots j (by omega) hu'
 ·rw [hg,hg]
  have e:j≠i:=by
   rintro rfl
   rcases hz with hz|hz
   ·exact hz hu
   ·omega
  rw [if_neg (by omega),if_neg (by omega),if_neg (by omega),if_neg (by omega),if_neg (by omega),if_neg (by omega)]
  exact h.zero j hj (by rcases hz with hz|hz; exact .inl hz; exact .inr (by omega))
 ·rw [hg]
  have hej:=qbj hp ho (i:=j+1) (by omega)
  rw [if_neg (by omega),if_neg (by omega)]
  by_cases e:j=i
  ·subst e
   rw [if_pos (by omega),show qcb p (j+1)+k - qcb p (j+1)=k by omega]
  ·have:=qfx (p:=p) (show j+1≤i by omega)
   rw [if_neg (by omega)]
   exact h.data j (by omega) hu' k hk
theorem CI.skip {p:List Int} {i:Nat} {out:List Int} (h:CI p i out) (hu:¬usd p i):CI p (i+1) out:=
 ⟨h.page,h.h0,h.h1,fun j hj hu'=>h.slots j (by
  have:j≠i:=fun e=>hu (e ▸ hu')
  omega) hu',fun j hj hz=>h.zero j hj (by
  rcases hz with hz|hz
  ·exact .inl hz
  ·exact .inr (by omega)),fun j hj hu'=>h.data j (by
  have:j≠i:=fun e=>hu (e ▸ hu')
  omega) hu'⟩
theorem CI.fin {p:List Int} (hp:qaL p) (ho:okP p) {out:List Int} (h:CI p (pN p) out):qjR p (if qcb p (pN p)<256 then out.set 1 (qcb p (pN p):Int) else out):=by
 have he:=qbj hp ho (i:=pN p) (Nat.le_refl _)
 have h1:=ho.1
 generalize hc:(if qcb p (pN p)<256 then out.set 1 (qcb p (pN p):Int) else out)=c
 have hpg:qaL c:=by
  rw [←hc]
  split
  ·exact h.page.set (by omega)
  ·exact h.page
 have hg:∀k,k≠1→gp c k=gp out k:=fun k hk=>by
  rw [←hc]
  split
  ·rw [qfZ (by rw [h.page.len]; omega),if_neg hk]
  ·rfl
 have hg1:gp c 1=if qcb p (pN p)<256 then (qcb p (pN p):Int) else 0:=by
  rw [←hc]
  split
  ·rw [qfZ (by rw [h.page.len]; omega),if_pos rfl]
  ·exact h.h1
 refine ⟨hpg,?_,?_,fun j hj hu=> ?_,fun j hj hu=> ?_,fun j hj hu k hk=> ?_⟩
 ·unfold pN; rw [hg 0 (by omega),h.h0]
 ·unfold pS
  rw [hg1]
  by_cases e:qcb p (pN p)<256
  ·rw [if_pos e,if_neg (by omega)]; simp
  ·rw [if_neg e,if_pos rfl]; omega
 ·have:=h.slots j hj hu
  unfold pO
  rw [hg _ (by omega),this.1]
  refine ⟨by simp,?_⟩
  show (gp c (3+2 * j)).toNat=_
  rw [hg _ (by omega),this.2]; simp
 ·have:=h.zero j hj (.inl hu)
  unfold pO
  rw [hg _ (by omega),this.1]
  refine ⟨rfl,?_⟩
  show (gp c (3+2 * j)).toNat=_
  rw [hg _ (by omega),this.2]; rfl
 ·have hej:=qfx (p:=p) (show j+1≤pN p by omega)
  rw [hg _ (by omega)]
  exact h.data j hj hu k hk
theorem qfH (N:Nat) (hN:1000<N) {p:List Int} (hp:qaL p) (ho:okP p):∃c,qG N (p,())=some ((c,()),())∧qjR p c:=by
 have hS:=qdF hp
 have hn:pN p<128:=ho.lt hp
 have h127:pN p≤127:=by have:=ho.1; omega
 have hb0:=qn1 hp 0
 simp only [qG,qn7,ql,qu,cond_true,qV,qhu,qbo hp,qnm hp,qah hp]
 rw [show qR (List.replicate 256 (0:Int))=256 by rw [qf,List.length_replicate]; rfl,qd (by rw [qaF]; simp),qd (by rw [qaF]; simp),qaA]
 simp only [Int.toNat_zero]
 refine qeI (μ:=fun s:(List Int)×(Int×(Int×Unit))=>pN p - s.2.2.1.toNat) (I:=fun s=>∃i:Nat,i≤pN p∧s.2.2.1=(i:Int)∧s.2.1=(qcb p i:Int)∧CI p i s.1)
  (Q:=fun r=>∃c,r=some ((c,()),())∧qjR p c) ?_ N _ ⟨0,by omega,rfl,rfl,?_⟩ (by simp; omega)
 ·rintro ih ⟨out,e,z,⟨⟩⟩ ⟨i,hi,rfl,rfl,hI⟩ hih
  simp only [Int.toNat_natCast] at hih⊢
  rw [qgX hp]
  by_cases hlt:i<pN p
  ·rw [qd (by rw [qag]; simp; omega),qc7 N hp (show i<127 by omega)]
   simp only [ql,qu,cond_true,qfG]
   have hpo:=qjv hp ho hlt
   rw [qag,qbe (show i<4611686018427387904 by omega)]
   by_cases hu:usd p i
   ·have hs:=ho.slot hlt hu
    have h1:=hpo.2 hu
    have hU:=qfv hp ho hlt hu
    have he1:=qbj hp ho (i:=i+1) (by omega)
    have he:=qbj hp ho (i:=i) (by omega)
    have hmx:=hs.max
    have hhi:=hs.hi
    have hpos:=hs.pos
    have hlen:(part p (pO p i) (pL p i)).length=pL p i:=qcO hp hs.hi
    have d:decide ((0:Int)<(pO p i:Int))=true:=by simp; omega
    have e1:qcQ .i64 (qcb p i:Int) (pL p i:Int)=(qcb p (i+1):Int):=by rw [qcJ (by omega) (by omega)]; omega
    rw [d,e1]
    simp only [cond_true,qah hI.page]
    have hpl:qR (part p (pO p i) (pL p i))=(pL p i:Int):=by rw [qf,hlen]
    have hsl:qcD (qQ out 0 (qcb p (i+1):Int)) (qcD (part p (pO p i) (pL p i)) (qQ out (qaX .i64 (qcb p (i+1):Int) (pL p i:Int)) 256))=cpy out (qcb p (i+1)) (part p (pO p i) (pL p i)):=by
     rw [qk4,qcz (by omega) (by omega),show ((qcb p (i+1):Int)+(pL p i:Int))=((qcb p (i+1)+pL p i:Nat):Int) by omega,show (256:Int)=qR out by rw [qah hI.page],qh2,qa1,qa1]
     unfold cpy
     rw [hlen]
    rw [qcz (x:=(pO p i:Int)) (y:=(pL p i:Int)) (by omega) (by omega),qfG,hpl,hsl]
    have hpg:qaL (cpy out (qcb p (i+1)) (part p (pO p i) (pL p i))):=qid hI.page (by omega) (qjK hp)
    have hset:=qey N hpg (show i<127 by omega) (a:=(qcb p (i+1):Int)) (l:=(pL p i:Int)) (by have:=ho.1; omega) (by omega)
    rw [hset]
    simp only [ql,qu]
    rw [qcJ (by omega) (by omega),qd (by rw [qg9,qg9,qgS]; simp; omega)]
    exact hih _ ⟨i+1,by omega,rfl,rfl,hI.next hp ho hlt hu⟩ (by simp only [Int.toNat_natCast]; omega)
   ·have h1:¬0<pO p i:=fun hh=>hu (hpo.1 hh)
    have d:decide ((0:Int)<(pO p i:Int))=false:=by simp; omega
    rw [d]
    simp only [cond_true,cond_false]
    refine hih _ ⟨i+1,by omega,rfl,?_,hI.skip hu⟩ (by simp only [Int.toNat_natCast]; omega)
    show (qcb p i:Int)=(qcb p (i+1):Int)
    unfold qcb
    rw [qju hu]
  ·obtain rfl:i=pN p:=by omega
   have he:=qbj hp ho (i:=pN p) (Nat.le_refl _)
   rw [qx (by rw [qag]; simp),qag,qah hI.page]
   refine ⟨_,?_,hI.fin hp ho⟩
   by_cases e:qcb p (pN p)<256
   ·have d:decide ((qcb p (pN p):Int)<256)=true:=by simp; omega
    rw [d,if_pos e]
    simp only [cond_true]
    rw [qd (by rw [qaF]; simp),qeG (by omega) (by omega),qaA]
    rfl
   ·have d:decide ((qcb p (pN p):Int)<256)=false:=by simp; omega
    rw [d,if_neg e]
    rfl
 ·exact CI.start hp hn
end
end Go.Proofs.Ytaoakfbopejfeaa
namespace Go.Proofs.Ytaoakfbopejfeaa
open Go.Vi
open Classical
noncomputable section
theorem qjR.usd {p c:List Int} (hp:qaL p) (ho:okP p) (h:qjR p c) {j:Nat} (hj:j<pN p):usd c j↔usd p j:=by
 constructor
 ·intro hu
  exact Classical.byContradiction fun hn=>hu (h.free j hj hn)
 ·intro hu hz
  have:=(h.used j hj hu).2
  have:=(ho.slot hj hu).pos
  omega
theorem qjR.keys {p c:List Int} (hp:qaL p) (ho:okP p) (h:qjR p c): {n:Nat} →n≤pN p→∀x∈keys c n,qcb p n≤x
 |0,_=>by intro x hx; cases hx
 |n+1,hn=>by
  intro x hx
  simp only [Ytaoakfbopejfeaa.keys] at hx
  have hm:=qfx (p:=p) (show n≤n+1 by omega)
  rcases List.mem_append.1 hx with hh|hh
  ·have:=qjR.keys hp ho h (n:=n) (by omega) x hh
   omega
  ·split at hh
   ·rename_i hu
    have hu':=(h.usd hp ho (show n<pN p by omega)).1 hu
    obtain ⟨k,hk,rfl⟩:=List.mem_map.1 hh
    rw [(h.used n (by omega) hu').1]
    omega
   ·cases hh
theorem qjR.ok {p c:List Int} (hp:qaL p) (ho:okP p) (h:qjR p c):okP c:=by
 have hN:=qbj hp ho (i:=pN p) (Nat.le_refl _)
 have hS:=qdF hp
 refine ⟨by rw [h.num,h.start]; have:=ho.1; omega,fun hn hz=> ?_,fun i hi hb=> ?_⟩
 ·rw [h.num] at hn hz
  have hu:Ytaoakfbopejfeaa.usd p (pN p - 1):=(qjv hp ho (by omega)).1 (by have:=ho.2.1 hn; omega)
  have h1:=(h.used _ (by omega) hu).1
  have h2:=qbj hp ho (i:=pN p - 1+1) (by omega)
  omega
 ·rw [h.num] at hi
  obtain ⟨hu,hb⟩:=hb
  have hu':=(h.usd hp ho hi).1 hu
  have hs:=ho.slot hi hu'
  obtain ⟨h1,h2⟩:=h.used i hi hu'
  have hU:=qfv hp ho hi hu'
  have he:=qbj hp ho (i:=i) (by omega)
  have hm:=qfx (p:=p) (show i+1≤pN p by omega)
  have hpos:=hs.pos
  have hmx:=hs.max
  rw [h1,h2,h.start] at hb
  rcases hb with a|a|a|a|⟨k,hk,a⟩
  ·omega
  ·omega
  ·omega
  ·omega
  ·have:=h.keys hp ho (n:=i) (by omega) _ a
   omega
theorem qjR.byt {p c:List Int} (hp:qaL p) (ho:okP p) (h:qjR p c) {j:Nat} (hj:j<pN p) (hu:Ytaoakfbopejfeaa.usd p j):byt c j=byt p j:=by
 obtain ⟨h1,h2⟩:=h.used j hj hu
 have hU:=qfv hp ho hj hu
 have he:=qbj hp ho (i:=j) (by omega)
 rw [qdL,qdL,h1,h2,qir hp h.page (ho.slot hj hu).hi (by omega) (h.data j hj hu)]
theorem qjR.recM {p c:List Int} (hp:qaL p) (ho:okP p) (h:qjR p c):(n:Nat)→n≤pN p→recM c n=recM p n
 |0,_=>rfl
 |n+1,hn=>by
  have ih:=qjR.recM hp ho h n (by omega)
  simp only [Ytaoakfbopejfeaa.recM]
  by_cases hu:Ytaoakfbopejfeaa.usd p n
  ·rw [if_pos hu,if_pos ((h.usd hp ho (by omega)).2 hu),ih,h.byt hp ho (by omega) hu]
  ·rw [if_neg hu,if_neg fun hh=>hu ((h.usd hp ho (by omega)).1 hh),ih]
def qf5 (p:List Int):Int:=max 0 (min 100 ((256 - (2+2 * max (pN p) (free p+1)+qhr p (pN p)):Int)))
theorem qgm (x y:Nat):qlv (x:Int) (y:Int)=((max x y:Nat):Int):=by
 rw [qfj]; split <;> omega
theorem qmb (x:Int):qlv 0 (qn9 100 x)=max 0 (min 100 x):=by
 rw [qfj,qij]
 split <;> split <;> omega
theorem qko (N:Nat) (hN:1000<N) {p:List Int} (hp:qaL p) (ho:okP p):qar N (p,())=some ((qf5 p,()),()):=by
 obtain ⟨c,h1,h2⟩:=qfH N hN hp ho
 have hf:=(qev p).1
 have hn:=ho.lt hp
 have he:=qbj hp ho (i:=pN p) (Nat.le_refl _)
 simp only [qar,qV,qfS N hN hp ho,h1,ql,qu,cond_true,qah hp,qhu,qbo hp,qgX hp,qnm hp,qbM N h2.page,h2.start]
 rw [qd (by rw [qaF]; simp),qbe (by omega),qgm,qcJ (x:=(qcb p (pN p):Int)) (by omega) (by omega),qff (by omega) (by omega),qcJ (by omega) (by omega),qmb]
 simp only [Bool.and_self,cond_true]
 unfold qf5
 congr 4
 omega
def qla (m:List (Int×List UInt8)):Nat:=(m.map fun q=>q.2.length).sum
theorem qfC:(m:List (Int×List UInt8))→(j:Nat)→(hj:j<m.length)→qla m=m[j].2.length+qla (m.eraseIdx j)
 |a::r,0,_=>by simp [qla]
 |a::r,j+1,hj=>by
  have:=qfC r j (by simpa using hj)
  simp only [qla,List.map_cons,List.sum_cons,List.eraseIdx_cons_succ,List.getElem_cons_succ] at this⊢
  omega
theorem qgP {p:List Int} (hp:qaL p) (ho:okP p):(n:Nat)→n≤pN p→qla (recM p n)=qhr p n
 |0,_=>rfl
 |n+1,hn=>by
  have ih:=qgP hp ho n (by omega)
  by_cases hu:usd p n
  ·rw [qcd hu,qja hu,←ih]
   have:=qm4 hp (ho.slot (show n<pN p by omega) hu).hi
   simp [qla,this]
  ·simp only [recM]
   rw [if_neg hu,qju hu,ih]
theorem qd9 (x y:List UInt8):eqS x y=decide (x=y):=by rw [qiN]; by_cases h:x=y <;> simp [h]
theorem qjp {a b:List (Int×List UInt8)} (h:a.Perm b):qla a=qla b:=(h.map _).sum_nat
theorem qbX {p:List Int} :(n:Nat)→((recM p n).map (·.1)).Nodup
 |0=>List.nodup_nil
 |n+1=>by
  simp only [recM]
  split
  ·exact qhd (qbX n) _ _
  ·exact qbX n
theorem qdg {p:List Int} {n:Nat} {m:List (Int×List UInt8)} (h:m.Perm (recM p n)) (z:Int):qcY m z []=qcY (recM p n) z []:=qjf h (qbX n) z []
theorem qgZ (N:Nat) (hN:1000<N) {p:List Int} (hp:qaL p) (ho:okP p) {m:List (Int×List UInt8)} (hm:m.Perm (recM p (pN p))):qab N (m,((pN p:Int),()))=some ((qf5 p,()),()):=by
 have hn:=ho.lt hp
 obtain ⟨hf1,hf2,hf3⟩:=qev p
 have he:=qbj hp ho (i:=pN p) (Nat.le_refl _)
 simp only [qab,qV]
 refine qjU (fun i=>((i:Int),())) (free p) _ rfl ?_ ?_ (by omega)
 ·intro i hi ih
  dsimp only
  rw [qd9,qdg hm]
  have:qcY (recM p (pN p)) (i:Int) []≠[]:=by
   rw [Ne,qfF hp ho]
   exact fun hh=>hh ⟨by omega,by simp; omega,by simpa using hf2 i hi⟩
  rw [qd (by simpa using this),qbe (by omega)]
 ·intro ih
  dsimp only
  rw [qd9,qdg hm]
  have:qcY (recM p (pN p)) (free p:Int) []=[]:=by
   rw [qfF hp ho]
   intro hh
   have h1:free p<pN p:=by simpa using hh.2.1
   exact hf3 h1 (by simpa using hh.2.2)
  rw [qx (by simpa using this),qbe (by omega),qgm,qff (by omega) (by omega),qcz (by omega) (by omega)]
  refine qfk (fun xs s=>s.1+(qla xs:Int)=2+2 * ((max (pN p) (free p+1):Nat):Int)+(qhr p (pN p):Int)∧0≤s.1∧s.1≤100000) ?_ ?_ _ _ _ rfl ?_
  ·rintro ⟨s,⟨⟩⟩ ⟨h1,h2,h3⟩
   have h1:s+((qla []:Nat):Int)=_:=h1
   have h0:qla []=0:=rfl
   rw [h0] at h1
   dsimp only at h2 h3⊢
   rw [qcJ (by omega) (by omega),qmb]
   unfold qf5
   congr 4
   omega
  ·rintro xs ⟨s,⟨⟩⟩ j hj ⟨h1,h2,h3⟩ ih hih
   have hle:=qfC xs j hj
   dsimp only at h1 h2 h3⊢
   rw [qf]
   have h4:s+(xs[j].2.length:Int)≤100000:=by omega
   rw [qcz (by omega) (by omega)]
   exact hih _ ⟨by dsimp only; omega,by dsimp only; omega,h4⟩
  ·refine ⟨?_,by dsimp only; omega,by dsimp only; omega⟩
   rw [qjp hm,qgP hp ho _ (Nat.le_refl _)]
theorem qmi {p:List Int} (n:Nat):∀q∈recM p n,qcY (recM p n) q.1 []=q.2:=fun q hq=>by
 obtain ⟨j,hj,hu,rfl⟩:=qdx q hq
 rw [qiZ,if_pos ⟨by simp,by simpa using hj,by simpa using hu⟩]
 simp
theorem qhg (N:Nat) (hN:1000<N) {c:List Int} (hc:qaL c) (ho:okP c) {m:List (Int×List UInt8)} (hm:m.Perm (recM c (pN c))):
  qy N (c,(m,()))=some ((true,()),()):=by
 have hn:=ho.lt hc
 have hrl:=qk2 (p:=c) (pN c)
 have hml:=hm.length_eq
 have hcl:=(qbl (recM c (pN c))).length_eq
 simp only [qy,qV,qh9 N hN hc,if_pos ho,ql,qu,cond_true,qgS,qaN,qf]
 rw [qd (by simp; omega),qx (by simp; omega)]
 refine qfk (fun xs _=>∀q∈xs,qcY (recM c (pN c)) q.1 []=q.2) (fun _ _=>rfl) ?_ _ _ _ rfl (fun q hq=>qmi _ q (hm.mem_iff.1 hq))
 intro xs s j hj hI ih hih
 rw [qd9,qdg (qbl _),hI _ (List.getElem_mem hj),qx (by simp)]
 exact hih _ fun q hq=>hI q (List.mem_of_mem_eraseIdx hq)
theorem okZ:okP (List.replicate 256 0):=by
 have hn:pN (List.replicate 256 0)=0:=by unfold pN; rw [qgd]; rfl
 have hs:pS (List.replicate 256 0)=256:=by unfold pS; rw [qgd,if_pos rfl]
 exact ⟨by rw [hn,hs]; omega,fun h=>by omega,fun i hi=>by omega⟩
theorem pageOf {p:List Int} (hb:∀x∈p,0≤x∧x<256) (h:p.length=256):qaL p:=⟨h,hb⟩
theorem qnW {xs:List Int} (h:(Ty.slice (.int .u8)).good xs):∀x∈xs,0≤x∧x<256:=fun x hx=>by
 have:=h.2 x hx
 simp [Ty.good,IntKind.has,IntKind.min,IntKind.max,IntKind.signed,IntKind.bits] at this
 omega
theorem intOf {x:Int} (h:(Ty.int .i64).good x): -9223372036854775808≤x∧x<9223372036854775808:=by
 simp [Ty.good,IntKind.has,IntKind.min,IntKind.max,IntKind.signed,IntKind.bits] at h
 omega
end
end Go.Proofs.Ytaoakfbopejfeaa
namespace Go.Proofs.Ytaoakfbopejfeaa
open Go.Vi
open Classical
noncomputable section
structure Good (p:List Int):Prop where
 head:2+2 * pN p≤pS p
 last:0<pN p→usd p (pN p - 1)
 slot:∀i,i<pN p→usd p i→1≤pL p i∧pL p i≤100∧pS p≤pO p i∧pO p i+pL p i≤256
 dis:∀i j,i<j→j<pN p→usd p i→usd p j→pO p i+pL p i≤pO p j∨pO p j+pL p j≤pO p i
theorem qge {p:List Int} {x:Nat} : {n:Nat} →(x∈keys p n↔∃j,j<n∧usd p j∧pO p j≤x∧x<pO p j+pL p j)
 |0=>by simp [keys]
 |n+1=>by
  have ih:=qge (p:=p) (x:=x) (n:=n)
  simp only [keys,List.mem_append,ih]
  constructor
  ·rintro (⟨j,h1,h2⟩|h)
   ·exact ⟨j,by omega,h2⟩
   ·split at h
    ·rename_i hu
     obtain ⟨k,hk,rfl⟩:=List.mem_map.1 h
     have:=List.mem_range.1 hk
     exact ⟨n,by omega,hu,by omega,by omega⟩
    ·cases h
  ·rintro ⟨j,h1,h2,h3,h4⟩
   by_cases e:j=n
   ·subst e
    right
    rw [if_pos h2]
    exact List.mem_map.2 ⟨x - pO p j,List.mem_range.2 (by omega),by omega⟩
   ·exact .inl ⟨j,by omega,h2,h3,h4⟩
theorem okP.good {p:List Int} (ho:okP p):Good p:=by
 refine ⟨ho.1,fun hn hz=>ho.2.1 hn hz.1,fun i hi hu=> ?_,fun i j hij hj hu hv=> ?_⟩
 ·have:=ho.slot hi hu
  exact ⟨this.pos,this.max,this.lo,this.hi⟩
 ·have h1:=ho.slot (show i<pN p by omega) hu
  have h2:=ho.slot hj hv
  have p1:=h1.pos
  have p2:=h2.pos
  refine Classical.byContradiction fun hh=> ?_
  by_cases hc:pO p i≤pO p j
  ·refine h2.new 0 (by omega) (qge.2 ⟨i,hij,hu,by omega,by omega⟩)
  ·refine h2.new (pO p i - pO p j) (by omega) (qge.2 ⟨i,hij,hu,by omega,by omega⟩)
theorem Good.ok {p:List Int} (hp:qaL p) (h:Good p):okP p:=by
 have hS:=qdF hp
 refine ⟨h.head,fun hn hz=> ?_,fun i hi hb=> ?_⟩
 ·have:=h.slot _ (show pN p - 1<pN p by omega) (h.last hn)
  omega
 ·obtain ⟨hu,hb⟩:=hb
  have h1:=h.slot i hi hu
  rcases hb with hb|hb|hb|hb|⟨k,hk,hm⟩
  ·omega
  ·omega
  ·omega
  ·omega
  ·obtain ⟨j,h2,h3,h4,h5⟩:=qge.1 hm
   have:=h.dis j i h2 hi h3 hu
   omega
theorem qnY {p q:List Int} {j:Nat} (h1:gp q (2+2 * j)=gp p (2+2 * j)) (h2:gp q (3+2 * j)=gp p (3+2 * j)):pO q j=pO p j∧pL q j=pL p j:=by
 unfold pO pL; rw [h1,h2]; exact ⟨rfl,rfl⟩
theorem qjS {p q:List Int} {j:Nat} (h1:pO q j=pO p j) (h2:pL q j=pL p j):usd q j↔usd p j:=by unfold usd; rw [h1,h2]
theorem qop {q:List Int} {j:Nat} (h1:gp q (2+2 * j)=0):pO q j=0:=by unfold pO; rw [h1]; rfl
theorem qor {q:List Int} {j:Nat} (h1:gp q (3+2 * j)=0):pL q j=0:=by unfold pL; rw [h1]; rfl
theorem qmQ {q:List Int} {j:Nat} (h1:gp q (2+2 * j)=0) (h2:gp q (3+2 * j)=0):¬usd q j:=fun h=>h ⟨qop h1,qor h2⟩
theorem qjs {q:List Int} {n:Nat} : {m:Nat} →n≤m→(∀j,n≤j→j<m→¬usd q j)→recM q m=recM q n
 |0,h,_=>by rw [show n=0 by omega]
 |m+1,h,hu=>by
  by_cases e:n=m+1
  ·rw [e]
  ·have ih:=qjs (q:=q) (n:=n) (m:=m) (by omega) fun j h1 h2=>hu j h1 (by omega)
   simp only [recM]
   rw [if_neg (hu m (by omega) (by omega)),ih]
structure Rem (p:List Int) (i n:Nat) (q:List Int):Prop where
 page:qaL q
 get:∀k,gp q k=if k=0 then (n:Int) else if k=2+2 * i∨k=3+2 * i then 0 else gp p k
theorem Rem.num {p q:List Int} {i n:Nat} (h:Rem p i n q):pN q=n:=by unfold pN; rw [h.get,if_pos rfl]; simp
theorem Rem.start {p q:List Int} {i n:Nat} (h:Rem p i n q):pS q=pS p:=by
 have e:gp q 1=gp p 1:=by
  rw [h.get,if_neg (by omega),if_neg (by omega)]
 unfold pS; rw [e]
theorem Rem.at {p q:List Int} {i n:Nat} (h:Rem p i n q) {j:Nat} (hj:j≠i):pO q j=pO p j∧pL q j=pL p j:=
 qnY (by rw [h.get,if_neg (by omega),if_neg (by omega)]) (by rw [h.get,if_neg (by omega),if_neg (by omega)])
theorem Rem.off {p q:List Int} {i n:Nat} (h:Rem p i n q):¬usd q i:=
 qmQ (by rw [h.get,if_neg (by omega),if_pos (.inl rfl)]) (by rw [h.get,if_neg (by omega),if_pos (.inr rfl)])
theorem Rem.usd {p q:List Int} {i n:Nat} (h:Rem p i n q) (j:Nat):usd q j↔usd p j∧j≠i:=by
 by_cases e:j=i
 ·subst e
  exact ⟨fun hu=>absurd hu h.off,fun hh=>absurd rfl hh.2⟩
 ·rw [qjS (h.at e).1 (h.at e).2]
  exact ⟨fun hu=>⟨hu,e⟩,fun hh=>hh.1⟩
theorem Rem.byt {p q:List Int} {i n:Nat} (hp:qaL p) (ho:okP p) (hi:i<pN p) (h:Rem p i n q) {j:Nat} (hj:j<pN p) (hu:Ytaoakfbopejfeaa.usd p j) (e:j≠i):byt q j=byt p j:=by
 have hs:=ho.good.slot j hj hu
 have hh:=ho.1
 rw [qdL,qdL,(h.at e).1,(h.at e).2]
 congr 1
 exact qir hp h.page hs.2.2.2 hs.2.2.2 fun k hk=>by rw [h.get,if_neg (by omega),if_neg (by omega)]
theorem Rem.recs {p q:List Int} {i n:Nat} (hp:qaL p) (ho:okP p) (hi:i<pN p) (h:Rem p i n q):(m:Nat)→m≤pN p→recM q m=(recM p m).filter fun z=>decide (z.1≠(i:Int))
 |0,_=>rfl
 |m+1,hm=>by
  have ih:=Rem.recs hp ho hi h m (by omega)
  by_cases hu:Ytaoakfbopejfeaa.usd p m
  ·rw [qcd hu,List.filter_append,←ih]
   by_cases e:m=i
   ·subst e
    simp only [recM]
    rw [if_neg h.off]
    simp
   ·have hq:=(h.usd m).2 ⟨hu,e⟩
    rw [qcd hq,h.byt hp ho hi (by omega) hu e,List.filter_cons_of_pos (by simp; omega),List.filter_nil]
  ·have hq:¬Ytaoakfbopejfeaa.usd q m:=fun hh=>hu ((h.usd m).1 hh).1
   simp only [recM]
   rw [if_neg hu,if_neg hq,ih]
structure qou (p:List Int) (i n:Nat):Prop where
 le:n≤pN p
 rest:∀j,n≤j→j<pN p→usd p j→j=i
 last:0<n→n - 1≠i∧usd p (n - 1)
theorem Rem.ok {p q:List Int} {i n:Nat} (ho:okP p) (h:Rem p i n q) (t:qou p i n):okP q:=by
 have g:=ho.good
 have hle:=t.le
 have hd:=g.head
 refine Good.ok h.page ⟨by rw [h.num,h.start]; omega,fun hn=> ?_,fun j hj hu=> ?_,fun a b hab hb ha hb'=> ?_⟩
 ·rw [h.num] at hn⊢
  have:=t.last hn
  exact (h.usd _).2 ⟨this.2,this.1⟩
 ·rw [h.num] at hj
  obtain ⟨h1,h2⟩:=(h.usd j).1 hu
  rw [(h.at h2).1,(h.at h2).2,h.start]
  exact g.slot j (by omega) h1
 ·rw [h.num] at hb
  obtain ⟨h1,h2⟩:=(h.usd a).1 ha
  obtain ⟨h3,h4⟩:=(h.usd b).1 hb'
  rw [(h.at h2).1,(h.at h2).2,(h.at h4).1,(h.at h4).2]
  exact g.dis a b hab (by omega) h1 h3
theorem Rem.all {p q:List Int} {i n:Nat} (hp:qaL p) (ho:okP p) (hi:i<pN p) (h:Rem p i n q) (t:qou p i n):recM q (pN q)=(recM p (pN p)).filter fun z=>decide (z.1≠(i:Int)):=by
 rw [←h.recs hp ho hi (pN p) (Nat.le_refl _),h.num]
 refine (qjs t.le fun j h1 h2 hu=> ?_).symm
 obtain ⟨h3,h4⟩:=(h.usd j).1 hu
 exact h4 (t.rest j h1 h2 h3)
theorem qi6 (N:Nat) (hN:1000<N) {p:List Int} (hp:qaL p) (ho:okP p) {i:Nat} (hi:i<pN p):
  ∃q n,qX N (p,((i:Int),()))=some ((q,()),())∧Rem p i n q∧qou p i n:=by
 have hS:=qdF hp
 have hh:=ho.1
 have hset:=qey N hp (show i<127 by omega) (a:=0) (l:=0) (by omega) (by omega)
 have hcl:=qil N (xs:=p) (by rw [hp.len]; omega)
 simp only [qX,qV,hcl,ql,qu,cond_true,hset]
 have hpos:=hp.len
 refine qeI (μ:=fun s:(List Int)×Unit=>pN s.1) (I:=fun s=>∃n,n≤pN p∧Rem p i n s.1∧∀j,n≤j→j<pN p→usd p j→j=i)
  (Q:=fun r=>∃q n,r=some ((q,()),())∧Rem p i n q∧qou p i n) ?_ N _ ⟨pN p,Nat.le_refl _,⟨qet hp (by omega) (by omega),fun k=> ?_⟩,fun j h1 h2=>by omega⟩ ?_
 ·rintro ih ⟨s,⟨⟩⟩ ⟨n,hn,hR,hT⟩ hih
  have hsp:=hR.page
  have e0:gp s 0=(n:Int):=by rw [hR.get,if_pos rfl]
  dsimp only
  rw [qah hsp,qd (by rw [qaF]; simp),qhu,e0]
  by_cases h0:0<n
  ·have ew:qaw .i64 (n:Int)=(n:Int):=qgJ (by omega) (by omega)
   have es:qcQ .i64 (n:Int) 1=((n - 1:Nat):Int):=by rw [qcJ (by omega) (by omega)]; omega
   rw [qd (by rw [qag]; simp; omega),ew,es,qc7 N hsp (show n - 1<127 by omega)]
   simp only [ql,qu,Bool.and_true]
   rw [qd (by rw [qaF]; simp),qag]
   by_cases hu:usd p (n - 1)∧n - 1≠i
   ·have:=ho.good.slot (n - 1) (by omega) hu.1
    rw [(hR.at hu.2).1,qd (by simp; omega)]
    exact ⟨s,n,rfl,hR,hn,hT,fun _=>⟨hu.2,hu.1⟩⟩
   ·have hz:pO s (n - 1)=0:=(Classical.not_not.1 fun hc=>hu ((hR.usd _).1 hc)).1
    have e8:qcQ .u8 (n:Int) 1=((n - 1:Nat):Int):=by
     rw [qew,show (n:Int) - 1=((n - 1:Nat):Int) by omega,←qen,qeG (by omega) (by omega)]
    rw [hz,qx (by simp),qd (by rw [qaF]; simp),e8,qaA]
    have hg:∀k,gp (s.set 0 ((n - 1:Nat):Int)) k=if k=0 then ((n - 1:Nat):Int) else gp s k:=fun k=>qfZ (by rw [hsp.len]; omega)
    refine hih _ ⟨n - 1,by omega,⟨hsp.set (by omega),fun k=> ?_⟩,fun j h1 h2 h3=> ?_⟩ ?_
    ·show gp (s.set 0 _) k=_
     rw [hg]
     by_cases hk:k=0
     ·rw [if_pos hk,if_pos hk]
     ·rw [if_neg hk,if_neg hk,hR.get,if_neg hk]
    ·by_cases e:j=n - 1
     ·subst e
      exact Classical.byContradiction fun hc=>hu ⟨h3,hc⟩
     ·exact hT j (by omega) h2 h3
    ·show pN (s.set 0 _)<pN s
     rw [hR.num]
     unfold pN
     rw [hg,if_pos rfl]
     simp; omega
  ·rw [qx (by rw [qag]; simp; omega)]
   exact ⟨s,n,rfl,hR,hn,hT,fun h=>absurd h h0⟩
 ·show gp (qna p i 0 0) k=_
  rw [qiL hp (by omega)]
  by_cases hk:k=0
  ·subst hk
   rw [if_neg (by omega),if_neg (by omega),if_pos rfl,qgX hp]
  ·rw [if_neg hk]
   by_cases h3:k=3+2 * i
   ·rw [if_pos h3,if_pos (.inr h3)]
   ·by_cases h2:k=2+2 * i
    ·rw [if_neg h3,if_pos h2,if_pos (.inl h2)]
    ·rw [if_neg h3,if_neg h2,if_neg (by omega)]
 ·have:pN (qna p i 0 0)<256:=qmn (qet hp (by omega) (by omega))
  show pN (qna p i 0 0)<N
  omega
end
end Go.Proofs.Ytaoakfbopejfeaa
namespace Go.Proofs.Ytaoakfbopejfeaa
open Go.Vi
open Classical
noncomputable section
structure qnj (p o:List Int):Prop where
 page:qaL o
 ok:okP o
 num:pN o=pN p
 usd:∀j,j<pN p→(usd o j↔usd p j)
 byt:∀j,j<pN p→Ytaoakfbopejfeaa.usd p j→byt o j=byt p j
theorem qnj.self {p:List Int} (hp:qaL p) (ho:okP p):qnj p p:=⟨hp,ho,rfl,fun _ _=>Iff.rfl,fun _ _ _=>rfl⟩
theorem qjR.base {p c:List Int} (hp:qaL p) (ho:okP p) (h:qjR p c):qnj p c:=
 ⟨h.page,h.ok hp ho,h.num,fun _ hj=>h.usd hp ho hj,fun _ hj hu=>h.byt hp ho hj hu⟩
theorem qnj.recM {p o:List Int} (h:qnj p o):(n:Nat)→n≤pN p→recM o n=recM p n
 |0,_=>rfl
 |n+1,hn=>by
  have ih:=qnj.recM h n (by omega)
  simp only [Ytaoakfbopejfeaa.recM]
  by_cases hu:Ytaoakfbopejfeaa.usd p n
  ·rw [if_pos hu,if_pos ((h.usd n (by omega)).2 hu),ih,h.byt n (by omega) hu]
  ·rw [if_neg hu,if_neg fun hh=>hu ((h.usd n (by omega)).1 hh),ih]
structure Plc (p:List Int) (i:Nat) (r c:List Int):Prop where
 page:qaL c
 ok:okP c
 recs:(recM c (pN c)).Perm (recM p (pN p)++[((i:Int),qcf r)])
structure Wr (o:List Int) (i sl f:Nat) (r c:List Int):Prop where
 page:qaL c
 get:∀k,gp c k=if k=0 then (sl:Int) else if k=1 then (f:Int) else if k=2+2 * i then (f:Int) else if k=3+2 * i then (r.length:Int) else if f≤k∧k<f+r.length then gp r (k - f) else if 2+2 * pN o≤k∧k<2+2 * i then 0 else gp o k
theorem Wr.plc {p o:List Int} {i:Nat} {r c:List Int} (hb:qnj p o) (hfree:i<pN p→¬usd p i) (hr:1≤r.length∧r.length≤100) (hby:∀x∈r,0≤x∧x<256)
  (hfit:2+2 * max (pN p) (i+1)+r.length≤pS o) (h:Wr o i (max (pN p) (i+1)) (pS o - r.length) r c):Plc p i r c:=by
 have hS:=qdF hb.page
 have g:=hb.ok.good
 have hnum:=hb.num
 generalize hsl:max (pN p) (i+1)=sl at hfit h
 have hs1:pN p≤sl:=by omega
 have hs2:i+1≤sl:=by omega
 generalize hf:pS o - r.length=f at h
 have hcN:pN c=sl:=by unfold pN; rw [h.get,if_pos rfl]; simp
 have hcS:pS c=f:=by
  have e:gp c 1=(f:Int):=by rw [h.get,if_neg (by omega),if_pos rfl]
  unfold pS
  rw [e,if_neg (by omega)]; simp
 have hOi:pO c i=f:=by unfold pO; rw [h.get,if_neg (by omega),if_neg (by omega),if_pos rfl]; simp
 have hLi:pL c i=r.length:=by unfold pL; rw [h.get,if_neg (by omega),if_neg (by omega),if_neg (by omega),if_pos rfl]; simp
 have hui:usd c i:=fun hz=>by omega
 have hold:∀j,j<pN p→j≠i→pO c j=pO o j∧pL c j=pL o j:=fun j hj e=>by
  refine qnY ?_ ?_
  ·rw [h.get,if_neg (by omega),if_neg (by omega),if_neg (by omega),if_neg (by omega),if_neg (by omega),if_neg (by omega)]
  ·rw [h.get,if_neg (by omega),if_neg (by omega),if_neg (by omega),if_neg (by omega),if_neg (by omega),if_neg (by omega)]
 have hmid:∀j,pN p≤j→j<i→¬usd c j:=fun j h1 h2=>by
  refine qmQ ?_ ?_
  ·rw [h.get,if_neg (by omega),if_neg (by omega),if_neg (by omega),if_neg (by omega),if_neg (by omega),if_pos (by omega)]
  ·rw [h.get,if_neg (by omega),if_neg (by omega),if_neg (by omega),if_neg (by omega),if_neg (by omega),if_pos (by omega)]
 have hcases:∀j,j<sl→usd c j→j=i∨(j<pN p∧j≠i∧usd o j):=fun j hj hu=>by
  by_cases e:j=i
  ·exact .inl e
  ·by_cases hjp:j<pN p
   ·exact .inr ⟨hjp,e,(qjS (hold j hjp e).1 (hold j hjp e).2).1 hu⟩
   ·exact absurd hu (hmid j (by omega) (by omega))
 have hgood:Good c:=by
  refine ⟨by rw [hcN,hcS]; omega,fun hn=> ?_,fun j hj hu=> ?_,fun a b hab hb1 ha hb2=> ?_⟩
  ·rw [hcN]
   by_cases e:sl=i+1
   ·rw [show sl - 1=i by omega]; exact hui
   ·have hlt:i<pN p:=by omega
    have hsp:sl=pN p:=by omega
    have hl:=g.last (by omega)
    rw [hnum] at hl
    have hne:pN p - 1≠i:=fun ee=>hfree hlt ((hb.usd i hlt).1 (ee ▸ hl))
    rw [hsp]
    exact (qjS (hold _ (by omega) hne).1 (hold _ (by omega) hne).2).2 hl
  ·rw [hcN] at hj
   rw [hcS]
   rcases hcases j hj hu with rfl|⟨h1,h2,h3⟩
   ·rw [hOi,hLi]; omega
   ·have:=g.slot j (by omega) h3
    rw [(hold j h1 h2).1,(hold j h1 h2).2]
    omega
  ·rw [hcN] at hb1
   rcases hcases a (by omega) ha with rfl|⟨h1,h2,h3⟩
   ·rcases hcases b hb1 hb2 with e|⟨h4,h5,h6⟩
    ·omega
    ·have:=g.slot b (by omega) h6
     rw [hOi,hLi,(hold b h4 h5).1]
     omega
   ·rcases hcases b hb1 hb2 with rfl|⟨h4,h5,h6⟩
    ·have:=g.slot a (by omega) h3
     rw [hOi,hLi,(hold a h1 h2).1,(hold a h1 h2).2]
     omega
    ·rw [(hold a h1 h2).1,(hold a h1 h2).2,(hold b h4 h5).1,(hold b h4 h5).2]
     exact g.dis a b hab (by omega) h3 h6
 have hbi:byt c i=qcf r:=by
  rw [qdL,hOi,hLi]
  congr 1
  refine List.ext_getElem (qcO h.page (by omega)) fun k g1 g2=> ?_
  have e1:=qit h.page (o:=f) g2
  have fx:∀(q:List Int) (hq:k<q.length),gp q k=q[k]:=fun q hq=>by
   unfold gp; rw [List.getD_eq_getElem?_getD,List.getElem?_eq_getElem hq]; rfl
  rw [←fx _ g1,←fx _ g2,e1,h.get,if_neg (by omega),if_neg (by omega),if_neg (by omega),if_neg (by omega),if_pos (by omega)]
  congr 1; omega
 have hbj:∀j,j<pN p→j≠i→usd o j→byt c j=byt o j:=fun j hj e hu=>by
  have hs:=g.slot j (by omega) hu
  rw [qdL,qdL,(hold j hj e).1,(hold j hj e).2]
  congr 1
  refine qir hb.page h.page hs.2.2.2 hs.2.2.2 fun k hk=> ?_
  rw [h.get,if_neg (by omega),if_neg (by omega),if_neg (by omega),if_neg (by omega),if_neg (by omega),if_neg (by omega)]
 have hrec:∀n,n≤sl→(recM c n).Perm (recM o (min n (pN p))++(if i<n then [((i:Int),qcf r)] else [])):=by
  intro n
  induction n with
  |zero=>intro _; simp [recM]
  |succ n ih=>
   intro hn
   have ih:=ih (by omega)
   by_cases e:n=i
   ·subst e
    rw [qcd hui,hbi]
    rw [if_neg (by omega),List.append_nil] at ih
    rw [if_pos (by omega)]
    by_cases hlt:n<pN p
    ·have hnu:¬usd o n:=fun hh=>hfree hlt ((hb.usd n hlt).1 hh)
     rw [show min (n+1) (pN p)=n+1 by omega]
     rw [show min n (pN p)=n by omega] at ih
     have er:recM o (n+1)=recM o n:=by simp only [recM]; rw [if_neg hnu]
     rw [er]
     exact ih.append_right _
    ·rw [show min (n+1) (pN p)=min n (pN p) by omega]
     exact ih.append_right _
   ·have eif:(if i<n+1 then [((i:Int),qcf r)] else [])=(if i<n then [((i:Int),qcf r)] else []):=by
     by_cases hh:i<n
     ·rw [if_pos hh,if_pos (by omega)]
     ·rw [if_neg hh,if_neg (by omega)]
    rw [eif]
    by_cases hlt:n<pN p
    ·rw [show min (n+1) (pN p)=n+1 by omega]
     rw [show min n (pN p)=n by omega] at ih
     by_cases hu:usd o n
     ·rw [qcd hu,qcd ((qjS (hold n hlt e).1 (hold n hlt e).2).2 hu),hbj n hlt e hu]
      refine (ih.append_right _).trans ?_
      rw [List.append_assoc,List.append_assoc]
      exact List.Perm.append_left _ List.perm_append_comm
     ·have e1:recM o (n+1)=recM o n:=by simp only [recM]; rw [if_neg hu]
      have e2:recM c (n+1)=recM c n:=by
       simp only [recM]; rw [if_neg fun hh=>hu ((qjS (hold n hlt e).1 (hold n hlt e).2).1 hh)]
      rw [e1,e2]; exact ih
    ·have hnu:¬usd c n:=hmid n (by omega) (by omega)
     have e2:recM c (n+1)=recM c n:=by simp only [recM]; rw [if_neg hnu]
     rw [e2,show min (n+1) (pN p)=min n (pN p) by omega]; exact ih
 refine ⟨h.page,Good.ok h.page hgood,?_⟩
 have:=hrec sl (Nat.le_refl _)
 rw [show min sl (pN p)=pN p by omega,if_pos (by omega),hb.recM _ (Nat.le_refl _)] at this
 rw [hcN]; exact this
end
end Go.Proofs.Ytaoakfbopejfeaa
namespace Go.Proofs.Ytaoakfbopejfeaa
open Go.Vi
open Classical
noncomputable section
theorem qk7 (N:Nat) (hN:1000<N) {p:List Int} (hp:qaL p) (ho:okP p) {i:Nat} (hi:i<127) (hfree:i<pN p→¬usd p i) {r:List Int} (hr:1≤r.length∧r.length≤100) (hby:∀x∈r,0≤x∧x<256)
  (hfit:2+2 * max (pN p) (i+1)+qhr p (pN p)+r.length≤256):∃c,qak N (p,((i:Int),(r,())))=some ((c,()),())∧Plc p i r c:=by
 have hS:=qdF hp
 have hh:=ho.1
 have hcl:=qil N (xs:=p) (by rw [hp.len]; omega)
 obtain ⟨c0,hc1,hc2⟩:=qfH N hN hp ho
 have hce:=qbj hp ho (i:=pN p) (Nat.le_refl _)
 have hlr:qR r=(r.length:Int):=by rw [qf]
 simp only [qak,qV,hcl,qbM N hp,hc1,ql,qu,cond_true,qah hp,qhu,qbo hp,qgX hp,qnm hp,hlr]
 rw [qd (by rw [qaF]; simp),qbe (show i<4611686018427387904 by omega),qgm,qcJ (x:=(pS p:Int)) (by omega) (by omega),qff (by omega) (by omega),qcJ (by omega) (by omega),qag]
 generalize hsl:max (pN p) (i+1)=sl at hfit
 obtain ⟨o,e2,hb,hf⟩:∃o,(bif decide ((pS p:Int) - 2 - 2 * (sl:Int)<(r.length:Int)) then c0 else p)=o∧qnj p o∧2+2 * sl+r.length≤pS o:=by
  by_cases e:(pS p:Int) - 2 - 2 * (sl:Int)<(r.length:Int)
  ·refine ⟨c0,by rw [qd (by simpa using e)],hc2.base hp ho,?_⟩
   rw [hc2.start]; omega
  ·exact ⟨p,by rw [qx (by simpa using e)],qnj.self hp ho,by omega⟩
 have hSo:=qdF hb.page
 have hno:=hb.ok.lt hb.page
 have hnum:=hb.num
 rw [qd (b:=bif _ then true else true) (by cases decide ((pS p:Int) - 2 - 2 * (sl:Int)<(r.length:Int)) <;> rfl),e2,qah hb.page,qd (by rw [qaF]; simp),qbo hb.page,qgX hb.page]
 refine qeI (μ:=fun s:(List Int)×(Int×Unit)=>i - s.2.1.toNat) (I:=fun s=>∃k:Nat,pN o≤k∧(k≤i∨k=pN o)∧s.2.1=(k:Int)∧qaL s.1∧∀z,gp s.1 z=if 2+2 * pN o≤z∧z<2+2 * k then 0 else gp o z)
  (Q:=fun rr=>∃c,rr=some ((c,()),())∧Plc p i r c) ?_ N _ ⟨pN o,Nat.le_refl _,.inr rfl,rfl,hb.page,fun z=>by rw [if_neg (by omega)]⟩ (by simp; omega)
 rintro ih ⟨s,z,⟨⟩⟩ ⟨k,hk1,hk2,rfl,hs,hg⟩ hih
 dsimp only at hs hg hih⊢
 simp only [Int.toNat_natCast] at hih
 by_cases hlt:k<i
 ·rw [qd (by rw [qag]; simp; omega),qey N hs (show k<127 by omega) (a:=0) (l:=0) (by omega) (by omega)]
  simp only [ql,qu,cond_true]
  rw [qbe (by omega)]
  refine hih _ ⟨k+1,by omega,.inl (by omega),rfl,qet hs (by omega) (by omega),fun z=> ?_⟩ (by simp only [Int.toNat_natCast]; omega)
  show gp (qna s k 0 0) z=_
  rw [qiL hs (by omega),hg]
  by_cases h3:z=3+2 * k
  ·rw [if_pos h3,if_pos (by omega)]
  ·by_cases h2:z=2+2 * k
   ·rw [if_neg h3,if_pos h2,if_pos (by omega)]
   ·rw [if_neg h3,if_neg h2]
    by_cases h4:2+2 * pN o≤z∧z<2+2 * k
    ·rw [if_pos h4,if_pos (by omega)]
    ·rw [if_neg h4,if_neg (by omega)]
 ·have hg1:gp s 1=gp o 1:=by rw [hg,if_neg (by omega)]
  have hps:pS s=pS o:=by unfold pS; rw [hg1]
  have hgz:∀z,gp s z=if 2+2 * pN o≤z∧z<2+2 * i then 0 else gp o z:=fun z=>by
   rw [hg]
   by_cases h4:2+2 * pN o≤z∧z<2+2 * k
   ·rw [if_pos h4,if_pos (by omega)]
   ·rw [if_neg h4,if_neg (by omega)]
  rw [qx (by rw [qag]; simp; omega),qbM N hs,hps]
  simp only [ql,qu,cond_true]
  have ef:qcQ .i64 (pS o:Int) (r.length:Int)=((pS o - r.length:Nat):Int):=by rw [qcJ (by omega) (by omega)]; omega
  rw [ef]
  generalize hfd:pS o - r.length=f
  have e1:qcr s 0 (qaw .u8 (sl:Int))=s.set 0 (sl:Int):=by rw [qeG (by omega) (by omega),qaA]; rfl
  have hp1:qaL (s.set 0 (sl:Int)):=hs.set (by omega)
  have e3:qcr (s.set 0 (sl:Int)) 1 (qaw .u8 (f:Int))=(s.set 0 (sl:Int)).set 1 (f:Int):=by rw [qeG (by omega) (by omega),qaA]; rfl
  have hp2:qaL ((s.set 0 (sl:Int)).set 1 (f:Int)):=hp1.set (by omega)
  rw [e1,e3,qah hs,qah hp1,qah hp2]
  generalize hs2:(s.set 0 (sl:Int)).set 1 (f:Int)=s2
  have hq2:qaL s2:=hs2 ▸ hp2
  have hsl2:qcD (qQ s2 0 (f:Int)) (qcD r (qQ s2 (qaX .i64 (f:Int) (r.length:Int)) 256))=cpy s2 f r:=by
   rw [qk4,qcz (by omega) (by omega),show ((f:Int)+(r.length:Int))=((f+r.length:Nat):Int) by omega,show (256:Int)=qR s2 by rw [qah hq2],qh2,qa1,qa1]
   rfl
  have hp3:qaL (cpy s2 f r):=qid hq2 (by omega) hby
  rw [hsl2,qey N hp3 hi (a:=(f:Int)) (l:=(r.length:Int)) (by omega) (by omega)]
  simp only [ql,qu]
  rw [qcJ (by omega) (by omega),qd (by rw [qaF,qaF]; simp),qd (by rw [qg9,qgS]; simp; omega)]
  refine ⟨_,rfl,?_⟩
  subst hsl
  subst hfd
  refine Wr.plc hb hfree hr hby (by omega) ⟨qet hp3 (by omega) (by omega),fun z=> ?_⟩
  rw [qiL hp3 hi,qnX hq2.len (by omega)]
  rw [←hs2,qfZ (by rw [List.length_set,hs.len]; omega),qfZ (by rw [hs.len]; omega),hgz]
  repeat' split
  all_goals first|rfl|omega
end
end Go.Proofs.Ytaoakfbopejfeaa
namespace Go.Proofs.Ytaoakfbopejfeaa
open Go.Vi
open Classical
noncomputable section
abbrev Mp:=List (Int×List UInt8)
def qn3 (M:Mp) (i:Int):Mp:=M.filter fun z=>decide (z.1≠i)
def qkn (M:Mp) (i:Int) (r:List UInt8):Mp:=qn3 M i++(if r=[] then [] else [(i,r)])
theorem qmp {a b:Mp} (h:a.Perm b) (i:Int):(qn3 a i).Perm (qn3 b i):=h.filter _
theorem ql0 {a b:Mp} (h:a.Perm b) (i:Int) (r:List UInt8):(qkn a i r).Perm (qkn b i r):=(qmp h i).append_right _
theorem qhh {α β:Type} (p:α×β) (xs:List (α×β)) (k:α):qb7 (p::xs) k=if p.1=k then 0 else qb7 xs k+1:=by
 unfold qb7
 rw [List.findIdx_cons]
 by_cases h:p.1=k <;> simp [h]
theorem qle {r:Mp} {i:Int} (h:∀q∈r,q.1≠i):qn3 r i=r:=List.filter_eq_self.2 fun q hq=>by simpa using h q hq
theorem qkR: {M:Mp} →(M.map (·.1)).Nodup→(i:Int)→qlS M i=qn3 M i
 |[],_,i=>by rw [qdw]; rfl
 |a::r,hn,i=>by
  rw [List.map_cons,List.nodup_cons] at hn
  have ih:=qkR hn.2 i
  rw [qdw] at ih⊢
  rw [qhh]
  by_cases e:a.1=i
  ·rw [if_pos e,List.eraseIdx_cons_zero]
   unfold qn3
   rw [List.filter_cons_of_neg (by simp [e])]
   refine (qle fun q hq hh=>hn.1 ?_).symm
   rw [e,←hh]; exact List.mem_map_of_mem (f:=(·.1)) hq
  ·rw [if_neg e,List.eraseIdx_cons_succ,ih]
   unfold qn3
   rw [List.filter_cons_of_pos (by simp [e])]
theorem qni (M:Mp) (i:Int):∀q∈qn3 M i,q.1≠i:=fun q hq=>by simpa using (List.mem_filter.1 hq).2
theorem qog {M:Mp} (hn:(M.map (·.1)).Nodup) (i:Int) (r:List UInt8):(bif (!(eqS r ([]:List UInt8))) then (qfz (qlS M i) i r) else (qlS M i))=qkn M i r:=by
 rw [qd9,qkR hn]
 unfold qkn
 by_cases e:r=[]
 ·rw [qx (by simp [e]),if_pos e,List.append_nil]
 ·rw [qd (by simp [e]),if_neg e,qfy (qni M i)]
theorem qco (N:Nat) {m M:Mp} (hm:m.Perm M) (hn:(M.map (·.1)).Nodup) (i:Int) (r:List UInt8):qp N (m,(i,(r,())))=some ((qgg (qkn M i r),()),()):=by
 simp only [qp,qV]
 refine qfk (fun xs s=>(s.1++xs).Perm M) ?_ ?_ _ _ _ rfl (by simpa using hm)
 ·rintro ⟨s,⟨⟩⟩ hI
  have hI:s.Perm M:=by simpa using hI
  dsimp only
  rw [qog ((hI.map _).nodup_iff.2 hn),qlp (ql0 hI i r)]
 ·rintro xs ⟨s,⟨⟩⟩ j hj hI ih hih
  have hI:(s++xs).Perm M:=hI
  have hk:((s++xs).map (·.1)).Nodup:=(hI.map _).nodup_iff.2 hn
  refine hih _ ?_
  show (qfz s xs[j].1 xs[j].2++xs.eraseIdx j).Perm M
  rw [qfy fun q hq e=> ?_,List.append_assoc]
  ·exact ((qc2 xs j hj).append_left s).trans hI
  ·rw [List.map_append,List.nodup_append] at hk
   exact hk.2.2 _ (List.mem_map_of_mem (f:=(·.1)) hq) _ (List.mem_map_of_mem (f:=(·.1)) (List.getElem_mem hj)) e
theorem qmw (r:List Int):(qcf r).length=r.length:=by rw [qc5]; simp
theorem qlf {r:List Int} (h:1≤r.length):qcf r≠[]:=fun e=>by
 have:=qmw r
 rw [e] at this
 have h0:([]:List UInt8).length=0:=rfl
 omega
theorem qnd {p:List Int} {i:Nat} {r:List UInt8} (hr:r≠[]) (h:i<pN p→¬usd p i):qkn (recM p (pN p)) (i:Int) r=recM p (pN p)++[((i:Int),r)]:=by
 unfold qkn
 rw [if_neg hr,qle fun q hq e=> ?_]
 obtain ⟨j,h1,h2,rfl⟩:=qdx q hq
 have e:(j:Int)=(i:Int):=e
 have:j=i:=by omega
 exact h (this ▸ h1) (this ▸ h2)
def qaZ (r:List Int):Prop:=r.length<1∨100<r.length
theorem qhI (r:List Int):(decide ((r.length:Int)<1)||decide ((100:Int)<(r.length:Int)))=decide (qaZ r):=by
 rw [Bool.eq_iff_iff,Bool.or_eq_true,decide_eq_true_eq,decide_eq_true_eq,decide_eq_true_eq]
 show _↔(r.length<1∨100<r.length)
 omega
theorem qjA (N:Nat) (hN:1000<N) {p:List Int} (hp:qaL p) (ho:okP p) {r:List Int} (hby:∀x∈r,0≤x∧x<256):
  (qaZ r∧qn N (p,(r,()))=some (([],(0,(1,()))),()))∨(¬qaZ r∧qf5 p<r.length∧qn N (p,(r,()))=some (([],(0,(18,()))),()))∨
  (¬qaZ r∧(r.length:Int)≤qf5 p∧∃c,qn N (p,(r,()))=some ((c,((free p:Int),(0,()))),())∧Plc p (free p) r c):=by
 have hlr:qR r=(r.length:Int):=by rw [qf]
 have hn:=ho.lt hp
 have hh:=ho.1
 have hS:=qdF hp
 obtain ⟨hf1,hf2,hf3⟩:=qev p
 simp only [qn,qV,qi0 N hN hp,if_pos ho,ql,qu,cond_true,qaN,qko N hN hp ho,qfS N hN hp ho,hlr,qag]
 rw [qx (by simp)]
 by_cases hb:qaZ r
 ·refine .inl ⟨hb,?_⟩
  rw [qd (by unfold qaZ at hb; simp; omega)]
 ·right
  have hb':1≤r.length∧r.length≤100:=by unfold qaZ at hb; omega
  rw [qx (by simp; omega)]
  by_cases hc:qf5 p<r.length
  ·refine .inl ⟨hb,hc,?_⟩
   rw [qd (by simpa using hc)]
  ·refine .inr ⟨hb,by omega,?_⟩
   rw [qx (by simpa using hc)]
   unfold qf5 at hc
   obtain ⟨c,h1,h2⟩:=qk7 N hN hp ho (i:=free p) (by omega) hf3 hb' hby (by omega)
   rw [h1]
   simp only [ql,qu,cond_true]
   exact ⟨c,rfl,h2⟩
theorem qh0 (N:Nat) {p r:List Int} (h:qK N (p,())=some ((3,()),())):qn N (p,(r,()))=some (([],(0,(3,()))),()):=by
 simp only [qn,qV,h,ql,qu,cond_true,qaN]
 rw [qd (by simp)]
theorem Plc.has (N:Nat) (hN:1000<N) {p c r:List Int} {i:Nat} (h:Plc p i r c) {m:Mp} (hm:m.Perm (recM p (pN p)++[((i:Int),qcf r)])):qy N (c,(m,()))=some ((true,()),()):=
 qhg N hN h.page h.ok (hm.trans h.recs.symm)
theorem qga (N:Nat) (hN:1000<N) {p:List Int} (hp:qaL p) (ho:okP p) {r:List Int} (hby:∀x∈r,0≤x∧x<256):
  ∃c f e,qn N (p,(r,()))=some ((c,(f,(e,()))),())∧q8 N (qgg (recM p (pN p)),((pN p:Int),(r,(c,(f,(e,()))))))=some ((true,()),()):=by
 have hlr:qR r=(r.length:Int):=by rw [qf]
 have hn:=ho.lt hp
 obtain ⟨hf1,hf2,hf3⟩:=qev p
 have hm:=qbl (recM p (pN p))
 have loop:∀(f:Int) (c:List Int) (e:Int),((qaZ r∧e=1∧c=[]∧f=0)∨(¬qaZ r∧qf5 p<r.length∧e=18∧c=[]∧f=0)∨(¬qaZ r∧¬qf5 p<r.length∧e=0∧f=(free p:Int)∧Plc p (free p) r c))→
   q8 N (qgg (recM p (pN p)),((pN p:Int),(r,(c,(f,(e,()))))))=some ((true,()),()):=by
  intro f c e hw
  simp only [q8,qV]
  refine qjU (fun i=>((i:Int),())) (free p) _ rfl ?_ ?_ (by omega)
  ·intro i hi ih
   dsimp only
   rw [qd9,qdg hm]
   have:qcY (recM p (pN p)) (i:Int) []≠[]:=by
    rw [Ne,qfF hp ho]
    exact fun hh=>hh ⟨by omega,by simp; omega,by simpa using hf2 i hi⟩
   rw [qd (by simpa using this),qbe (by omega)]
  ·intro ih
   dsimp only
   rw [qd9,qdg hm]
   have:qcY (recM p (pN p)) (free p:Int) []=[]:=by
    rw [qfF hp ho]
    intro hh
    have h1:free p<pN p:=by simpa using hh.2.1
    exact hf3 h1 (by simpa using hh.2.2)
   rw [qx (by simpa using this),qgZ N hN hp ho hm,qco N hm (qbX _)]
   simp only [ql,qu,Bool.or_true,hlr,qag,qaN,qbG,cond_true]
   have hbl:(decide ((r.length:Int)<1)||decide ((100:Int)<(r.length:Int)))=decide (qaZ r):=qhI r
   rw [hbl]
   rcases hw with ⟨hb,rfl,rfl,rfl⟩|⟨hb,hc,rfl,rfl,rfl⟩|⟨hb,hc,rfl,rfl,h3⟩
   ·simp only [hb,decide_true,cond_true]
    rw [qd (by decide),qbf,qf]
    rfl
   ·simp only [hb,hc,decide_true,decide_false,cond_true,cond_false]
    rw [qd (by decide),qbf,qf]
    rfl
   ·have hb':1≤r.length:=by unfold qaZ at hb; omega
    rw [h3.has N hN (m:=qgg (qkn (recM p (pN p)) (free p:Int) (qcf r))) (by
     rw [←qnd (qlf hb') hf3]; exact qbl _)]
    simp only [hb,hc,decide_false,cond_false,ql,qu,Bool.or_true]
    rw [qx (by decide)]
    simp
 rcases qjA N hN hp ho hby with ⟨h1,h2⟩|⟨h1,h2,h3⟩|⟨h1,h2,c,h3,h4⟩
 ·exact ⟨_,_,_,h2,loop _ _ _ (.inl ⟨h1,rfl,rfl,rfl⟩)⟩
 ·exact ⟨_,_,_,h3,loop _ _ _ (.inr (.inl ⟨h1,h2,rfl,rfl,rfl⟩))⟩
 ·exact ⟨_,_,_,h3,loop _ _ _ (.inr (.inr ⟨h1,by omega,rfl,rfl,h4⟩))⟩
theorem hasOf {p:List Int} {z:Int} (h:qol p z):∃i:Nat,z=(i:Int)∧i<pN p∧usd p i:=⟨z.toNat,by have:=h.1; omega,h.2.1,h.2.2⟩
theorem qlX (N:Nat) (hN:1000<N) {p:List Int} (hp:qaL p) (ho:okP p) {z:Int} (hz: -9223372036854775808≤z∧z<9223372036854775808) (h:¬qol p z):qC N (p,(z,()))=some (([],(4,())),()):=by
 simp only [qC,qV,qhX N hN hp z hz,if_pos ho,if_neg h,ql,qu,cond_true,qaN]
 rw [qd (by simp)]
theorem qlm (N:Nat) (hN:1000<N) {p:List Int} (hp:qaL p) (ho:okP p) {i:Nat} (hi:i<pN p) (hu:usd p i):∃q n,qC N (p,((i:Int),()))=some ((q,(0,())),())∧Rem p i n q∧qou p i n:=by
 have hn:=ho.lt hp
 obtain ⟨q,n,h1,h2,h3⟩:=qi6 N hN hp ho hi
 refine ⟨q,n,?_,h2,h3⟩
 have hg:qol p (i:Int):=⟨by omega,by simpa using hi,by simpa using hu⟩
 simp only [qC,qV,qhX N hN hp (i:Int) (by omega),if_pos ho,if_pos hg,ql,qu,cond_true,qaN,h1]
 rw [qx (by simp)]
theorem qm7 (N:Nat) (hN:1000<N) {p r:List Int} (hp:qaL p) (ho:okP p) {z:Int} (hz: -9223372036854775808≤z∧z<9223372036854775808) (h:¬qol p z):qt N (p,(z,(r,())))=some (([],(4,())),()):=by
 simp only [qt,qV,qhX N hN hp z hz,if_pos ho,if_neg h,ql,qu,cond_true,qaN]
 rw [qd (by simp)]
def qnc (q:List Int) (i:Nat):Nat:=2+2 * max (pN q) (i+1)+qhr q (pN q)
theorem qlz (N:Nat) (hN:1000<N) {p:List Int} (hp:qaL p) (ho:okP p) {i:Nat} (hi:i<pN p) (hu:usd p i) {q:List Int} {n:Nat} (h1:qX N (p,((i:Int),()))=some ((q,()),())) (h2:Rem p i n q) (h3:qou p i n)
  {r:List Int} (hby:∀x∈r,0≤x∧x<256):
  (qaZ r∧qt N (p,((i:Int),(r,())))=some (([],(1,())),()))∨(¬qaZ r∧256<qnc q i+r.length∧qt N (p,((i:Int),(r,())))=some (([],(18,())),()))∨
  (¬qaZ r∧¬256<qnc q i+r.length∧∃c,qt N (p,((i:Int),(r,())))=some ((c,(0,())),())∧Plc q i r c):=by
 have hn:=ho.lt hp
 have hh:=ho.1
 have hS:=qdF hp
 have hlr:qR r=(r.length:Int):=by rw [qf]
 have hg:qol p (i:Int):=⟨by omega,by simpa using hi,by simpa using hu⟩
 have hq:=h2.page
 have hoq:=h2.ok ho h3
 have hnq:=hoq.lt hq
 obtain ⟨c0,hc1,hc2⟩:=qfH N hN hq hoq
 have hce:=qbj hq hoq (i:=pN q) (Nat.le_refl _)
 simp only [qt,qV,qhX N hN hp (i:Int) (by omega),if_pos ho,if_pos hg,ql,qu,cond_true,qaN,h1,hlr,qag,qah hq,qhu,qbo hq,qgX hq,qnm hq,hc1,qbM N hc2.page,hc2.start]
 rw [qx (by simp)]
 by_cases hb:qaZ r
 ·refine .inl ⟨hb,?_⟩
  rw [qd (by unfold qaZ at hb; rw [Bool.or_eq_true,decide_eq_true_eq,decide_eq_true_eq]; omega)]
 ·right
  have hb':1≤r.length∧r.length≤100:=by unfold qaZ at hb; omega
  have e1:qaX .i64 (i:Int) 1=((i+1:Nat):Int):=qbe (by omega)
  rw [qx (by rw [Bool.or_eq_false_iff,decide_eq_false_iff_not,decide_eq_false_iff_not]; omega),qd (by rw [qaF]; simp),e1,qgm,qcJ (x:=(qcb q (pN q):Int)) (by omega) (by omega),qff (by omega) (by omega),qcJ (by omega) (by omega)]
  simp only [Bool.and_self,cond_true]
  by_cases hc:256<qnc q i+r.length
  ·refine .inl ⟨hb,hc,?_⟩
   unfold qnc at hc
   rw [qd (by rw [decide_eq_true_eq]; omega)]
  ·refine .inr ⟨hb,hc,?_⟩
   unfold qnc at hc
   rw [qx (by rw [decide_eq_false_iff_not]; omega)]
   obtain ⟨c,g1,g2⟩:=qk7 N hN hq hoq (i:=i) (by omega) (fun _=>h2.off) hb' hby (by omega)
   rw [g1]
   simp only [ql,qu,cond_true]
   exact ⟨c,rfl,g2⟩
theorem qci (N:Nat) (hN:1000<N) {p:List Int} (hp:qaL p) (ho:okP p) {i n:Nat} (hi:i<pN p) {q:List Int} (h2:Rem p i n q) (h3:qou p i n)
  {r c:List Int} {e:Int} (hw:(qaZ r∧e=1∧c=[])∨(¬qaZ r∧256<qnc q i+r.length∧e=18∧c=[])∨(¬qaZ r∧¬256<qnc q i+r.length∧e=0∧Plc q i r c)):
  q9 N (qgg (recM p (pN p)),((i:Int),(r,(c,(e,())))))=some ((true,()),()):=by
 have hlr:qR r=(r.length:Int):=by rw [qf]
 have hn:=ho.lt hp
 have hq:=h2.page
 have hoq:=h2.ok ho h3
 have hnq:=hoq.lt hq
 have hsq:=ql4 hq hoq
 have hnum:=h2.num
 have hle:=h3.le
 have hm:=qbl (recM p (pN p))
 have hw1:=qco N hm (qbX _) (i:Int) []
 have hoff:qkn (recM p (pN p)) (i:Int) []=recM q (pN q):=by
  unfold qkn
  rw [if_pos rfl,List.append_nil,h2.all hp ho hi h3]
  rfl
 rw [hoff] at hw1
 have hmq:=qbl (recM q (pN q))
 simp only [q9,qV,hw1,ql,qu,cond_true]
 generalize hL:max (pN q) (i+1) - 1=L
 have hkeys:∀z∈recM q (pN q),0≤z.1∧z.1≤(L:Int):=fun z hz=>by
  obtain ⟨j,g1,_,rfl⟩:=qdx z hz
  dsimp only
  omega
 have htop:(L:Int)=(i:Int)∨∃z∈recM q (pN q),z.1=(L:Int):=by
  by_cases hh:L=i
  ·left; omega
  ·right
   have hpos:0<pN q:=by omega
   have hu:=hoq.good.last hpos
   have:=qcd hu
   rw [show pN q - 1+1=pN q by omega] at this
   refine ⟨_,by rw [this]; exact List.mem_append_right _ List.mem_cons_self,?_⟩
   dsimp only
   omega
 refine qfk (fun xs s=>s.1+(qla xs:Int)=2+(qhr q (pN q):Int)∧0≤s.1∧s.1≤100000∧0≤s.2.1∧s.2.1≤(L:Int)∧(∀z∈xs,0≤z.1∧z.1≤(L:Int))∧(s.2.1=(L:Int)∨∃z∈xs,z.1=(L:Int))) ?_ ?_ _ _ _ rfl ?_
 ·rintro ⟨s,t,⟨⟩⟩ ⟨g1,g2,g3,g4,g5,g6,g7⟩
  have g1:s+((qla []:Nat):Int)=_:=g1
  have h0:qla []=0:=rfl
  rw [h0] at g1
  have g7':t=(L:Int):=by
   rcases g7 with g7|⟨z,hz,_⟩
   ·exact g7
   ·cases hz
  clear g7 g6 htop hkeys
  subst g7'
  dsimp only at g2 g3⊢
  have hbl:(decide ((r.length:Int)<1)||decide ((100:Int)<(r.length:Int)))=decide (qaZ r):=qhI r
  simp only [hlr,qag,qaN,qbG,hbl]
  have hnum2:¬qaZ r→decide ((256:Int)<qaX .i64 (qaX .i64 s (qfc .i64 2 (qaX .i64 (L:Int) 1))) (r.length:Int))=decide (256<qnc q i+r.length):=fun hb=>by
   have hb':1≤r.length∧r.length≤100:=by unfold qaZ at hb; omega
   rw [qbe (show L<4611686018427387904 by omega),qff (by omega) (by omega),qcz (x:=s) (by omega) (by omega),qcz (by omega) (by omega)]
   unfold qnc
   rw [Bool.eq_iff_iff,decide_eq_true_eq,decide_eq_true_eq]; omega
  rcases hw with ⟨hb,rfl,rfl⟩|⟨hb,hc,rfl,rfl⟩|⟨hb,hc,rfl,k3⟩
  ·simp only [hb,decide_true,cond_true]
   rw [qd (by decide),qf]
   rfl
  ·simp only [hnum2 hb,hb,hc,decide_true,decide_false,cond_true,cond_false]
   rw [qd (by decide),qf]
   rfl
  ·have hb':1≤r.length:=by unfold qaZ at hb; omega
   have hset:qkn (recM p (pN p)) (i:Int) (qcf r)=recM q (pN q)++[((i:Int),qcf r)]:=by
    rw [←hoff]
    unfold qkn
    rw [if_neg (qlf hb'),if_pos rfl,List.append_nil]
   rw [qco N hm (qbX _) (i:Int) (qcf r),hset]
   simp only [hnum2 hb,hb,hc,decide_true,decide_false,cond_true,cond_false,ql,qu,Bool.or_true]
   rw [k3.has N hN (qbl _),qx (by decide)]
   simp [ql,qu]
 ·rintro xs ⟨s,t,⟨⟩⟩ j hj ⟨g1,g2,g3,g4,g5,g6,g7⟩ ih hih
  have hle:=qfC xs j hj
  dsimp only at g1 g2 g3 g4 g5 g7⊢
  rw [qf]
  have g8:s+(xs[j].2.length:Int)≤100000:=by omega
  have g9:=g6 _ (List.getElem_mem hj)
  rw [qcz (by omega) (by omega),qfj]
  refine hih _ ⟨by dsimp only; omega,by dsimp only; omega,g8,by dsimp only; split <;> omega,by dsimp only; split <;> omega,fun z hz=>g6 z (List.mem_of_mem_eraseIdx hz),?_⟩
  dsimp only
  by_cases ht:t=(L:Int)∨xs[j].1=(L:Int)
  ·left; split <;> omega
  ·right
   rcases g7 with g7|⟨z,hz,hzz⟩
   ·exact absurd (.inl g7) ht
   ·refine ⟨z,?_,hzz⟩
    have:=(qc2 xs j hj).mem_iff.2 hz
    rcases List.mem_cons.1 this with rfl|hh
    ·exact absurd (.inr hzz) ht
    ·exact hh
 ·refine ⟨?_,by dsimp only; omega,by dsimp only; omega,by dsimp only; omega,by dsimp only; omega,fun z hz=>hkeys z (hmq.mem_iff.1 hz),?_⟩
  ·rw [qjp hmq,qgP hq hoq _ (Nat.le_refl _)]
  ·rcases htop with hh|⟨z,hz,hzz⟩
   ·exact .inl hh.symm
   ·exact .inr ⟨z,hmq.mem_iff.2 hz,hzz⟩
theorem qmg:IntKind.i64.wrap 0=0:=by decide
theorem law7 (N:Nat) (hN:1000<N) (p r:List Int) (hb:∀x∈p,0≤x∧x<256) (hr:∀x∈r,0≤x∧x<256) (i:Int) (hi: -9223372036854775808≤i∧i<9223372036854775808):
  qI N (p,(r,(i,())))=some ((true,()),()):=by
 have hz:pN (List.replicate 256 0)=0:=by unfold pN; rw [qgd]; rfl
 have hx:∀x∈[(120:Int)],0≤x∧x<256:=fun x hx=>by rw [List.mem_singleton.1 hx]; decide
 have hfz:free (List.replicate 256 0)=0:=by have:=(qev (List.replicate 256 0)).1; omega
 have hrz:qf5 (List.replicate 256 0)=100:=by unfold qf5; rw [hz,hfz]; rfl
 obtain ⟨cz,hz1,hz2⟩:∃c,qn N (List.replicate 256 0,([120],()))=some ((c,(0,(0,()))),())∧Plc (List.replicate 256 0) 0 [120] c:=by
  rcases qjA N hN zeroP okZ hx with ⟨h1,_⟩|⟨_,h1,_⟩|⟨_,_,c,h1,h2⟩
  ·unfold qaZ at h1; simp at h1
  ·rw [hrz] at h1; simp at h1
  ·rw [hfz] at h1 h2; exact ⟨c,h1,h2⟩
 have hzh:qy N (cz,((qgg (qfz ([]:List (Int×(List UInt8))) 0 ([120]:List UInt8))),()))=some ((true,()),()):=
  hz2.has N hN ((qbl _).trans (by rw [qiW,hz,qc5]; exact List.Perm.refl _))
 simp only [qI,qV,qn7,ql,qu,cond_true,hz1,hzh,Bool.and_self,Bool.or_true,qaN,ne_eq,not_true,decide_false,Bool.or_self,Bool.not_true,cond_false]
 by_cases hl:p.length=256
 ·have hp:=pageOf hb hl
  rw [qh9 N hN hp]
  by_cases ho:okP p
  ·obtain ⟨c,f,e,h1,h2⟩:=qga N hN hp ho hr
   have hm:=qbl (recM p (pN p))
   simp only [if_pos ho,h1,h2,ql,qu,cond_true,Bool.not_true,cond_false,qdg hm,qd9]
   by_cases hg:qol p i
   ·obtain ⟨k,rfl,hk,hu⟩:=hasOf hg
    have hne:qcY (recM p (pN p)) (k:Int) []≠[]:=by
     rw [Ne,qfF hp ho]
     exact fun hh=>hh hg
    obtain ⟨q,n,g1,g2,g3⟩:=qlm N hN hp ho hk hu
    obtain ⟨q',n',k1,k2,k3⟩:=qi6 N hN hp ho hk
    have hoff:qkn (recM p (pN p)) (k:Int) []=recM q (pN q):=by
     unfold qkn
     rw [if_pos rfl,List.append_nil,g2.all hp ho hk g3]
     rfl
    have hph:qy N (q,(qgg (qkn (recM p (pN p)) (k:Int) []),()))=some ((true,()),()):=qhg N hN g2.page (g2.ok ho g3) (by rw [hoff]; exact qbl _)
    have hup:∃c e,qt N (p,((k:Int),(r,())))=some ((c,(e,())),())∧q9 N (qgg (recM p (pN p)),((k:Int),(r,(c,(e,())))))=some ((true,()),()):=by
     rcases qlz N hN hp ho hk hu k1 k2 k3 hr with ⟨a1,a2⟩|⟨a1,a2,a3⟩|⟨a1,a2,c,a3,a4⟩
     ·exact ⟨_,_,a2,qci N hN hp ho hk k2 k3 (.inl ⟨a1,rfl,rfl⟩)⟩
     ·exact ⟨_,_,a3,qci N hN hp ho hk k2 k3 (.inr (.inl ⟨a1,a2,rfl,rfl⟩))⟩
     ·exact ⟨_,_,a3,qci N hN hp ho hk k2 k3 (.inr (.inr ⟨a1,a2,rfl,a4⟩))⟩
    obtain ⟨cu,eu,u1,u2⟩:=hup
    rw [qco N hm (qbX _),g1,u1]
    simp only [ql,qu,cond_true,hph,u2,Bool.or_true,Bool.and_true,qbG]
    rw [qx (by simpa using hne)]
    simp
   ·have hge:qcY (recM p (pN p)) i []=[]:=by
     rw [qfF hp ho]; exact hg
    rw [qlX N hN hp ho hi hg,qm7 N hN hp ho hi hg]
    simp only [ql,qu,cond_true,hge,qbG]
    rw [qd (by simp),qbf,qf]
    simp [qmg]
  ·have hck:qK N (p,())=some ((3,()),()):=by rw [qi0 N hN hp,if_neg ho]
   have hd:qC N (p,(i,()))=some (([],(3,())),()):=by
    simp only [qC,qV,qhX N hN hp i hi,if_neg ho,ql,qu,cond_true,qaN]
    rw [qd (by simp)]
   have hu:qt N (p,(i,(r,())))=some (([],(3,())),()):=by
    simp only [qt,qV,qhX N hN hp i hi,if_neg ho,ql,qu,cond_true,qaN]
    rw [qd (by simp)]
   simp only [if_neg ho,qh0 N hck,hd,hu,ql,qu,cond_true,Bool.not_false,qbG]
   rw [qbf,qbf,qbf]
   simp [qf,qmg]
 ·have hck:=qjh N hl
  have hd:qC N (p,(i,()))=some (([],(3,())),()):=by
   simp only [qC,qV,qmB N hl,ql,qu,cond_true,qaN]
   rw [qd (by simp)]
  have hu:qt N (p,(i,(r,())))=some (([],(3,())),()):=by
   simp only [qt,qV,qmB N hl,ql,qu,cond_true,qaN]
   rw [qd (by simp)]
  simp only [qkD N hl,qh0 N hck,hd,hu,ql,qu,cond_true,Bool.not_false,qbG]
  rw [qbf,qbf,qbf]
  simp [qf,qmg]
theorem qnJ (x:(List Int)×((List Int)×(Int×Unit))) (h:(Ty.slice (.int .u8)).good x.1) (h1:(Ty.slice (.int .u8)).good x.2.1) (h2:(Ty.int .i64).good x.2.2.1):∃N z,qI N x=some ((true,()),z):=
 ⟨1001,(),law7 1001 (by omega) x.1 x.2.1 (qnW h) (qnW h1) x.2.2.1 (intOf h2)⟩
end
end Go.Proofs.Ytaoakfbopejfeaa
