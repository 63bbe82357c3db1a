import Derived.Test.YtaoakfbopejfeaaFns
import Derived.Test.YtaoakfbopejfeaaViXD
set_option linter.unusedVariables false
set_option linter.unusedSimpArgs false
set_option linter.unnecessarySimpa false
set_option linter.unusedSectionVars false
set_option linter.unusedSimpArgs false
set_option maxRecDepth 100000
namespace Go.Proofs.Ytaoakfbopejfeaa
open Go.Vi
open Classical
noncomputable section
theorem qg {α:Type} {b:Bool} {x y:α} (h:b=true):(bif b then x else y)=x:=by rw [h]; rfl
theorem qt {α:Type} {b:Bool} {x y:α} (h:b=false):(bif b then x else y)=y:=by rw [h]; rfl
theorem qbX (x y:Int):eqI x y=decide (x=y):=by rw [qdF]; by_cases h:x=y <;> simp [h]
theorem qa6 (x y:Int):neI x y=decide (x≠y):=by rw [qe7]; by_cases h:x=y <;> simp [h]
structure qa7 (p:List Int):Prop where
 len:p.length=256
 byte:∀x∈p,0≤x∧x<256
def gp (p:List Int) (k:Nat):Int:=p.getD k 0
def pN (p:List Int):Nat:=(gp p 0).toNat
def pS (p:List Int):Nat:=if gp p 1=0 then 256 else (gp p 1).toNat
def pO (p:List Int) (i:Nat):Nat:=(gp p (2+2 * i)).toNat
def pL (p:List Int) (i:Nat):Nat:=(gp p (3+2 * i)).toNat
theorem qmM {p:List Int} (h:qa7 p) (k:Nat):0≤gp p k∧gp p k<256:=by
 unfold gp
 rw [List.getD_eq_getElem?_getD]
 by_cases hk:k<p.length
 ·rw [List.getElem?_eq_getElem hk]; exact h.byte _ (List.getElem_mem hk)
 ·rw [List.getElem?_eq_none (by omega)]; exact ⟨Int.le_refl _,by decide⟩
theorem qhq (p:List Int) (k:Nat):qbi p (k:Int) 0=gp p k:=by rw [qhu]; rfl
theorem qbD {p:List Int} (h:qa7 p) (k:Nat):qbH .i64 (gp p k)=gp p k:=by
 have:=qmM h k
 exact qh3 (by omega) (by omega)
theorem qiK {p:List Int} (h:qa7 p) (k:Nat):gp p k=((gp p k).toNat:Int):=by
 have:=qmM h k
 omega
theorem qis {p:List Int} (h:qa7 p):gp p 0=(pN p:Int):=qiK h 0
theorem pO_is {p:List Int} (h:qa7 p) (i:Nat):gp p (2+2 * i)=(pO p i:Int):=qiK h _
theorem pL_is {p:List Int} (h:qa7 p) (i:Nat):gp p (3+2 * i)=(pL p i:Int):=qiK h _
theorem qmg {p:List Int} (h:qa7 p):pN p<256:=by have:=qmM h 0; unfold pN; omega
theorem qme {p:List Int} (h:qa7 p) (i:Nat):pO p i<256:=by have:=qmM h (2+2 * i); unfold pO; omega
theorem qmC {p:List Int} (h:qa7 p) (i:Nat):pL p i<256:=by have:=qmM h (3+2 * i); unfold pL; omega
theorem qeU {p:List Int} (h:qa7 p):1≤pS p∧pS p≤256:=by have:=qmM h 1; unfold pS; split <;> omega
theorem qmQ {p:List Int} (h:qa7 p):qbH .i64 (pN p:Int)=(pN p:Int):=by have:=qmg h; exact qh3 (by omega) (by omega)
theorem pO_w {p:List Int} (h:qa7 p) (i:Nat):qbH .i64 (pO p i:Int)=(pO p i:Int):=by have:=qme h i; exact qh3 (by omega) (by omega)
theorem pL_w {p:List Int} (h:qa7 p) (i:Nat):qbH .i64 (pL p i:Int)=(pL p i:Int):=by have:=qmC h i; exact qh3 (by omega) (by omega)
theorem ad2 {i:Nat} (h:i<1152921504606846976):qbc .i64 2 (qfE .i64 2 (i:Int))=((2+2 * i:Nat):Int):=by
 rw [qg6 (by omega) (by omega),qdz (by omega) (by omega)]; omega
theorem ad3 {i:Nat} (h:i<1152921504606846976):qbc .i64 3 (qfE .i64 2 (i:Int))=((3+2 * i:Nat):Int):=by
 rw [qg6 (by omega) (by omega),qdz (by omega) (by omega)]; omega
theorem qaz {p:List Int} (h:qa7 p):qT p=256:=by rw [qk,h.len]; rfl
theorem qiI (p:List Int):qbi p 0 0=gp p 0:=qhq p 0
theorem lget1 (p:List Int):qbi p 1 0=gp p 1:=qhq p 1
theorem qcw (N:Nat) {p:List Int} (h:qa7 p) {i:Nat} (hi:i<127):qh N (p,((i:Int),()))=some (((pO p i:Int),((pL p i:Int),())),()):=by
 simp only [qh,ad2 (show i<1152921504606846976 by omega),ad3 (show i<1152921504606846976 by omega),qhq,qbD h,pO_is h,pL_is h,pO_w h,pL_w h,qaz h,qbk]
 rw [qg (by simp; omega)]
theorem qdJ (N:Nat) {p:List Int} (h:qa7 p):qA N (p,())=some (((pS p:Int),()),()):=by
 simp only [qA,lget1,qbD h,qaz h,qbk]
 rw [qg (by simp),qbX]
 by_cases h1:gp p 1=0
 ·rw [qg (by simp [h1])]; simp [pS,h1]
 ·rw [qt (by simp [h1]),qg (by simp)]; simp only [pS,if_neg h1]; rw [←qiK h]
def usd (p:List Int) (i:Nat):Prop:=¬(pO p i=0∧pL p i=0)
def keys (p:List Int):Nat→List Nat
 |0=>[]
 |i+1=>keys p i++(if usd p i then (List.range (pL p i)).map (pO p i+ ·) else [])
def bad (p:List Int) (i:Nat):Prop:=usd p i∧(pL p i<1∨100<pL p i∨pO p i<pS p∨256<pO p i+pL p i∨∃k,k<pL p i∧pO p i+k∈keys p i)
def gB (p:List Int) (i:Nat):Option Unit:=if bad p i then some () else none
theorem qds {E:Type} {g:Nat→Option E} : {n:Nat} →(∀i,i<n→g i=none)→qaF g n=none
 |0,_=>rfl
 |n+1,h=>by simp only [qaF]; rw [qds fun i hi=>h i (by omega)]; exact h n (by omega)
theorem qka {E:Type} {g:Nat→Option E} {n:Nat} :qaF g n=none↔∀i,i<n→g i=none:=⟨qbm,qds⟩
def qkv (ks:List Nat):List Bool:=(List.range 256).map fun x=>decide (x∈ks)
theorem qmE {ks:List Nat} {k:Nat} (h:k<256):qbi (qkv ks) (k:Int) false=decide (k∈ks):=by
 rw [qhu,List.getD_eq_getElem?_getD]
 simp [qkv,h]
theorem qmF {ks:List Nat} {k:Nat} (h:k<256):qfk (qkv ks) (k:Int) true=qkv (ks++[k]):=by
 rw [qaC]
 refine List.ext_getElem (by simp [qkv]) fun i h1 h2=> ?_
 rw [List.getElem_set]
 simp only [qkv,List.getElem_map,List.getElem_range,Int.toNat_natCast,List.mem_append,List.mem_singleton]
 by_cases e:k=i
 ·simp [e]
 ·have:¬i=k:=fun h=>e h.symm
  simp [e,this]
theorem qmy:List.replicate 256 false=qkv []:=by
 have:(fun x:Nat=>decide (x∈([]:List Nat)))=fun _=>false:=by funext x; simp
 unfold qkv
 rw [this,List.map_const',List.length_range]
theorem qmS (o j:Nat):(List.range (j+1)).map (o+ ·)=(List.range j).map (o+ ·)++[o+j]:=by
 rw [List.range_succ,List.map_append]; rfl
theorem qhb (o j:Nat):o+j∉(List.range j).map (o+ ·):=by
 intro h
 obtain ⟨x,hx,e⟩:=List.mem_map.1 h
 have:=List.mem_range.1 hx
 omega
theorem qi9 (N:Nat) (hN:1000<N) {p:List Int} (h:qa7 p) (hs:2+2 * pN p≤pS p):qR N (p,())=some (((qaF (gB p) (pN p)).isNone,()),()):=by
 have hS:=qeU h
 simp only [qR,qal,qiI,qbD h,qis h,qmQ h,qaz h]
 rw [qg (by rw [qbk]; simp)]
 refine Eq.trans (qb9 (N:=N) (fun i=>(qkv (keys p i),((i:Int),()))) (pN p) (gB p) (fun _=>some ((false,()),())) (some ((true,()),())) ?_ ?_ ?_ (by have:=qmg h; omega)) (by cases qaF (gB p) (pN p) <;> rfl)
 ·show (qkv [],((0:Nat):Int),())=_
  rw [←qmy]
  rfl
 ·intro i hi hg ih
  have hO:=qme h i
  have hL:=qmC h i
  dsimp only
  rw [qg (by rw [qan]; simp; omega),qcw N h (show i<127 by omega),qdJ N h]
  simp only [qB,qL,cond_true,Bool.or_true,qbX,qan]
  rw [qbe (show i<4611686018427387904 by omega),qdz (x:=(pO p i:Int)) (y:=(pL p i:Int)) (by omega) (by omega)]
  by_cases hu:pO p i=0∧pL p i=0
  ·rw [qg (by simp [hu.1,hu.2])]
   have:gB p i=none:=if_neg fun hb=>hb.1 hu
   rw [this]
   simp only [keys]
   rw [if_neg (fun hh=>hh hu),List.append_nil]
  ·rw [qt (by simp; omega)]
   by_cases hv:pL p i<1∨100<pL p i∨pO p i<pS p∨256<pO p i+pL p i
   ·rw [qg (by simp; omega)]
    have:gB p i=some ():=if_pos ⟨hu,by
     rcases hv with a|a|a|a
     ·exact .inl a
     ·exact .inr (.inl a)
     ·exact .inr (.inr (.inl a))
     ·exact .inr (.inr (.inr (.inl a)))⟩
    rw [this]
   ·rw [qt (by simp; omega)]
    have hk:keys p (i+1)=keys p i++(List.range (pL p i)).map (pO p i+ ·):=by simp only [keys]; rw [if_pos (show usd p i from hu)]
    rw [hk]
    have hfst:=qb9 (N:=N) (S:=(List Bool)×(Int×Unit)) (R:=(Bool×Unit)×Unit) (step:=fun ih7 p8=>(bif (ltI p8.2.1 ((pO p i:Int)+(pL p i:Int))) then (bif (inB p8.2.1 256) then (bif (qbi p8.1 p8.2.1 false) then (some ((false,()),())) else (bif (inB p8.2.1 256) then (ih7 ((qfk p8.1 p8.2.1 true),((qbc .i64 p8.2.1 1),()))) else none)) else none) else (ih (p8.1,(((i+1:Nat):Int),()))))) (s0:=(qkv (keys p i),((pO p i:Int),())))
     (fun j=>(qkv (keys p i++(List.range j).map (pO p i+ ·)),(((pO p i+j:Nat):Int),()))) (pL p i) (fun j=>if pO p i+j∈keys p i then some () else none) (fun _=>some ((false,()),())) (ih (qkv (keys p i++(List.range (pL p i)).map (pO p i+ ·)),(((i+1:Nat):Int),()))) (by simp) ?_ ?_ (by omega)
    ·simp only [qan] at hfst
     rw [hfst]
     by_cases hd:∃k,k<pL p i∧pO p i+k∈keys p i
     ·have:gB p i=some ():=if_pos ⟨hu,.inr (.inr (.inr (.inr hd)))⟩
      rw [this]
      obtain ⟨k,hk1,hk2⟩:=hd
      cases hf:qaF (fun j=>if pO p i+j∈keys p i then some () else none) (pL p i) with
      |some _=>rfl
      |none=>have:=qbm hf k hk1; rw [if_pos hk2] at this; cases this
     ·have:gB p i=none:=if_neg fun hb=>by
       rcases hb.2 with a|a|a|a|a
       ·exact hv (.inl a)
       ·exact hv (.inr (.inl a))
       ·exact hv (.inr (.inr (.inl a)))
       ·exact hv (.inr (.inr (.inr a)))
       ·exact hd a
      rw [this,qds (fun j hj=>if_neg fun hm=>hd ⟨j,hj,hm⟩)]
    ·intro j hj _ ih7
     dsimp only
     rw [qg (by rw [qan]; simp; omega),qg (by rw [qbk]; simp; omega),qmE (by omega)]
     by_cases hm:pO p i+j∈keys p i
     ·rw [qg (by simp [hm]),if_pos hm]
     ·rw [qt (by
       have:=qhb (pO p i) j
       rw [decide_eq_false_iff_not,List.mem_append]
       rintro (a|a)
       ·exact hm a
       ·exact this a),qg (by rw [qbk]; simp; omega),qmF (by omega),qbe (by omega),if_neg hm,qmS,List.append_assoc]
      rfl
    ·intro _ ih7
     dsimp only
     rw [qt (by rw [qan]; simp)]
 ·intro _ ih
  dsimp only
  rw [qt (by rw [qan]; simp)]
end
end Go.Proofs.Ytaoakfbopejfeaa
namespace Go.Proofs.Ytaoakfbopejfeaa
open Go.Vi
open Classical
noncomputable section
def okP (p:List Int):Prop:=2+2 * pN p≤pS p∧(0<pN p→pO p (pN p - 1)≠0)∧∀i,i<pN p→¬bad p i
theorem qcR (N:Nat) (hN:1000<N) {p:List Int} (h:qa7 p):qd N (p,())=some (((if okP p then 0 else 3),()),()):=by
 have hS:=qeU h
 have hn:=qmg h
 simp only [qd,qal,qaz h,qiI,qbD h,qis h,qdJ N h,qB,qL,cond_true,qa6,qbk,qan,qbX]
 rw [qt (by simp),qg (by simp),qmQ h,qg6 (by omega) (by omega),qdz (by omega) (by omega)]
 by_cases h1:2+2 * pN p≤pS p
 ·rw [qt (by simp; omega),qi9 N hN h h1]
  simp only [qB,qL,cond_true]
  have hd:(qaF (gB p) (pN p)).isNone=decide (∀i,i<pN p→¬bad p i):=by
   rw [Bool.eq_iff_iff,Option.isNone_iff_eq_none,decide_eq_true_eq,qka]
   refine forall_congr' fun i=>forall_congr' fun hi=> ?_
   unfold gB
   by_cases hb:bad p i <;> simp [hb]
  rw [hd]
  by_cases h2:0<pN p
  ·have e:qeD .i64 (pN p:Int) 1=((pN p - 1:Nat):Int):=by rw [qgu (by omega) (by omega)]; omega
   rw [qg (by simpa using h2),e,qcw N h (show pN p - 1<127 by omega)]
   simp only [qB,qL,cond_true]
   by_cases h3:pO p (pN p - 1)=0
   ·rw [qg (by simp [h3]),if_neg fun ho=>ho.2.1 h2 h3]
   ·rw [qt (by simp [h3])]
    by_cases h4:∀i,i<pN p→¬bad p i
    ·rw [qt (by simpa using h4),if_pos ⟨h1,fun _=>h3,h4⟩]
    ·rw [qg (by simpa using h4),if_neg fun ho=>h4 ho.2.2]
  ·rw [qt (by simpa using h2)]
   by_cases h4:∀i,i<pN p→¬bad p i
   ·rw [qt (by simpa using h4),if_pos ⟨h1,fun h=>absurd h h2,h4⟩]
   ·rw [qg (by simpa using h4),if_neg fun ho=>h4 ho.2.2]
 ·rw [qg (by simp; omega),if_neg fun ho=>h1 ho.1]
theorem qeG (N:Nat) {p:List Int} (h:p.length≠256):qd N (p,())=some ((3,()),()):=by
 simp only [qd,qal,qa6]
 rw [qg (by rw [qk]; simp; omega)]
theorem qhE {α β:Type} {xs:List (α×β)} {k:α} {v:β} (h:∀q∈xs,q.1≠k):qgQ xs k v=xs++[(k,v)]:=by
 induction xs with
 |nil=>exact qj8 k v
 |cons q r ih=>rw [qig,if_neg (h q List.mem_cons_self),ih fun z hz=>h z (List.mem_cons_of_mem _ hz)]; rfl
def qgL (ks:List Nat):List (Int×Bool):=ks.map fun (k:Nat)=>((k:Int),true)
theorem qlO (ks:List Nat) (k:Nat):qco (qgL ks) (k:Int) false=decide (k∈ks):=by
 induction ks with
 |nil=>simp [qgL,qjM]
 |cons a r ih=>
  show qco (((a:Int),true)::qgL r) _ _=_
  rw [qcD]
  by_cases e:a=k
  ·subst e; simp
  ·have e':¬k=a:=fun x=>e x.symm
   rw [if_neg (by intro x; exact e (by omega)),ih]
   simp [e']
theorem qlL {ks:List Nat} {k:Nat} (h:k∉ks):qgQ (qgL ks) (k:Int) true=qgL (ks++[k]):=by
 rw [qhE fun q hq=>by
  obtain ⟨z,hz,rfl⟩:=List.mem_map.1 hq
  intro e
  have e:(z:Int)=(k:Int):=e
  exact h (by rwa [show k=z by omega])]
 simp [qgL]
def byt (p:List Int) (i:Nat):List UInt8:=qhA (qQ p (pO p i:Int) ((pO p i:Int)+(pL p i:Int)))
def recM (p:List Int):Nat→List (Int×List UInt8)
 |0=>[]
 |i+1=>if usd p i then qgQ (recM p i) (i:Int) (byt p i) else recM p i
def badR (p:List Int) (i:Nat):Prop:=(¬usd p i∧i+1=pN p)∨bad p i
def gR (p:List Int) (i:Nat):Option Unit:=if badR p i then some () else none
theorem qln {p:List Int} (h:qa7 p):okP p↔2+2 * pN p≤pS p∧∀i,i<pN p→¬badR p i:=by
 have hS:=qeU h
 constructor
 ·rintro ⟨h1,h2,h3⟩
  refine ⟨h1,fun i hi hb=> ?_⟩
  rcases hb with ⟨hu,e⟩|hb
  ·have:pO p i=0∧pL p i=0:=Classical.byContradiction hu
   have:=h2 (by omega)
   rw [show pN p - 1=i by omega] at this
   omega
  ·exact h3 i hi hb
 ·rintro ⟨h1,h2⟩
  refine ⟨h1,fun hn h0=> ?_,fun i hi hb=>h2 i hi (.inr hb)⟩
  by_cases hu:usd p (pN p - 1)
  ·exact h2 (pN p - 1) (by omega) (.inr ⟨hu,.inr (.inr (.inl (by omega)))⟩)
  ·exact h2 (pN p - 1) (by omega) (.inl ⟨hu,by omega⟩)
theorem qgZ (N:Nat) (hN:1000<N) {p:List Int} (h:qa7 p):qr N (p,())=some ((if okP p then (recM p (pN p),((pN p:Int),(true,()))) else ([],(0,(false,())))),()):=by
 have hS:=qeU h
 have hn:=qmg h
 simp only [qr,qal,qaz h,qiI,lget1,qbD h,qis h,qa6,qbk]
 rw [qt (by simp),qg (by simp),qg (by simp),qmQ h]
 have hs:(bif eqI (gp p 1) 0 then (256:Int) else gp p 1)=(pS p:Int):=by
  rw [qbX]
  by_cases h1:gp p 1=0
  ·rw [qg (by simp [h1])]; simp [pS,h1]
  ·rw [qt (by simp [h1])]; simp only [pS,if_neg h1]; rw [←qiK h]
 rw [hs,qg6 (by omega) (by omega),qdz (x:=2) (by omega) (by omega)]
 by_cases h1:2+2 * pN p≤pS p
 ·rw [qt (by rw [qan]; simp; omega)]
  refine Eq.trans (qb9 (N:=N) (fun i=>(recM p i,((pN p:Int),(qgL (keys p i),((i:Int),()))))) (pN p) (gR p) (fun _=>some (([],(0,(false,()))),())) (some ((recM p (pN p),((pN p:Int),(true,()))),())) ?_ ?_ ?_ (by omega)) ?_
  ·rfl
  ·intro i hi hg ih
   have hO:=qme h i
   have hL:=qmC h i
   dsimp only
   rw [qg (by rw [qan]; simp; omega),ad2 (show i<1152921504606846976 by omega),ad3 (show i<1152921504606846976 by omega),qg (by simp; omega)]
   simp only [qhq,qbD h,pO_is h,pL_is h,pO_w h,pL_w h,qbX,qan]
   rw [qbe (show i<4611686018427387904 by omega),qdz (x:=(pO p i:Int)) (y:=(pL p i:Int)) (by omega) (by omega),qgu (by omega) (by omega)]
   by_cases hu:pO p i=0∧pL p i=0
   ·have hnu:¬usd p i:=fun hh=>hh hu
    rw [qg (by simp [hu.1,hu.2])]
    by_cases he:i+1=pN p
    ·rw [qg (by simp; omega)]
     have:gR p i=some ():=if_pos (.inl ⟨hnu,he⟩)
     rw [this]
    ·rw [qt (by simp; omega)]
     have:gR p i=none:=if_neg fun hb=>by
      rcases hb with hb|hb
      ·exact he hb.2
      ·exact hb.1 hu
     rw [this]
     simp only [keys,recM]
     rw [if_neg hnu,if_neg hnu,List.append_nil]
   ·rw [qt (by simp; omega)]
    have hus:usd p i:=hu
    by_cases hv:pL p i<1∨100<pL p i∨pO p i<pS p∨256<pO p i+pL p i
    ·rw [qg (by simp; omega)]
     have:gR p i=some ():=if_pos (.inr ⟨hu,by
      rcases hv with a|a|a|a
      ·exact .inl a
      ·exact .inr (.inl a)
      ·exact .inr (.inr (.inl a))
      ·exact .inr (.inr (.inr (.inl a)))⟩)
     rw [this]
    ·rw [qt (by simp; omega)]
     have hk:keys p (i+1)=keys p i++(List.range (pL p i)).map (pO p i+ ·):=by simp only [keys]; rw [if_pos hus]
     have hr:recM p (i+1)=qgQ (recM p i) (i:Int) (byt p i):=by simp only [recM]; rw [if_pos hus]
     rw [hk,hr]
     have hfst:=qb9 (N:=N) (S:=(List (Int×(List UInt8)))×(Int×((List (Int×Bool))×(Int×Unit)))) (R:=((List (Int×(List UInt8)))×(Int×(Bool×Unit)))×Unit)
      (step:=fun ih9 p10=>(bif (ltI p10.2.2.2.1 ((pO p i:Int)+(pL p i:Int))) then (bif (qco p10.2.2.1 p10.2.2.2.1 false) then (some ((([]:List (Int×(List UInt8))),(0,(false,()))),())) else (ih9 (p10.1,(p10.2.1,((qgQ p10.2.2.1 p10.2.2.2.1 true),((qbc .i64 p10.2.2.2.1 1),())))))) else (bif (inS (pO p i:Int) ((pO p i:Int)+(pL p i:Int)) 256) then (ih ((qgQ p10.1 (i:Int) (qhA (qQ p (pO p i:Int) ((pO p i:Int)+(pL p i:Int))))),(p10.2.1,(p10.2.2.1,(((i+1:Nat):Int),()))))) else none)))
      (s0:=(recM p i,((pN p:Int),(qgL (keys p i),((pO p i:Int),())))))
      (fun j=>(recM p i,((pN p:Int),(qgL (keys p i++(List.range j).map (pO p i+ ·)),(((pO p i+j:Nat):Int),()))))) (pL p i) (fun j=>if pO p i+j∈keys p i then some () else none) (fun _=>some (([],(0,(false,()))),())) (ih (qgQ (recM p i) (i:Int) (byt p i),((pN p:Int),(qgL (keys p i++(List.range (pL p i)).map (pO p i+ ·)),(((i+1:Nat):Int),()))))) (by simp) ?_ ?_ (by omega)
     ·simp only [qan] at hfst
      rw [hfst]
      by_cases hd:∃k,k<pL p i∧pO p i+k∈keys p i
      ·have:gR p i=some ():=if_pos (.inr ⟨hu,.inr (.inr (.inr (.inr hd)))⟩)
       rw [this]
       obtain ⟨k,hk1,hk2⟩:=hd
       cases hf:qaF (fun j=>if pO p i+j∈keys p i then some () else none) (pL p i) with
       |some _=>rfl
       |none=>have:=qbm hf k hk1; rw [if_pos hk2] at this; cases this
      ·have:gR p i=none:=if_neg fun hb=>by
        rcases hb with hb|hb
        ·exact hb.1 hus
        rcases hb.2 with a|a|a|a|a
        ·exact hv (.inl a)
        ·exact hv (.inr (.inl a))
        ·exact hv (.inr (.inr (.inl a)))
        ·exact hv (.inr (.inr (.inr a)))
        ·exact hd a
       rw [this,qds (fun j hj=>if_neg fun hm=>hd ⟨j,hj,hm⟩)]
     ·intro j hj _ ih7
      dsimp only
      rw [qg (by rw [qan]; simp; omega),qlO]
      by_cases hm:pO p i+j∈keys p i
      ·rw [qg (by simp [hm]),if_pos hm]
      ·have hm2:pO p i+j∉keys p i++(List.range j).map (pO p i+ ·):=by
        have:=qhb (pO p i) j
        rw [List.mem_append]
        rintro (a|a)
        ·exact hm a
        ·exact this a
       rw [qt (by simpa using hm2),qlL hm2,qbe (by omega),if_neg hm,qmS,List.append_assoc]
       rfl
     ·intro _ ih7
      dsimp only
      rw [qt (by rw [qan]; simp),qg (by rw [qhy]; simp; omega)]
      rfl
  ·intro _ ih
   dsimp only
   rw [qt (by rw [qan]; simp)]
  ·by_cases ho:okP p
   ·rw [if_pos ho,qds (g:=gR p) fun i hi=>if_neg (((qln h).1 ho).2 i hi)]
   ·rw [if_neg ho]
    cases hf:qaF (gR p) (pN p) with
    |some _=>rfl
    |none=>
     refine absurd ((qln h).2 ⟨h1,fun i hi hb=> ?_⟩) ho
     have:=qbm hf i hi
     rw [gR,if_pos hb] at this
     cases this
 ·rw [qg (by rw [qan]; simp; omega),if_neg fun ho=>h1 ho.1]
theorem qjk (N:Nat) {p:List Int} (h:p.length≠256):qr N (p,())=some (([],(0,(false,()))),()):=by
 simp only [qr,qa6]
 rw [qg (by rw [qk]; simp; omega)]
end
end Go.Proofs.Ytaoakfbopejfeaa
namespace Go.Proofs.Ytaoakfbopejfeaa
open Go.Vi
open Classical
noncomputable section
structure Slot (p:List Int) (i:Nat):Prop where
 lo:pS p≤pO p i
 pos:1≤pL p i
 max:pL p i≤100
 hi:pO p i+pL p i≤256
 new:∀k,k<pL p i→pO p i+k∉keys p i
theorem qm4 {p:List Int} {i:Nat} (h:¬bad p i) (hu:usd p i):Slot p i:=by
 have hb:¬(pL p i<1∨100<pL p i∨pO p i<pS p∨256<pO p i+pL p i∨∃k,k<pL p i∧pO p i+k∈keys p i):=fun hh=>h ⟨hu,hh⟩
 simp only [not_or] at hb
 obtain ⟨h1,h2,h3,h4,h5⟩:=hb
 exact ⟨by omega,by omega,by omega,by omega,fun k hk hm=>h5 ⟨k,hk,hm⟩⟩
theorem okP.slot {p:List Int} (h:okP p) {i:Nat} (hi:i<pN p) (hu:usd p i):Slot p i:=qm4 (h.2.2 i hi) hu
theorem qg2 {p:List Int} (hp:qa7 p) (h:okP p) {i:Nat} (hi:i<pN p):0<pO p i↔usd p i:=by
 constructor
 ·intro h1 h2; omega
 ·intro hu
  have:=(h.slot hi hu).lo
  have:=qeU hp
  omega
theorem okP.lt {p:List Int} (hp:qa7 p) (h:okP p):pN p<128:=by have:=h.1; have:=qeU hp; omega
theorem qlk {p:List Int} (hp:qa7 p) {i:Nat} (h:pO p i+pL p i≤256):(byt p i).length=pL p i:=by
 unfold byt
 rw [show (pO p i:Int)+(pL p i:Int)=((pO p i+pL p i:Nat):Int) by omega,qj2,qeL]
 simp [hp.len]
 omega
theorem byt_ne {p:List Int} (hp:qa7 p) {i:Nat} (h:Slot p i):byt p i≠[]:=by
 intro e
 have:=qlk hp h.hi
 rw [e] at this
 have h1:=h.pos
 rw [←this] at h1
 exact absurd h1 (by simp)
theorem qfz (p:List Int) (z:Int):(n:Nat)→qco (recM p n) z []=if 0≤z∧z.toNat<n∧usd p z.toNat then byt p z.toNat else []
 |0=>by simp [recM,qjM]
 |n+1=>by
  simp only [recM]
  have ih:=qfz p z n
  by_cases hu:usd p n
  ·rw [if_pos hu,qlQ,ih]
   by_cases e:(n:Int)=z
   ·subst e
    rw [if_pos rfl,if_pos ⟨by omega,by omega,by simpa using hu⟩]
    simp
   ·rw [if_neg e]
    by_cases h2:0≤z∧z.toNat<n∧usd p z.toNat
    ·rw [if_pos h2,if_pos ⟨h2.1,by omega,h2.2.2⟩]
    ·rw [if_neg h2,if_neg fun hh=>h2 ⟨hh.1,by omega,hh.2.2⟩]
  ·rw [if_neg hu,ih]
   by_cases h2:0≤z∧z.toNat<n∧usd p z.toNat
   ·rw [if_pos h2,if_pos ⟨h2.1,by omega,h2.2.2⟩]
   ·rw [if_neg h2,if_neg fun hh=>h2 ⟨hh.1,by
     have:z.toNat≠n:=fun e=>hu (e ▸ hh.2.2)
     omega,hh.2.2⟩]
theorem qe3 {p:List Int} (hp:qa7 p) (h:okP p) (z:Int):qco (recM p (pN p)) z []=[]↔¬(0≤z∧z.toNat<pN p∧usd p z.toNat):=by
 rw [qfz]
 by_cases h1:0≤z∧z.toNat<pN p∧usd p z.toNat
 ·rw [if_pos h1]
  have:=byt_ne hp (h.slot h1.2.1 h1.2.2)
  simp [this,h1]
 ·rw [if_neg h1]; simp [h1]
theorem qmt (N:Nat) {xs:List Int} (h:xs.length≤256):qbC N (xs,())=some ((xs,()),()):=by
 simp only [qbC]
 have hr:qfu (qT ([]:List Int)) (qT xs) 1=true:=qj3 (by simp; omega)
 have hl:qct ([]:List Int) xs=xs:=by rw [qaM]; rfl
 rw [hr,hl]
 simp only [cond_true]
 rw [qbX]
 by_cases e:xs=[]
 ·subst e
  rw [qg (by rw [qk]; rfl),qiQ,if_pos rfl]
 ·rw [qt (by
   rw [qk,decide_eq_false_iff_not]
   intro hh
   exact e (List.length_eq_zero_iff.1 (by omega)))]
def hasG (p:List Int) (z:Int):Prop:=0≤z∧z.toNat<pN p∧usd p z.toNat
theorem get_eq (N:Nat) (hN:1000<N) {p:List Int} (hp:qa7 p) (z:Int) (hz: -9223372036854775808≤z∧z<9223372036854775808):qY N (p,(z,()))=some (if okP p then (if hasG p z then (qQ p (pO p z.toNat:Int) ((pO p z.toNat:Int)+(pL p z.toNat:Int)),(0,())) else ([],(4,()))) else ([],(3,())),()):=by
 simp only [qY,qal,qcR N hN hp,qB,qL,cond_true,qa6]
 by_cases ho:okP p
 ·simp only [if_pos ho]
  rw [qt (by simp),qaz hp,qg (by rw [qbk]; simp)]
  simp only [qiI,qbD hp,qis hp,qmQ hp,qan,qhV]
  by_cases h1:0≤z∧z<(pN p:Int)
  ·rw [qt (by simp; omega)]
   obtain ⟨i,rfl⟩:∃i:Nat,z=(i:Int):=⟨z.toNat,by omega⟩
   have hi:i<pN p:=by omega
   have:=ho.lt hp
   rw [qcw N hp (show i<127 by have:=ho.1; have:=qeU hp; omega)]
   simp only [qB,qL,cond_true,Int.toNat_natCast,qbX]
   have hO:=qme hp i
   have hL:=qmC hp i
   by_cases hu:usd p i
   ·have hs:=ho.slot hi hu
    have:=(qg2 hp ho hi).2 hu
    have hh:=hs.hi
    rw [qt (by simp; omega),qdz (by omega) (by omega),if_pos ⟨by omega,by simpa using hi,by simpa using hu⟩]
    have hcl:=qmt N (xs:=qQ p (pO p i:Int) ((pO p i:Int)+(pL p i:Int))) (by
     rw [qaJ]; simp [hp.len]; omega)
    rw [hcl]
    simp only [qB,qL]
    rw [qg (by rw [qhy]; simp; omega)]
   ·have:¬0<pO p i:=fun hh=>hu ((qg2 hp ho hi).1 hh)
    rw [qg (by simp; omega),if_neg fun hh=>hu (by simpa using hh.2.2)]
  ·rw [qg (by simp; omega),if_neg fun hh=>h1 ⟨hh.1,by have:=hh.2.1; have:=hh.1; omega⟩]
 ·simp only [if_neg ho]
  rw [qg (by simp)]
theorem qnt (N:Nat) {p:List Int} (h:p.length≠256) (z:Int):qY N (p,(z,()))=some (([],(3,())),()):=by
 simp only [qY,qal,qeG N h,qB,qL,cond_true,qa6]
 rw [qg (by simp)]
def qdf (p:List Int):Nat→List Int
 |0=>[]
 |i+1=>if usd p i then qdf p i++[(i:Int)] else qdf p i
theorem qdY (p:List Int):(i:Nat)→(qdf p i).length≤i
 |0=>Nat.le_refl _
 |i+1=>by
  have:=qdY p i
  simp only [qdf]
  split <;> simp <;> omega
theorem qjO (N:Nat) (hN:1000<N) {p:List Int} (hp:qa7 p):qE N (p,())=some (if okP p then (qdf p (pN p),(0,())) else ([],(3,())),()):=by
 simp only [qE,qal,qcR N hN hp,qB,qL,cond_true,qa6]
 by_cases ho:okP p
 ·simp only [if_pos ho]
  have hn:=ho.lt hp
  rw [qt (by simp),qaz hp,qg (by rw [qbk]; simp)]
  simp only [qiI,qbD hp,qis hp,qmQ hp]
  refine qet (fun i=>(qdf p i,((i:Int),()))) (pN p) _ rfl ?_ ?_ (by omega)
  ·intro i hi ih
   have hl:=qdY p i
   dsimp only
   rw [qg (by rw [qan]; simp; omega),qcw N hp (show i<127 by have:=ho.1; have:=qeU hp; omega)]
   simp only [qB,qL,cond_true]
   rw [qbe (by omega),qan]
   have hpo:=qg2 hp ho hi
   by_cases hu:usd p i
   ·have h1:=hpo.2 hu
    have e:decide ((0:Int)<(pO p i:Int))=true:=by simp; omega
    rw [e]
    simp only [cond_true]
    rw [qg (qj3 (by simp; omega)),qaM]
    simp only [qdf]
    rw [if_pos hu]
   ·have h1:¬0<pO p i:=fun hh=>hu (hpo.1 hh)
    have e:decide ((0:Int)<(pO p i:Int))=false:=by simp; omega
    rw [e]
    simp only [cond_true,cond_false]
    simp only [qdf]
    rw [if_neg hu]
  ·intro ih
   dsimp only
   rw [qt (by rw [qan]; simp)]
 ·simp only [if_neg ho]
  rw [qg (by simp)]
theorem qlH (N:Nat) {p:List Int} (h:p.length≠256):qE N (p,())=some (([],(3,())),()):=by
 simp only [qE,qal,qeG N h,qB,qL,cond_true,qa6]
 rw [qg (by simp)]
theorem qmx (N:Nat) {xs:List Int} (h:xs.length<N) (hb:xs.length<4611686018427387904):qab N (xs,(xs,()))=some ((true,()),()):=by
 simp only [qab,qa6]
 rw [qt (by simp)]
 refine qet (fun i=>((i:Int),())) xs.length _ rfl ?_ ?_ h
 ·intro i hi ih
  dsimp only
  rw [qg (lt_len hi),qng hi,qg (by rfl),qt (by simp),qbe (by omega)]
 ·intro ih
  dsimp only
  rw [qt (qm7 (by omega))]
def gF (p:List Int) (i:Nat):Option Nat:=if usd p i then none else some i
def free (p:List Int):Nat:=(qaF (gF p) (pN p)).getD (pN p)
theorem qh8 (p:List Int):free p≤pN p∧(∀i,i<free p→usd p i)∧(free p<pN p→¬usd p (free p)):=by
 unfold free
 cases h:qaF (gF p) (pN p) with
 |none=>
  refine ⟨Nat.le_refl _,fun i hi=> ?_,fun hh=>absurd hh (Nat.lt_irrefl _)⟩
  have:=qbm h i hi
  exact Classical.byContradiction fun hu=>by rw [gF,if_neg hu] at this; cases this
 |some j=>
  obtain ⟨i,h1,h2,h3⟩:=qgf h
  have hi:¬usd p i∧i=j:=by
   unfold gF at h2
   split at h2
   ·cases h2
   ·rename_i hu; exact ⟨hu,by injection h2⟩
  obtain ⟨hu,rfl⟩:=hi
  refine ⟨by simp; omega,fun k hk=> ?_,fun _=>hu⟩
  have:=qbm h3 k hk
  exact Classical.byContradiction fun hu=>by rw [gF,if_neg hu] at this; cases this
theorem qiL (N:Nat) (hN:1000<N) {p:List Int} (hp:qa7 p) (ho:okP p):qae N (p,())=some (((free p:Int),()),()):=by
 have hn:=ho.lt hp
 simp only [qae,qal,qaz hp,qiI,qbD hp,qis hp,qmQ hp,qbk]
 rw [qg (by simp)]
 refine Eq.trans (qb9 (N:=N) (fun i=>((i:Int),())) (pN p) (gF p) (fun j=>some (((j:Int),()),())) (some (((pN p:Int),()),())) ?_ ?_ ?_ (by omega)) (by
  unfold free; cases qaF (gF p) (pN p) <;> rfl)
 ·rfl
 ·intro i hi _ ih
  dsimp only
  rw [qg (by rw [qan]; simp; omega),qcw N hp (show i<127 by have:=ho.1; have:=qeU hp; omega)]
  simp only [qB,qL,cond_true,qbX]
  have hpo:=qg2 hp ho hi
  by_cases hu:usd p i
  ·have h1:=hpo.2 hu
   rw [qt (by simp; omega),qbe (by omega),gF,if_pos hu]
  ·have h1:¬0<pO p i:=fun hh=>hu (hpo.1 hh)
   rw [qg (by simp; omega),gF,if_neg hu]
 ·intro _ ih
  dsimp only
  rw [qt (by rw [qan]; simp),qg (by simp)]
end
end Go.Proofs.Ytaoakfbopejfeaa
namespace Go.Proofs.Ytaoakfbopejfeaa
open Go.Vi
open Classical
noncomputable section
theorem qgR {S R:Type} {st:(S→Option R)→S→Option R} (μ:S→Nat) (I:S→Prop) (Q:Option R→Prop)
  (hs:∀ih p,I p→(∀q,I q→μ q<μ p→Q (ih q))→Q (st ih p)):∀(N:Nat) (p:S),I p→μ p<N→Q (qcL N st p)
 |0,p,_,h=>by omega
 |N+1,p,hI,h=>by
  rw [qcx]
  exact hs _ p hI fun q hq hm=>qgR μ I Q hs N q hq (by omega)
theorem qhB {E S R:Type} {step:(S→Option R)→E→List E→S→Option R} {fin:S→Option R} {r:R} (I:List E→S→Prop) (h0:∀s,I [] s→fin s=some r)
  (hs:∀(xs:List E) (s:S) (j:Nat) (hj:j<xs.length),I xs s→∀ih:S→Option R,(∀s',I (xs.eraseIdx j) s'→ih s'=some r)→step ih xs[j] (xs.eraseIdx j) s=some r):∀(n:Nat) (xs:List E) (s:S),xs.length=n→I xs s→qkj step fin xs s=some r
 |0,xs,s,hl,hI=>by
  obtain rfl:=List.length_eq_zero_iff.1 hl
  rw [qjE]; exact h0 s hI
 |n+1,xs,s,hl,hI=>by
  refine qkM (by intro e; rw [e] at hl; cases hl) fun j hj=>hs xs s j hj hI _ fun s' hs'=> ?_
  exact qhB I h0 hs n _ _ (by rw [List.length_eraseIdx_of_lt hj]; omega) hs'
theorem qeC {p:List Int} : {n:Nat} →∀q∈recM p n,∃j,j<n∧usd p j∧q=((j:Int),byt p j)
 |0=>by intro q hq; cases hq
 |n+1=>by
  intro q hq
  simp only [recM] at hq
  split at hq
  ·rename_i hu
   rw [qhE (fun z hz=>by
    obtain ⟨j,hj,_,rfl⟩:=qeC z hz
    intro e
    have e:(j:Int)=(n:Int):=e
    omega)] at hq
   rcases List.mem_append.1 hq with h|h
   ·obtain ⟨j,hj,a,b⟩:=qeC q h
    exact ⟨j,by omega,a,b⟩
   ·exact ⟨n,by omega,hu,List.mem_singleton.1 h⟩
  ·obtain ⟨j,hj,a,b⟩:=qeC q hq
   exact ⟨j,by omega,a,b⟩
theorem qiB {p:List Int} {n:Nat} (hu:usd p n):recM p (n+1)=recM p n++[((n:Int),byt p n)]:=by
 simp only [recM]
 rw [if_pos hu,qhE fun z hz=>by
  obtain ⟨j,hj,_,rfl⟩:=qeC z hz
  intro e
  have e:(j:Int)=(n:Int):=e
  omega]
theorem qjR {p:List Int} :(n:Nat)→(recM p n).length≤n
 |0=>Nat.le_refl _
 |n+1=>by
  have:=qjR (p:=p) n
  by_cases hu:usd p n
  ·rw [qiB hu]; simp; omega
  ·simp only [recM]; rw [if_neg hu]; omega
def qh4 (p:List Int):Nat→Nat
 |0=>0
 |i+1=>qh4 p i+(if usd p i then pL p i else 0)
theorem qiC {p:List Int} {i j:Nat} (h:i≤j):qh4 p i≤qh4 p j:=by
 induction j with
 |zero=>rw [show i=0 by omega]; exact Nat.le_refl _
 |succ j ih=>
  by_cases e:i=j+1
  ·rw [e]; exact Nat.le_refl _
  ·have:=ih (by omega); simp only [qh4]; omega
theorem qil {p:List Int} {i:Nat} (h:usd p i):qh4 p (i+1)=qh4 p i+pL p i:=by simp only [qh4]; rw [if_pos h]
theorem qiG {p:List Int} {i:Nat} (h:¬usd p i):qh4 p (i+1)=qh4 p i:=by simp only [qh4]; rw [if_neg h]; omega
theorem qlt {S:Nat} : {m:Nat} → {l:List Nat} →l.Nodup→(∀x∈l,S≤x∧x<S+m)→l.length≤m
 |0,l,_,h=>by
  cases l with
  |nil=>exact Nat.le_refl _
  |cons a r=>have:=h a List.mem_cons_self; omega
 |m+1,l,hn,h=>by
  by_cases hm:S+m∈l
  ·have h1:=List.length_erase_of_mem hm
   have h2:=qlt (S:=S) (m:=m) (hn.erase (S+m)) fun x hx=>by
    have:=(hn.mem_erase_iff).1 hx
    have:=h x this.2
    omega
   have:0<l.length:=List.length_pos_of_mem hm
   omega
  ·have:=qlt (S:=S) (m:=m) hn fun x hx=>by
    have h1:=h x hx
    have:x≠S+m:=fun e=>hm (e ▸ hx)
    omega
   omega
theorem qjZ (p:List Int):(n:Nat)→(keys p n).length=qh4 p n
 |0=>rfl
 |n+1=>by
  simp only [keys,qh4,List.length_append,qjZ p n]
  split <;> simp
theorem qlp {p:List Int} (ho:okP p): {n:Nat} →n≤pN p→∀x∈keys p n,pS p≤x∧x<256
 |0,_=>by intro x hx; cases hx
 |n+1,hn=>by
  intro x hx
  simp only [keys] at hx
  rcases List.mem_append.1 hx with h|h
  ·exact qlp ho (by omega) x h
  ·split at h
   ·rename_i hu
    obtain ⟨k,hk,rfl⟩:=List.mem_map.1 h
    have:=List.mem_range.1 hk
    have hs:=ho.slot (by omega:n<pN p) hu
    have h1:=hs.lo
    have h2:=hs.hi
    omega
   ·cases h
theorem qgX {p:List Int} (ho:okP p): {n:Nat} →n≤pN p→(keys p n).Nodup
 |0,_=>List.nodup_nil
 |n+1,hn=>by
  have ih:=qgX ho (n:=n) (by omega)
  simp only [keys]
  split
  ·rename_i hu
   have hs:=ho.slot (by omega:n<pN p) hu
   refine List.nodup_append.2 ⟨ih,?_,fun a ha b hb e=> ?_⟩
   ·refine List.Pairwise.map _ (fun a b hab=> ?_) List.nodup_range
    intro e; exact hab (by have e:pO p n+a=pO p n+b:=e; omega)
   ·subst e
    obtain ⟨k,hk,rfl⟩:=List.mem_map.1 hb
    exact hs.new k (List.mem_range.1 hk) ha
  ·rw [List.append_nil]; exact ih
theorem qnm {p:List Int} (hp:qa7 p) (ho:okP p):qh4 p (pN p)+pS p≤256:=by
 have hS:=qeU hp
 have:=qlt (S:=pS p) (m:=256 - pS p) (qgX ho (Nat.le_refl _)) fun x hx=>by
  have:=qlp ho (Nat.le_refl _) x hx
  omega
 rw [qjZ] at this
 omega
theorem qiJ {p:List Int} {i k:Nat} {v:Int} (h:i<p.length):gp (p.set i v) k=if k=i then v else gp p k:=by
 unfold gp
 rw [List.getD_eq_getElem?_getD,List.getD_eq_getElem?_getD,List.getElem?_set]
 by_cases e:i=k
 ·subst e; simp [h]
 ·have e':¬k=i:=fun x=>e x.symm
  simp [e,e']
theorem qa7.set {p:List Int} (h:qa7 p) {i:Nat} {v:Int} (hv:0≤v∧v<256):qa7 (p.set i v):=
 ⟨by rw [List.length_set]; exact h.len,fun x hx=>by
  rcases List.mem_or_eq_of_mem_set hx with hh|rfl
  ·exact h.byte x hh
  ·exact hv⟩
def set2 (p:List Int) (i:Nat) (a l:Int):List Int:=(p.set (2+2 * i) a).set (3+2 * i) l
theorem qlD {p:List Int} (h:qa7 p) {i:Nat} {a l:Int} (ha:0≤a∧a<256) (hl:0≤l∧l<256):qa7 (set2 p i a l):=(h.set ha).set hl
theorem qm2 {p:List Int} (h:qa7 p) {i:Nat} (hi:i<127) {a l:Int} (k:Nat):gp (set2 p i a l) k=if k=3+2 * i then l else if k=2+2 * i then a else gp p k:=by
 unfold set2
 rw [qiJ (by rw [List.length_set,h.len]; omega),qiJ (by rw [h.len]; omega)]
theorem qkk (N:Nat) {p:List Int} (h:qa7 p) {i:Nat} (hi:i<127) {a l:Int} (ha:0≤a∧a<256) (hl:0≤l∧l<256):qao N (p,((i:Int),(a,(l,()))))=some ((),(set2 p i a l,())):=by
 simp only [qao,ad2 (show i<1152921504606846976 by omega),ad3 (show i<1152921504606846976 by omega),qhO ha.1 ha.2,qhO hl.1 hl.2,qbk]
 have e:qT (qfk p ((2+2 * i:Nat):Int) a)=256:=by rw [qaC,qk,List.length_set,h.len]; rfl
 rw [e,qaz h,qg (by simp; omega),qaC,qaC]
 simp only [Int.toNat_natCast]
 rfl
def cpy (p:List Int) (a:Nat) (D:List Int):List Int:=p.take a++(D++p.drop (a+D.length))
theorem cpy_gp {p D:List Int} (h:p.length=256) {a:Nat} (ha:a+D.length≤256) (k:Nat):gp (cpy p a D) k=if a≤k∧k<a+D.length then gp D (k - a) else gp p k:=by
 unfold gp cpy
 rw [List.getD_eq_getElem?_getD,List.getD_eq_getElem?_getD,List.getD_eq_getElem?_getD]
 have hl:(p.take a).length=a:=by rw [List.length_take]; omega
 by_cases h1:k<a
 ·rw [List.getElem?_append_left (by omega),if_neg (by omega),List.getElem?_take_of_lt h1]
 ·rw [List.getElem?_append_right (by omega),hl]
  by_cases h2:k<a+D.length
  ·rw [List.getElem?_append_left (by omega),if_pos ⟨by omega,h2⟩]
  ·rw [List.getElem?_append_right (by omega),if_neg (by omega),List.getElem?_drop]
   congr 2; omega
theorem qjY {p D:List Int} (h:qa7 p) {a:Nat} (ha:a+D.length≤256) (hD:∀x∈D,0≤x∧x<256):qa7 (cpy p a D):=by
 have:=h.len
 refine ⟨by unfold cpy; simp; omega,fun x hx=> ?_⟩
 unfold cpy at hx
 rcases List.mem_append.1 hx with hx|hx
 ·exact h.byte x (List.mem_of_mem_take hx)
 ·rcases List.mem_append.1 hx with hx|hx
  ·exact hD x hx
  ·exact h.byte x (List.mem_of_mem_drop hx)
def part (p:List Int) (o l:Nat):List Int:=(p.take (o+l)).drop o
theorem qc4 {p:List Int} (h:qa7 p) {o l:Nat} (hl:o+l≤256):(part p o l).length=l:=by
 have:=h.len
 simp [part]; omega
theorem qjt {p:List Int} (h:qa7 p) {o l k:Nat} (hk:k<l):gp (part p o l) k=gp p (o+k):=by
 unfold gp part
 rw [List.getD_eq_getElem?_getD,List.getD_eq_getElem?_getD,List.getElem?_drop,List.getElem?_take_of_lt (by omega)]
theorem qiF {p:List Int} (h:qa7 p) {o l:Nat} :∀x∈part p o l,0≤x∧x<256:=fun x hx=>h.byte x (List.mem_of_mem_take (List.mem_of_mem_drop hx))
theorem qeV (p:List Int) (o l:Nat):qQ p (o:Int) ((o:Int)+(l:Int))=part p o l:=by
 rw [show (o:Int)+(l:Int)=((o+l:Nat):Int) by omega,qj2]; rfl
theorem qmu {p c:List Int} (hp:qa7 p) (hc:qa7 c) {o a l:Nat} (h1:o+l≤256) (h2:a+l≤256) (h:∀k,k<l→gp c (a+k)=gp p (o+k)):part c a l=part p o l:=by
 refine List.ext_getElem (by rw [qc4 hc h2,qc4 hp h1]) fun k g1 g2=> ?_
 rw [qc4 hc h2] at g1
 have e1:=qjt hc (o:=a) g1
 have e2:=qjt hp (o:=o) g1
 have f:∀(q:List Int) (hq:k<q.length),gp q k=q[k]:=fun q hq=>by
  unfold gp; rw [List.getD_eq_getElem?_getD,List.getElem?_eq_getElem hq]; rfl
 rw [←f _ (by rw [qc4 hc h2]; exact g1),←f _ (by rw [qc4 hp h1]; exact g1),e1,e2]
 exact h k g1
theorem qj4 (p:List Int) (i:Nat):byt p i=qhA (part p (pO p i) (pL p i)):=by unfold byt; rw [qeV]
end
end Go.Proofs.Ytaoakfbopejfeaa
namespace Go.Proofs.Ytaoakfbopejfeaa
open Go.Vi
open Classical
noncomputable section
def qbV (p:List Int) (i:Nat):Nat:=256 - qh4 p i
structure CI (p:List Int) (i:Nat) (out:List Int):Prop where
 page:qa7 out
 h0:gp out 0=gp p 0
 h1:gp out 1=0
 slots:∀j,j<i→usd p j→gp out (2+2 * j)=(qbV p (j+1):Int)∧gp out (3+2 * j)=(pL p j:Int)
 zero:∀j,j<pN p→(¬usd p j∨i≤j)→gp out (2+2 * j)=0∧gp out (3+2 * j)=0
 data:∀j,j<i→usd p j→∀k,k<pL p j→gp out (qbV p (j+1)+k)=gp p (pO p j+k)
structure qiS (p c:List Int):Prop where
 page:qa7 c
 num:pN c=pN p
 start:pS c=qbV p (pN p)
 used:∀j,j<pN p→usd p j→pO c j=qbV p (j+1)∧pL c j=pL p j
 free:∀j,j<pN p→¬usd p j→pO c j=0∧pL c j=0
 data:∀j,j<pN p→usd p j→∀k,k<pL p j→gp c (qbV p (j+1)+k)=gp p (pO p j+k)
theorem qfB (k:Nat):gp (List.replicate 256 0) k=0:=by
 unfold gp
 rw [List.getD_eq_getElem?_getD,List.getElem?_replicate]
 split <;> rfl
theorem qna:qa7 (List.replicate 256 0):=⟨List.length_replicate,fun x hx=>by rw [(List.mem_replicate.1 hx).2]; decide⟩
theorem qmK (N:Nat):qC N ()=some ((List.replicate 256 0,()),()):=by
 simp only [qC,qhV,qho,qdU]
 rw [qg (by decide)]
 rfl
theorem CI.start {p:List Int} (hp:qa7 p) (hn:pN p<128):CI p 0 ((List.replicate 256 0).set 0 (gp p 0)):=by
 have hg:∀k,gp ((List.replicate 256 (0:Int)).set 0 (gp p 0)) k=if k=0 then gp p 0 else 0:=fun k=>by
  rw [qiJ (by simp),qfB]
 refine ⟨qna.set (qmM hp 0),by rw [hg,if_pos rfl],by rw [hg,if_neg (by omega)],fun j hj=>by omega,fun j _ _=>⟨by rw [hg,if_neg (by omega)],by rw [hg,if_neg (by omega)]⟩,fun j hj=>by omega⟩
theorem qbl {p:List Int} (hp:qa7 p) (ho:okP p) {i:Nat} (hi:i≤pN p):pS p≤qbV p i∧qbV p i≤256∧qbV p i+qh4 p i=256:=by
 have h1:=qnm hp ho
 have h2:=qiC (p:=p) hi
 unfold qbV
 omega
theorem qex {p:List Int} (hp:qa7 p) (ho:okP p) {i:Nat} (hi:i<pN p) (hu:usd p i):qbV p (i+1)+pL p i=qbV p i:=by
 have h1:=qbl hp ho (i:=i+1) (by omega)
 have h2:=qbl hp ho (i:=i) (by omega)
 have:=qil hu
 omega
theorem qeN {p:List Int} {i j:Nat} (h:i≤j):qbV p j≤qbV p i:=by
 have:=qiC (p:=p) h
 unfold qbV
 omega
theorem CI.next {p:List Int} (hp:qa7 p) (ho:okP p) {i:Nat} (hi:i<pN p) {out:List Int} (h:CI p i out) (hu:usd p i):
  CI p (i+1) (set2 (cpy out (qbV p (i+1)) (part p (pO p i) (pL p i))) i (qbV p (i+1):Int) (pL p i:Int)):=by
 have hs:=ho.slot hi hu
 have he1:=qbl hp ho (i:=i+1) (by omega)
 have he:=qbl hp ho (i:=i) (by omega)
 have hU:=qex hp ho hi hu
 have h1:=ho.1
 have hS:=qeU hp
 have hpos:=hs.pos
 have hlen:(part p (pO p i) (pL p i)).length=pL p i:=qc4 hp hs.hi
 have hpg:qa7 (cpy out (qbV p (i+1)) (part p (pO p i) (pL p i))):=qjY h.page (by omega) (qiF hp)
 have hg:∀k,gp (set2 (cpy out (qbV p (i+1)) (part p (pO p i) (pL p i))) i (qbV p (i+1):Int) (pL p i:Int)) k=if k=3+2 * i then (pL p i:Int) else if k=2+2 * i then (qbV p (i+1):Int) else if qbV p (i+1)≤k∧k<qbV p i then gp p (pO p i+(k - qbV p (i+1))) else gp out k:=fun k=>by
  rw [qm2 hpg (by omega),cpy_gp h.page.len (by omega),hlen,hU]
  by_cases hk:qbV p (i+1)≤k∧k<qbV p i
  ·rw [if_pos hk,if_pos hk,qjt hp (by omega)]
  ·rw [if_neg hk,if_neg hk]
 have hmx:=hs.max
 refine ⟨qlD hpg (by omega) (by omega),?_,?_,fun j hj hu'=> ?_,fun j hj hz=> ?_,fun j hj hu' k hk=> ?_⟩
 ·rw [hg,if_neg (by omega),if_neg (by omega),if_neg (by omega)]; exact h.h0
 ·rw [hg,if_neg (by omega),if_neg (by omega),if_neg (by omega)]; exact h.h1
 ·rw [hg,hg]
  by_cases e:j=i
  ·subst e
   rw [if_neg (by omega),if_pos rfl,if_pos rfl]; exact ⟨rfl,rfl⟩
  ·rw [if_neg (by omega),if_neg (by omega),if_neg (by omega),if_neg (by omega),if_neg (by omega),if_neg (by omega)]
   exact h.slots j (by omega) hu'
 ·rw [hg,hg]
  have e:j≠i:=by
   rintro rfl
   rcases hz with hz|hz
   ·exact hz hu
   ·omega
  rw [if_neg (by omega),if_neg (by omega),if_neg (by omega),if_neg (by omega),if_neg (by omega),if_neg (by omega)]
  exact h.zero j hj (by rcases hz with hz|hz; exact .inl hz; exact .inr (by omega))
 ·rw [hg]
  have hej:=qbl hp ho (i:=j+1) (by omega)
  rw [if_neg (by omega),if_neg (by omega)]
  by_cases e:j=i
  ·subst e
   rw [if_pos (by omega),show qbV p (j+1)+k - qbV p (j+1)=k by omega]
  ·have:=qeN (p:=p) (show j+1≤i by omega)
   rw [if_neg (by omega)]
   exact h.data j (by omega) hu' k hk
theorem CI.skip {p:List Int} {i:Nat} {out:List Int} (h:CI p i out) (hu:¬usd p i):CI p (i+1) out:=
 ⟨h.page,h.h0,h.h1,fun j hj hu'=>h.slots j (by
  have:j≠i:=fun e=>hu (e ▸ hu')
  omega) hu',fun j hj hz=>h.zero j hj (by
  rcases hz with hz|hz
  ·exact .inl hz
  ·exact .inr (by omega)),fun j hj hu'=>h.data j (by
  have:j≠i:=fun e=>hu (e ▸ hu')
  omega) hu'⟩
theorem CI.fin {p:List Int} (hp:qa7 p) (ho:okP p) {out:List Int} (h:CI p (pN p) out):qiS p (if qbV p (pN p)<256 then out.set 1 (qbV p (pN p):Int) else out):=by
 have he:=qbl hp ho (i:=pN p) (Nat.le_refl _)
 have h1:=ho.1
 generalize hc:(if qbV p (pN p)<256 then out.set 1 (qbV p (pN p):Int) else out)=c
 have hpg:qa7 c:=by
  rw [←hc]
  split
  ·exact h.page.set (by omega)
  ·exact h.page
 have hg:∀k,k≠1→gp c k=gp out k:=fun k hk=>by
  rw [←hc]
  split
  ·rw [qiJ (by rw [h.page.len]; omega),if_neg hk]
  ·rfl
 have hg1:gp c 1=if qbV p (pN p)<256 then (qbV p (pN p):Int) else 0:=by
  rw [←hc]
  split
  ·rw [qiJ (by rw [h.page.len]; omega),if_pos rfl]
  ·exact h.h1
 refine ⟨hpg,?_,?_,fun j hj hu=> ?_,fun j hj hu=> ?_,fun j hj hu k hk=> ?_⟩
 ·unfold pN; rw [hg 0 (by omega),h.h0]
 ·unfold pS
  rw [hg1]
  by_cases e:qbV p (pN p)<256
  ·rw [if_pos e,if_neg (by omega)]; simp
  ·rw [if_neg e,if_pos rfl]; omega
 ·have:=h.slots j hj hu
  unfold pO
  rw [hg _ (by omega),this.1]
  refine ⟨by simp,?_⟩
  show (gp c (3+2 * j)).toNat=_
  rw [hg _ (by omega),this.2]; simp
 ·have:=h.zero j hj (.inl hu)
  unfold pO
  rw [hg _ (by omega),this.1]
  refine ⟨rfl,?_⟩
  show (gp c (3+2 * j)).toNat=_
  rw [hg _ (by omega),this.2]; rfl
 ·have hej:=qeN (p:=p) (show j+1≤pN p by omega)
  rw [hg _ (by omega)]
  exact h.data j hj hu k hk
theorem qg1 (N:Nat) (hN:1000<N) {p:List Int} (hp:qa7 p) (ho:okP p):∃c,qP N (p,())=some ((c,()),())∧qiS p c:=by
 have hS:=qeU hp
 have hn:pN p<128:=ho.lt hp
 have h127:pN p≤127:=by have:=ho.1; omega
 have hb0:=qmM hp 0
 simp only [qP,qmK,qB,qL,cond_true,qal,qiI,qbD hp,qmQ hp,qaz hp]
 rw [show qT (List.replicate 256 (0:Int))=256 by rw [qk,List.length_replicate]; rfl,qg (by rw [qbk]; simp),qg (by rw [qbk]; simp),qaC]
 simp only [Int.toNat_zero]
 refine qgR (μ:=fun s:(List Int)×(Int×(Int×Unit))=>pN p - s.2.2.1.toNat) (I:=fun s=>∃i:Nat,i≤pN p∧s.2.2.1=(i:Int)∧s.2.1=(qbV p i:Int)∧CI p i s.1)
  (Q:=fun r=>∃c,r=some ((c,()),())∧qiS p c) ?_ N _ ⟨0,by omega,rfl,rfl,?_⟩ (by simp; omega)
 ·rintro ih ⟨out,e,z,⟨⟩⟩ ⟨i,hi,rfl,rfl,hI⟩ hih
  simp only [Int.toNat_natCast] at hih⊢
  rw [qis hp]
  by_cases hlt:i<pN p
  ·rw [qg (by rw [qan]; simp; omega),qcw N hp (show i<127 by omega)]
   simp only [qB,qL,cond_true,qeV]
   have hpo:=qg2 hp ho hlt
   rw [qan,qbe (show i<4611686018427387904 by omega)]
   by_cases hu:usd p i
   ·have hs:=ho.slot hlt hu
    have h1:=hpo.2 hu
    have hU:=qex hp ho hlt hu
    have he1:=qbl hp ho (i:=i+1) (by omega)
    have he:=qbl hp ho (i:=i) (by omega)
    have hmx:=hs.max
    have hhi:=hs.hi
    have hpos:=hs.pos
    have hlen:(part p (pO p i) (pL p i)).length=pL p i:=qc4 hp hs.hi
    have d:decide ((0:Int)<(pO p i:Int))=true:=by simp; omega
    have e1:qeD .i64 (qbV p i:Int) (pL p i:Int)=(qbV p (i+1):Int):=by rw [qgu (by omega) (by omega)]; omega
    rw [d,e1]
    simp only [cond_true,qaz hI.page]
    have hpl:qT (part p (pO p i) (pL p i))=(pL p i:Int):=by rw [qk,hlen]
    have hsl:qct (qQ out 0 (qbV p (i+1):Int)) (qct (part p (pO p i) (pL p i)) (qQ out (qbc .i64 (qbV p (i+1):Int) (pL p i:Int)) 256))=cpy out (qbV p (i+1)) (part p (pO p i) (pL p i)):=by
     rw [ql1,qdz (by omega) (by omega),show ((qbV p (i+1):Int)+(pL p i:Int))=((qbV p (i+1)+pL p i:Nat):Int) by omega,show (256:Int)=qT out by rw [qaz hI.page],qkC,qaM,qaM]
     unfold cpy
     rw [hlen]
    rw [qdz (x:=(pO p i:Int)) (y:=(pL p i:Int)) (by omega) (by omega),qeV,hpl,hsl]
    have hpg:qa7 (cpy out (qbV p (i+1)) (part p (pO p i) (pL p i))):=qjY hI.page (by omega) (qiF hp)
    have hset:=qkk N hpg (show i<127 by omega) (a:=(qbV p (i+1):Int)) (l:=(pL p i:Int)) (by have:=ho.1; omega) (by omega)
    rw [hset]
    simp only [qB,qL]
    rw [qgu (by omega) (by omega),qg (by rw [qhy,qhy,qhV]; simp; omega)]
    exact hih _ ⟨i+1,by omega,rfl,rfl,hI.next hp ho hlt hu⟩ (by simp only [Int.toNat_natCast]; omega)
   ·have h1:¬0<pO p i:=fun hh=>hu (hpo.1 hh)
    have d:decide ((0:Int)<(pO p i:Int))=false:=by simp; omega
    rw [d]
    simp only [cond_true,cond_false]
    refine hih _ ⟨i+1,by omega,rfl,?_,hI.skip hu⟩ (by simp only [Int.toNat_natCast]; omega)
    show (qbV p i:Int)=(qbV p (i+1):Int)
    unfold qbV
    rw [qiG hu]
  ·obtain rfl:i=pN p:=by omega
   have he:=qbl hp ho (i:=pN p) (Nat.le_refl _)
   rw [qt (by rw [qan]; simp),qan,qaz hI.page]
   refine ⟨_,?_,hI.fin hp ho⟩
   by_cases e:qbV p (pN p)<256
   ·have d:decide ((qbV p (pN p):Int)<256)=true:=by simp; omega
    rw [d,if_pos e]
    simp only [cond_true]
    rw [qg (by rw [qbk]; simp),qhO (by omega) (by omega),qaC]
    rfl
   ·have d:decide ((qbV p (pN p):Int)<256)=false:=by simp; omega
    rw [d,if_neg e]
    rfl
 ·exact CI.start hp hn
end
end Go.Proofs.Ytaoakfbopejfeaa
namespace Go.Proofs.Ytaoakfbopejfeaa
open Go.Vi
open Classical
noncomputable section
theorem qiS.usd {p c:List Int} (hp:qa7 p) (ho:okP p) (h:qiS p c) {j:Nat} (hj:j<pN p):usd c j↔usd p j:=by
 constructor
 ·intro hu
  exact Classical.byContradiction fun hn=>hu (h.free j hj hn)
 ·intro hu hz
  have:=(h.used j hj hu).2
  have:=(ho.slot hj hu).pos
  omega
theorem qiS.keys {p c:List Int} (hp:qa7 p) (ho:okP p) (h:qiS p c): {n:Nat} →n≤pN p→∀x∈keys c n,qbV p n≤x
 |0,_=>by intro x hx; cases hx
 |n+1,hn=>by
  intro x hx
  simp only [Ytaoakfbopejfeaa.keys] at hx
  have hm:=qeN (p:=p) (show n≤n+1 by omega)
  rcases List.mem_append.1 hx with hh|hh
  ·have:=qiS.keys hp ho h (n:=n) (by omega) x hh
   omega
  ·split at hh
   ·rename_i hu
    have hu':=(h.usd hp ho (show n<pN p by omega)).1 hu
    obtain ⟨k,hk,rfl⟩:=List.mem_map.1 hh
    rw [(h.used n (by omega) hu').1]
    omega
   ·cases hh
theorem qiS.ok {p c:List Int} (hp:qa7 p) (ho:okP p) (h:qiS p c):okP c:=by
 have hN:=qbl hp ho (i:=pN p) (Nat.le_refl _)
 have hS:=qeU hp
 refine ⟨by rw [h.num,h.start]; have:=ho.1; omega,fun hn hz=> ?_,fun i hi hb=> ?_⟩
 ·rw [h.num] at hn hz
  have hu:Ytaoakfbopejfeaa.usd p (pN p - 1):=(qg2 hp ho (by omega)).1 (by have:=ho.2.1 hn; omega)
  have h1:=(h.used _ (by omega) hu).1
  have h2:=qbl hp ho (i:=pN p - 1+1) (by omega)
  omega
 ·rw [h.num] at hi
  obtain ⟨hu,hb⟩:=hb
  have hu':=(h.usd hp ho hi).1 hu
  have hs:=ho.slot hi hu'
  obtain ⟨h1,h2⟩:=h.used i hi hu'
  have hU:=qex hp ho hi hu'
  have he:=qbl hp ho (i:=i) (by omega)
  have hm:=qeN (p:=p) (show i+1≤pN p by omega)
  have hpos:=hs.pos
  have hmx:=hs.max
  rw [h1,h2,h.start] at hb
  rcases hb with a|a|a|a|⟨k,hk,a⟩
  ·omega
  ·omega
  ·omega
  ·omega
  ·have:=h.keys hp ho (n:=i) (by omega) _ a
   omega
theorem qiS.byt {p c:List Int} (hp:qa7 p) (ho:okP p) (h:qiS p c) {j:Nat} (hj:j<pN p) (hu:Ytaoakfbopejfeaa.usd p j):byt c j=byt p j:=by
 obtain ⟨h1,h2⟩:=h.used j hj hu
 have hU:=qex hp ho hj hu
 have he:=qbl hp ho (i:=j) (by omega)
 rw [qj4,qj4,h1,h2,qmu hp h.page (ho.slot hj hu).hi (by omega) (h.data j hj hu)]
theorem qiS.recM {p c:List Int} (hp:qa7 p) (ho:okP p) (h:qiS p c):(n:Nat)→n≤pN p→recM c n=recM p n
 |0,_=>rfl
 |n+1,hn=>by
  have ih:=qiS.recM hp ho h n (by omega)
  simp only [Ytaoakfbopejfeaa.recM]
  by_cases hu:Ytaoakfbopejfeaa.usd p n
  ·rw [if_pos hu,if_pos ((h.usd hp ho (by omega)).2 hu),ih,h.byt hp ho (by omega) hu]
  ·rw [if_neg hu,if_neg fun hh=>hu ((h.usd hp ho (by omega)).1 hh),ih]
theorem qkf (N:Nat) (hN:1000<N) {p:List Int} (hp:qa7 p) (ho:okP p):∃c,qO N (p,())=some ((c,(0,())),())∧qiS p c:=by
 obtain ⟨c,h1,h2⟩:=qg1 N hN hp ho
 refine ⟨c,?_,h2⟩
 simp only [qO,qal,qcR N hN hp,qB,qL,cond_true,qa6,if_pos ho,h1]
 rw [qt (by simp)]
theorem qfZ (N:Nat) (hN:1000<N) {p:List Int} (h:qd N (p,())=some ((3,()),())):qO N (p,())=some (([],(3,())),()):=by
 simp only [qO,qal,h,qB,qL,cond_true,qa6]
 rw [qg (by simp)]
def qle (p:List Int):Int:=max 0 (min 100 ((256 - (2+2 * max (pN p) (free p+1)+qh4 p (pN p)):Int)))
theorem qjF (x y:Nat):qlZ (x:Int) (y:Int)=((max x y:Nat):Int):=by
 rw [qfJ]; split <;> omega
theorem qk1 (x:Int):qlZ 0 (qnr 100 x)=max 0 (min 100 x):=by
 rw [qfJ,qhw]
 split <;> split <;> omega
theorem qi3 (N:Nat) (hN:1000<N) {p:List Int} (hp:qa7 p) (ho:okP p):qag N (p,())=some ((qle p,()),()):=by
 obtain ⟨c,h1,h2⟩:=qg1 N hN hp ho
 have hf:=(qh8 p).1
 have hn:=ho.lt hp
 have he:=qbl hp ho (i:=pN p) (Nat.le_refl _)
 simp only [qag,qal,qiL N hN hp ho,h1,qB,qL,cond_true,qaz hp,qiI,qbD hp,qis hp,qmQ hp,qdJ N h2.page,h2.start]
 rw [qg (by rw [qbk]; simp),qbe (by omega),qjF,qgu (x:=(qbV p (pN p):Int)) (by omega) (by omega),qg6 (by omega) (by omega),qgu (by omega) (by omega),qk1]
 simp only [Bool.and_self,cond_true]
 unfold qle
 congr 4
 omega
theorem qjq (N:Nat) (hN:1000<N) {p:List Int} (hp:qa7 p) (ho:okP p):qK N (p,())=some ((qle p,(0,())),()):=by
 simp only [qK,qal,qcR N hN hp,qB,qL,cond_true,qa6,if_pos ho,qi3 N hN hp ho]
 rw [qt (by simp)]
theorem qfg (N:Nat) (hN:1000<N) {p:List Int} (h:qd N (p,())=some ((3,()),())):qK N (p,())=some ((0,(3,())),()):=by
 simp only [qK,qal,h,qB,qL,cond_true,qa6]
 rw [qg (by simp)]
def qms (m:List (Int×List UInt8)):Nat:=(m.map fun q=>q.2.length).sum
theorem qg9:(m:List (Int×List UInt8))→(j:Nat)→(hj:j<m.length)→qms m=m[j].2.length+qms (m.eraseIdx j)
 |a::r,0,_=>by simp [qms]
 |a::r,j+1,hj=>by
  have:=qg9 r j (by simpa using hj)
  simp only [qms,List.map_cons,List.sum_cons,List.eraseIdx_cons_succ,List.getElem_cons_succ] at this⊢
  omega
theorem qh7 {p:List Int} (hp:qa7 p) (ho:okP p):(n:Nat)→n≤pN p→qms (recM p n)=qh4 p n
 |0,_=>rfl
 |n+1,hn=>by
  have ih:=qh7 hp ho n (by omega)
  by_cases hu:usd p n
  ·rw [qiB hu,qil hu,←ih]
   have:=qlk hp (ho.slot (show n<pN p by omega) hu).hi
   simp [qms,this]
  ·simp only [recM]
   rw [if_neg hu,qiG hu,ih]
theorem qeY (x y:List UInt8):eqS x y=decide (x=y):=by rw [qhG]; by_cases h:x=y <;> simp [h]
theorem qf3 (N:Nat) (hN:1000<N) {p:List Int} (hp:qa7 p) (ho:okP p):qU N (recM p (pN p),((pN p:Int),()))=some ((qle p,()),()):=by
 have hn:=ho.lt hp
 obtain ⟨hf1,hf2,hf3⟩:=qh8 p
 have he:=qbl hp ho (i:=pN p) (Nat.le_refl _)
 simp only [qU,qal]
 refine qet (fun i=>((i:Int),())) (free p) _ rfl ?_ ?_ (by omega)
 ·intro i hi ih
  dsimp only
  rw [qeY]
  have:qco (recM p (pN p)) (i:Int) []≠[]:=by
   rw [Ne,qe3 hp ho]
   exact fun hh=>hh ⟨by omega,by simp; omega,by simpa using hf2 i hi⟩
  rw [qg (by simpa using this),qbe (by omega)]
 ·intro ih
  dsimp only
  rw [qeY]
  have:qco (recM p (pN p)) (free p:Int) []=[]:=by
   rw [qe3 hp ho]
   intro hh
   have h1:free p<pN p:=by simpa using hh.2.1
   exact hf3 h1 (by simpa using hh.2.2)
  rw [qt (by simpa using this),qbe (by omega),qjF,qg6 (by omega) (by omega),qdz (by omega) (by omega)]
  refine qhB (fun xs s=>s.1+(qms xs:Int)=2+2 * ((max (pN p) (free p+1):Nat):Int)+(qh4 p (pN p):Int)∧0≤s.1∧s.1≤100000) ?_ ?_ _ _ _ rfl ?_
  ·rintro ⟨s,⟨⟩⟩ ⟨h1,h2,h3⟩
   have h1:s+((qms []:Nat):Int)=_:=h1
   have h0:qms []=0:=rfl
   rw [h0] at h1
   dsimp only at h2 h3⊢
   rw [qgu (by omega) (by omega),qk1]
   unfold qle
   congr 4
   omega
  ·rintro xs ⟨s,⟨⟩⟩ j hj ⟨h1,h2,h3⟩ ih hih
   have hle:=qg9 xs j hj
   dsimp only at h1 h2 h3⊢
   rw [qk]
   have h4:s+(xs[j].2.length:Int)≤100000:=by omega
   rw [qdz (by omega) (by omega)]
   exact hih _ ⟨by dsimp only; omega,by dsimp only; omega,h4⟩
  ·refine ⟨?_,by dsimp only; omega,by dsimp only; omega⟩
   rw [qh7 hp ho _ (Nat.le_refl _)]
theorem qjp (N:Nat) (hN:1000<N) {c:List Int} (hc:qa7 c) (ho:okP c) {m:List (Int×List UInt8)} (hl:m.length=(recM c (pN c)).length) (hm:∀q∈m,qco (recM c (pN c)) q.1 []=q.2):
  qap N (c,(m,()))=some ((true,()),()):=by
 have hn:=ho.lt hc
 have hrl:=qjR (p:=c) (pN c)
 simp only [qap,qal,qgZ N hN hc,if_pos ho,qB,qL,cond_true,qhV,qa6,qk]
 rw [qg (by simp; omega),qt (by simp; omega)]
 refine qhB (fun xs _=>∀q∈xs,qco (recM c (pN c)) q.1 []=q.2) (fun _ _=>rfl) ?_ _ _ _ rfl hm
 intro xs s j hj hI ih hih
 rw [qeY,hI _ (List.getElem_mem hj),qt (by simp)]
 exact hih _ fun q hq=>hI q (List.mem_of_mem_eraseIdx hq)
theorem qlq {p:List Int} (n:Nat):∀q∈recM p n,qco (recM p n) q.1 []=q.2:=fun q hq=>by
 obtain ⟨j,hj,hu,rfl⟩:=qeC q hq
 rw [qfz,if_pos ⟨by simp,by simpa using hj,by simpa using hu⟩]
 simp
theorem okZ:okP (List.replicate 256 0):=by
 have hn:pN (List.replicate 256 0)=0:=by unfold pN; rw [qfB]; rfl
 have hs:pS (List.replicate 256 0)=256:=by unfold pS; rw [qfB,if_pos rfl]
 exact ⟨by rw [hn,hs]; omega,fun h=>by omega,fun i hi=>by omega⟩
theorem qnk:([]:List Int).length≠256:=by decide
theorem pageOf {p:List Int} (hb:∀x∈p,0≤x∧x<256) (h:p.length=256):qa7 p:=⟨h,hb⟩
theorem law5 (N:Nat) (hN:1000<N) (p:List Int) (hb:∀x∈p,0≤x∧x<256) (i:Int) (hi: -9223372036854775808≤i∧i<9223372036854775808):
  qD N (p,(i,()))=some ((true,()),()):=by
 have hz:pN (List.replicate 256 0)=0:=by unfold pN; rw [qfB]; rfl
 simp only [qD,qal,qmK,qB,qL,cond_true,qjO N hN qna,if_pos okZ,hz,qdf,qcR N hN qna,qeG N qnk,Bool.or_true,Bool.and_true,qa6,qan,qk,List.length_nil]
 rw [qt (by simp)]
 by_cases hl:p.length=256
 ·have hp:=pageOf hb hl
  rw [qgZ N hN hp,get_eq N hN hp i hi,qjO N hN hp]
  simp only [qB,qL,cond_true]
  by_cases ho:okP p
  ·obtain ⟨c,hc1,hc2⟩:=qkf N hN hp ho
   have hco:=hc2.ok hp ho
   have hn:=ho.lt hp
   have hsl:=qdY p (pN p)
   simp only [if_pos ho,hc1,qjq N hN hp ho,qB,qL,cond_true,Bool.not_true,cond_false]
   refine qet (fun k=>(qdf p k,((k:Int),()))) (pN p) _ rfl ?_ ?_ (by omega)
   ·intro k hk ih
    have hl:=qdY p k
    dsimp only
    rw [qg (by simp; omega),qbe (by omega),qeY]
    by_cases hu:usd p k
    ·have:qco (recM p (pN p)) (k:Int) []≠[]:=by
      rw [Ne,qe3 hp ho]
      exact fun hh=>hh ⟨by omega,by simpa using hk,by simpa using hu⟩
     have d:decide (qco (recM p (pN p)) (k:Int) []=[])=false:=by simpa using this
     rw [d]
     simp only [Bool.not_false,cond_true]
     rw [qg (by rw [qcp]; simp; omega),qaM]
     simp only [qdf]
     rw [if_pos hu]
    ·have:qco (recM p (pN p)) (k:Int) []=[]:=by
      rw [qe3 hp ho]
      exact fun hh=>hu (by simpa using hh.2.2)
     have d:decide (qco (recM p (pN p)) (k:Int) []=[])=true:=by simpa using this
     rw [d]
     simp only [Bool.not_true,cond_true,cond_false]
     simp only [qdf]
     rw [if_neg hu]
   ·intro ih
    dsimp only
    rw [qt (by simp)]
    have hrec:recM c (pN c)=recM p (pN p):=by rw [hc2.num,hc2.recM hp ho _ (Nat.le_refl _)]
    have hph:qap N (c,(recM p (pN p),()))=some ((true,()),()):=qjp N hN hc2.page hco (by rw [hrec]) (by rw [hrec]; exact qlq _)
    rw [qcR N hN hp,if_pos ho,qmx N (by omega) (by omega),qf3 N hN hp ho,hph]
    simp only [qB,qL,Bool.or_true,Bool.and_true,cond_true,qeY,qbX]
    by_cases hg:hasG p i
    ·have hne:qco (recM p (pN p)) i []≠[]:=by
      rw [Ne,qe3 hp ho]
      exact fun hh=>hh hg
     have hge:qco (recM p (pN p)) i []=byt p i.toNat:=by rw [qfz]; exact if_pos hg
     rw [if_pos hg,qt (by
      have hne':byt p i.toNat≠[]:=by rw [←hge]; exact hne
      simp only [hge]
      simp [hne']
      rfl)]
     simp
    ·have hge:qco (recM p (pN p)) i []=[]:=by
      rw [qe3 hp ho]; exact hg
     rw [if_neg hg,qt (by rw [hge]; simp)]
     simp
  ·have hck:qd N (p,())=some ((3,()),()):=by rw [qcR N hN hp,if_neg ho]
   simp only [if_neg ho,qfZ N hN hck,qfg N hN hck,hck,qB,qL,cond_true,Bool.not_false,qbX]
   rw [qbw,qbw,qbw]
   rfl
 ·have hck:=qeG N hl
  simp only [qjk N hl,qnt N hl,qlH N hl,qfZ N hN hck,qfg N hN hck,hck,qB,qL,cond_true,Bool.not_false,qbX]
  rw [qbw,qbw,qbw]
  rfl
theorem byteOf {xs:List Int} (h:(Ty.slice (.int .u8)).good xs):∀x∈xs,0≤x∧x<256:=fun x hx=>by
 have:=h.2 x hx
 simp [Ty.good,IntKind.has,IntKind.min,IntKind.max,IntKind.signed,IntKind.bits] at this
 omega
theorem intOf {x:Int} (h:(Ty.int .i64).good x): -9223372036854775808≤x∧x<9223372036854775808:=by
 simp [Ty.good,IntKind.has,IntKind.min,IntKind.max,IntKind.signed,IntKind.bits] at h
 omega
theorem qmk (x:(List Int)×(Int×Unit)) (h:(Ty.slice (.int .u8)).good x.1) (h2:(Ty.int .i64).good x.2.1):∃N z,qD N x=some ((true,()),z):=
 ⟨1001,(),law5 1001 (by omega) x.1 (byteOf h) x.2.1 (intOf h2)⟩
end
end Go.Proofs.Ytaoakfbopejfeaa
