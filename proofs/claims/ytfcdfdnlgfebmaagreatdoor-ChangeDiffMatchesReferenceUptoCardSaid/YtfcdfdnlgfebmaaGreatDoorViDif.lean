/- Two sorted lists of rows held against each other: the merge, and key by key. -/
import Derived.Test.YtfcdfdnlgfebmaaGreatDoorViOrd
import Derived.Test.YtfcdfdnlgfebmaaGreatDoorViLib
set_option linter.unusedVariables false
set_option linter.unusedSimpArgs false
set_option linter.unnecessarySimpa false
set_option linter.unusedSectionVars false
set_option linter.unusedSimpArgs false
set_option maxRecDepth 100000
namespace Go.Vi
noncomputable section
abbrev qt6:Type:=Int×(List UInt8×(qaG×(qaG×Unit)))
def qrH (n:List UInt8) (k:qaG):qt6:=(2,(n,(k,(([]:qaG),()))))
def qn6 (n:List UInt8) (r:qaG):qt6:=(1,(n,(([]:qaG),(r,()))))
def qdL (n:List UInt8) (pk:List Int):List qaG→List qaG→List qt6
 |[],[]=>[]
 |a::as,[]=>qrH n (qaA pk a)::qdL n pk as []
 |[],b::bs=>qn6 n b::qdL n pk [] bs
 |a::as,b::bs=>if qH (qaA pk a) (qaA pk b)<0 then qrH n (qaA pk a)::qdL n pk as (b::bs)
  else if 0<qH (qaA pk a) (qaA pk b) then qn6 n b::qdL n pk (a::as) bs
  else (if a=b then [] else [qn6 n b])++qdL n pk as bs
termination_by a b=>a.length+b.length
theorem qjh (n:List UInt8) (pk:List Int):qdL n pk [] []=[]:=by rw [qdL]
theorem qh9 (n:List UInt8) (pk:List Int) (a:qaG) (as:List qaG):qdL n pk (a::as) []=qrH n (qaA pk a)::qdL n pk as []:=by rw [qdL]
theorem qgE (n:List UInt8) (pk:List Int) (b:qaG) (bs:List qaG):qdL n pk [] (b::bs)=qn6 n b::qdL n pk [] bs:=by rw [qdL]
theorem qh0 (n:List UInt8) (pk:List Int) (a b:qaG) (as bs:List qaG):qdL n pk (a::as) (b::bs)=if qH (qaA pk a) (qaA pk b)<0 then qrH n (qaA pk a)::qdL n pk as (b::bs)
  else if 0<qH (qaA pk a) (qaA pk b) then qn6 n b::qdL n pk (a::as) bs
  else (if a=b then [] else [qn6 n b])++qdL n pk as bs:=by rw [qdL]
theorem qes (n:List UInt8) (pk:List Int):(m:Nat)→(a b:List qaG)→a.length+b.length≤m→(qdL n pk a b).length≤a.length+b.length
 |m,[],[],_=>by rw [qjh]; simp
 |0,a::as,_,h=>by simp at h
 |0,[],b::bs,h=>by simp at h
 |m+1,a::as,[],h=>by
  have:=qes n pk m as [] (by simp at h⊢; omega)
  rw [qh9]; simp at this⊢; omega
 |m+1,[],b::bs,h=>by
  have:=qes n pk m [] bs (by simp at h⊢; omega)
  rw [qgE]; simp at this⊢; omega
 |m+1,a::as,b::bs,h=>by
  have h1:=qes n pk m as (b::bs) (by simp at h⊢; omega)
  have h2:=qes n pk m (a::as) bs (by simp at h⊢; omega)
  have h3:=qes n pk m as bs (by simp at h⊢; omega)
  rw [qh0]
  split
  ·simp at h1⊢; omega
  ·split
   ·simp at h2⊢; omega
   ·split
    ·simp at h3⊢; omega
    ·simp at h3⊢; omega
def qfy (pk:List Int) (rows:List qaG) (k:qaG):Option qaG:=rows.find? (fun r=>decide (qaA pk r=k))
def qj4 (n:List UInt8) (pk:List Int) (a b:List qaG) (k:qaG):List qt6:=match qfy pk b k with
 |none=>[qrH n k]
 |some rb=>match qfy pk a k with
  |none=>[qn6 n rb]
  |some ra=>if ra=rb then [] else [qn6 n rb]
abbrev qnh (pk:List Int) (rows:List qaG):Prop:=rows.Pairwise (fun a b=>qH (qaA pk a) (qaA pk b)<0)
abbrev qln (rows:List qaG):Prop:=rows.Pairwise (fun a b=>qH a b<0)
theorem qbS (a:qaG):¬qH a a<0:=by rw [(qeP a a).2 rfl]; omega
theorem qvj {a b:qaG} :0<qH a b↔qH b a<0:=by rw [qn5 a b]; omega
theorem quM {a b:qaG} (h1:¬qH a b<0) (h2:¬qH b a<0):a=b:=by
 rw [qn5 a b] at h2
 exact (qeP a b).1 (by omega)
theorem qcO (pk:List Int) (r:qaG) (rows:List qaG) (k:qaG):qfy pk (r::rows) k=if qaA pk r=k then some r else qfy pk rows k:=by
 unfold qfy
 rw [List.find?_cons]
 by_cases h:qaA pk r=k
 ·simp [h]
 ·simp [h]
theorem qi5 (pk:List Int) (k:qaG):qfy pk [] k=none:=rfl
theorem qj8 {pk:List Int} {rows:List qaG} {k:qaG} (h:∀r∈rows,qaA pk r≠k):qfy pk rows k=none:=by
 unfold qfy
 rw [List.find?_eq_none]
 intro r hr
 simpa using h r hr
theorem qe5 {K:List qaG} (h:qln K) {m:qaG} (hm:m∈K) (hl:∀x∈K,¬qH x m<0):∃K',K=m::K'∧qln K'∧∀x,x∈K'↔x∈K∧x≠m:=by
 cases K with
 |nil=>cases hm
 |cons k K'=>
  have hc:=List.pairwise_cons.1 h
  have hk:k=m:=by
   rcases List.mem_cons.1 hm with rfl|hm'
   ·rfl
   ·exact absurd (hc.1 m hm') (hl k List.mem_cons_self)
  subst hk
  refine ⟨K',rfl,hc.2,fun x=>⟨fun hx=>⟨List.mem_cons_of_mem _ hx,fun e=> ?_⟩,fun hx=>(List.mem_cons.1 hx.1).resolve_left hx.2⟩⟩
  subst e
  exact qbS _ (hc.1 x hx)
theorem qct {α β:Type} {f g:α→List β} : {l:List α} →(∀x∈l,f x=g x)→l.flatMap f=l.flatMap g
 |[],_=>rfl
 |x::l,h=>by
  rw [List.flatMap_cons,List.flatMap_cons,h x List.mem_cons_self,qct fun y hy=>h y (List.mem_cons_of_mem _ hy)]
theorem qeZ (n:List UInt8) (pk:List Int):(m:Nat)→(a b K:List qaG)→a.length+b.length≤m→qnh pk a→qnh pk b→qln K→
  (∀k,k∈K↔(∃r∈a,qaA pk r=k)∨∃r∈b,qaA pk r=k)→K.flatMap (qj4 n pk a b)=qdL n pk a b
 |m,[],[],K,_,_,_,_,hK=>by
  have:K=[]:=by
   apply List.eq_nil_iff_forall_not_mem.2
   intro k hk
   rcases (hK k).1 hk with ⟨_,h,_⟩|⟨_,h,_⟩ <;> cases h
  rw [this,qjh]; rfl
 |0,a::as,_,_,h,_,_,_,_=>by simp at h
 |0,[],b::bs,_,h,_,_,_,_=>by simp at h
 |m+1,a::as,[],K,hm,ha,hb,hs,hK=>by
  have hc:=List.pairwise_cons.1 ha
  have hmem:qaA pk a∈K:=(hK _).2 (.inl ⟨a,List.mem_cons_self,rfl⟩)
  obtain ⟨K',rfl,hs',hK'⟩:=qe5 hs hmem (fun x hx hlt=>by
   rcases (hK x).1 hx with ⟨r,hr,rfl⟩|⟨_,h,_⟩
   ·rcases List.mem_cons.1 hr with rfl|hr
    ·exact qbS _ hlt
    ·exact qbS _ (qbK _ _ _ (hc.1 r hr) hlt)
   ·cases h)
  have hne:∀r∈as,qaA pk r≠qaA pk a:=fun r hr e=>by
   have:=hc.1 r hr; rw [e] at this; exact qbS _ this
  have ih:=qeZ n pk m as [] K' (by simp at hm⊢; omega) hc.2 hb hs' (fun k=>by
   rw [hK' k,hK k]
   constructor
   ·rintro ⟨⟨r,hr,rfl⟩|⟨_,h,_⟩,h2⟩
    ·rcases List.mem_cons.1 hr with rfl|hr
     ·exact absurd rfl h2
     ·exact .inl ⟨r,hr,rfl⟩
    ·cases h
   ·rintro (⟨r,hr,rfl⟩|⟨_,h,_⟩)
    ·exact ⟨.inl ⟨r,List.mem_cons_of_mem _ hr,rfl⟩,hne r hr⟩
    ·cases h)
  rw [qh9,List.flatMap_cons,←ih]
  have e1:qj4 n pk (a::as) [] (qaA pk a)=[qrH n (qaA pk a)]:=by simp only [qj4,qi5]
  rw [e1,qct (g:=qj4 n pk as []) (fun x hx=>by simp only [qj4,qi5])]
  rfl
 |m+1,[],b::bs,K,hm,ha,hb,hs,hK=>by
  have hc:=List.pairwise_cons.1 hb
  have hmem:qaA pk b∈K:=(hK _).2 (.inr ⟨b,List.mem_cons_self,rfl⟩)
  obtain ⟨K',rfl,hs',hK'⟩:=qe5 hs hmem (fun x hx hlt=>by
   rcases (hK x).1 hx with ⟨_,h,_⟩|⟨r,hr,rfl⟩
   ·cases h
   ·rcases List.mem_cons.1 hr with rfl|hr
    ·exact qbS _ hlt
    ·exact qbS _ (qbK _ _ _ (hc.1 r hr) hlt))
  have hne:∀r∈bs,qaA pk r≠qaA pk b:=fun r hr e=>by
   have:=hc.1 r hr; rw [e] at this; exact qbS _ this
  have ih:=qeZ n pk m [] bs K' (by simp at hm⊢; omega) ha hc.2 hs' (fun k=>by
   rw [hK' k,hK k]
   constructor
   ·rintro ⟨⟨_,h,_⟩|⟨r,hr,rfl⟩,h2⟩
    ·cases h
    ·rcases List.mem_cons.1 hr with rfl|hr
     ·exact absurd rfl h2
     ·exact .inr ⟨r,hr,rfl⟩
   ·rintro (⟨_,h,_⟩|⟨r,hr,rfl⟩)
    ·cases h
    ·exact ⟨.inr ⟨r,List.mem_cons_of_mem _ hr,rfl⟩,hne r hr⟩)
  rw [qgE,List.flatMap_cons,←ih]
  have e1:qj4 n pk [] (b::bs) (qaA pk b)=[qn6 n b]:=by simp only [qj4,qi5,qcO,if_true]
  rw [e1,qct (g:=qj4 n pk [] bs) (fun x hx=>by
   have hx2:=(hK' x).1 hx
   simp only [qj4,qi5,qcO,if_neg (fun e=>hx2.2 e.symm:¬qaA pk b=x)])]
  rfl
 |m+1,a::as,b::bs,K,hm,ha,hb,hs,hK=>by
  have hca:=List.pairwise_cons.1 ha
  have hcb:=List.pairwise_cons.1 hb
  have hnea:∀r∈as,qaA pk r≠qaA pk a:=fun r hr e=>by
   have:=hca.1 r hr; rw [e] at this; exact qbS _ this
  have hneb:∀r∈bs,qaA pk r≠qaA pk b:=fun r hr e=>by
   have:=hcb.1 r hr; rw [e] at this; exact qbS _ this
  have hma:qaA pk a∈K:=(hK _).2 (.inl ⟨a,List.mem_cons_self,rfl⟩)
  have hmb:qaA pk b∈K:=(hK _).2 (.inr ⟨b,List.mem_cons_self,rfl⟩)
  rw [qh0]
  by_cases h1:qH (qaA pk a) (qaA pk b)<0
  ·rw [if_pos h1]
   have hb1:∀r∈b::bs,qH (qaA pk a) (qaA pk r)<0:=fun r hr=>by
    rcases List.mem_cons.1 hr with rfl|hr
    ·exact h1
    ·exact qbK _ _ _ h1 (hcb.1 r hr)
   have hb2:∀r∈b::bs,qaA pk r≠qaA pk a:=fun r hr e=>by
    have:=hb1 r hr; rw [e] at this; exact qbS _ this
   obtain ⟨K',rfl,hs',hK'⟩:=qe5 hs hma (fun x hx hlt=>by
    rcases (hK x).1 hx with ⟨r,hr,rfl⟩|⟨r,hr,rfl⟩
    ·rcases List.mem_cons.1 hr with rfl|hr
     ·exact qbS _ hlt
     ·exact qbS _ (qbK _ _ _ (hca.1 r hr) hlt)
    ·exact qbS _ (qbK _ _ _ (hb1 r hr) hlt))
   have ih:=qeZ n pk m as (b::bs) K' (by simp at hm⊢; omega) hca.2 hb hs' (fun k=>by
    rw [hK' k,hK k]
    constructor
    ·rintro ⟨⟨r,hr,rfl⟩|h,h2⟩
     ·rcases List.mem_cons.1 hr with rfl|hr
      ·exact absurd rfl h2
      ·exact .inl ⟨r,hr,rfl⟩
     ·exact .inr h
    ·rintro (⟨r,hr,rfl⟩|⟨r,hr,rfl⟩)
     ·exact ⟨.inl ⟨r,List.mem_cons_of_mem _ hr,rfl⟩,hnea r hr⟩
     ·exact ⟨.inr ⟨r,hr,rfl⟩,hb2 r hr⟩)
   rw [List.flatMap_cons,←ih]
   have e1:qj4 n pk (a::as) (b::bs) (qaA pk a)=[qrH n (qaA pk a)]:=by simp only [qj4,qj8 hb2]
   rw [e1,qct (g:=qj4 n pk as (b::bs)) (fun x hx=>by
    have hx2:=(hK' x).1 hx
    have e2:qfy pk (a::as) x=qfy pk as x:=by rw [qcO,if_neg (fun e=>hx2.2 e.symm)]
    simp only [qj4,e2])]
   rfl
  rw [if_neg h1]
  by_cases h2:0<qH (qaA pk a) (qaA pk b)
  ·rw [if_pos h2]
   have h2':=qvj.1 h2
   have ha1:∀r∈a::as,qH (qaA pk b) (qaA pk r)<0:=fun r hr=>by
    rcases List.mem_cons.1 hr with rfl|hr
    ·exact h2'
    ·exact qbK _ _ _ h2' (hca.1 r hr)
   have ha2:∀r∈a::as,qaA pk r≠qaA pk b:=fun r hr e=>by
    have:=ha1 r hr; rw [e] at this; exact qbS _ this
   obtain ⟨K',rfl,hs',hK'⟩:=qe5 hs hmb (fun x hx hlt=>by
    rcases (hK x).1 hx with ⟨r,hr,rfl⟩|⟨r,hr,rfl⟩
    ·exact qbS _ (qbK _ _ _ (ha1 r hr) hlt)
    ·rcases List.mem_cons.1 hr with rfl|hr
     ·exact qbS _ hlt
     ·exact qbS _ (qbK _ _ _ (hcb.1 r hr) hlt))
   have ih:=qeZ n pk m (a::as) bs K' (by simp at hm⊢; omega) ha hcb.2 hs' (fun k=>by
    rw [hK' k,hK k]
    constructor
    ·rintro ⟨h|⟨r,hr,rfl⟩,h3⟩
     ·exact .inl h
     ·rcases List.mem_cons.1 hr with rfl|hr
      ·exact absurd rfl h3
      ·exact .inr ⟨r,hr,rfl⟩
    ·rintro (⟨r,hr,rfl⟩|⟨r,hr,rfl⟩)
     ·exact ⟨.inl ⟨r,hr,rfl⟩,ha2 r hr⟩
     ·exact ⟨.inr ⟨r,List.mem_cons_of_mem _ hr,rfl⟩,hneb r hr⟩)
   rw [List.flatMap_cons,←ih]
   have e1:qj4 n pk (a::as) (b::bs) (qaA pk b)=[qn6 n b]:=by simp only [qj4,qcO pk b,if_true,qj8 ha2]
   rw [e1,qct (g:=qj4 n pk (a::as) bs) (fun x hx=>by
    have hx2:=(hK' x).1 hx
    have e2:qfy pk (b::bs) x=qfy pk bs x:=by rw [qcO,if_neg (fun e=>hx2.2 e.symm)]
    simp only [qj4,e2])]
   rfl
  ·rw [if_neg h2]
   have he:qaA pk a=qaA pk b:=(qeP _ _).1 (by omega)
   obtain ⟨K',rfl,hs',hK'⟩:=qe5 hs hma (fun x hx hlt=>by
    rcases (hK x).1 hx with ⟨r,hr,rfl⟩|⟨r,hr,rfl⟩
    ·rcases List.mem_cons.1 hr with rfl|hr
     ·exact qbS _ hlt
     ·exact qbS _ (qbK _ _ _ (hca.1 r hr) hlt)
    ·rcases List.mem_cons.1 hr with rfl|hr
     ·rw [he] at hlt; exact qbS _ hlt
     ·rw [he] at hlt; exact qbS _ (qbK _ _ _ (hcb.1 r hr) hlt))
   have ih:=qeZ n pk m as bs K' (by simp at hm⊢; omega) hca.2 hcb.2 hs' (fun k=>by
    rw [hK' k,hK k]
    constructor
    ·rintro ⟨⟨r,hr,rfl⟩|⟨r,hr,rfl⟩,h3⟩
     ·rcases List.mem_cons.1 hr with rfl|hr
      ·exact absurd rfl h3
      ·exact .inl ⟨r,hr,rfl⟩
     ·rcases List.mem_cons.1 hr with rfl|hr
      ·exact absurd he.symm h3
      ·exact .inr ⟨r,hr,rfl⟩
    ·rintro (⟨r,hr,rfl⟩|⟨r,hr,rfl⟩)
     ·exact ⟨.inl ⟨r,List.mem_cons_of_mem _ hr,rfl⟩,hnea r hr⟩
     ·exact ⟨.inr ⟨r,List.mem_cons_of_mem _ hr,rfl⟩,by rw [he]; exact hneb r hr⟩)
   rw [List.flatMap_cons,←ih]
   have e1:qj4 n pk (a::as) (b::bs) (qaA pk a)=if a=b then [] else [qn6 n b]:=by
    simp only [qj4,qcO pk b,qcO pk a,he,if_true]
   rw [e1,qct (g:=qj4 n pk as bs) (fun x hx=>by
    have hx2:=(hK' x).1 hx
    have e2:qfy pk (b::bs) x=qfy pk bs x:=by rw [qcO,if_neg (fun e=>hx2.2 (by rw [he,e]))]
    have e3:qfy pk (a::as) x=qfy pk as x:=by rw [qcO,if_neg (fun e=>hx2.2 e.symm)]
    simp only [qj4,e2,e3])]
termination_by m=>m
theorem qvG {pk:List Int} {rows:List qaG} (h:qnh pk rows) {i:Nat} (hi:i<rows.length):qfy pk rows (qaA pk rows[i])=some rows[i]:=by
 have hm:=List.getElem_mem hi
 cases hf:qfy pk rows (qaA pk rows[i]) with
 |none=>
  unfold qfy at hf
  have:=List.find?_eq_none.1 hf _ hm
  simp at this
 |some r=>
  unfold qfy at hf
  have h1:=List.find?_some hf
  have h2:=List.mem_of_find?_eq_some hf
  obtain ⟨j,hj,rfl⟩:=List.getElem_of_mem h2
  have h1:qaA pk rows[j]=qaA pk rows[i]:=by simpa using h1
  rcases Nat.lt_trichotomy i j with q|q|q
  ·have:=List.pairwise_iff_getElem.1 h i j hi hj q
   rw [h1] at this; exact absurd this (qbS _)
  ·subst q; rfl
  ·have:=List.pairwise_iff_getElem.1 h j i hj hi q
   rw [h1] at this; exact absurd this (qbS _)
theorem qou {pk:List Int} {rows:List qaG} (h:qnh pk rows) (k:qaG):
  ((qc5 (fun r=>qH (qaA pk r) k) rows).2=false∧qfy pk rows k=none)∨∃hi:(qc5 (fun r=>qH (qaA pk r) k) rows).1<rows.length,(qc5 (fun r=>qH (qaA pk r) k) rows).2=true∧qfy pk rows k=some (rows[(qc5 (fun r=>qH (qaA pk r) k) rows).1]'hi):=by
 have hany:(qc5 (fun r=>qH (qaA pk r) k) rows).2=rows.any (fun r=>decide (qH (qaA pk r) k=0)):=qnk _ rows (h.imp fun {a b} hab h0=>by
  have hne:¬qH (qaA pk b) k<0:=fun q=>absurd (qbK _ _ _ hab q) (by omega)
  have hz:qH (qaA pk b) k≠0:=fun q=>by
   have e:=(qeP _ _).1 q
   rw [e] at hab; omega
  omega)
 obtain ⟨s1,s2,s3⟩:=qkl (fun r=>qH (qaA pk r) k) rows
 generalize qc5 (fun r=>qH (qaA pk r) k) rows=q at *
 obtain ⟨i,b⟩:=q
 simp only at *
 cases b with
 |false=>
  left
  refine ⟨rfl,qj8 fun r hr e=> ?_⟩
  have:=List.any_eq_false.1 hany.symm r hr
  simp only [decide_eq_true_eq] at this
  exact this ((qeP _ _).2 e)
 |true=>
  right
  have hi:i<rows.length:=Nat.lt_of_le_of_ne s1 fun e=>by cases s2 e
  refine ⟨hi,rfl,?_⟩
  obtain ⟨_,s5⟩:=s3 rows[i] (List.getElem?_eq_getElem hi)
  have hz:qH (qaA pk rows[i]) k=0:=by simpa using s5.symm
  have:=qvG h hi
  rw [(qeP _ _).1 hz] at this
  exact this
def ddK (pk:List Int) (rows:List qaG):Nat→List qaG
 |0=>[]
 |n+1=>match rows[n]? with
  |none=>ddK pk rows n
  |some r=>if qaA pk r∈ddK pk rows n then ddK pk rows n else ddK pk rows n++[qaA pk r]
theorem qpn (pk:List Int) (rows:List qaG):(n:Nat)→(ddK pk rows n).length≤n
 |0=>by simp [ddK]
 |n+1=>by
  have:=qpn pk rows n
  simp only [ddK]
  split
  ·omega
  ·split
   ·omega
   ·simp; omega
theorem qpq (pk:List Int) (rows:List qaG) (k:qaG):(n:Nat)→(k∈ddK pk rows n↔∃i r,i<n∧rows[i]? =some r∧qaA pk r=k)
 |0=>by simp [ddK]
 |n+1=>by
  have ih:=qpq pk rows k n
  simp only [ddK]
  cases hr:rows[n]? with
  |none=>
   simp only
   rw [ih]
   constructor
   ·rintro ⟨i,r,h1,h2⟩; exact ⟨i,r,by omega,h2⟩
   ·rintro ⟨i,r,h1,h2,h3⟩
    rcases Nat.lt_succ_iff_lt_or_eq.1 h1 with h1|rfl
    ·exact ⟨i,r,h1,h2,h3⟩
    ·rw [hr] at h2; cases h2
  |some r=>
   simp only
   have key:(∃i r',i<n+1∧rows[i]? =some r'∧qaA pk r'=k)↔k∈ddK pk rows n∨qaA pk r=k:=by
    rw [ih]
    constructor
    ·rintro ⟨i,r',h1,h2,h3⟩
     rcases Nat.lt_succ_iff_lt_or_eq.1 h1 with h1|rfl
     ·exact .inl ⟨i,r',h1,h2,h3⟩
     ·rw [hr] at h2; injection h2 with h2; subst h2; exact .inr h3
    ·rintro (⟨i,r',h1,h2⟩|h)
     ·exact ⟨i,r',by omega,h2⟩
     ·exact ⟨n,r,by omega,hr,h⟩
   rw [key]
   split
   ·rename_i hin
    constructor
    ·exact .inl
    ·rintro (h|rfl)
     ·exact h
     ·exact hin
   ·rw [List.mem_append,List.mem_singleton]
    exact or_congr_right eq_comm
theorem qot (pk:List Int) (rows:List qaG):(n:Nat)→(ddK pk rows n).Nodup
 |0=>by simp [ddK]
 |n+1=>by
  have ih:=qot pk rows n
  simp only [ddK]
  split
  ·exact ih
  ·split
   ·exact ih
   ·rename_i r _ hin
    rw [List.nodup_append]
    exact ⟨ih,by simp,fun a ha b hb e=>by
     rw [List.mem_singleton] at hb
     subst hb; subst e
     exact hin ha⟩
end
end Go.Vi
