/- The reference's codes (numerals, sized texts, rows, tables, steps): what they are, and that nothing is lost in them. -/
import Derived.Test.YtfcdfdnlgfebmaaGreatDoorViStd
import Derived.Test.YtfcdfdnlgfebmaaGreatDoorViLib
set_option linter.unusedVariables false
set_option linter.unusedSimpArgs false
set_option linter.unnecessarySimpa false
set_option linter.unusedSectionVars false
namespace Go.Vi
def dig (b:UInt8):Prop:=b=45∨(48≤b.toNat∧b.toNat≤57)
instance (b:UInt8):Decidable (dig b):=by unfold dig; infer_instance
theorem qgx {d:Nat} (h:d<10):(UInt8.ofNat (48+d)).toNat=48+d:=by
 rw [UInt8.toNat_ofNat']; omega
theorem qgz (u:Nat):∀b∈Lib.decDigits u,48≤b.toNat∧b.toNat≤57:=by
 induction u using Nat.strongRecOn with
 |ind u ih=>
  intro b hb
  rw [Lib.decDigits] at hb
  split at hb
  ·rename_i h
   simp only [List.mem_singleton] at hb
   subst hb
   rw [qgx h]; omega
  ·rename_i h
   rcases List.mem_append.1 hb with hb|hb
   ·exact ih (u / 10) (by omega) b hb
   ·simp only [List.mem_singleton] at hb
    subst hb
    rw [qgx (Nat.mod_lt _ (by omega))]; omega
theorem qoS (u:Nat):Lib.decDigits u≠[]:=by
 rw [Lib.decDigits]
 split <;> simp
def qpR (l:List UInt8):Nat:=l.foldl (fun n b=>n * 10+(b.toNat - 48)) 0
theorem qry (l:List UInt8) (b:UInt8):qpR (l++[b])=qpR l * 10+(b.toNat - 48):=by simp [qpR]
theorem qdx (u:Nat):qpR (Lib.decDigits u)=u:=by
 induction u using Nat.strongRecOn with
 |ind u ih=>
  rw [Lib.decDigits]
  split
  ·rename_i h
   simp only [qpR,List.foldl_cons,List.foldl_nil,qgx h]; omega
  ·rename_i h
   rw [qry,ih (u / 10) (by omega),qgx (Nat.mod_lt _ (by omega))]
   omega
theorem qjb (n:Int):∀b∈Lib.itoa n,dig b:=by
 intro b hb
 unfold Lib.itoa at hb
 split at hb
 ·rcases List.mem_cons.1 hb with rfl|hb
  ·exact .inl rfl
  ·exact .inr (qgz _ b hb)
 ·exact .inr (qgz _ b hb)
theorem qvn (n:Int):Lib.itoa n≠[]:=by
 unfold Lib.itoa
 split
 ·simp
 ·exact qoS _
theorem qqb {a b:Int} (h:Lib.itoa a=Lib.itoa b):a=b:=by
 have no45:∀u:Nat,∀r,Lib.decDigits u≠45::r:=fun u r e=>by
  have:=qgz u 45 (by rw [e]; exact List.mem_cons_self)
  have:(48:Nat)≤45:=this.1
  omega
 unfold Lib.itoa at h
 split at h <;> split at h
 ·have e:=congrArg qpR (List.cons.inj h).2
  rw [qdx,qdx] at e
  omega
 ·exact absurd h.symm (no45 _ _)
 ·exact absurd h (no45 _ _)
 ·have e:=congrArg qpR h
  rw [qdx,qdx] at e
  omega
def stops (P:UInt8→Prop) (r:List UInt8):Prop:=∀b t,r=b::t→¬P b
theorem qgd (P:UInt8→Prop):stops P []:=fun _ _ h=>by cases h
theorem qV {P:UInt8→Prop} {b:UInt8} {t:List UInt8} (h:¬P b):stops P (b::t):=fun _ _ e=>by cases e; exact h
theorem part {P:UInt8→Prop} :(a b:List UInt8)→ {r s:List UInt8} →(∀x∈a,P x)→(∀x∈b,P x)→stops P r→stops P s→a++r=b++s→a=b∧r=s
 |[],[],_,_,_,_,_,_,h=>⟨rfl,h⟩
 |[],y::b,r,s,_,hb,hr,_,h=>absurd (hb y List.mem_cons_self) (hr y (b++s) h)
 |x::a,[],r,s,ha,_,_,hs,h=>absurd (ha x List.mem_cons_self) (hs x (a++r) h.symm)
 |x::a,y::b,r,s,ha,hb,hr,hs,h=>by
  injection h with h1 h2
  obtain ⟨h3,h4⟩:=part a b (fun z hz=>ha z (List.mem_cons_of_mem _ hz)) (fun z hz=>hb z (List.mem_cons_of_mem _ hz)) hr hs h2
  exact ⟨by rw [h1,h3],h4⟩
theorem qck {a b:Int} {r s:List UInt8} (hr:stops dig r) (hs:stops dig s) (h:Lib.itoa a++r=Lib.itoa b++s):a=b∧r=s:=by
 obtain ⟨h1,h2⟩:=part _ _ (qjb a) (qjb b) hr hs h
 exact ⟨qqb h1,h2⟩
def qdC (s:List UInt8):List UInt8:=Lib.itoa (s.length:Int)++58::s
theorem qcB {a b r s:List UInt8} (h:qdC a++r=qdC b++s):a=b∧r=s:=by
 unfold qdC at h
 rw [List.append_assoc,List.append_assoc] at h
 obtain ⟨h1,h2⟩:=qck (qV (by decide)) (qV (by decide)) h
 exact List.append_inj (List.cons.inj h2).2 (by omega)
theorem qoO {a b:Int×(Int×(List UInt8×Unit))} {r s:List UInt8} (h:qi3 a++r=qi3 b++s):a=b∧r=s:=by
 obtain ⟨a1,a2,a3,⟨⟩⟩:=a
 obtain ⟨b1,b2,b3,⟨⟩⟩:=b
 unfold qi3 at h
 simp only [List.cons_append,List.append_assoc] at h
 injection h with _ h
 obtain ⟨h1,h2⟩:=qck (qV (by decide)) (qV (by decide)) h
 obtain ⟨h3,h4⟩:=qck (qV (by decide)) (qV (by decide)) (List.cons.inj h2).2
 obtain ⟨h5,h6⟩:=qck (qV (by decide)) (qV (by decide)) (List.cons.inj h4).2
 obtain ⟨h7,h8⟩:=List.append_inj (List.cons.inj h6).2 (by omega)
 exact ⟨by rw [h1,h3,h7],h8⟩
theorem qki:(xs ys:List (Int×(Int×(List UInt8×Unit))))→ {r s:List UInt8} →xs.length=ys.length→(xs.map qi3).flatten++r=(ys.map qi3).flatten++s→xs=ys∧r=s
 |[],[],_,_,_,h=>⟨rfl,h⟩
 |x::xs,y::ys,r,s,hl,h=>by
  simp only [List.map_cons,List.flatten_cons,List.append_assoc] at h
  obtain ⟨h1,h2⟩:=qoO h
  obtain ⟨h3,h4⟩:=qki xs ys (by simpa using hl) h2
  exact ⟨by rw [h1,h3],h4⟩
theorem qr7 {xs ys:List (Int×(Int×(List UInt8×Unit)))} {r s:List UInt8} (hr:stops dig r) (hs:stops dig s) (h:qdE xs++r=qdE ys++s):xs=ys∧r=s:=by
 have st:∀(l:List (Int×(Int×(List UInt8×Unit)))) (r:List UInt8),stops dig r→stops dig ((l.map qi3).flatten++r):=fun l r hr=>by
  cases l with
  |nil=>exact hr
  |cons x l=>
   rw [List.map_cons,List.flatten_cons,qi3]
   exact qV (by decide)
 unfold qdE at h
 rw [List.append_assoc,List.append_assoc] at h
 obtain ⟨h1,h2⟩:=qck (st xs r hr) (st ys s hs) h
 exact qki xs ys (by omega) h2
theorem qn1 {xs ys:List (Int×(Int×(List UInt8×Unit)))} (h:qdE xs=qdE ys):xs=ys:=
 (qr7 (r:=[]) (s:=[]) (qgd _) (qgd _) (by rw [List.append_nil,List.append_nil]; exact h)).1
theorem qna {xs ys:List (Int×(Int×(List UInt8×Unit)))} {r s:List UInt8} (hl:xs.length=ys.length) (h:qdE xs++r=qdE ys++s):xs=ys∧r=s:=by
 unfold qdE at h
 rw [hl,List.append_assoc,List.append_assoc] at h
 exact qki xs ys hl (List.append_cancel_left h)
def qhk (l:List Int):List UInt8:=(l.map fun i=>44::Lib.itoa i).flatten
theorem colsC_nil:qhk []=[]:=rfl
theorem qkh (i:Int) (l:List Int):qhk (i::l)=44::(Lib.itoa i++qhk l):=rfl
theorem qlm (l:List Int) {r:List UInt8} (hr:stops dig r):stops dig (qhk l++r):=by
 cases l with
 |nil=>exact hr
 |cons i l=>rw [qkh]; exact qV (by decide)
theorem qh8:(a b:List Int)→ {r s:List UInt8} →stops dig r→stops dig s→stops (· =44) r→stops (· =44) s→qhk a++r=qhk b++s→a=b∧r=s
 |[],[],_,_,_,_,_,_,h=>⟨rfl,h⟩
 |[],j::b,r,s,_,_,hr,_,h=>absurd rfl (hr 44 (Lib.itoa j++qhk b++s) h)
 |i::a,[],r,s,_,_,_,hs,h=>absurd rfl (hs 44 (Lib.itoa i++qhk a++r) h.symm)
 |i::a,j::b,r,s,hr,hs,hr',hs',h=>by
  simp only [qkh,List.cons_append,List.append_assoc] at h
  injection h with _ h
  obtain ⟨h1,h2⟩:=qck (qlm a hr) (qlm b hs) h
  obtain ⟨h3,h4⟩:=qh8 a b hr hs hr' hs' h2
  exact ⟨by rw [h1,h3],h4⟩
abbrev DFk:Type:=List UInt8×(List Int×(List UInt8×Unit))
def fkC (f:DFk):List UInt8:=qdC f.1++(qdC f.2.2.1++qhk f.2.1)
theorem qsa {a b:DFk} (h:fkC a=fkC b):a=b:=by
 obtain ⟨a1,a2,a3,⟨⟩⟩:=a
 obtain ⟨b1,b2,b3,⟨⟩⟩:=b
 unfold fkC at h
 obtain ⟨h1,h2⟩:=qcB h
 obtain ⟨h3,h4⟩:=qcB h2
 obtain ⟨h5,_⟩:=qh8 a2 b2 (r:=[]) (s:=[]) (qgd _) (qgd _) (qgd _) (qgd _) (by rw [List.append_nil,List.append_nil]; exact h4)
 simp only at h1 h3
 rw [h1,h3,h5]
abbrev DCol:Type:=List UInt8×(Int×(Bool×Unit))
abbrev qu5:Type:=List UInt8×(List DCol×(List Int×Unit))
def qq6 (b:Bool):List UInt8:=if b then [116,114,117,101] else [102,97,108,115,101]
def quT (c:DCol):List UInt8:=qdC c.1++(Lib.itoa c.2.1++(qq6 c.2.2.1++[44]))
def pkC (l:List Int):List UInt8:=(l.map fun i=>Lib.itoa i++[44]).flatten
def qsS (t:qu5):List UInt8:=qdC t.1++40::(Lib.itoa (t.2.1.length:Int)++44::((t.2.1.map quT).flatten++(pkC t.2.2.1++[41])))
theorem qlk (b:Bool) (r:List UInt8):stops dig (qq6 b++r):=by cases b <;> exact qV (by decide)
theorem qq7 {a b:Bool} {r s:List UInt8} (h:qq6 a++r=qq6 b++s):a=b∧r=s:=by
 cases a <;> cases b <;> simp_all [qq6]
theorem qsm {a b:DCol} {r s:List UInt8} (h:quT a++r=quT b++s):a=b∧r=s:=by
 obtain ⟨a1,a2,a3,⟨⟩⟩:=a
 obtain ⟨b1,b2,b3,⟨⟩⟩:=b
 unfold quT at h
 simp only [List.append_assoc] at h
 obtain ⟨h1,h2⟩:=qcB h
 obtain ⟨h3,h4⟩:=qck (qlk _ _) (qlk _ _) h2
 obtain ⟨h5,h6⟩:=qq7 h4
 exact ⟨by rw [h1,h3,h5],(List.append_cancel_left h6)⟩
theorem qmI:(xs ys:List DCol)→ {r s:List UInt8} →xs.length=ys.length→(xs.map quT).flatten++r=(ys.map quT).flatten++s→xs=ys∧r=s
 |[],[],_,_,_,h=>⟨rfl,h⟩
 |x::xs,y::ys,r,s,hl,h=>by
  simp only [List.map_cons,List.flatten_cons,List.append_assoc] at h
  obtain ⟨h1,h2⟩:=qsm h
  obtain ⟨h3,h4⟩:=qmI xs ys (by simpa using hl) h2
  exact ⟨by rw [h1,h3],h4⟩
theorem qk1 (i:Int) (l:List Int):pkC (i::l)=Lib.itoa i++44::pkC l:=by simp [pkC]
theorem qoM (i:Int) (r:List UInt8) {c:UInt8} {s:List UInt8} (hc:¬dig c):Lib.itoa i++r≠c::s:=fun e=>by
 cases h:Lib.itoa i with
 |nil=>exact qvn i h
 |cons x t=>
  rw [h] at e
  injection e with e1 _
  exact hc (e1 ▸ qjb i x (by rw [h]; exact List.mem_cons_self))
theorem qqp:(a b:List Int)→ {r s:List UInt8} →pkC a++41::r=pkC b++41::s→a=b∧r=s
 |[],[],_,_,h=>⟨rfl,(List.cons.inj h).2⟩
 |[],j::b,r,s,h=>by
  rw [qk1,List.append_assoc] at h
  exact absurd h.symm (qoM j _ (by decide))
 |i::a,[],r,s,h=>by
  rw [qk1,List.append_assoc] at h
  exact absurd h (qoM i _ (by decide))
 |i::a,j::b,r,s,h=>by
  simp only [qk1,List.append_assoc,List.cons_append] at h
  obtain ⟨h1,h2⟩:=qck (qV (by decide)) (qV (by decide)) h
  obtain ⟨h3,h4⟩:=qqp a b (List.cons.inj h2).2
  exact ⟨by rw [h1,h3],h4⟩
theorem qlF {a b:qu5} {r s:List UInt8} (h:qsS a++r=qsS b++s):a=b∧r=s:=by
 obtain ⟨a1,a2,a3,⟨⟩⟩:=a
 obtain ⟨b1,b2,b3,⟨⟩⟩:=b
 unfold qsS at h
 simp only [List.append_assoc,List.cons_append,List.nil_append] at h
 obtain ⟨h1,h2⟩:=qcB h
 obtain ⟨h3,h4⟩:=qck (qV (by decide)) (qV (by decide)) (List.cons.inj h2).2
 obtain ⟨h5,h6⟩:=qmI a2 b2 (by omega) (List.cons.inj h4).2
 obtain ⟨h7,h8⟩:=qqp a3 b3 h6
 exact ⟨by rw [h1,h5,h7],h8⟩
abbrev qmF:Type:=Int×(Int×(List UInt8×Unit))
abbrev DCon:Type:=List UInt8×(Int×(List UInt8×(Int×(qmF×Unit))))
abbrev qtw:Type:=Int×(List UInt8×(List UInt8×(List UInt8×(List UInt8×(Int×(List Int×(List UInt8×(qmF×(qu5×(DCon×(DFk×Unit)))))))))))
def qnV (x:qtw):List qmF:=[(x.1,(x.2.2.2.2.2.1,(x.2.1,()))),(0,(0,(x.2.2.1,()))),(0,(0,(x.2.2.2.1,()))),(0,(0,(x.2.2.2.2.1,()))),(0,(0,(x.2.2.2.2.2.2.2.1,()))),x.2.2.2.2.2.2.2.2.1]
def qnB (x:qtw):List qmF:=[(x.2.2.2.2.2.2.2.2.2.2.1.2.1,(x.2.2.2.2.2.2.2.2.2.2.1.2.2.2.1,(x.2.2.2.2.2.2.2.2.2.2.1.1,()))),(0,(0,(x.2.2.2.2.2.2.2.2.2.2.1.2.2.1,()))),x.2.2.2.2.2.2.2.2.2.2.1.2.2.2.2.1]
def qrV (x:qtw):List UInt8:=qdE (qnV x)++(qhk x.2.2.2.2.2.2.1++59::(qsS x.2.2.2.2.2.2.2.2.2.1++(qdE (qnB x)++fkC x.2.2.2.2.2.2.2.2.2.2.2.1)))
theorem stepC_inj {a b:qtw} (h:qrV a=qrV b):a=b:=by
 obtain ⟨a1,a2,a3,a4,a5,a6,a7,a8,a9,a10,⟨c1,c2,c3,c4,c5,⟨⟩⟩,a12,⟨⟩⟩:=a
 obtain ⟨b1,b2,b3,b4,b5,b6,b7,b8,b9,b10,⟨d1,d2,d3,d4,d5,⟨⟩⟩,b12,⟨⟩⟩:=b
 unfold qrV at h
 obtain ⟨h1,h2⟩:=qna (by rfl) h
 obtain ⟨h3,h4⟩:=qh8 _ _ (qV (by decide)) (qV (by decide)) (qV (by decide)) (qV (by decide)) h2
 obtain ⟨h5,h6⟩:=qlF (List.cons.inj h4).2
 obtain ⟨h7,h8⟩:=qna (by rfl) h6
 have h9:=qsa h8
 simp only [qnV,qnB,List.cons.injEq,Prod.mk.injEq,and_true,true_and] at h1 h7
 simp only at h3 h5 h9
 grind
theorem ql0 {α:Type} [DecidableEq α] {ne:α→α→Bool} (hne:∀a b,ne a b= !decide (a=b)) (xs ys:List α) (d:α) (hl:xs.length=ys.length) (hb:xs.length≤1099511627776) {N:Nat} (hN:xs.length<N):
  qZ (S:=Int×Unit) (R:=(Bool×Unit)×Unit) N (fun ih0=>fun p1=>(bif (ltI p1.1 (qn xs)) then (bif ((inB p1.1 (qn xs))&&(inB p1.1 (qn ys))) then (bif (ne (qh xs p1.1 d) (qh ys p1.1 d)) then (some ((false,()),())) else (ih0 ((qQ .i64 p1.1 1),()))) else none) else (some ((true,()),())))) (0,())=some ((decide (xs=ys),()),()):=by
 refine qdo (S:=Int×Unit) (R:=(Bool×Unit)×Unit) (fun p=>xs.length - p.1.toNat) (fun p=>∃i:Nat,p.1=(i:Int)∧i≤xs.length∧xs.take i=ys.take i) (fun _=>((decide (xs=ys),()),())) ?_ N _ ⟨0,rfl,Nat.zero_le _,by simp⟩ (by simp; omega)
 rintro ih ⟨_,_⟩ ⟨i,rfl,h2,h3⟩ hih
 simp only [Int.toNat_natCast] at hih⊢
 by_cases hi:i<xs.length
 ·have hj:i<ys.length:=by omega
  rw [qB (qbC hi),qU hi,qU hj,qP d hi,qP d hj,hne]
  simp only [Bool.and_self,cond_true]
  by_cases e:xs[i]=ys[i]
  ·rw [qE (by simp [e]),q8 (by omega),hih _ ⟨i+1,rfl,by omega,by rw [qcF hi,qcF hj,h3,e]⟩ (by simp only [Int.toNat_natCast]; omega)]
  ·rw [qB (by simp [e])]
   have:xs≠ys:=fun h=>e (by subst h; rfl)
   simp [this]
 ·rw [qE (qaX hi)]
  have e1:i=xs.length:=by omega
  subst e1
  have:xs=ys:=by
   have:=h3
   rwa [List.take_length,hl,List.take_length] at this
  simp [this]
theorem qs8 {α:Type} (xs:List α) (b:Nat) (h:xs.length * b≤140737488355328):
  (bif (eqI (qn xs) 0) then (qtt (some ((([]:List α),()),())) (bif (qcI (qn ([]:List α)) (qn xs) b) then (some (((qf3 ([]:List α) xs),()),())) else none)) else (bif (qcI (qn ([]:List α)) (qn xs) b) then (some (((qf3 ([]:List α) xs),()),())) else none))=some ((xs,()),()):=by
 have e:qcI (qn ([]:List α)) (qn xs) b=true:=qeX (by simpa using h)
 rw [e,cond_true,qbE,List.nil_append]
 cases xs with
 |nil=>rw [qB (by rw [qbT,qi]; rfl),qo9,if_pos rfl]
 |cons x xs=>rw [qE (by rw [qbT,qi]; simp; omega)]
theorem qsr {a b:List UInt8} (ha:a.length≤4398046511104) (hb:b.length≤4398046511104):qcI (qn a) (qn b) 1=true:=qeX (by omega)
theorem qgM {n:Int} (h:IntKind.i64.has n):(Lib.itoa n).length≤21:=by
 have h': -9223372036854775808≤n∧n≤9223372036854775807:=by simpa [IntKind.has,IntKind.min,IntKind.max,IntKind.signed,IntKind.bits] using h
 exact Lib.itoa_length_le n h'.1 h'.2
theorem qb6 {n:Nat} (h:n≤maxLen):(Lib.itoa (n:Int)).length≤21:=by
 unfold maxLen at h
 exact Lib.itoa_length_le _ (by omega) (by omega)
theorem qe0 {s:List UInt8} (h:s.length≤maxLen):(qdC s).length≤s.length+22:=by
 have:=qb6 h
 unfold qdC
 simp only [List.length_append,List.length_cons]
 omega
theorem qdF {v:qmF} (h:IntKind.i64.has v.1∧IntKind.i64.has v.2.1∧v.2.2.1.length≤maxLen):(qi3 v).length≤v.2.2.1.length+67:=by
 have h1:=qgM h.1
 have h2:=qgM h.2.1
 have h3:=qb6 h.2.2
 unfold qi3
 simp only [List.length_append,List.length_cons]
 omega
theorem qme: {l:List Int} →(∀i∈l,IntKind.i64.has i)→(qhk l).length≤22 * l.length
 |[],_=>Nat.zero_le _
 |i::l,h=>by
  have h1:=qgM (h i List.mem_cons_self)
  have h2:=qme (l:=l) fun j hj=>h j (List.mem_cons_of_mem _ hj)
  rw [qkh]
  simp only [List.length_append,List.length_cons] at h2⊢
  omega
theorem qr5: {l:List Int} →(∀i∈l,IntKind.i64.has i)→(pkC l).length≤22 * l.length
 |[],_=>Nat.zero_le _
 |i::l,h=>by
  have h1:=qgM (h i List.mem_cons_self)
  have h2:=qr5 (l:=l) fun j hj=>h j (List.mem_cons_of_mem _ hj)
  rw [qk1]
  simp only [List.length_append,List.length_cons] at h2⊢
  omega
abbrev qtG:Ty:= .pair .str (.pair (.int .i64) (.pair .bool .unit))
theorem qoB: {l:List DCol} →(∀c∈l,qtG.good c)→((l.map quT).flatten).length≤50 * (l.map qtG.bulk).sum
 |[],_=>Nat.zero_le _
 |c::l,h=>by
  have h0:=h c List.mem_cons_self
  obtain ⟨c1,c2,c3,⟨⟩⟩:=c
  have h1:=qe0 (s:=c1) h0.1
  have h2:=qgM (n:=c2) h0.2.1
  have h3:(qq6 c3).length≤5:=by cases c3 <;> decide
  have h4:=qoB (l:=l) fun j hj=>h j (List.mem_cons_of_mem _ hj)
  have h5:qtG.bulk (c1,c2,c3,PUnit.unit)=c1.length+1+(1+(1+1)):=rfl
  simp only [List.map_cons,List.flatten_cons,quT,List.length_append,List.length_cons,List.length_nil,List.sum_cons] at h4⊢
  omega
theorem qdG:(l:List Int)→(l.map (Ty.bulk (.int .i64))).sum=l.length
 |[]=>rfl
 |i::l=>by
  have:Ty.bulk (.int .i64) i=1:=rfl
  rw [List.map_cons,List.sum_cons,qdG l,this,List.length_cons]; omega
abbrev qhA:Ty:= .pair (.int .i64) (.pair (.int .i64) (.pair .str .unit))
abbrev qnb:Ty:= .pair .str (.pair (.slice qtG) (.pair (.slice (.int .i64)) .unit))
abbrev TFk:Ty:= .pair .str (.pair (.slice (.int .i64)) (.pair .str .unit))
abbrev qtU:Ty:= .pair .str (.pair (.int .i64) (.pair .str (.pair (.int .i64) (.pair qhA .unit))))
abbrev qu9:Ty:= .pair (.int .i64) (.pair .str (.pair .str (.pair .str (.pair .str (.pair (.int .i64) (.pair (.slice (.int .i64)) (.pair .str (.pair qhA (.pair qnb (.pair qtU (.pair TFk .unit)))))))))))
theorem qqz {t:qu5} (h:qnb.good t):(qsS t).length≤50 * qnb.bulk t:=by
 obtain ⟨t1,t2,t3,⟨⟩⟩:=t
 have h1:=qe0 (s:=t1) h.1
 have h2:=qb6 (n:=t2.length) h.2.1.1
 have h3:=qoB (l:=t2) h.2.1.2
 have h4:=qr5 (l:=t3) h.2.2.1.2
 have h5:qnb.bulk (t1,t2,t3,PUnit.unit)=t1.length+1+((t2.map qtG.bulk).sum+1+((t3.map (Ty.bulk (.int .i64))).sum+1+1)):=rfl
 rw [qdG] at h5
 simp only [qsS,List.length_append,List.length_cons,List.length_nil]
 omega
theorem qp0 {f:DFk} (h:TFk.good f):(fkC f).length≤50 * TFk.bulk f:=by
 obtain ⟨f1,f2,f3,⟨⟩⟩:=f
 have h1:=qe0 (s:=f1) h.1
 have h2:=qe0 (s:=f3) h.2.2.1
 have h3:=qme (l:=f2) h.2.1.2
 have h5:TFk.bulk (f1,f2,f3,PUnit.unit)=f1.length+1+((f2.map (Ty.bulk (.int .i64))).sum+1+(f3.length+1+1)):=rfl
 rw [qdG] at h5
 simp only [fkC,List.length_append]
 omega
theorem qcw:IntKind.i64.has 0:=⟨by decide,by decide⟩
theorem stepC_len {x:qtw} (h:qu9.good x):(qrV x).length≤50 * qu9.bulk x+1000:=by
 obtain ⟨a1,a2,a3,a4,a5,a6,a7,a8,⟨v1,v2,v3,⟨⟩⟩,a10,⟨c1,c2,c3,c4,⟨d1,d2,d3,⟨⟩⟩,⟨⟩⟩,a12,⟨⟩⟩:=x
 obtain ⟨h1,h2,h3,h4,h5,h6,h7,h8,⟨hv1,hv2,hv3,_⟩,h10,⟨hc1,hc2,hc3,hc4,⟨hd1,hd2,hd3,_⟩,_⟩,h12,_⟩:=h
 have e1:=qdF (v:=(a1,a6,a2,())) ⟨h1,h6,h2⟩
 have e2:=qdF (v:=(0,0,a3,())) ⟨qcw,qcw,h3⟩
 have e3:=qdF (v:=(0,0,a4,())) ⟨qcw,qcw,h4⟩
 have e4:=qdF (v:=(0,0,a5,())) ⟨qcw,qcw,h5⟩
 have e5:=qdF (v:=(0,0,a8,())) ⟨qcw,qcw,h8⟩
 have e6:=qdF (v:=(v1,v2,v3,PUnit.unit)) ⟨hv1,hv2,hv3⟩
 have e7:=qdF (v:=(c2,c4,c1,())) ⟨hc2,hc4,hc1⟩
 have e8:=qdF (v:=(0,0,c3,())) ⟨qcw,qcw,hc3⟩
 have e9:=qdF (v:=(d1,d2,d3,PUnit.unit)) ⟨hd1,hd2,hd3⟩
 have g1:=qme (l:=a7) h7.2
 have g2:=qqz (t:=a10) h10
 have g3:=qp0 (f:=a12) h12
 have g4:(Lib.itoa 6).length≤21:=qb6 (n:=6) (by unfold maxLen; omega)
 have g5:(Lib.itoa 3).length≤21:=qb6 (n:=3) (by unfold maxLen; omega)
 have hb:qu9.bulk (a1,a2,a3,a4,a5,a6,a7,a8,(v1,v2,v3,PUnit.unit),a10,(c1,c2,c3,c4,(d1,d2,d3,PUnit.unit),PUnit.unit),a12,PUnit.unit)=1+(a2.length+1+(a3.length+1+(a4.length+1+(a5.length+1+(1+((a7.map (Ty.bulk (.int .i64))).sum+1+(a8.length+1+((1+(1+(v3.length+1+1)))+(qnb.bulk a10+((c1.length+1+(1+(c3.length+1+(1+((1+(1+(d3.length+1+1)))+1)))))+(TFk.bulk a12+1))))))))))):=rfl
 rw [qdG] at hb
 simp only [qrV,qnV,qnB,qdE,List.length_append,List.length_cons,List.length_nil,List.map_cons,List.map_nil,List.flatten_cons,List.flatten_nil] at e1 e2 e3 e4 e5 e6 e7 e8 e9⊢
 have q1:(((0+1+1+1+1+1+1:Nat)):Int)=6:=rfl
 have q2:(((0+1+1+1:Nat)):Int)=3:=rfl
 rw [q1,q2]
 omega
theorem qtP {a b:DFk} {r s:List UInt8} (h:fkC a++59::r=fkC b++59::s):a=b∧r=s:=by
 obtain ⟨a1,a2,a3,⟨⟩⟩:=a
 obtain ⟨b1,b2,b3,⟨⟩⟩:=b
 unfold fkC at h
 simp only [List.append_assoc] at h
 obtain ⟨h1,h2⟩:=qcB h
 obtain ⟨h3,h4⟩:=qcB h2
 obtain ⟨h5,h6⟩:=qh8 a2 b2 (qV (by decide)) (qV (by decide)) (qV (by decide)) (qV (by decide)) h4
 exact ⟨by rw [h1,h3,h5],(List.cons.inj h6).2⟩
def quO (c:DCon):List UInt8:=qdC c.1++(qdC c.2.2.1++(Lib.itoa c.2.1++32::(Lib.itoa c.2.2.2.1++qdE [c.2.2.2.2.1])))
theorem qqE (v:qmF):qdE [v]=49::qi3 v:=by
 have:Lib.itoa ((([v]:List qmF).length:Nat):Int)=[49]:=by show Lib.itoa 1=[49]; decide+kernel
 unfold qdE
 rw [this]
 simp
theorem qst {a b:DCon} {r s:List UInt8} (h:quO a++r=quO b++s):a=b∧r=s:=by
 obtain ⟨a1,a2,a3,a4,a5,⟨⟩⟩:=a
 obtain ⟨b1,b2,b3,b4,b5,⟨⟩⟩:=b
 unfold quO at h
 simp only [List.append_assoc,qqE,List.cons_append] at h
 obtain ⟨h1,h2⟩:=qcB h
 obtain ⟨h3,h4⟩:=qcB h2
 obtain ⟨h5,h6⟩:=qck (qV (by decide)) (qV (by decide)) h4
 have h7:=(List.cons.inj h6).2
 have st:∀(v:qmF) (x:List UInt8),stops dig (qi3 v++x):=fun v x=>by unfold qi3; exact qV (by decide)
 have e1:∀(n:Int) (x:List UInt8),Lib.itoa n++49::x=(Lib.itoa n++[49])++x:=fun n x=>by simp
 rw [e1 a4 (qi3 a5++r),e1 b4 (qi3 b5++s)] at h7
 obtain ⟨h8,h9⟩:=part (P:=dig) (Lib.itoa a4++[49]) (Lib.itoa b4++[49]) (fun x hx=>by
  rcases List.mem_append.1 hx with hx|hx
  ·exact qjb _ _ hx
  ·simp at hx; subst hx; exact .inr (by decide)) (fun x hx=>by
  rcases List.mem_append.1 hx with hx|hx
  ·exact qjb _ _ hx
  ·simp at hx; subst hx; exact .inr (by decide)) (st _ _) (st _ _) h7
 have h10:=qqb (List.append_cancel_right h8)
 obtain ⟨h11,h12⟩:=qoO h9
 exact ⟨by rw [h1,h3,h5,h10,h11],h12⟩
theorem qjc {α:Type} (f:α→List UInt8) (hf:∀ {a b:α} {r s:List UInt8},f a++r=f b++s→a=b∧r=s):(xs ys:List α)→ {r s:List UInt8} →xs.length=ys.length→(xs.map f).flatten++r=(ys.map f).flatten++s→xs=ys∧r=s
 |[],[],_,_,_,h=>⟨rfl,h⟩
 |x::xs,y::ys,r,s,hl,h=>by
  simp only [List.map_cons,List.flatten_cons,List.append_assoc] at h
  obtain ⟨h1,h2⟩:=hf h
  obtain ⟨h3,h4⟩:=qjc f hf xs ys (by simpa using hl) h2
  exact ⟨by rw [h1,h3],h4⟩
abbrev DSch:Type:=List qu5×(List DFk×(List DCon×Unit))
def fkS (f:DFk):List UInt8:=fkC f++[59]
def schC (s:DSch):List UInt8:=Lib.itoa (s.1.length:Int)++59::(Lib.itoa (s.2.1.length:Int)++59::(Lib.itoa (s.2.2.1.length:Int)++59::((s.1.map qsS).flatten++((s.2.1.map fkS).flatten++(s.2.2.1.map quO).flatten))))
theorem schC_inj {a b:DSch} (h:schC a=schC b):a=b:=by
 obtain ⟨a1,a2,a3,⟨⟩⟩:=a
 obtain ⟨b1,b2,b3,⟨⟩⟩:=b
 unfold schC at h
 obtain ⟨h1,h2⟩:=qck (qV (by decide)) (qV (by decide)) h
 obtain ⟨h3,h4⟩:=qck (qV (by decide)) (qV (by decide)) (List.cons.inj h2).2
 obtain ⟨h5,h6⟩:=qck (qV (by decide)) (qV (by decide)) (List.cons.inj h4).2
 simp only at h1 h3 h5
 obtain ⟨h7,h8⟩:=qjc qsS (fun h=>qlF h) a1 b1 (by omega) (List.cons.inj h6).2
 obtain ⟨h9,h10⟩:=qjc fkS (fun {x y r s} h=>by
  unfold fkS at h
  simp only [List.append_assoc,List.cons_append,List.nil_append] at h
  exact qtP h) a2 b2 (by omega) h8
 obtain ⟨h11,_⟩:=qjc quO (fun h=>qst h) a3 b3 (r:=[]) (s:=[]) (by omega) (by simpa using h10)
 rw [h7,h9,h11]
theorem qt7 {c:DCon} (h:qtU.good c):(quO c).length≤150 * qtU.bulk c:=by
 obtain ⟨c1,c2,c3,c4,⟨d1,d2,d3,⟨⟩⟩,⟨⟩⟩:=c
 obtain ⟨h1,h2,h3,h4,⟨k1,k2,k3,_⟩,_⟩:=h
 have e1:=qe0 (s:=c1) h1
 have e2:=qe0 (s:=c3) h3
 have e3:(Lib.itoa c2).length≤21:=qgM h2
 have e4:(Lib.itoa c4).length≤21:=qgM h4
 have e5:(qi3 (d1,d2,d3,PUnit.unit)).length≤d3.length+67:=qdF (v:=(d1,d2,d3,PUnit.unit)) ⟨k1,k2,k3⟩
 have hb:qtU.bulk (c1,c2,c3,c4,(d1,d2,d3,PUnit.unit),PUnit.unit)=c1.length+1+(1+(c3.length+1+(1+((1+(1+(d3.length+1+1)))+1)))):=rfl
 simp only [quO,qqE,List.length_append,List.length_cons]
 omega
theorem qk5 {α:Type} (f:α→List UInt8) (m:α→Nat) (c:Nat):(l:List α)→(∀x∈l,(f x).length≤c * m x)→((l.map f).flatten).length≤c * (l.map m).sum
 |[],_=>Nat.zero_le _
 |x::l,h=>by
  have h1:=h x List.mem_cons_self
  have h2:=qk5 f m c l fun y hy=>h y (List.mem_cons_of_mem _ hy)
  simp only [List.map_cons,List.flatten_cons,List.length_append,List.sum_cons,Nat.mul_add] at h2⊢
  omega
abbrev qtI:Ty:= .pair (.slice qnb) (.pair (.slice TFk) (.pair (.slice qtU) .unit))
theorem quQ (t:qu5):1≤qnb.bulk t:=qdB qnb t
theorem qu3 {f:DFk} (h:TFk.good f):(fkS f).length≤150 * TFk.bulk f:=by
 have h1:=qp0 h
 have h2:=qdB TFk f
 unfold fkS
 simp only [List.length_append,List.length_cons,List.length_nil]
 omega
theorem qjo (a:List qu5) (b:List DFk) (c:List DCon):qtI.bulk (a,b,c,PUnit.unit)=(a.map qnb.bulk).sum+1+((b.map TFk.bulk).sum+1+((c.map qtU.bulk).sum+1+1)):=rfl
theorem schC_len {s:DSch} (h:qtI.good s):(schC s).length≤150 * qtI.bulk s+100:=by
 obtain ⟨a,b,c,⟨⟩⟩:=s
 obtain ⟨⟨h1,h2⟩,⟨h3,h4⟩,⟨h5,h6⟩,_⟩:=h
 have e1:=qb6 (n:=a.length) h1
 have e2:=qb6 (n:=b.length) h3
 have e3:=qb6 (n:=c.length) h5
 have e4:=qk5 qsS qnb.bulk 150 a fun t ht=>Nat.le_trans (qqz (h2 t ht)) (Nat.mul_le_mul_right _ (by omega))
 have e5:=qk5 fkS TFk.bulk 150 b fun t ht=>qu3 (h4 t ht)
 have e6:=qk5 quO qtU.bulk 150 c fun t ht=>qt7 (h6 t ht)
 rw [qjo]
 simp only [schC,List.length_append,List.length_cons]
 omega
theorem qqn (a b:List UInt8):Lib.compareBytes a b= -1∨Lib.compareBytes a b=0∨Lib.compareBytes a b=1:=by
 induction a generalizing b with
 |nil=>cases b <;> simp [Lib.compareBytes]
 |cons x a ih=>cases b with
  |nil=>simp [Lib.compareBytes]
  |cons y b=>
   simp only [Lib.compareBytes]
   split
   ·simp
   ·split
    ·simp
    ·exact ih b
theorem qs6 (a b:List UInt8):Lib.compareBytes b a= - Lib.compareBytes a b:=by
 induction a generalizing b with
 |nil=>cases b <;> simp [Lib.compareBytes]
 |cons x a ih=>cases b with
  |nil=>simp [Lib.compareBytes]
  |cons y b=>
   simp only [Lib.compareBytes]
   by_cases h1:x<y
   ·have h2:¬y<x:=fun h=>by have:=UInt8.lt_iff_toNat_lt.1 h; have:=UInt8.lt_iff_toNat_lt.1 h1; omega
    simp [h1,h2]
   ·by_cases h2:y<x
    ·simp [h1,h2]
    ·simp [h1,h2,ih b]
theorem qnu (a b:List UInt8):Lib.compareBytes a b=0↔a=b:=by
 induction a generalizing b with
 |nil=>cases b <;> simp [Lib.compareBytes]
 |cons x a ih=>cases b with
  |nil=>simp [Lib.compareBytes]
  |cons y b=>
   simp only [Lib.compareBytes]
   by_cases h1:x<y
   ·have:x≠y:=fun e=>by subst e; have:=UInt8.lt_iff_toNat_lt.1 h1; omega
    simp [h1,this]
   ·by_cases h2:y<x
    ·have:x≠y:=fun e=>by subst e; have:=UInt8.lt_iff_toNat_lt.1 h2; omega
     simp [h1,h2,this]
    ·have:x=y:=UInt8.toNat_inj.1 (by
      have h1:¬x.toNat<y.toNat:=fun h=>h1 (UInt8.lt_iff_toNat_lt.2 h)
      have h2:¬y.toNat<x.toNat:=fun h=>h2 (UInt8.lt_iff_toNat_lt.2 h)
      omega)
     simp [h1,h2,ih b,this]
theorem qjU (a b:List UInt8):qfY a b=decide (Lib.compareBytes a b<0):=by
 rw [qoc]
 induction a generalizing b with
 |nil=>cases b <;> simp [Lib.compareBytes,Op.bytesLess]
 |cons x a ih=>cases b with
  |nil=>simp [Lib.compareBytes,Op.bytesLess]
  |cons y b=>
   simp only [Lib.compareBytes,Op.bytesLess]
   by_cases h1:x<y
   ·simp [h1]
   ·by_cases h2:y<x
    ·have:x≠y:=fun e=>by subst e; have:=UInt8.lt_iff_toNat_lt.1 h2; omega
     simp [h1,h2,this]
    ·have:x=y:=UInt8.toNat_inj.1 (by
      have h1:¬x.toNat<y.toNat:=fun h=>h1 (UInt8.lt_iff_toNat_lt.2 h)
      have h2:¬y.toNat<x.toNat:=fun h=>h2 (UInt8.lt_iff_toNat_lt.2 h)
      omega)
     simp [h1,h2,ih b,this]
theorem qp8 (a b:List UInt8):(qfY a b||eqS a b)= !qfY b a:=by
 rw [qjU,qjU,qs6 a b,qbP]
 rcases qqn a b with h|h|h
 ·simp [h]
 ·rw [h]; simp [(qnu a b).1 h]
 ·have:a≠b:=fun e=>by rw [(qnu a b).2 e] at h; omega
  simp [h,this]
end Go.Vi
