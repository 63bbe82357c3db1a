import Derived.Test.YtfcdfdnlgfebmaaGreatDoorViXD
set_option linter.unusedVariables false
set_option linter.unusedSimpArgs false
set_option linter.unnecessarySimpa false
set_option linter.unusedSectionVars false
namespace Go.Vi
def dig (b:UInt8):Prop:=b=45∨(48≤b.toNat∧b.toNat≤57)
instance (b:UInt8):Decidable (dig b):=by unfold dig; infer_instance
theorem qiq {d:Nat} (h:d<10):(UInt8.ofNat (48+d)).toNat=48+d:=by
 rw [UInt8.toNat_ofNat']; omega
theorem qiy (u:Nat):∀b∈Lib.decDigits u,48≤b.toNat∧b.toNat≤57:=by
 induction u using Nat.strongRecOn with
 |ind u ih=>
  intro b hb
  rw [Lib.decDigits] at hb
  split at hb
  ·rename_i h
   simp only [List.mem_singleton] at hb
   subst hb
   rw [qiq h]; omega
  ·rename_i h
   rcases List.mem_append.1 hb with hb|hb
   ·exact ih (u / 10) (by omega) b hb
   ·simp only [List.mem_singleton] at hb
    subst hb
    rw [qiq (Nat.mod_lt _ (by omega))]; omega
theorem qrm (u:Nat):Lib.decDigits u≠[]:=by
 rw [Lib.decDigits]
 split <;> simp
def qss (l:List UInt8):Nat:=l.foldl (fun n b=>n * 10+(b.toNat - 48)) 0
theorem qus (l:List UInt8) (b:UInt8):qss (l++[b])=qss l * 10+(b.toNat - 48):=by simp [qss]
theorem qeq (u:Nat):qss (Lib.decDigits u)=u:=by
 induction u using Nat.strongRecOn with
 |ind u ih=>
  rw [Lib.decDigits]
  split
  ·rename_i h
   simp only [qss,List.foldl_cons,List.foldl_nil,qiq h]; omega
  ·rename_i h
   rw [qus,ih (u / 10) (by omega),qiq (Nat.mod_lt _ (by omega))]
   omega
theorem qlI (n:Int):∀b∈Lib.itoa n,dig b:=by
 intro b hb
 unfold Lib.itoa at hb
 split at hb
 ·rcases List.mem_cons.1 hb with rfl|hb
  ·exact .inl rfl
  ·exact .inr (qiy _ b hb)
 ·exact .inr (qiy _ b hb)
theorem qy4 (n:Int):Lib.itoa n≠[]:=by
 unfold Lib.itoa
 split
 ·simp
 ·exact qrm _
theorem qtc {a b:Int} (h:Lib.itoa a=Lib.itoa b):a=b:=by
 have no45:∀u:Nat,∀r,Lib.decDigits u≠45::r:=fun u r e=>by
  have:=qiy u 45 (by rw [e]; exact List.mem_cons_self)
  have:(48:Nat)≤45:=this.1
  omega
 unfold Lib.itoa at h
 split at h <;> split at h
 ·have e:=congrArg qss (List.cons.inj h).2
  rw [qeq,qeq] at e
  omega
 ·exact absurd h.symm (no45 _ _)
 ·exact absurd h (no45 _ _)
 ·have e:=congrArg qss h
  rw [qeq,qeq] at e
  omega
def stops (P:UInt8→Prop) (r:List UInt8):Prop:=∀b t,r=b::t→¬P b
theorem qhE (P:UInt8→Prop):stops P []:=fun _ _ h=>by cases h
theorem qag {P:UInt8→Prop} {b:UInt8} {t:List UInt8} (h:¬P b):stops P (b::t):=fun _ _ e=>by cases e; exact h
theorem part {P:UInt8→Prop} :(a b:List UInt8)→ {r s:List UInt8} →(∀x∈a,P x)→(∀x∈b,P x)→stops P r→stops P s→a++r=b++s→a=b∧r=s
 |[],[],_,_,_,_,_,_,h=>⟨rfl,h⟩
 |[],y::b,r,s,_,hb,hr,_,h=>absurd (hb y List.mem_cons_self) (hr y (b++s) h)
 |x::a,[],r,s,ha,_,_,hs,h=>absurd (ha x List.mem_cons_self) (hs x (a++r) h.symm)
 |x::a,y::b,r,s,ha,hb,hr,hs,h=>by
  injection h with h1 h2
  obtain ⟨h3,h4⟩:=part a b (fun z hz=>ha z (List.mem_cons_of_mem _ hz)) (fun z hz=>hb z (List.mem_cons_of_mem _ hz)) hr hs h2
  exact ⟨by rw [h1,h3],h4⟩
theorem qcS {a b:Int} {r s:List UInt8} (hr:stops dig r) (hs:stops dig s) (h:Lib.itoa a++r=Lib.itoa b++s):a=b∧r=s:=by
 obtain ⟨h1,h2⟩:=part _ _ (qlI a) (qlI b) hr hs h
 exact ⟨qtc h1,h2⟩
def qeC (s:List UInt8):List UInt8:=Lib.itoa (s.length:Int)++58::s
theorem qdn {a b r s:List UInt8} (h:qeC a++r=qeC b++s):a=b∧r=s:=by
 unfold qeC at h
 rw [List.append_assoc,List.append_assoc] at h
 obtain ⟨h1,h2⟩:=qcS (qag (by decide)) (qag (by decide)) h
 exact List.append_inj (List.cons.inj h2).2 (by omega)
theorem qq9 {a b:Int×(Int×(List UInt8×Unit))} {r s:List UInt8} (h:qkQ a++r=qkQ b++s):a=b∧r=s:=by
 obtain ⟨a1,a2,a3,⟨⟩⟩:=a
 obtain ⟨b1,b2,b3,⟨⟩⟩:=b
 unfold qkQ at h
 simp only [List.cons_append,List.append_assoc] at h
 injection h with _ h
 obtain ⟨h1,h2⟩:=qcS (qag (by decide)) (qag (by decide)) h
 obtain ⟨h3,h4⟩:=qcS (qag (by decide)) (qag (by decide)) (List.cons.inj h2).2
 obtain ⟨h5,h6⟩:=qcS (qag (by decide)) (qag (by decide)) (List.cons.inj h4).2
 obtain ⟨h7,h8⟩:=List.append_inj (List.cons.inj h6).2 (by omega)
 exact ⟨by rw [h1,h3,h7],h8⟩
theorem qmz:(xs ys:List (Int×(Int×(List UInt8×Unit))))→ {r s:List UInt8} →xs.length=ys.length→(xs.map qkQ).flatten++r=(ys.map qkQ).flatten++s→xs=ys∧r=s
 |[],[],_,_,_,h=>⟨rfl,h⟩
 |x::xs,y::ys,r,s,hl,h=>by
  simp only [List.map_cons,List.flatten_cons,List.append_assoc] at h
  obtain ⟨h1,h2⟩:=qq9 h
  obtain ⟨h3,h4⟩:=qmz xs ys (by simpa using hl) h2
  exact ⟨by rw [h1,h3],h4⟩
theorem qvK {xs ys:List (Int×(Int×(List UInt8×Unit)))} {r s:List UInt8} (hr:stops dig r) (hs:stops dig s) (h:qdD xs++r=qdD ys++s):xs=ys∧r=s:=by
 have st:∀(l:List (Int×(Int×(List UInt8×Unit)))) (r:List UInt8),stops dig r→stops dig ((l.map qkQ).flatten++r):=fun l r hr=>by
  cases l with
  |nil=>exact hr
  |cons x l=>
   rw [List.map_cons,List.flatten_cons,qkQ]
   exact qag (by decide)
 unfold qdD at h
 rw [List.append_assoc,List.append_assoc] at h
 obtain ⟨h1,h2⟩:=qcS (st xs r hr) (st ys s hs) h
 exact qmz xs ys (by omega) h2
theorem qnm {xs ys:List (Int×(Int×(List UInt8×Unit)))} (h:qdD xs=qdD ys):xs=ys:=
 (qvK (r:=[]) (s:=[]) (qhE _) (qhE _) (by rw [List.append_nil,List.append_nil]; exact h)).1
theorem qpj {xs ys:List (Int×(Int×(List UInt8×Unit)))} {r s:List UInt8} (hl:xs.length=ys.length) (h:qdD xs++r=qdD ys++s):xs=ys∧r=s:=by
 unfold qdD at h
 rw [hl,List.append_assoc,List.append_assoc] at h
 exact qmz xs ys hl (List.append_cancel_left h)
def qiR (l:List Int):List UInt8:=(l.map fun i=>44::Lib.itoa i).flatten
theorem colsC_nil:qiR []=[]:=rfl
theorem qmw (i:Int) (l:List Int):qiR (i::l)=44::(Lib.itoa i++qiR l):=rfl
theorem qnU (l:List Int) {r:List UInt8} (hr:stops dig r):stops dig (qiR l++r):=by
 cases l with
 |nil=>exact hr
 |cons i l=>rw [qmw]; exact qag (by decide)
theorem qjR:(a b:List Int)→ {r s:List UInt8} →stops dig r→stops dig s→stops (· =44) r→stops (· =44) s→qiR a++r=qiR b++s→a=b∧r=s
 |[],[],_,_,_,_,_,_,h=>⟨rfl,h⟩
 |[],j::b,r,s,_,_,hr,_,h=>absurd rfl (hr 44 (Lib.itoa j++qiR b++s) h)
 |i::a,[],r,s,_,_,_,hs,h=>absurd rfl (hs 44 (Lib.itoa i++qiR a++r) h.symm)
 |i::a,j::b,r,s,hr,hs,hr',hs',h=>by
  simp only [qmw,List.cons_append,List.append_assoc] at h
  injection h with _ h
  obtain ⟨h1,h2⟩:=qcS (qnU a hr) (qnU b hs) h
  obtain ⟨h3,h4⟩:=qjR a b hr hs hr' hs' h2
  exact ⟨by rw [h1,h3],h4⟩
abbrev DFk:Type:=List UInt8×(List Int×(List UInt8×Unit))
def fkC (f:DFk):List UInt8:=qeC f.1++(qeC f.2.2.1++qiR f.2.1)
theorem qu9 {a b:DFk} (h:fkC a=fkC b):a=b:=by
 obtain ⟨a1,a2,a3,⟨⟩⟩:=a
 obtain ⟨b1,b2,b3,⟨⟩⟩:=b
 unfold fkC at h
 obtain ⟨h1,h2⟩:=qdn h
 obtain ⟨h3,h4⟩:=qdn h2
 obtain ⟨h5,_⟩:=qjR a2 b2 (r:=[]) (s:=[]) (qhE _) (qhE _) (qhE _) (qhE _) (by rw [List.append_nil,List.append_nil]; exact h4)
 simp only at h1 h3
 rw [h1,h3,h5]
abbrev DCol:Type:=List UInt8×(Int×(Bool×Unit))
abbrev qyu:Type:=List UInt8×(List DCol×(List Int×Unit))
def quh (b:Bool):List UInt8:=if b then [116,114,117,101] else [102,97,108,115,101]
def qx4 (c:DCol):List UInt8:=qeC c.1++(Lib.itoa c.2.1++(quh c.2.2.1++[44]))
def pkC (l:List Int):List UInt8:=(l.map fun i=>Lib.itoa i++[44]).flatten
def quK (t:qyu):List UInt8:=qeC t.1++40::(Lib.itoa (t.2.1.length:Int)++44::((t.2.1.map qx4).flatten++(pkC t.2.2.1++[41])))
theorem qnG (b:Bool) (r:List UInt8):stops dig (quh b++r):=by cases b <;> exact qag (by decide)
theorem qtG {a b:Bool} {r s:List UInt8} (h:quh a++r=quh b++s):a=b∧r=s:=by
 cases a <;> cases b <;> simp_all [quh]
theorem qu4 {a b:DCol} {r s:List UInt8} (h:qx4 a++r=qx4 b++s):a=b∧r=s:=by
 obtain ⟨a1,a2,a3,⟨⟩⟩:=a
 obtain ⟨b1,b2,b3,⟨⟩⟩:=b
 unfold qx4 at h
 simp only [List.append_assoc] at h
 obtain ⟨h1,h2⟩:=qdn h
 obtain ⟨h3,h4⟩:=qcS (qnG _ _) (qnG _ _) h2
 obtain ⟨h5,h6⟩:=qtG h4
 exact ⟨by rw [h1,h3,h5],(List.append_cancel_left h6)⟩
theorem qpz:(xs ys:List DCol)→ {r s:List UInt8} →xs.length=ys.length→(xs.map qx4).flatten++r=(ys.map qx4).flatten++s→xs=ys∧r=s
 |[],[],_,_,_,h=>⟨rfl,h⟩
 |x::xs,y::ys,r,s,hl,h=>by
  simp only [List.map_cons,List.flatten_cons,List.append_assoc] at h
  obtain ⟨h1,h2⟩:=qu4 h
  obtain ⟨h3,h4⟩:=qpz xs ys (by simpa using hl) h2
  exact ⟨by rw [h1,h3],h4⟩
theorem qnc (i:Int) (l:List Int):pkC (i::l)=Lib.itoa i++44::pkC l:=by simp [pkC]
theorem qqQ (i:Int) (r:List UInt8) {c:UInt8} {s:List UInt8} (hc:¬dig c):Lib.itoa i++r≠c::s:=fun e=>by
 cases h:Lib.itoa i with
 |nil=>exact qy4 i h
 |cons x t=>
  rw [h] at e
  injection e with e1 _
  exact hc (e1 ▸ qlI i x (by rw [h]; exact List.mem_cons_self))
theorem qtq:(a b:List Int)→ {r s:List UInt8} →pkC a++41::r=pkC b++41::s→a=b∧r=s
 |[],[],_,_,h=>⟨rfl,(List.cons.inj h).2⟩
 |[],j::b,r,s,h=>by
  rw [qnc,List.append_assoc] at h
  exact absurd h.symm (qqQ j _ (by decide))
 |i::a,[],r,s,h=>by
  rw [qnc,List.append_assoc] at h
  exact absurd h (qqQ i _ (by decide))
 |i::a,j::b,r,s,h=>by
  simp only [qnc,List.append_assoc,List.cons_append] at h
  obtain ⟨h1,h2⟩:=qcS (qag (by decide)) (qag (by decide)) h
  obtain ⟨h3,h4⟩:=qtq a b (List.cons.inj h2).2
  exact ⟨by rw [h1,h3],h4⟩
theorem qnv {a b:qyu} {r s:List UInt8} (h:quK a++r=quK b++s):a=b∧r=s:=by
 obtain ⟨a1,a2,a3,⟨⟩⟩:=a
 obtain ⟨b1,b2,b3,⟨⟩⟩:=b
 unfold quK at h
 simp only [List.append_assoc,List.cons_append,List.nil_append] at h
 obtain ⟨h1,h2⟩:=qdn h
 obtain ⟨h3,h4⟩:=qcS (qag (by decide)) (qag (by decide)) (List.cons.inj h2).2
 obtain ⟨h5,h6⟩:=qpz a2 b2 (by omega) (List.cons.inj h4).2
 obtain ⟨h7,h8⟩:=qtq a3 b3 h6
 exact ⟨by rw [h1,h5,h7],h8⟩
abbrev qpe:Type:=Int×(Int×(List UInt8×Unit))
abbrev DCon:Type:=List UInt8×(Int×(List UInt8×(Int×(qpe×Unit))))
abbrev qwz:Type:=Int×(List UInt8×(List UInt8×(List UInt8×(List UInt8×(Int×(List Int×(List UInt8×(qpe×(qyu×(DCon×(DFk×Unit)))))))))))
def qpT (x:qwz):List qpe:=[(x.1,(x.2.2.2.2.2.1,(x.2.1,()))),(0,(0,(x.2.2.1,()))),(0,(0,(x.2.2.2.1,()))),(0,(0,(x.2.2.2.2.1,()))),(0,(0,(x.2.2.2.2.2.2.2.1,()))),x.2.2.2.2.2.2.2.2.1]
def qpL (x:qwz):List qpe:=[(x.2.2.2.2.2.2.2.2.2.2.1.2.1,(x.2.2.2.2.2.2.2.2.2.2.1.2.2.2.1,(x.2.2.2.2.2.2.2.2.2.2.1.1,()))),(0,(0,(x.2.2.2.2.2.2.2.2.2.2.1.2.2.1,()))),x.2.2.2.2.2.2.2.2.2.2.1.2.2.2.2.1]
def quU (x:qwz):List UInt8:=qdD (qpT x)++(qiR x.2.2.2.2.2.2.1++59::(quK x.2.2.2.2.2.2.2.2.2.1++(qdD (qpL x)++fkC x.2.2.2.2.2.2.2.2.2.2.2.1)))
theorem stepC_inj {a b:qwz} (h:quU a=quU b):a=b:=by
 obtain ⟨a1,a2,a3,a4,a5,a6,a7,a8,a9,a10,⟨c1,c2,c3,c4,c5,⟨⟩⟩,a12,⟨⟩⟩:=a
 obtain ⟨b1,b2,b3,b4,b5,b6,b7,b8,b9,b10,⟨d1,d2,d3,d4,d5,⟨⟩⟩,b12,⟨⟩⟩:=b
 unfold quU at h
 obtain ⟨h1,h2⟩:=qpj (by rfl) h
 obtain ⟨h3,h4⟩:=qjR _ _ (qag (by decide)) (qag (by decide)) (qag (by decide)) (qag (by decide)) h2
 obtain ⟨h5,h6⟩:=qnv (List.cons.inj h4).2
 obtain ⟨h7,h8⟩:=qpj (by rfl) h6
 have h9:=qu9 h8
 simp only [qpT,qpL,List.cons.injEq,Prod.mk.injEq,and_true,true_and] at h1 h7
 simp only at h3 h5 h9
 grind
theorem qnP {α:Type} [DecidableEq α] {ne:α→α→Bool} (hne:∀a b,ne a b= !decide (a=b)) (xs ys:List α) (d:α) (hl:xs.length=ys.length) (hb:xs.length≤1099511627776) {N:Nat} (hN:xs.length<N):
  qab (S:=Int×Unit) (R:=(Bool×Unit)×Unit) N (fun ih0=>fun p1=>(bif (ltI p1.1 (qn xs)) then (bif ((inB p1.1 (qn xs))&&(inB p1.1 (qn ys))) then (bif (ne (qi xs p1.1 d) (qi ys p1.1 d)) then (some ((false,()),())) else (ih0 ((qS .i64 p1.1 1),()))) else none) else (some ((true,()),())))) (0,())=some ((decide (xs=ys),()),()):=by
 refine qcR (S:=Int×Unit) (R:=(Bool×Unit)×Unit) (fun p=>xs.length - p.1.toNat) (fun p=>∃i:Nat,p.1=(i:Int)∧i≤xs.length∧xs.take i=ys.take i) (fun _=>((decide (xs=ys),()),())) ?_ N _ ⟨0,rfl,Nat.zero_le _,by simp⟩ (by simp; omega)
 rintro ih ⟨_,_⟩ ⟨i,rfl,h2,h3⟩ hih
 simp only [Int.toNat_natCast] at hih⊢
 by_cases hi:i<xs.length
 ·have hj:i<ys.length:=by omega
  rw [qC (qaW hi),qK hi,qK hj,qF d hi,qF d hj,hne]
  simp only [Bool.and_self,cond_true]
  by_cases e:xs[i]=ys[i]
  ·rw [qD (by simp [e]),qQ (by omega),hih _ ⟨i+1,rfl,by omega,by rw [qba hi,qba hj,h3,e]⟩ (by simp only [Int.toNat_natCast]; omega)]
  ·rw [qC (by simp [e])]
   have:xs≠ys:=fun h=>e (by subst h; rfl)
   simp [this]
 ·rw [qD (qax hi)]
  have e1:i=xs.length:=by omega
  subst e1
  have:xs=ys:=by
   have:=h3
   rwa [List.take_length,hl,List.take_length] at this
  simp [this]
theorem qq2 {α:Type} (xs:List α) (b:Nat) (h:xs.length * b≤140737488355328):
  (bif (eqI (qn xs) 0) then (qur (some ((([]:List α),()),())) (bif (qcQ (qn ([]:List α)) (qn xs) b) then (some (((qfn ([]:List α) xs),()),())) else none)) else (bif (qcQ (qn ([]:List α)) (qn xs) b) then (some (((qfn ([]:List α) xs),()),())) else none))=some ((xs,()),()):=by
 have e:qcQ (qn ([]:List α)) (qn xs) b=true:=qdZ (by simpa using h)
 rw [e,cond_true,qbo,List.nil_append]
 cases xs with
 |nil=>rw [qC (by rw [qbC,qj]; rfl),qqR,if_pos rfl]
 |cons x xs=>rw [qD (by rw [qbC,qj]; simp; omega)]
theorem quI {a b:List UInt8} (ha:a.length≤4398046511104) (hb:b.length≤4398046511104):qcQ (qn a) (qn b) 1=true:=qdZ (by omega)
theorem qiA {n:Int} (h:IntKind.i64.has n):(Lib.itoa n).length≤21:=by
 have h': -9223372036854775808≤n∧n≤9223372036854775807:=by simpa [IntKind.has,IntKind.min,IntKind.max,IntKind.signed,IntKind.bits] using h
 exact Lib.itoa_length_le n h'.1 h'.2
theorem qcJ {n:Nat} (h:n≤maxLen):(Lib.itoa (n:Int)).length≤21:=by
 unfold maxLen at h
 exact Lib.itoa_length_le _ (by omega) (by omega)
theorem qgn {s:List UInt8} (h:s.length≤maxLen):(qeC s).length≤s.length+22:=by
 have:=qcJ h
 unfold qeC
 simp only [List.length_append,List.length_cons]
 omega
theorem qeB {v:qpe} (h:IntKind.i64.has v.1∧IntKind.i64.has v.2.1∧v.2.2.1.length≤maxLen):(qkQ v).length≤v.2.2.1.length+67:=by
 have h1:=qiA h.1
 have h2:=qiA h.2.1
 have h3:=qcJ h.2.2
 unfold qkQ
 simp only [List.length_append,List.length_cons]
 omega
theorem qnA: {l:List Int} →(∀i∈l,IntKind.i64.has i)→(qiR l).length≤22 * l.length
 |[],_=>Nat.zero_le _
 |i::l,h=>by
  have h1:=qiA (h i List.mem_cons_self)
  have h2:=qnA (l:=l) fun j hj=>h j (List.mem_cons_of_mem _ hj)
  rw [qmw]
  simp only [List.length_append,List.length_cons] at h2⊢
  omega
theorem qvZ: {l:List Int} →(∀i∈l,IntKind.i64.has i)→(pkC l).length≤22 * l.length
 |[],_=>Nat.zero_le _
 |i::l,h=>by
  have h1:=qiA (h i List.mem_cons_self)
  have h2:=qvZ (l:=l) fun j hj=>h j (List.mem_cons_of_mem _ hj)
  rw [qnc]
  simp only [List.length_append,List.length_cons] at h2⊢
  omega
abbrev qwM:Ty:= .pair .str (.pair (.int .i64) (.pair .bool .unit))
theorem qry: {l:List DCol} →(∀c∈l,qwM.good c)→((l.map qx4).flatten).length≤50 * (l.map qwM.bulk).sum
 |[],_=>Nat.zero_le _
 |c::l,h=>by
  have h0:=h c List.mem_cons_self
  obtain ⟨c1,c2,c3,⟨⟩⟩:=c
  have h1:=qgn (s:=c1) h0.1
  have h2:=qiA (n:=c2) h0.2.1
  have h3:(quh c3).length≤5:=by cases c3 <;> decide
  have h4:=qry (l:=l) fun j hj=>h j (List.mem_cons_of_mem _ hj)
  have h5:qwM.bulk (c1,c2,c3,PUnit.unit)=c1.length+1+(1+(1+1)):=rfl
  simp only [List.map_cons,List.flatten_cons,qx4,List.length_append,List.length_cons,List.length_nil,List.sum_cons] at h4⊢
  omega
theorem qeJ:(l:List Int)→(l.map (Ty.bulk (.int .i64))).sum=l.length
 |[]=>rfl
 |i::l=>by
  have:Ty.bulk (.int .i64) i=1:=rfl
  rw [List.map_cons,List.sum_cons,qeJ l,this,List.length_cons]; omega
abbrev qjx:Ty:= .pair (.int .i64) (.pair (.int .i64) (.pair .str .unit))
abbrev qps:Ty:= .pair .str (.pair (.slice qwM) (.pair (.slice (.int .i64)) .unit))
abbrev TFk:Ty:= .pair .str (.pair (.slice (.int .i64)) (.pair .str .unit))
abbrev qxA:Ty:= .pair .str (.pair (.int .i64) (.pair .str (.pair (.int .i64) (.pair qjx .unit))))
abbrev qyV:Ty:= .pair (.int .i64) (.pair .str (.pair .str (.pair .str (.pair .str (.pair (.int .i64) (.pair (.slice (.int .i64)) (.pair .str (.pair qjx (.pair qps (.pair qxA (.pair TFk .unit)))))))))))
theorem qtA {t:qyu} (h:qps.good t):(quK t).length≤50 * qps.bulk t:=by
 obtain ⟨t1,t2,t3,⟨⟩⟩:=t
 have h1:=qgn (s:=t1) h.1
 have h2:=qcJ (n:=t2.length) h.2.1.1
 have h3:=qry (l:=t2) h.2.1.2
 have h4:=qvZ (l:=t3) h.2.2.1.2
 have h5:qps.bulk (t1,t2,t3,PUnit.unit)=t1.length+1+((t2.map qwM.bulk).sum+1+((t3.map (Ty.bulk (.int .i64))).sum+1+1)):=rfl
 rw [qeJ] at h5
 simp only [quK,List.length_append,List.length_cons,List.length_nil]
 omega
theorem qsO {f:DFk} (h:TFk.good f):(fkC f).length≤50 * TFk.bulk f:=by
 obtain ⟨f1,f2,f3,⟨⟩⟩:=f
 have h1:=qgn (s:=f1) h.1
 have h2:=qgn (s:=f3) h.2.2.1
 have h3:=qnA (l:=f2) h.2.1.2
 have h5:TFk.bulk (f1,f2,f3,PUnit.unit)=f1.length+1+((f2.map (Ty.bulk (.int .i64))).sum+1+(f3.length+1+1)):=rfl
 rw [qeJ] at h5
 simp only [fkC,List.length_append]
 omega
theorem qdd:IntKind.i64.has 0:=⟨by decide,by decide⟩
theorem stepC_len {x:qwz} (h:qyV.good x):(quU x).length≤50 * qyV.bulk x+1000:=by
 obtain ⟨a1,a2,a3,a4,a5,a6,a7,a8,⟨v1,v2,v3,⟨⟩⟩,a10,⟨c1,c2,c3,c4,⟨d1,d2,d3,⟨⟩⟩,⟨⟩⟩,a12,⟨⟩⟩:=x
 obtain ⟨h1,h2,h3,h4,h5,h6,h7,h8,⟨hv1,hv2,hv3,_⟩,h10,⟨hc1,hc2,hc3,hc4,⟨hd1,hd2,hd3,_⟩,_⟩,h12,_⟩:=h
 have e1:=qeB (v:=(a1,a6,a2,())) ⟨h1,h6,h2⟩
 have e2:=qeB (v:=(0,0,a3,())) ⟨qdd,qdd,h3⟩
 have e3:=qeB (v:=(0,0,a4,())) ⟨qdd,qdd,h4⟩
 have e4:=qeB (v:=(0,0,a5,())) ⟨qdd,qdd,h5⟩
 have e5:=qeB (v:=(0,0,a8,())) ⟨qdd,qdd,h8⟩
 have e6:=qeB (v:=(v1,v2,v3,PUnit.unit)) ⟨hv1,hv2,hv3⟩
 have e7:=qeB (v:=(c2,c4,c1,())) ⟨hc2,hc4,hc1⟩
 have e8:=qeB (v:=(0,0,c3,())) ⟨qdd,qdd,hc3⟩
 have e9:=qeB (v:=(d1,d2,d3,PUnit.unit)) ⟨hd1,hd2,hd3⟩
 have g1:=qnA (l:=a7) h7.2
 have g2:=qtA (t:=a10) h10
 have g3:=qsO (f:=a12) h12
 have g4:(Lib.itoa 6).length≤21:=qcJ (n:=6) (by unfold maxLen; omega)
 have g5:(Lib.itoa 3).length≤21:=qcJ (n:=3) (by unfold maxLen; omega)
 have hb:qyV.bulk (a1,a2,a3,a4,a5,a6,a7,a8,(v1,v2,v3,PUnit.unit),a10,(c1,c2,c3,c4,(d1,d2,d3,PUnit.unit),PUnit.unit),a12,PUnit.unit)=1+(a2.length+1+(a3.length+1+(a4.length+1+(a5.length+1+(1+((a7.map (Ty.bulk (.int .i64))).sum+1+(a8.length+1+((1+(1+(v3.length+1+1)))+(qps.bulk a10+((c1.length+1+(1+(c3.length+1+(1+((1+(1+(d3.length+1+1)))+1)))))+(TFk.bulk a12+1))))))))))):=rfl
 rw [qeJ] at hb
 simp only [quU,qpT,qpL,qdD,List.length_append,List.length_cons,List.length_nil,List.map_cons,List.map_nil,List.flatten_cons,List.flatten_nil] at e1 e2 e3 e4 e5 e6 e7 e8 e9⊢
 have q1:(((0+1+1+1+1+1+1:Nat)):Int)=6:=rfl
 have q2:(((0+1+1+1:Nat)):Int)=3:=rfl
 rw [q1,q2]
 omega
theorem qxR {a b:DFk} {r s:List UInt8} (h:fkC a++59::r=fkC b++59::s):a=b∧r=s:=by
 obtain ⟨a1,a2,a3,⟨⟩⟩:=a
 obtain ⟨b1,b2,b3,⟨⟩⟩:=b
 unfold fkC at h
 simp only [List.append_assoc] at h
 obtain ⟨h1,h2⟩:=qdn h
 obtain ⟨h3,h4⟩:=qdn h2
 obtain ⟨h5,h6⟩:=qjR a2 b2 (qag (by decide)) (qag (by decide)) (qag (by decide)) (qag (by decide)) h4
 exact ⟨by rw [h1,h3,h5],(List.cons.inj h6).2⟩
def qyd (c:DCon):List UInt8:=qeC c.1++(qeC c.2.2.1++(Lib.itoa c.2.1++32::(Lib.itoa c.2.2.2.1++qdD [c.2.2.2.2.1])))
theorem qtm (v:qpe):qdD [v]=49::qkQ v:=by
 have:Lib.itoa ((([v]:List qpe).length:Nat):Int)=[49]:=by show Lib.itoa 1=[49]; decide+kernel
 unfold qdD
 rw [this]
 simp
theorem qwa {a b:DCon} {r s:List UInt8} (h:qyd a++r=qyd b++s):a=b∧r=s:=by
 obtain ⟨a1,a2,a3,a4,a5,⟨⟩⟩:=a
 obtain ⟨b1,b2,b3,b4,b5,⟨⟩⟩:=b
 unfold qyd at h
 simp only [List.append_assoc,qtm,List.cons_append] at h
 obtain ⟨h1,h2⟩:=qdn h
 obtain ⟨h3,h4⟩:=qdn h2
 obtain ⟨h5,h6⟩:=qcS (qag (by decide)) (qag (by decide)) h4
 have h7:=(List.cons.inj h6).2
 have st:∀(v:qpe) (x:List UInt8),stops dig (qkQ v++x):=fun v x=>by unfold qkQ; exact qag (by decide)
 have e1:∀(n:Int) (x:List UInt8),Lib.itoa n++49::x=(Lib.itoa n++[49])++x:=fun n x=>by simp
 rw [e1 a4 (qkQ a5++r),e1 b4 (qkQ b5++s)] at h7
 obtain ⟨h8,h9⟩:=part (P:=dig) (Lib.itoa a4++[49]) (Lib.itoa b4++[49]) (fun x hx=>by
  rcases List.mem_append.1 hx with hx|hx
  ·exact qlI _ _ hx
  ·simp at hx; subst hx; exact .inr (by decide)) (fun x hx=>by
  rcases List.mem_append.1 hx with hx|hx
  ·exact qlI _ _ hx
  ·simp at hx; subst hx; exact .inr (by decide)) (st _ _) (st _ _) h7
 have h10:=qtc (List.append_cancel_right h8)
 obtain ⟨h11,h12⟩:=qq9 h9
 exact ⟨by rw [h1,h3,h5,h10,h11],h12⟩
theorem qlt {α:Type} (f:α→List UInt8) (hf:∀ {a b:α} {r s:List UInt8},f a++r=f b++s→a=b∧r=s):(xs ys:List α)→ {r s:List UInt8} →xs.length=ys.length→(xs.map f).flatten++r=(ys.map f).flatten++s→xs=ys∧r=s
 |[],[],_,_,_,h=>⟨rfl,h⟩
 |x::xs,y::ys,r,s,hl,h=>by
  simp only [List.map_cons,List.flatten_cons,List.append_assoc] at h
  obtain ⟨h1,h2⟩:=hf h
  obtain ⟨h3,h4⟩:=qlt f hf xs ys (by simpa using hl) h2
  exact ⟨by rw [h1,h3],h4⟩
abbrev DSch:Type:=List qyu×(List DFk×(List DCon×Unit))
def fkS (f:DFk):List UInt8:=fkC f++[59]
def schC (s:DSch):List UInt8:=Lib.itoa (s.1.length:Int)++59::(Lib.itoa (s.2.1.length:Int)++59::(Lib.itoa (s.2.2.1.length:Int)++59::((s.1.map quK).flatten++((s.2.1.map fkS).flatten++(s.2.2.1.map qyd).flatten))))
theorem schC_inj {a b:DSch} (h:schC a=schC b):a=b:=by
 obtain ⟨a1,a2,a3,⟨⟩⟩:=a
 obtain ⟨b1,b2,b3,⟨⟩⟩:=b
 unfold schC at h
 obtain ⟨h1,h2⟩:=qcS (qag (by decide)) (qag (by decide)) h
 obtain ⟨h3,h4⟩:=qcS (qag (by decide)) (qag (by decide)) (List.cons.inj h2).2
 obtain ⟨h5,h6⟩:=qcS (qag (by decide)) (qag (by decide)) (List.cons.inj h4).2
 simp only at h1 h3 h5
 obtain ⟨h7,h8⟩:=qlt quK (fun h=>qnv h) a1 b1 (by omega) (List.cons.inj h6).2
 obtain ⟨h9,h10⟩:=qlt fkS (fun {x y r s} h=>by
  unfold fkS at h
  simp only [List.append_assoc,List.cons_append,List.nil_append] at h
  exact qxR h) a2 b2 (by omega) h8
 obtain ⟨h11,_⟩:=qlt qyd (fun h=>qwa h) a3 b3 (r:=[]) (s:=[]) (by omega) (by simpa using h10)
 rw [h7,h9,h11]
theorem qwV {c:DCon} (h:qxA.good c):(qyd c).length≤150 * qxA.bulk c:=by
 obtain ⟨c1,c2,c3,c4,⟨d1,d2,d3,⟨⟩⟩,⟨⟩⟩:=c
 obtain ⟨h1,h2,h3,h4,⟨k1,k2,k3,_⟩,_⟩:=h
 have e1:=qgn (s:=c1) h1
 have e2:=qgn (s:=c3) h3
 have e3:(Lib.itoa c2).length≤21:=qiA h2
 have e4:(Lib.itoa c4).length≤21:=qiA h4
 have e5:(qkQ (d1,d2,d3,PUnit.unit)).length≤d3.length+67:=qeB (v:=(d1,d2,d3,PUnit.unit)) ⟨k1,k2,k3⟩
 have hb:qxA.bulk (c1,c2,c3,c4,(d1,d2,d3,PUnit.unit),PUnit.unit)=c1.length+1+(1+(c3.length+1+(1+((1+(1+(d3.length+1+1)))+1)))):=rfl
 simp only [qyd,qtm,List.length_append,List.length_cons]
 omega
theorem qni {α:Type} (f:α→List UInt8) (m:α→Nat) (c:Nat):(l:List α)→(∀x∈l,(f x).length≤c * m x)→((l.map f).flatten).length≤c * (l.map m).sum
 |[],_=>Nat.zero_le _
 |x::l,h=>by
  have h1:=h x List.mem_cons_self
  have h2:=qni f m c l fun y hy=>h y (List.mem_cons_of_mem _ hy)
  simp only [List.map_cons,List.flatten_cons,List.length_append,List.sum_cons,Nat.mul_add] at h2⊢
  omega
abbrev qwL:Ty:= .pair (.slice qps) (.pair (.slice TFk) (.pair (.slice qxA) .unit))
theorem qyh (t:qyu):1≤qps.bulk t:=qex qps t
theorem qyr {f:DFk} (h:TFk.good f):(fkS f).length≤150 * TFk.bulk f:=by
 have h1:=qsO h
 have h2:=qex TFk f
 unfold fkS
 simp only [List.length_append,List.length_cons,List.length_nil]
 omega
theorem qlB (a:List qyu) (b:List DFk) (c:List DCon):qwL.bulk (a,b,c,PUnit.unit)=(a.map qps.bulk).sum+1+((b.map TFk.bulk).sum+1+((c.map qxA.bulk).sum+1+1)):=rfl
theorem schC_len {s:DSch} (h:qwL.good s):(schC s).length≤150 * qwL.bulk s+100:=by
 obtain ⟨a,b,c,⟨⟩⟩:=s
 obtain ⟨⟨h1,h2⟩,⟨h3,h4⟩,⟨h5,h6⟩,_⟩:=h
 have e1:=qcJ (n:=a.length) h1
 have e2:=qcJ (n:=b.length) h3
 have e3:=qcJ (n:=c.length) h5
 have e4:=qni quK qps.bulk 150 a fun t ht=>Nat.le_trans (qtA (h2 t ht)) (Nat.mul_le_mul_right _ (by omega))
 have e5:=qni fkS TFk.bulk 150 b fun t ht=>qyr (h4 t ht)
 have e6:=qni qyd qxA.bulk 150 c fun t ht=>qwV (h6 t ht)
 rw [qlB]
 simp only [schC,List.length_append,List.length_cons]
 omega
theorem qsV (a b:List UInt8):Lib.compareBytes a b= -1∨Lib.compareBytes a b=0∨Lib.compareBytes a b=1:=by
 induction a generalizing b with
 |nil=>cases b <;> simp [Lib.compareBytes]
 |cons x a ih=>cases b with
  |nil=>simp [Lib.compareBytes]
  |cons y b=>
   simp only [Lib.compareBytes]
   split
   ·simp
   ·split
    ·simp
    ·exact ih b
theorem qvd (a b:List UInt8):Lib.compareBytes b a= - Lib.compareBytes a b:=by
 induction a generalizing b with
 |nil=>cases b <;> simp [Lib.compareBytes]
 |cons x a ih=>cases b with
  |nil=>simp [Lib.compareBytes]
  |cons y b=>
   simp only [Lib.compareBytes]
   by_cases h1:x<y
   ·have h2:¬y<x:=fun h=>by have:=UInt8.lt_iff_toNat_lt.1 h; have:=UInt8.lt_iff_toNat_lt.1 h1; omega
    simp [h1,h2]
   ·by_cases h2:y<x
    ·simp [h1,h2]
    ·simp [h1,h2,ih b]
theorem qqp (a b:List UInt8):Lib.compareBytes a b=0↔a=b:=by
 induction a generalizing b with
 |nil=>cases b <;> simp [Lib.compareBytes]
 |cons x a ih=>cases b with
  |nil=>simp [Lib.compareBytes]
  |cons y b=>
   simp only [Lib.compareBytes]
   by_cases h1:x<y
   ·have:x≠y:=fun e=>by subst e; have:=UInt8.lt_iff_toNat_lt.1 h1; omega
    simp [h1,this]
   ·by_cases h2:y<x
    ·have:x≠y:=fun e=>by subst e; have:=UInt8.lt_iff_toNat_lt.1 h2; omega
     simp [h1,h2,this]
    ·have:x=y:=UInt8.toNat_inj.1 (by
      have h1:¬x.toNat<y.toNat:=fun h=>h1 (UInt8.lt_iff_toNat_lt.2 h)
      have h2:¬y.toNat<x.toNat:=fun h=>h2 (UInt8.lt_iff_toNat_lt.2 h)
      omega)
     simp [h1,h2,ih b,this]
theorem qlr (a b:List UInt8):qhq a b=decide (Lib.compareBytes a b<0):=by
 rw [qrn]
 induction a generalizing b with
 |nil=>cases b <;> simp [Lib.compareBytes,Op.bytesLess]
 |cons x a ih=>cases b with
  |nil=>simp [Lib.compareBytes,Op.bytesLess]
  |cons y b=>
   simp only [Lib.compareBytes,Op.bytesLess]
   by_cases h1:x<y
   ·simp [h1]
   ·by_cases h2:y<x
    ·have:x≠y:=fun e=>by subst e; have:=UInt8.lt_iff_toNat_lt.1 h2; omega
     simp [h1,h2,this]
    ·have:x=y:=UInt8.toNat_inj.1 (by
      have h1:¬x.toNat<y.toNat:=fun h=>h1 (UInt8.lt_iff_toNat_lt.2 h)
      have h2:¬y.toNat<x.toNat:=fun h=>h2 (UInt8.lt_iff_toNat_lt.2 h)
      omega)
     simp [h1,h2,ih b,this]
theorem qsN (a b:List UInt8):(qhq a b||eqS a b)= !qhq b a:=by
 rw [qlr,qlr,qvd a b,qch]
 rcases qsV a b with h|h|h
 ·simp [h]
 ·rw [h]; simp [(qqp a b).1 h]
 ·have:a≠b:=fun e=>by rw [(qqp a b).2 e] at h; omega
  simp [h,this]
end Go.Vi
namespace Go.Vi
noncomputable section
def ic (x y:Int):Int:=if x<y then -1 else if y<x then 1 else 0
def vc (a b:qpe):Int:=if ic a.1 b.1≠0 then ic a.1 b.1 else if ic a.2.1 b.2.1≠0 then ic a.2.1 b.2.1 else Lib.compareBytes a.2.2.1 b.2.2.1
theorem qbv (x y:Int):(x<y∧ic x y= -1)∨(x=y∧ic x y=0)∨(y<x∧ic x y=1):=by
 unfold ic
 split
 ·simp [*]
 ·split
  ·simp [*]
  ·have:x=y:=by omega
   simp [this]
theorem qta (a b:qpe):vc a b= -1∨vc a b=0∨vc a b=1:=by
 unfold vc
 have h1:=qbv a.1 b.1
 have h2:=qbv a.2.1 b.2.1
 have h3:=qsV a.2.2.1 b.2.2.1
 split
 ·omega
 ·split
  ·omega
  ·exact h3
theorem qvg (a b:qpe):vc b a= - vc a b:=by
 have s:∀x y,ic y x= - ic x y:=fun x y=>by
  have h1:=qbv x y
  have h2:=qbv y x
  omega
 unfold vc
 rw [s a.1 b.1,s a.2.1 b.2.1,qvd]
 split <;> split <;> first|omega|(split <;> split <;> omega)
theorem qr0 (a b:qpe):vc a b=0↔a=b:=by
 obtain ⟨k,n,s,_⟩:=a
 obtain ⟨k',n',s',_⟩:=b
 have h1:=qbv k k'
 have h2:=qbv n n'
 have h3:=qqp s s'
 simp only [vc,Prod.mk.injEq,and_true]
 split
 ·rename_i h
  constructor
  ·intro h0; exact absurd h0 h
  ·rintro ⟨rfl,_⟩; omega
 ·split
  ·rename_i h
   constructor
   ·intro h0; exact absurd h0 h
   ·rintro ⟨_,rfl,_⟩; omega
  ·rw [h3]
   constructor
   ·intro h; exact ⟨by omega,by omega,h⟩
   ·exact fun h=>h.2.2
abbrev qaa:Type:=List qpe
def qH:qaa→qaa→Int
 |[],ys=>ic 0 (ys.length:Int)
 |_::xs,[]=>ic ((xs.length:Int)+1) 0
 |x::xs,y::ys=>if vc x y≠0 then vc x y else qH xs ys
theorem qyc (a b k:Int):ic (a+k) (b+k)=ic a b:=by
 unfold ic
 by_cases h1:a<b
 ·rw [if_pos h1,if_pos (by omega)]
 ·rw [if_neg h1,if_neg (by omega)]
  by_cases h2:b<a
  ·rw [if_pos h2,if_pos (by omega)]
  ·rw [if_neg h2,if_neg (by omega)]
theorem qpD (xs ys:qaa) (i:Nat) (h:¬(i<xs.length∧i<ys.length)) (hx:i≤xs.length) (hy:i≤ys.length):qH (xs.drop i) (ys.drop i)=ic (xs.length:Int) (ys.length:Int):=by
 by_cases h1:i<xs.length
 ·have h2:¬i<ys.length:=fun h2=>h ⟨h1,h2⟩
  rw [List.drop_eq_getElem_cons h1,List.drop_of_length_le (l:=ys) (by omega),qH]
  have e1:((xs.drop (i+1)).length:Int)+1=(xs.length:Int)+(-(i:Int)):=by rw [List.length_drop]; omega
  have e2:(0:Int)=(ys.length:Int)+(-(i:Int)):=by omega
  rw [e1,show ic ((xs.length:Int)+ -(i:Int)) 0=ic ((xs.length:Int)+ -(i:Int)) ((ys.length:Int)+ -(i:Int)) by rw [←e2],qyc]
 ·rw [List.drop_of_length_le (l:=xs) (by omega)]
  rw [qH.eq_def]
  simp only
  have e1:((ys.drop i).length:Int)=(ys.length:Int)+(-(i:Int)):=by rw [List.length_drop]; omega
  have e2:(0:Int)=(xs.length:Int)+(-(i:Int)):=by omega
  rw [e1,show ic 0 ((ys.length:Int)+ -(i:Int))=ic ((xs.length:Int)+ -(i:Int)) ((ys.length:Int)+ -(i:Int)) by rw [←e2],qyc]
abbrev zV:qpe:=(0,(0,(([]:List UInt8),())))
def qox (row:qaa) (i:Int):qpe:=if h:0≤i∧i<(row.length:Int) then row[i.toNat]'(by omega) else zV
def qad (pk:List Int) (row:qaa):qaa:=pk.map (qox row)
theorem qeA (pk:List Int) (row:qaa):(qad pk row).length=pk.length:=by simp [qad]
def qci (f:qaa→Int):List qaa→Nat×Bool
 |[]=>(0,false)
 |r::rs=>if 0≤f r then (0,decide (f r=0)) else ((qci f rs).1+1,(qci f rs).2)
theorem qh3 (f:qaa→Int):(rows:List qaa)→(qci f rows).1≤rows.length∧((qci f rows).1=rows.length→(qci f rows).2=false)∧(∀r,rows[(qci f rows).1]? =some r→0≤f r∧(qci f rows).2=decide (f r=0))
 |[]=>⟨Nat.le_refl _,fun _=>rfl,fun r h=>by simp at h⟩
 |r::rs=>by
  have ih:=qh3 f rs
  unfold qci
  split
  ·rename_i h
   refine ⟨Nat.zero_le _,fun h=>by simp at h,fun q hq=> ?_⟩
   simp at hq
   subst hq
   exact ⟨h,rfl⟩
  ·refine ⟨by simpa using ih.1,fun h=>ih.2.1 (by simpa using h),fun q hq=>ih.2.2 q (by simpa using hq)⟩
theorem qqb:(a b c:List UInt8)→Lib.compareBytes a b<0→Lib.compareBytes b c<0→Lib.compareBytes a c<0
 |[],[],_,h,_=>by simp [Lib.compareBytes] at h
 |[],_::_,[],_,h=>by simp [Lib.compareBytes] at h
 |[],_::_,_::_,_,_=>by simp [Lib.compareBytes]
 |_::_,[],_,h,_=>by simp [Lib.compareBytes] at h
 |_::_,_::_,[],_,h=>by simp [Lib.compareBytes] at h
 |x::a,y::b,z::c,h1,h2=>by
  simp only [Lib.compareBytes,UInt8.lt_iff_toNat_lt] at h1 h2⊢
  have ih:=qqb a b c
  by_cases e1:x.toNat<y.toNat
  ·by_cases e2:y.toNat<z.toNat
   ·rw [if_pos (by omega)]; omega
   ·by_cases e3:z.toNat<y.toNat
    ·rw [if_neg e2,if_pos e3] at h2; omega
    ·rw [if_pos (by omega)]; omega
  ·by_cases e4:y.toNat<x.toNat
   ·rw [if_neg e1,if_pos e4] at h1; omega
   ·rw [if_neg e1,if_neg e4] at h1
    by_cases e2:y.toNat<z.toNat
    ·rw [if_pos (by omega)]; omega
    ·by_cases e3:z.toNat<y.toNat
     ·rw [if_neg e2,if_pos e3] at h2; omega
     ·rw [if_neg e2,if_neg e3] at h2
      rw [if_neg (by omega),if_neg (by omega)]
      exact ih h1 h2
theorem qxL {a b c:qpe} (h1:vc a b<0) (h2:vc b c<0):vc a c<0:=by
 unfold vc at *
 have a1:=qbv a.1 b.1
 have a2:=qbv b.1 c.1
 have a3:=qbv a.1 c.1
 have b1:=qbv a.2.1 b.2.1
 have b2:=qbv b.2.1 c.2.1
 have b3:=qbv a.2.1 c.2.1
 have tr:=qqb a.2.2.1 b.2.2.1 c.2.2.1
 generalize Lib.compareBytes a.2.2.1 b.2.2.1=s1 at *
 generalize Lib.compareBytes b.2.2.1 c.2.2.1=s2 at *
 generalize Lib.compareBytes a.2.2.1 c.2.2.1=s3 at *
 generalize ic a.1 b.1=i1 at *
 generalize ic b.1 c.1=i2 at *
 generalize ic a.1 c.1=i3 at *
 generalize ic a.2.1 b.2.1=j1 at *
 generalize ic b.2.1 c.2.1=j2 at *
 generalize ic a.2.1 c.2.1=j3 at *
 have k1:i1= -1∨(i1=0∧(j1= -1∨(j1=0∧s1<0))):=by
  split at h1
  ·omega
  ·split at h1 <;> omega
 have k2:i2= -1∨(i2=0∧(j2= -1∨(j2=0∧s2<0))):=by
  split at h2
  ·omega
  ·split at h2 <;> omega
 have k3:i3= -1∨(i3=0∧(j3= -1∨(j3=0∧s3<0))):=by
  rcases k1 with k1|⟨k1,k1'|⟨k1',k1''⟩⟩ <;> rcases k2 with k2|⟨k2,k2'|⟨k2',k2''⟩⟩ <;> first|omega|exact .inr ⟨by omega,.inr ⟨by omega,tr k1'' k2''⟩⟩
 split
 ·omega
 ·split <;> omega
theorem qwb (x y:Int):ic y x= - ic x y:=by
 have h1:=qbv x y
 have h2:=qbv y x
 omega
theorem qnl:(a b:qaa)→qH b a= - qH a b
 |[],[]=>by simp [qH,ic]
 |[],y::ys=>by simp only [qH,List.length_cons]; rw [qwb]; simp
 |x::xs,[]=>by simp only [qH,List.length_cons]; rw [qwb]; simp
 |x::xs,y::ys=>by
  simp only [qH,qvg x y,qnl xs ys]
  by_cases h:vc x y=0
  ·simp [h]
  ·have:¬(-vc x y=0):=by omega
   simp [h,this]
theorem qdg:(a b:qaa)→(qH a b=0↔a=b)
 |[],[]=>by simp [qH,ic]
 |[],y::ys=>by
  have:=qbv 0 (((y::ys).length:Nat):Int)
  simp only [qH,List.length_cons] at this⊢
  constructor
  ·intro h; omega
  ·intro h; cases h
 |x::xs,[]=>by
  have:=qbv ((xs.length:Int)+1) 0
  simp only [qH]
  constructor
  ·intro h; omega
  ·intro h; cases h
 |x::xs,y::ys=>by
  simp only [qH,List.cons.injEq,←qr0 x y,←qdg xs ys]
  by_cases h:vc x y=0
  ·simp [h]
  ·simp [h]
theorem qbP:(a b c:qaa)→qH a b<0→qH b c<0→qH a c<0
 |[],[],_,h,_=>by simp [qH,ic] at h
 |[],y::ys,[],_,h=>by
  have:=qbv ((ys.length:Int)+1) 0
  simp only [qH] at h
  omega
 |[],_::_,z::zs,_,_=>by
  have:=qbv 0 (((z::zs).length:Nat):Int)
  simp only [qH,List.length_cons] at this⊢
  omega
 |x::xs,[],_,h,_=>by
  have:=qbv ((xs.length:Int)+1) 0
  simp only [qH] at h
  omega
 |_::_,y::ys,[],_,h=>by
  have:=qbv ((ys.length:Int)+1) 0
  simp only [qH] at h
  omega
 |x::xs,y::ys,z::zs,h1,h2=>by
  simp only [qH] at h1 h2⊢
  have ih:=qbP xs ys zs
  by_cases e1:vc x y=0
  ·have e1':=(qr0 x y).1 e1
   subst e1'
   simp only [e1,ne_eq,not_true_eq_false,if_false] at h1
   by_cases e2:vc x z=0
   ·simp only [e2,ne_eq,not_true_eq_false,if_false] at h2⊢
    exact ih h1 h2
   ·simp only [e2,ne_eq,not_false_eq_true,if_true] at h2⊢
    exact h2
  ·simp only [e1,ne_eq,not_false_eq_true,if_true] at h1
   by_cases e2:vc y z=0
   ·have e2':=(qr0 y z).1 e2
    subst e2'
    simp only [e1,ne_eq,not_false_eq_true,if_true]
    exact h1
   ·simp only [e2,ne_eq,not_false_eq_true,if_true] at h2
    have:=qxL h1 h2
    have e3:¬vc x z=0:=by omega
    simp only [e3,ne_eq,not_false_eq_true,if_true]
    exact this
theorem quZ {α:Type} (R:α→α→Prop) (tr:∀a b c,R a b→R b c→R a c) (l:List α) (h:∀i (hi:i+1<l.length),R (l[i]'(by omega)) l[i+1]):∀(k i:Nat) (hk:i+1+k<l.length),R (l[i]'(by omega)) (l[i+1+k]'hk)
 |0,i,hk=>h i hk
 |k+1,i,hk=>tr _ _ _ (quZ R tr l h k i (by omega)) (h (i+1+k) (by omega))
theorem qoC {α:Type} (R:α→α→Prop) (tr:∀a b c,R a b→R b c→R a c) (l:List α) (h:∀i (hi:i+1<l.length),R (l[i]'(by omega)) l[i+1]):l.Pairwise R:=
 List.pairwise_iff_getElem.2 fun i j hi hj hij=>by
  have:=quZ R tr l h (j - (i+1)) i (by omega)
  have e:i+1+(j - (i+1))=j:=by omega
  simpa only [e] using this
theorem qpR (f:qaa→Int):(rows:List qaa)→rows.Pairwise (fun a b=>0≤f a→0<f b)→(qci f rows).2=rows.any (fun r=>decide (f r=0))
 |[],_=>rfl
 |r::rs,h=>by
  obtain ⟨h1,h2⟩:=List.pairwise_cons.1 h
  unfold qci
  by_cases h0:0≤f r
  ·rw [if_pos h0,List.any_cons]
   have:rs.any (fun r=>decide (f r=0))=false:=by
    rw [List.any_eq_false]
    intro x hx he
    have:=h1 x hx h0
    rw [decide_eq_true_eq] at he
    omega
   rw [this]
   simp
  ·rw [if_neg h0,List.any_cons,qpR f rs h2]
   have:decide (f r=0)=false:=decide_eq_false (by omega)
   rw [this]
   simp
end
end Go.Vi
set_option linter.unusedSimpArgs false
set_option maxRecDepth 100000
namespace Go.Vi
noncomputable section
abbrev qxI:Type:=Int×(List UInt8×(qaa×(qaa×Unit)))
def quy (n:List UInt8) (k:qaa):qxI:=(2,(n,(k,(([]:qaa),()))))
def qqA (n:List UInt8) (r:qaa):qxI:=(1,(n,(([]:qaa),(r,()))))
def qeG (n:List UInt8) (pk:List Int):List qaa→List qaa→List qxI
 |[],[]=>[]
 |a::as,[]=>quy n (qad pk a)::qeG n pk as []
 |[],b::bs=>qqA n b::qeG n pk [] bs
 |a::as,b::bs=>if qH (qad pk a) (qad pk b)<0 then quy n (qad pk a)::qeG n pk as (b::bs)
  else if 0<qH (qad pk a) (qad pk b) then qqA n b::qeG n pk (a::as) bs
  else (if a=b then [] else [qqA n b])++qeG n pk as bs
termination_by a b=>a.length+b.length
theorem qlp (n:List UInt8) (pk:List Int):qeG n pk [] []=[]:=by rw [qeG]
theorem qjL (n:List UInt8) (pk:List Int) (a:qaa) (as:List qaa):qeG n pk (a::as) []=quy n (qad pk a)::qeG n pk as []:=by rw [qeG]
theorem qir (n:List UInt8) (pk:List Int) (b:qaa) (bs:List qaa):qeG n pk [] (b::bs)=qqA n b::qeG n pk [] bs:=by rw [qeG]
theorem qjU (n:List UInt8) (pk:List Int) (a b:qaa) (as bs:List qaa):qeG n pk (a::as) (b::bs)=if qH (qad pk a) (qad pk b)<0 then quy n (qad pk a)::qeG n pk as (b::bs)
  else if 0<qH (qad pk a) (qad pk b) then qqA n b::qeG n pk (a::as) bs
  else (if a=b then [] else [qqA n b])++qeG n pk as bs:=by rw [qeG]
theorem qfM (n:List UInt8) (pk:List Int):(m:Nat)→(a b:List qaa)→a.length+b.length≤m→(qeG n pk a b).length≤a.length+b.length
 |m,[],[],_=>by rw [qlp]; simp
 |0,a::as,_,h=>by simp at h
 |0,[],b::bs,h=>by simp at h
 |m+1,a::as,[],h=>by
  have:=qfM n pk m as [] (by simp at h⊢; omega)
  rw [qjL]; simp at this⊢; omega
 |m+1,[],b::bs,h=>by
  have:=qfM n pk m [] bs (by simp at h⊢; omega)
  rw [qir]; simp at this⊢; omega
 |m+1,a::as,b::bs,h=>by
  have h1:=qfM n pk m as (b::bs) (by simp at h⊢; omega)
  have h2:=qfM n pk m (a::as) bs (by simp at h⊢; omega)
  have h3:=qfM n pk m as bs (by simp at h⊢; omega)
  rw [qjU]
  split
  ·simp at h1⊢; omega
  ·split
   ·simp at h2⊢; omega
   ·split
    ·simp at h3⊢; omega
    ·simp at h3⊢; omega
def qgU (pk:List Int) (rows:List qaa) (k:qaa):Option qaa:=rows.find? (fun r=>decide (qad pk r=k))
def ql2 (n:List UInt8) (pk:List Int) (a b:List qaa) (k:qaa):List qxI:=match qgU pk b k with
 |none=>[quy n k]
 |some rb=>match qgU pk a k with
  |none=>[qqA n rb]
  |some ra=>if ra=rb then [] else [qqA n rb]
abbrev qdI (pk:List Int) (rows:List qaa):Prop:=rows.Pairwise (fun a b=>qH (qad pk a) (qad pk b)<0)
abbrev qnC (rows:List qaa):Prop:=rows.Pairwise (fun a b=>qH a b<0)
theorem qbT (a:qaa):¬qH a a<0:=by rw [(qdg a a).2 rfl]; omega
theorem qyN {a b:qaa} :0<qH a b↔qH b a<0:=by rw [qnl a b]; omega
theorem qv2 {a b:qaa} (h1:¬qH a b<0) (h2:¬qH b a<0):a=b:=by
 rw [qnl a b] at h2
 exact (qdg a b).1 (by omega)
theorem qdA (pk:List Int) (r:qaa) (rows:List qaa) (k:qaa):qgU pk (r::rows) k=if qad pk r=k then some r else qgU pk rows k:=by
 unfold qgU
 rw [List.find?_cons]
 by_cases h:qad pk r=k
 ·simp [h]
 ·simp [h]
theorem qla (pk:List Int) (k:qaa):qgU pk [] k=none:=rfl
theorem qmh {pk:List Int} {rows:List qaa} {k:qaa} (h:∀r∈rows,qad pk r≠k):qgU pk rows k=none:=by
 unfold qgU
 rw [List.find?_eq_none]
 intro r hr
 simpa using h r hr
theorem qgE {K:List qaa} (h:qnC K) {m:qaa} (hm:m∈K) (hl:∀x∈K,¬qH x m<0):∃K',K=m::K'∧qnC K'∧∀x,x∈K'↔x∈K∧x≠m:=by
 cases K with
 |nil=>cases hm
 |cons k K'=>
  have hc:=List.pairwise_cons.1 h
  have hk:k=m:=by
   rcases List.mem_cons.1 hm with rfl|hm'
   ·rfl
   ·exact absurd (hc.1 m hm') (hl k List.mem_cons_self)
  subst hk
  refine ⟨K',rfl,hc.2,fun x=>⟨fun hx=>⟨List.mem_cons_of_mem _ hx,fun e=> ?_⟩,fun hx=>(List.mem_cons.1 hx.1).resolve_left hx.2⟩⟩
  subst e
  exact qbT _ (hc.1 x hx)
theorem qda {α β:Type} {f g:α→List β} : {l:List α} →(∀x∈l,f x=g x)→l.flatMap f=l.flatMap g
 |[],_=>rfl
 |x::l,h=>by
  rw [List.flatMap_cons,List.flatMap_cons,h x List.mem_cons_self,qda fun y hy=>h y (List.mem_cons_of_mem _ hy)]
theorem qgm (n:List UInt8) (pk:List Int):(m:Nat)→(a b K:List qaa)→a.length+b.length≤m→qdI pk a→qdI pk b→qnC K→
  (∀k,k∈K↔(∃r∈a,qad pk r=k)∨∃r∈b,qad pk r=k)→K.flatMap (ql2 n pk a b)=qeG n pk a b
 |m,[],[],K,_,_,_,_,hK=>by
  have:K=[]:=by
   apply List.eq_nil_iff_forall_not_mem.2
   intro k hk
   rcases (hK k).1 hk with ⟨_,h,_⟩|⟨_,h,_⟩ <;> cases h
  rw [this,qlp]; rfl
 |0,a::as,_,_,h,_,_,_,_=>by simp at h
 |0,[],b::bs,_,h,_,_,_,_=>by simp at h
 |m+1,a::as,[],K,hm,ha,hb,hs,hK=>by
  have hc:=List.pairwise_cons.1 ha
  have hmem:qad pk a∈K:=(hK _).2 (.inl ⟨a,List.mem_cons_self,rfl⟩)
  obtain ⟨K',rfl,hs',hK'⟩:=qgE hs hmem (fun x hx hlt=>by
   rcases (hK x).1 hx with ⟨r,hr,rfl⟩|⟨_,h,_⟩
   ·rcases List.mem_cons.1 hr with rfl|hr
    ·exact qbT _ hlt
    ·exact qbT _ (qbP _ _ _ (hc.1 r hr) hlt)
   ·cases h)
  have hne:∀r∈as,qad pk r≠qad pk a:=fun r hr e=>by
   have:=hc.1 r hr; rw [e] at this; exact qbT _ this
  have ih:=qgm n pk m as [] K' (by simp at hm⊢; omega) hc.2 hb hs' (fun k=>by
   rw [hK' k,hK k]
   constructor
   ·rintro ⟨⟨r,hr,rfl⟩|⟨_,h,_⟩,h2⟩
    ·rcases List.mem_cons.1 hr with rfl|hr
     ·exact absurd rfl h2
     ·exact .inl ⟨r,hr,rfl⟩
    ·cases h
   ·rintro (⟨r,hr,rfl⟩|⟨_,h,_⟩)
    ·exact ⟨.inl ⟨r,List.mem_cons_of_mem _ hr,rfl⟩,hne r hr⟩
    ·cases h)
  rw [qjL,List.flatMap_cons,←ih]
  have e1:ql2 n pk (a::as) [] (qad pk a)=[quy n (qad pk a)]:=by simp only [ql2,qla]
  rw [e1,qda (g:=ql2 n pk as []) (fun x hx=>by simp only [ql2,qla])]
  rfl
 |m+1,[],b::bs,K,hm,ha,hb,hs,hK=>by
  have hc:=List.pairwise_cons.1 hb
  have hmem:qad pk b∈K:=(hK _).2 (.inr ⟨b,List.mem_cons_self,rfl⟩)
  obtain ⟨K',rfl,hs',hK'⟩:=qgE hs hmem (fun x hx hlt=>by
   rcases (hK x).1 hx with ⟨_,h,_⟩|⟨r,hr,rfl⟩
   ·cases h
   ·rcases List.mem_cons.1 hr with rfl|hr
    ·exact qbT _ hlt
    ·exact qbT _ (qbP _ _ _ (hc.1 r hr) hlt))
  have hne:∀r∈bs,qad pk r≠qad pk b:=fun r hr e=>by
   have:=hc.1 r hr; rw [e] at this; exact qbT _ this
  have ih:=qgm n pk m [] bs K' (by simp at hm⊢; omega) ha hc.2 hs' (fun k=>by
   rw [hK' k,hK k]
   constructor
   ·rintro ⟨⟨_,h,_⟩|⟨r,hr,rfl⟩,h2⟩
    ·cases h
    ·rcases List.mem_cons.1 hr with rfl|hr
     ·exact absurd rfl h2
     ·exact .inr ⟨r,hr,rfl⟩
   ·rintro (⟨_,h,_⟩|⟨r,hr,rfl⟩)
    ·cases h
    ·exact ⟨.inr ⟨r,List.mem_cons_of_mem _ hr,rfl⟩,hne r hr⟩)
  rw [qir,List.flatMap_cons,←ih]
  have e1:ql2 n pk [] (b::bs) (qad pk b)=[qqA n b]:=by simp only [ql2,qla,qdA,if_true]
  rw [e1,qda (g:=ql2 n pk [] bs) (fun x hx=>by
   have hx2:=(hK' x).1 hx
   simp only [ql2,qla,qdA,if_neg (fun e=>hx2.2 e.symm:¬qad pk b=x)])]
  rfl
 |m+1,a::as,b::bs,K,hm,ha,hb,hs,hK=>by
  have hca:=List.pairwise_cons.1 ha
  have hcb:=List.pairwise_cons.1 hb
  have hnea:∀r∈as,qad pk r≠qad pk a:=fun r hr e=>by
   have:=hca.1 r hr; rw [e] at this; exact qbT _ this
  have hneb:∀r∈bs,qad pk r≠qad pk b:=fun r hr e=>by
   have:=hcb.1 r hr; rw [e] at this; exact qbT _ this
  have hma:qad pk a∈K:=(hK _).2 (.inl ⟨a,List.mem_cons_self,rfl⟩)
  have hmb:qad pk b∈K:=(hK _).2 (.inr ⟨b,List.mem_cons_self,rfl⟩)
  rw [qjU]
  by_cases h1:qH (qad pk a) (qad pk b)<0
  ·rw [if_pos h1]
   have hb1:∀r∈b::bs,qH (qad pk a) (qad pk r)<0:=fun r hr=>by
    rcases List.mem_cons.1 hr with rfl|hr
    ·exact h1
    ·exact qbP _ _ _ h1 (hcb.1 r hr)
   have hb2:∀r∈b::bs,qad pk r≠qad pk a:=fun r hr e=>by
    have:=hb1 r hr; rw [e] at this; exact qbT _ this
   obtain ⟨K',rfl,hs',hK'⟩:=qgE hs hma (fun x hx hlt=>by
    rcases (hK x).1 hx with ⟨r,hr,rfl⟩|⟨r,hr,rfl⟩
    ·rcases List.mem_cons.1 hr with rfl|hr
     ·exact qbT _ hlt
     ·exact qbT _ (qbP _ _ _ (hca.1 r hr) hlt)
    ·exact qbT _ (qbP _ _ _ (hb1 r hr) hlt))
   have ih:=qgm n pk m as (b::bs) K' (by simp at hm⊢; omega) hca.2 hb hs' (fun k=>by
    rw [hK' k,hK k]
    constructor
    ·rintro ⟨⟨r,hr,rfl⟩|h,h2⟩
     ·rcases List.mem_cons.1 hr with rfl|hr
      ·exact absurd rfl h2
      ·exact .inl ⟨r,hr,rfl⟩
     ·exact .inr h
    ·rintro (⟨r,hr,rfl⟩|⟨r,hr,rfl⟩)
     ·exact ⟨.inl ⟨r,List.mem_cons_of_mem _ hr,rfl⟩,hnea r hr⟩
     ·exact ⟨.inr ⟨r,hr,rfl⟩,hb2 r hr⟩)
   rw [List.flatMap_cons,←ih]
   have e1:ql2 n pk (a::as) (b::bs) (qad pk a)=[quy n (qad pk a)]:=by simp only [ql2,qmh hb2]
   rw [e1,qda (g:=ql2 n pk as (b::bs)) (fun x hx=>by
    have hx2:=(hK' x).1 hx
    have e2:qgU pk (a::as) x=qgU pk as x:=by rw [qdA,if_neg (fun e=>hx2.2 e.symm)]
    simp only [ql2,e2])]
   rfl
  rw [if_neg h1]
  by_cases h2:0<qH (qad pk a) (qad pk b)
  ·rw [if_pos h2]
   have h2':=qyN.1 h2
   have ha1:∀r∈a::as,qH (qad pk b) (qad pk r)<0:=fun r hr=>by
    rcases List.mem_cons.1 hr with rfl|hr
    ·exact h2'
    ·exact qbP _ _ _ h2' (hca.1 r hr)
   have ha2:∀r∈a::as,qad pk r≠qad pk b:=fun r hr e=>by
    have:=ha1 r hr; rw [e] at this; exact qbT _ this
   obtain ⟨K',rfl,hs',hK'⟩:=qgE hs hmb (fun x hx hlt=>by
    rcases (hK x).1 hx with ⟨r,hr,rfl⟩|⟨r,hr,rfl⟩
    ·exact qbT _ (qbP _ _ _ (ha1 r hr) hlt)
    ·rcases List.mem_cons.1 hr with rfl|hr
     ·exact qbT _ hlt
     ·exact qbT _ (qbP _ _ _ (hcb.1 r hr) hlt))
   have ih:=qgm n pk m (a::as) bs K' (by simp at hm⊢; omega) ha hcb.2 hs' (fun k=>by
    rw [hK' k,hK k]
    constructor
    ·rintro ⟨h|⟨r,hr,rfl⟩,h3⟩
     ·exact .inl h
     ·rcases List.mem_cons.1 hr with rfl|hr
      ·exact absurd rfl h3
      ·exact .inr ⟨r,hr,rfl⟩
    ·rintro (⟨r,hr,rfl⟩|⟨r,hr,rfl⟩)
     ·exact ⟨.inl ⟨r,hr,rfl⟩,ha2 r hr⟩
     ·exact ⟨.inr ⟨r,List.mem_cons_of_mem _ hr,rfl⟩,hneb r hr⟩)
   rw [List.flatMap_cons,←ih]
   have e1:ql2 n pk (a::as) (b::bs) (qad pk b)=[qqA n b]:=by simp only [ql2,qdA pk b,if_true,qmh ha2]
   rw [e1,qda (g:=ql2 n pk (a::as) bs) (fun x hx=>by
    have hx2:=(hK' x).1 hx
    have e2:qgU pk (b::bs) x=qgU pk bs x:=by rw [qdA,if_neg (fun e=>hx2.2 e.symm)]
    simp only [ql2,e2])]
   rfl
  ·rw [if_neg h2]
   have he:qad pk a=qad pk b:=(qdg _ _).1 (by omega)
   obtain ⟨K',rfl,hs',hK'⟩:=qgE hs hma (fun x hx hlt=>by
    rcases (hK x).1 hx with ⟨r,hr,rfl⟩|⟨r,hr,rfl⟩
    ·rcases List.mem_cons.1 hr with rfl|hr
     ·exact qbT _ hlt
     ·exact qbT _ (qbP _ _ _ (hca.1 r hr) hlt)
    ·rcases List.mem_cons.1 hr with rfl|hr
     ·rw [he] at hlt; exact qbT _ hlt
     ·rw [he] at hlt; exact qbT _ (qbP _ _ _ (hcb.1 r hr) hlt))
   have ih:=qgm n pk m as bs K' (by simp at hm⊢; omega) hca.2 hcb.2 hs' (fun k=>by
    rw [hK' k,hK k]
    constructor
    ·rintro ⟨⟨r,hr,rfl⟩|⟨r,hr,rfl⟩,h3⟩
     ·rcases List.mem_cons.1 hr with rfl|hr
      ·exact absurd rfl h3
      ·exact .inl ⟨r,hr,rfl⟩
     ·rcases List.mem_cons.1 hr with rfl|hr
      ·exact absurd he.symm h3
      ·exact .inr ⟨r,hr,rfl⟩
    ·rintro (⟨r,hr,rfl⟩|⟨r,hr,rfl⟩)
     ·exact ⟨.inl ⟨r,List.mem_cons_of_mem _ hr,rfl⟩,hnea r hr⟩
     ·exact ⟨.inr ⟨r,List.mem_cons_of_mem _ hr,rfl⟩,by rw [he]; exact hneb r hr⟩)
   rw [List.flatMap_cons,←ih]
   have e1:ql2 n pk (a::as) (b::bs) (qad pk a)=if a=b then [] else [qqA n b]:=by
    simp only [ql2,qdA pk b,qdA pk a,he,if_true]
   rw [e1,qda (g:=ql2 n pk as bs) (fun x hx=>by
    have hx2:=(hK' x).1 hx
    have e2:qgU pk (b::bs) x=qgU pk bs x:=by rw [qdA,if_neg (fun e=>hx2.2 (by rw [he,e]))]
    have e3:qgU pk (a::as) x=qgU pk as x:=by rw [qdA,if_neg (fun e=>hx2.2 e.symm)]
    simp only [ql2,e2,e3])]
termination_by m=>m
theorem qyP {pk:List Int} {rows:List qaa} (h:qdI pk rows) {i:Nat} (hi:i<rows.length):qgU pk rows (qad pk rows[i])=some rows[i]:=by
 have hm:=List.getElem_mem hi
 cases hf:qgU pk rows (qad pk rows[i]) with
 |none=>
  unfold qgU at hf
  have:=List.find?_eq_none.1 hf _ hm
  simp at this
 |some r=>
  unfold qgU at hf
  have h1:=List.find?_some hf
  have h2:=List.mem_of_find?_eq_some hf
  obtain ⟨j,hj,rfl⟩:=List.getElem_of_mem h2
  have h1:qad pk rows[j]=qad pk rows[i]:=by simpa using h1
  rcases Nat.lt_trichotomy i j with q|q|q
  ·have:=List.pairwise_iff_getElem.1 h i j hi hj q
   rw [h1] at this; exact absurd this (qbT _)
  ·subst q; rfl
  ·have:=List.pairwise_iff_getElem.1 h j i hj hi q
   rw [h1] at this; exact absurd this (qbT _)
theorem qrO {pk:List Int} {rows:List qaa} (h:qdI pk rows) (k:qaa):
  ((qci (fun r=>qH (qad pk r) k) rows).2=false∧qgU pk rows k=none)∨∃hi:(qci (fun r=>qH (qad pk r) k) rows).1<rows.length,(qci (fun r=>qH (qad pk r) k) rows).2=true∧qgU pk rows k=some (rows[(qci (fun r=>qH (qad pk r) k) rows).1]'hi):=by
 have hany:(qci (fun r=>qH (qad pk r) k) rows).2=rows.any (fun r=>decide (qH (qad pk r) k=0)):=qpR _ rows (h.imp fun {a b} hab h0=>by
  have hne:¬qH (qad pk b) k<0:=fun q=>absurd (qbP _ _ _ hab q) (by omega)
  have hz:qH (qad pk b) k≠0:=fun q=>by
   have e:=(qdg _ _).1 q
   rw [e] at hab; omega
  omega)
 obtain ⟨s1,s2,s3⟩:=qh3 (fun r=>qH (qad pk r) k) rows
 generalize qci (fun r=>qH (qad pk r) k) rows=q at *
 obtain ⟨i,b⟩:=q
 simp only at *
 cases b with
 |false=>
  left
  refine ⟨rfl,qmh fun r hr e=> ?_⟩
  have:=List.any_eq_false.1 hany.symm r hr
  simp only [decide_eq_true_eq] at this
  exact this ((qdg _ _).2 e)
 |true=>
  right
  have hi:i<rows.length:=Nat.lt_of_le_of_ne s1 fun e=>by cases s2 e
  refine ⟨hi,rfl,?_⟩
  obtain ⟨_,s5⟩:=s3 rows[i] (List.getElem?_eq_getElem hi)
  have hz:qH (qad pk rows[i]) k=0:=by simpa using s5.symm
  have:=qyP h hi
  rw [(qdg _ _).1 hz] at this
  exact this
def ddK (pk:List Int) (rows:List qaa):Nat→List qaa
 |0=>[]
 |n+1=>match rows[n]? with
  |none=>ddK pk rows n
  |some r=>if qad pk r∈ddK pk rows n then ddK pk rows n else ddK pk rows n++[qad pk r]
theorem qsB (pk:List Int) (rows:List qaa):(n:Nat)→(ddK pk rows n).length≤n
 |0=>by simp [ddK]
 |n+1=>by
  have:=qsB pk rows n
  simp only [ddK]
  split
  ·omega
  ·split
   ·omega
   ·simp; omega
theorem qsb (pk:List Int) (rows:List qaa) (k:qaa):(n:Nat)→(k∈ddK pk rows n↔∃i r,i<n∧rows[i]? =some r∧qad pk r=k)
 |0=>by simp [ddK]
 |n+1=>by
  have ih:=qsb pk rows k n
  simp only [ddK]
  cases hr:rows[n]? with
  |none=>
   simp only
   rw [ih]
   constructor
   ·rintro ⟨i,r,h1,h2⟩; exact ⟨i,r,by omega,h2⟩
   ·rintro ⟨i,r,h1,h2,h3⟩
    rcases Nat.lt_succ_iff_lt_or_eq.1 h1 with h1|rfl
    ·exact ⟨i,r,h1,h2,h3⟩
    ·rw [hr] at h2; cases h2
  |some r=>
   simp only
   have key:(∃i r',i<n+1∧rows[i]? =some r'∧qad pk r'=k)↔k∈ddK pk rows n∨qad pk r=k:=by
    rw [ih]
    constructor
    ·rintro ⟨i,r',h1,h2,h3⟩
     rcases Nat.lt_succ_iff_lt_or_eq.1 h1 with h1|rfl
     ·exact .inl ⟨i,r',h1,h2,h3⟩
     ·rw [hr] at h2; injection h2 with h2; subst h2; exact .inr h3
    ·rintro (⟨i,r',h1,h2⟩|h)
     ·exact ⟨i,r',by omega,h2⟩
     ·exact ⟨n,r,by omega,hr,h⟩
   rw [key]
   split
   ·rename_i hin
    constructor
    ·exact .inl
    ·rintro (h|rfl)
     ·exact h
     ·exact hin
   ·rw [List.mem_append,List.mem_singleton]
    exact or_congr_right eq_comm
theorem qqI (pk:List Int) (rows:List qaa):(n:Nat)→(ddK pk rows n).Nodup
 |0=>by simp [ddK]
 |n+1=>by
  have ih:=qqI pk rows n
  simp only [ddK]
  split
  ·exact ih
  ·split
   ·exact ih
   ·rename_i r _ hin
    rw [List.nodup_append]
    exact ⟨ih,by simp,fun a ha b hb e=>by
     rw [List.mem_singleton] at hb
     subst hb; subst e
     exact hin ha⟩
end
end Go.Vi
set_option linter.unusedSimpArgs false
set_option maxRecDepth 100000
namespace Go.Vi
noncomputable section
def qxY (rows:List qaa) (q:Nat×Bool) (row:qaa):List qaa:=bif q.2 then qbZ rows (q.1:Int) row else rows.take q.1++[row]++rows.drop q.1
def qx0 (rows:List qaa) (q:Nat×Bool):List qaa:=bif q.2 then rows.take q.1++rows.drop (q.1+1) else rows
def qqz (pk:List Int) (r:qaa):List qaa→List qaa
 |[]=>[r]
 |x::xs=>if qH (qad pk x) (qad pk r)<0 then x::qqz pk r xs else if qH (qad pk x) (qad pk r)=0 then r::xs else r::x::xs
abbrev qjQ (pk:List Int) (k:qaa) (rows:List qaa):List qaa:=rows.filter (fun r=> !decide (qad pk r=k))
theorem qpp (f:qaa→Int) (x:qaa) (xs:List qaa):qci f (x::xs)=if 0≤f x then (0,decide (f x=0)) else ((qci f xs).1+1,(qci f xs).2):=rfl
theorem qvJ {α:Type} (x:α) (xs:List α) (i:Nat) (v:α):qbZ (x::xs) ((i+1:Nat):Int) v=x::qbZ xs (i:Int) v:=by
 rw [qbj,qbj]; simp
theorem qvB (pk:List Int) (r:qaa):(rows:List qaa)→qxY rows (qci (fun x=>qH (qad pk x) (qad pk r)) rows) r=qqz pk r rows
 |[]=>by simp [qxY,qqz,qci]
 |x::xs=>by
  have ih:=qvB pk r xs
  rw [qpp]
  simp only [qqz]
  by_cases h:qH (qad pk x) (qad pk r)<0
  ·rw [if_neg (by omega),if_pos h,←ih]
   generalize qci (fun x=>qH (qad pk x) (qad pk r)) xs=q
   obtain ⟨i,b⟩:=q
   cases b with
   |true=>simp only [qxY,cond_true]; exact qvJ _ _ _ _
   |false=>simp [qxY]
  ·rw [if_pos (by omega),if_neg h]
   by_cases h0:qH (qad pk x) (qad pk r)=0
   ·rw [if_pos h0,decide_eq_true h0]
    simp only [qxY,cond_true,qbj]; rfl
   ·rw [if_neg h0,decide_eq_false h0]
    simp [qxY]
theorem qlz {pk:List Int} {k:qaa} {rows:List qaa} (h:∀r∈rows,qad pk r≠k):qjQ pk k rows=rows:=
 List.filter_eq_self.2 fun r hr=>by simpa using h r hr
theorem quM (pk:List Int) (k:qaa):(rows:List qaa)→qdI pk rows→qx0 rows (qci (fun x=>qH (qad pk x) k) rows)=qjQ pk k rows
 |[],_=>by simp [qx0,qci]
 |x::xs,hs=>by
  have hc:=List.pairwise_cons.1 hs
  have ih:=quM pk k xs hc.2
  rw [qpp]
  by_cases h:qH (qad pk x) k<0
  ·have hne:qad pk x≠k:=fun e=>by rw [e] at h; exact qbT _ h
   rw [if_neg (by omega)]
   have e1:qjQ pk k (x::xs)=x::qjQ pk k xs:=by simp [qjQ,List.filter_cons,hne]
   rw [e1,←ih]
   generalize qci (fun x=>qH (qad pk x) k) xs=q
   obtain ⟨i,b⟩:=q
   cases b with
   |true=>simp [qx0]
   |false=>simp [qx0]
  ·rw [if_pos (by omega)]
   by_cases h0:qH (qad pk x) k=0
   ·have e:=(qdg _ _).1 h0
    have e2:qjQ pk k xs=xs:=qlz fun r hr e3=>by
     have:=hc.1 r hr
     rw [e,e3] at this
     exact qbT _ this
    have e1:qjQ pk k (x::xs)=qjQ pk k xs:=by simp [qjQ,List.filter_cons,e]
    rw [e1,e2,decide_eq_true h0]
    simp [qx0]
   ·rw [decide_eq_false h0]
    have e2:qjQ pk k (x::xs)=x::xs:=qlz fun r hr e3=>by
     rcases List.mem_cons.1 hr with rfl|hr
     ·exact h0 ((qdg _ _).2 e3)
     ·have h1:=hc.1 r hr
      rw [e3] at h1
      exact h h1
    rw [e2]
    simp [qx0]
theorem qnf {pk:List Int} {r:qaa} : {rows:List qaa} →∀x∈qqz pk r rows,x=r∨x∈rows
 |[],x,h=>by simp [qqz] at h; exact .inl h
 |y::ys,x,h=>by
  simp only [qqz] at h
  split at h
  ·rcases List.mem_cons.1 h with rfl|h
   ·exact .inr List.mem_cons_self
   ·exact (qnf x h).imp id (List.mem_cons_of_mem _)
  ·split at h
   ·rcases List.mem_cons.1 h with rfl|h
    ·exact .inl rfl
    ·exact .inr (List.mem_cons_of_mem _ h)
   ·rcases List.mem_cons.1 h with rfl|h
    ·exact .inl rfl
    ·exact .inr h
theorem qoq {pk:List Int} {r:qaa} : {rows:List qaa} →qdI pk rows→qdI pk (qqz pk r rows)
 |[],_=>by simp [qqz,qdI]
 |y::ys,h=>by
  have hc:=List.pairwise_cons.1 h
  simp only [qqz]
  split
  ·rename_i h1
   refine List.pairwise_cons.2 ⟨fun x hx=> ?_,qoq hc.2⟩
   rcases qnf x hx with rfl|hx
   ·exact h1
   ·exact hc.1 x hx
  ·rename_i h1
   split
   ·rename_i h2
    have e:=(qdg _ _).1 h2
    exact List.pairwise_cons.2 ⟨fun x hx=>by rw [←e]; exact hc.1 x hx,hc.2⟩
   ·rename_i h2
    have h3:qH (qad pk r) (qad pk y)<0:=by
     rw [qnl (qad pk y) (qad pk r)]; omega
    refine List.pairwise_cons.2 ⟨fun x hx=> ?_,h⟩
    rcases List.mem_cons.1 hx with rfl|hx
    ·exact h3
    ·exact qbP _ _ _ h3 (hc.1 x hx)
theorem qqS {pk:List Int} {r:qaa} : {rows:List qaa} →qdI pk rows→(qqz pk r rows).Perm (qjQ pk (qad pk r) rows++[r])
 |[],_=>by simp [qqz,qjQ]
 |y::ys,h=>by
  have hc:=List.pairwise_cons.1 h
  simp only [qqz]
  split
  ·rename_i h1
   have hne:qad pk y≠qad pk r:=fun e=>by rw [e] at h1; exact qbT _ h1
   have e1:qjQ pk (qad pk r) (y::ys)=y::qjQ pk (qad pk r) ys:=by simp [qjQ,List.filter_cons,hne]
   rw [e1,List.cons_append]
   exact (qqS hc.2).cons y
  ·rename_i h1
   split
   ·rename_i h2
    have e:=(qdg _ _).1 h2
    have e2:qjQ pk (qad pk r) ys=ys:=qlz fun x hx e3=>by
     have:=hc.1 x hx
     rw [e,e3] at this
     exact qbT _ this
    have e1:qjQ pk (qad pk r) (y::ys)=qjQ pk (qad pk r) ys:=by simp [qjQ,List.filter_cons,e]
    rw [e1,e2]
    exact (List.perm_append_singleton r ys).symm
   ·rename_i h2
    have e2:qjQ pk (qad pk r) (y::ys)=y::ys:=qlz fun x hx e3=>by
     rcases List.mem_cons.1 hx with rfl|hx
     ·exact h2 ((qdg _ _).2 e3)
     ·have h3:=hc.1 x hx
      rw [e3] at h3
      exact h1 h3
    rw [e2]
    exact (List.perm_append_singleton r (y::ys)).symm
theorem qoN {pk:List Int} : {l P:List qaa} →l.Perm P→l.Pairwise (fun a b=>¬qH (qad pk b) (qad pk a)<0)→qdI pk P→l=P
 |l,[],hp,_,_=>hp.eq_nil
 |l,m::P,hp,h1,h2=>by
  cases l with
  |nil=>exact absurd hp.symm.eq_nil (by simp)
  |cons h l=>
   have hc1:=List.pairwise_cons.1 h1
   have hc2:=List.pairwise_cons.1 h2
   have hm:h=m:=by
    rcases List.mem_cons.1 (hp.mem_iff.1 (List.mem_cons_self:h∈h::l)) with e|he
    ·exact e
    ·rcases List.mem_cons.1 (hp.mem_iff.2 (List.mem_cons_self:m∈m::P)) with e|hm
     ·exact e.symm
     ·exact absurd (hc2.1 h he) (hc1.1 m hm)
   subst hm
   rw [qoN (List.Perm.cons_inv hp) hc1.2 hc2.2]
theorem qsM {pk:List Int} {k:qaa} {rows:List qaa} (h:qdI pk rows):qdI pk (qjQ pk k rows):=h.filter _
theorem qw4 {pk:List Int} {k:qaa} {rows:List qaa} :((qjQ pk k rows).length=rows.length↔rows.any (fun r=>decide (qad pk r=k))=false):=by
 rw [List.any_eq_false]
 constructor
 ·intro h r hr
  have h2:=List.length_filter_eq_length_iff.1 h r hr
  simpa using h2
 ·intro h
  exact List.length_filter_eq_length_iff.2 fun r hr=>by simpa using h r hr
end
end Go.Vi
set_option linter.unusedSimpArgs false
set_option linter.unusedVariables false
set_option maxRecDepth 100000
namespace Go.Vi
noncomputable section
section
variable {α:Type} {P:α→Prop} {n:Nat} (d:α) {φ:(α×(α×Unit))→Option (Int×Unit)} {le:α→α→Prop} {N:Nat}
theorem qlY (hn:n≤1099511627776) (hN:n+1<N) {xs:List α} (h:Ck P n xs) {a b m:Int} (ha:0≤a) (hab:a+m≤b) (hm:0≤m) (hb2:b+m≤(n:Int)):
  ∃out,qiI d N (xs,(a,(b,(m,(φ,())))))=some ((),(out,()))∧Seg d n a (b+m) xs out∧∀k,0≤k→k<(n:Int)→qi out k d=if a≤k∧k<a+m then qi xs (k+(b - a)) d else if b≤k∧k<b+m then qi xs (k - (b - a)) d else qi xs k d:=by
 simp only [qiI]
 refine qas (S:=List α×(Int×Unit)) (fun p=>(m - p.2.1).toNat) (fun p=>Seg d n a (b+m) xs p.1∧0≤p.2.1∧p.2.1≤m∧∀k,0≤k→k<(n:Int)→qi p.1 k d=if a≤k∧k<a+p.2.1 then qi xs (k+(b - a)) d else if b≤k∧k<b+p.2.1 then qi xs (k - (b - a)) d else qi xs k d)
  (fun r=>∃out,r=some ((),(out,()))∧Seg d n a (b+m) xs out∧∀k,0≤k→k<(n:Int)→qi out k d=if a≤k∧k<a+m then qi xs (k+(b - a)) d else if b≤k∧k<b+m then qi xs (k - (b - a)) d else qi xs k d) ?_ N _
  ⟨.refl d _ _ xs,by simp only; omega,by simp only; omega,fun k k0 k1=>by simp only; rw [if_neg (by omega),if_neg (by omega)]⟩ (by simp only; omega)
 rintro ih ⟨ys,i,⟨⟩⟩ ⟨hs,hi0,him,hg⟩ hih
 simp only at hs hi0 him hg hih⊢
 have hc:=hs.ck d h
 by_cases q:i<m
 ·have e1:qS .i64 a i=a+i:=qat (by omega) (by omega)
  have e2:qS .i64 b i=b+i:=qat (by omega) (by omega)
  have e3:qS .i64 i 1=i+1:=qat (by omega) (by omega)
  simp only [ltT q,cond_true,e1,e2,e3,hc.inB (i:=a+i) (by omega) (by omega),hc.inB (i:=b+i) (by omega) (by omega),qds,Bool.and_self]
  have g:=qeI d hc.len (i:=a+i) (j:=b+i) (by omega) (by omega) (by omega) (by omega)
  refine hih (swp d ys (a+i) (b+i),(i+1,())) ⟨hs.trans d (qdQ d hc.len ha (by omega) (by omega) (by omega) (by omega) (by omega)),by simp only; omega,by simp only; omega,fun k k0 k1=> ?_⟩ (by simp only; omega)
  simp only
  rw [g k k0]
  by_cases w1:k=b+i
  ·rw [if_pos w1,if_neg (by omega),if_pos (by omega),hg (a+i) (by omega) (by omega),if_neg (by omega),if_neg (by omega),w1,show b+i - (b - a)=a+i by omega]
  rw [if_neg w1]
  by_cases w2:k=a+i
  ·rw [if_pos w2,if_pos (by omega),hg (b+i) (by omega) (by omega),if_neg (by omega),if_neg (by omega),w2,show a+i+(b - a)=b+i by omega]
  rw [if_neg w2,hg k k0 k1]
  by_cases w3:a≤k∧k<a+i
  ·rw [if_pos w3,if_pos (by omega)]
  rw [if_neg w3]
  by_cases w4:b≤k∧k<b+i
  ·rw [if_pos w4,if_neg (by omega),if_pos (by omega)]
  rw [if_neg w4,if_neg (by omega),if_neg (by omega)]
 ·have:i=m:=by omega
  subst this
  simp only [ltF q,cond_false]
  exact ⟨ys,rfl,hs,hg⟩
def qwe (d:α) (xs:List α) (a m b k:Int):α:=if a≤k∧k<a+(b - m) then qi xs (k+(m - a)) d else if a+(b - m)≤k∧k<b then qi xs (k - (b - m)) d else qi xs k d
theorem qih (xs:List α) {a m b k:Int} (h1:a≤k) (h2:k<a+(b - m)):qwe d xs a m b k=qi xs (k+(m - a)) d:=by rw [qwe,if_pos ⟨h1,h2⟩]
theorem qiz (xs:List α) {a m b k:Int} (h1:a+(b - m)≤k) (h2:k<b):qwe d xs a m b k=qi xs (k - (b - m)) d:=by rw [qwe,if_neg (by omega),if_pos ⟨h1,h2⟩]
theorem qg7 (xs:List α) {a m b k:Int} (h1:m≤b) (h2:a≤m) (h3:k<a∨b≤k):qwe d xs a m b k=qi xs k d:=by rw [qwe,if_neg (by omega),if_neg (by omega)]
theorem qua (hn:n≤1099511627776) (hN:2 * n+1<N) {xs:List α} (h:Ck P n xs) {a m b:Int} (ha:0≤a) (h1:a<m) (h2:m<b) (hb:b≤(n:Int)):
  ∃out,qef d N (xs,(a,(m,(b,(φ,())))))=some ((),(out,()))∧Seg d n a b xs out∧∀k,0≤k→k<(n:Int)→qi out k d=qwe d xs a m b k:=by
 have e1:qT .i64 m a=m - a:=qam (by omega) (by omega)
 have e2:qT .i64 b m=b - m:=qam (by omega) (by omega)
 simp only [qef,qG,e1,e2]
 refine qas (S:=List α×(Int×(Int×Unit))) (fun p=>(p.2.1+p.2.2.1).toNat) (fun p=>Seg d n a b xs p.1∧0<p.2.1∧p.2.1≤m - a∧0<p.2.2.1∧p.2.2.1≤b - m∧∀k,0≤k→k<(n:Int)→qwe d p.1 (m - p.2.1) m (m+p.2.2.1) k=qwe d xs a m b k)
  (fun r=>∃out,r=some ((),(out,()))∧Seg d n a b xs out∧∀k,0≤k→k<(n:Int)→qi out k d=qwe d xs a m b k) ?_ N _
  ⟨.refl d _ _ xs,by simp only; omega,by simp only; omega,by simp only; omega,by simp only; omega,fun k k0 k1=>by simp only; rw [show m - (m - a)=a by omega,show m+(b - m)=b by omega]⟩ (by simp only; omega)
 rintro ih ⟨ys,i,j,⟨⟩⟩ ⟨hs,hi0,him,hj0,hjm,hg⟩ hih
 simp only at hs hi0 him hj0 hjm hg hih⊢
 have hc:=hs.ck d h
 have s1:qT .i64 m i=m - i:=qam (by omega) (by omega)
 by_cases q:i=j
 ·obtain ⟨out,o1,o2,o3⟩:=qlY (φ:=φ) (P:=P) d hn (by omega:n+1<N) hc (a:=m - i) (b:=m) (m:=i) (by omega) (by omega) (by omega) (by omega)
  simp only [neF q,cond_false,s1,o1,qf,qh,cond_true]
  refine ⟨out,rfl,hs.trans d (o2.mono d ha hb (by omega) (by omega)),fun k k0 k1=> ?_⟩
  rw [←hg k k0 k1,o3 k k0 k1]
  subst q
  by_cases w1:m - i≤k∧k<m
  ·rw [if_pos (by omega),qih d ys (by omega) (by omega)]
  ·rw [if_neg (by omega)]
   by_cases w2:m≤k∧k<m+i
   ·rw [if_pos (by omega),qiz d ys (by omega) (by omega)]
    congr 1; omega
   ·rw [if_neg (by omega),qg7 d ys (by omega) (by omega) (by omega)]
 simp only [neT q,cond_true]
 by_cases q2:j<i
 ·obtain ⟨out,o1,o2,o3⟩:=qlY (φ:=φ) (P:=P) d hn (by omega:n+1<N) hc (a:=m - i) (b:=m) (m:=j) (by omega) (by omega) (by omega) (by omega)
  have s2:qT .i64 i j=i - j:=qam (by omega) (by omega)
  simp only [ltT q2,cond_true,s1,s2,o1,qf,qh]
  refine hih (out,(i - j,(j,()))) ⟨hs.trans d (o2.mono d ha hb (by omega) (by omega)),by simp only; omega,by simp only; omega,hj0,hjm,fun k k0 k1=> ?_⟩ (by simp only; omega)
  simp only
  rw [←hg k k0 k1]
  by_cases w0:k<m - i+j∨m+j≤k
  ·rw [qg7 d out (by omega) (by omega) (by omega),o3 k k0 k1]
   by_cases w1:m - i≤k∧k<m+j
   ·rw [if_pos (by omega),qih d ys (by omega) (by omega)]
   ·rw [if_neg (by omega),if_neg (by omega),qg7 d ys (by omega) (by omega) (by omega)]
  ·rw [qiz d ys (by omega) (by omega)]
   by_cases w1:k - (m - i+j)<j
   ·rw [qih d out (by omega) (by omega),o3 _ (by omega) (by omega),if_neg (by omega),if_pos (by omega)]
    congr 1; omega
   ·rw [qiz d out (by omega) (by omega),o3 _ (by omega) (by omega),if_neg (by omega),if_neg (by omega)]
 ·obtain ⟨out,o1,o2,o3⟩:=qlY (φ:=φ) (P:=P) d hn (by omega:n+1<N) hc (a:=m - i) (b:=m+j - i) (m:=i) (by omega) (by omega) (by omega) (by omega)
  have s2:qT .i64 j i=j - i:=qam (by omega) (by omega)
  have s3:qS .i64 m j=m+j:=qat (by omega) (by omega)
  have s4:qT .i64 (m+j) i=m+j - i:=qam (by omega) (by omega)
  simp only [ltF q2,cond_false,s1,s2,s3,s4,o1,qf,qh,cond_true]
  refine hih (out,(i,(j - i,()))) ⟨hs.trans d (o2.mono d ha hb (by omega) (by omega)),hi0,him,by simp only; omega,by simp only; omega,fun k k0 k1=> ?_⟩ (by simp only; omega)
  simp only
  rw [←hg k k0 k1]
  by_cases w0:k<m - i∨m+(j - i)≤k
  ·rw [qg7 d out (by omega) (by omega) (by omega),o3 k k0 k1]
   by_cases w1:m - i≤k∧k<m+j
   ·rw [if_neg (by omega),if_pos (by omega),qiz d ys (by omega) (by omega)]
    congr 1; omega
   ·rw [if_neg (by omega),if_neg (by omega),qg7 d ys (by omega) (by omega) (by omega)]
  ·rw [qih d ys (by omega) (by omega)]
   by_cases w1:k - (m - i)<j - i
   ·rw [qih d out (by omega) (by omega),o3 _ (by omega) (by omega),if_neg (by omega),if_neg (by omega)]
   ·rw [qiz d out (by omega) (by omega),o3 _ (by omega) (by omega),if_pos (by omega)]
    congr 1; omega
theorem mid_eq2 {x y:Int} (hx:0≤x) (hy:0≤y) (h:x+y≤4398046511104):qc1 .i64 (qkW .u64 (qc1 .u64 (qS .i64 x y)) 1)=(x+y) / 2:=qk4 hx hy h
def qyn (P:α→Prop) (d:α) (n:Nat) (le:α→α→Prop) (φ:(α×(α×Unit))→Option (Int×Unit)) (M:Nat) (Fs:((List α)×(Int×(Int×(Int×(((α×(α×Unit))→(Option (Int×Unit)))×Unit)))))→(Option (Unit×((List α)×Unit)))):Prop:=
 ∀(xs:List α),Ck P n xs→∀(a m b:Int),0≤a→a<m→m<b→b≤(n:Int)→(b - a).toNat<M→Srt d le a m xs→Srt d le m b xs→qlQ P d n le a b xs (Fs (xs,(a,(m,(b,(φ,()))))))
set_option maxHeartbeats 2000000 in
theorem qt1 (hφ:Cmp P φ le) (hn:n≤1099511627776) (hN:2 * n+1<N) {M:Nat} {Fs} (ih:qyn P d n le φ M Fs):qyn P d n le φ (M+1) (qos d N Fs):=by
 intro xs h a m b ha h1 h2 hb hM sl sr
 have e1:qT .i64 m a=m - a:=qam (by omega) (by omega)
 have e2:qT .i64 b m=b - m:=qam (by omega) (by omega)
 have l01:leI 0 1=true:=leT (by omega)
 simp only [qos,qG,e1,e2,l01,cond_true]
 by_cases q1:m - a=1
 ·simp only [eqT q1,cond_true]
  refine qas (S:=List α×(Int×(Int×Unit))) (fun p=>(p.2.2.1 - p.2.1).toNat) (fun p=>p.1=xs∧m≤p.2.1∧p.2.1≤p.2.2.1∧p.2.2.1≤b∧(∀k,m≤k→k<p.2.1→le (qi xs k d) (qi xs a d))∧∀k,p.2.2.1≤k→k<b→le (qi xs a d) (qi xs k d)) (qlQ P d n le a b xs) ?_ N _ ⟨rfl,by simp only; omega,by simp only; omega,by simp only; omega,fun k k1 k2=>by simp only at k2; omega,fun k k1 k2=>by simp only at k1; omega⟩ (by simp only; omega)
  rintro ih1 ⟨ys,i,j,⟨⟩⟩ ⟨hy,hi,hij,hj,lo,hi'⟩ hih
  simp only at hy hi hij hj lo hi' hih⊢
  subst hy
  have pa:=h.get d (i:=a) (by omega) (by omega)
  by_cases hc:i<j
  ·have em:=qk4 (x:=i) (y:=j) (by omega) (by omega) (by omega)
   have em1:qS .i64 ((i+j) / 2) 1=(i+j) / 2+1:=qat (by omega) (by omega)
   have pm:=h.get d (i:=(i+j) / 2) (by omega) (by omega)
   obtain ⟨c,e3,e4⟩:=qkP hφ pm pa
   simp only [ltT hc,cond_true,em,em1,h.inB (i:=(i+j) / 2) (by omega) (by omega),h.inB (i:=a) (by omega) (by omega),e3,qf,qh,Bool.and_self]
   rcases e4 with ⟨c0,-,c2⟩|⟨c0,c1⟩
   ·simp only [ltT c0,cond_true]
    refine hih _ ⟨rfl,by simp only; omega,by simp only; omega,hj,fun k k1 k2=> ?_,hi'⟩ (by simp only; omega)
    simp only at k2
    exact hφ.trans _ _ _ (h.get d (by omega) (by omega)) pm pa (sr k ((i+j) / 2) k1 (by omega) (by omega)) c2
   ·simp only [ltF c0,cond_false]
    refine hih _ ⟨rfl,hi,by simp only; omega,by simp only; omega,lo,fun k k1 k2=> ?_⟩ (by simp only; omega)
    simp only at k1
    exact hφ.trans _ _ _ pa pm (h.get d (by omega) (by omega)) c1 (sr ((i+j) / 2) k (by omega) k1 k2)
  ·have:i=j:=by omega
   subst this
   simp only [ltF hc,cond_false]
   have ei:qT .i64 i 1=i - 1:=qam (by omega) (by omega)
   rw [ei]
   refine qas (S:=List α×(Int×Unit)) (fun p=>(i - p.2.1).toNat) (fun p=>Seg d n a b ys p.1∧a≤p.2.1∧p.2.1≤i - 1∧∀k,0≤k→k<(n:Int)→qi p.1 k d=if a≤k∧k<p.2.1 then qi ys (k+1) d else if k=p.2.1 then qi ys a d else qi ys k d) (qlQ P d n le a b ys) ?_ N _ ⟨.refl d _ _ ys,by simp only; omega,by simp only; omega,fun k k0 k1=>by
    simp only
    rw [if_neg (by omega)]
    by_cases w:k=a
    ·rw [if_pos w,w]
    ·rw [if_neg w]⟩ (by simp only; omega)
   rintro jh ⟨zs,k,⟨⟩⟩ ⟨hz,hk,hki,hg⟩ hjh
   simp only at hz hk hki hg hjh⊢
   have hzc:=hz.ck d h
   by_cases hk2:k<i - 1
   ·have s1:qS .i64 k 1=k+1:=qat (by omega) (by omega)
    simp only [ltT hk2,s1,hzc.inB (i:=k) (by omega) (by omega),hzc.inB (i:=k+1) (by omega) (by omega),qds,Bool.and_self,cond_true]
    have g:=qeI d hzc.len (i:=k) (j:=k+1) (by omega) (by omega) (by omega) (by omega)
    refine hjh (swp d zs k (k+1),(k+1,())) ⟨hz.trans d (qdQ d hzc.len ha hb (by omega) (by omega) (by omega) (by omega)),by simp only; omega,by simp only; omega,fun x x0 x1=> ?_⟩ (by simp only; omega)
    simp only
    rw [g x x0]
    by_cases w1:x=k+1
    ·rw [if_pos w1,if_neg (by omega),if_pos w1,hg k (by omega) (by omega),if_neg (by omega),if_pos rfl]
    rw [if_neg w1]
    by_cases w2:x=k
    ·rw [if_pos w2,if_pos (by omega),hg (k+1) (by omega) (by omega),if_neg (by omega),if_neg (by omega),w2]
    rw [if_neg w2,hg x x0 x1]
    by_cases w3:a≤x∧x<k
    ·rw [if_pos w3,if_pos (by omega)]
    ·rw [if_neg w3,if_neg w2,if_neg (by omega),if_neg w1]
   ·have:k=i - 1:=by omega
    subst this
    simp only [ltF hk2,cond_false]
    refine ⟨zs,rfl,hz,fun x y x1 x2 x3=> ?_⟩
    rw [hg x (by omega) (by omega),hg y (by omega) (by omega)]
    by_cases w1:a≤x∧x<i - 1
    ·rw [if_pos w1]
     by_cases w2:a≤y∧y<i - 1
     ·rw [if_pos w2]; exact sr (x+1) (y+1) (by omega) (by omega) (by omega)
     ·rw [if_neg w2]
      by_cases w3:y=i - 1
      ·rw [if_pos w3]; exact lo (x+1) (by omega) (by omega)
      ·rw [if_neg w3]; exact sr (x+1) y (by omega) (by omega) (by omega)
    ·rw [if_neg w1,if_neg (by omega:¬(a≤y∧y<i - 1))]
     by_cases w2:x=i - 1
     ·rw [if_pos w2]
      by_cases w3:y=i - 1
      ·rw [if_pos w3]; exact hφ.refl pa
      ·rw [if_neg w3]; exact hi' y (by omega) (by omega)
     ·rw [if_neg w2,if_neg (by omega:¬y=i - 1)]; exact sr x y (by omega) x2 (by omega)
 simp only [eqF q1,cond_false]
 by_cases q2:b - m=1
 ·simp only [eqT q2,cond_true]
  refine qas (S:=List α×(Int×(Int×Unit))) (fun p=>(p.2.2.1 - p.2.1).toNat) (fun p=>p.1=xs∧a≤p.2.1∧p.2.1≤p.2.2.1∧p.2.2.1≤m∧(∀k,a≤k→k<p.2.1→le (qi xs k d) (qi xs m d))∧∀k,p.2.2.1≤k→k<m→le (qi xs m d) (qi xs k d)) (qlQ P d n le a b xs) ?_ N _ ⟨rfl,by simp only; omega,by simp only; omega,by simp only; omega,fun k k1 k2=>by simp only at k2; omega,fun k k1 k2=>by simp only at k1; omega⟩ (by simp only; omega)
  rintro ih1 ⟨ys,i,j,⟨⟩⟩ ⟨hy,hi,hij,hj,lo,hi'⟩ hih
  simp only at hy hi hij hj lo hi' hih⊢
  subst hy
  have pm:=h.get d (i:=m) (by omega) (by omega)
  by_cases hc:i<j
  ·have em:=qk4 (x:=i) (y:=j) (by omega) (by omega) (by omega)
   have em1:qS .i64 ((i+j) / 2) 1=(i+j) / 2+1:=qat (by omega) (by omega)
   have ph:=h.get d (i:=(i+j) / 2) (by omega) (by omega)
   obtain ⟨c,e3,e4⟩:=qkP hφ pm ph
   simp only [ltT hc,cond_true,em,em1,h.inB (i:=(i+j) / 2) (by omega) (by omega),h.inB (i:=m) (by omega) (by omega),e3,qf,qh,Bool.and_self]
   rcases e4 with ⟨c0,-,c2⟩|⟨c0,c1⟩
   ·simp only [ltT c0,Bool.not_true,cond_false]
    refine hih _ ⟨rfl,hi,by simp only; omega,by simp only; omega,lo,fun k k1 k2=> ?_⟩ (by simp only; omega)
    simp only at k1
    exact hφ.trans _ _ _ pm ph (h.get d (by omega) (by omega)) c2 (sl ((i+j) / 2) k (by omega) k1 k2)
   ·simp only [ltF c0,Bool.not_false,cond_true]
    refine hih _ ⟨rfl,by simp only; omega,by simp only; omega,hj,fun k k1 k2=> ?_,hi'⟩ (by simp only; omega)
    simp only at k2
    exact hφ.trans _ _ _ (h.get d (by omega) (by omega)) ph pm (sl k ((i+j) / 2) k1 (by omega) (by omega)) c1
  ·have:i=j:=by omega
   subst this
   simp only [ltF hc,cond_false]
   refine qas (S:=List α×(Int×Unit)) (fun p=>(p.2.1 - i).toNat) (fun p=>Seg d n a b ys p.1∧i≤p.2.1∧p.2.1≤m∧∀k,0≤k→k<(n:Int)→qi p.1 k d=if p.2.1<k∧k≤m then qi ys (k - 1) d else if k=p.2.1 then qi ys m d else qi ys k d) (qlQ P d n le a b ys) ?_ N _ ⟨.refl d _ _ ys,by simp only; omega,by simp only; omega,fun k k0 k1=>by
    simp only
    rw [if_neg (by omega)]
    by_cases w:k=m
    ·rw [if_pos w,w]
    ·rw [if_neg w]⟩ (by simp only; omega)
   rintro jh ⟨zs,k,⟨⟩⟩ ⟨hz,hk,hki,hg⟩ hjh
   simp only at hz hk hki hg hjh⊢
   have hzc:=hz.ck d h
   by_cases hk2:i<k
   ·have s1:qT .i64 k 1=k - 1:=qam (by omega) (by omega)
    simp only [ltT hk2,s1,hzc.inB (i:=k) (by omega) (by omega),hzc.inB (i:=k - 1) (by omega) (by omega),qds,Bool.and_self,cond_true]
    have g:=qeI d hzc.len (i:=k) (j:=k - 1) (by omega) (by omega) (by omega) (by omega)
    refine hjh (swp d zs k (k - 1),(k - 1,())) ⟨hz.trans d (qdQ d hzc.len ha hb (by omega) (by omega) (by omega) (by omega)),by simp only; omega,by simp only; omega,fun x x0 x1=> ?_⟩ (by simp only; omega)
    simp only
    rw [g x x0]
    by_cases w1:x=k - 1
    ·rw [if_pos w1,if_neg (by omega),if_pos w1,hg k (by omega) (by omega),if_neg (by omega),if_pos rfl]
    rw [if_neg w1]
    by_cases w2:x=k
    ·rw [if_pos w2,if_pos (by omega),hg (k - 1) (by omega) (by omega),if_neg (by omega),if_neg (by omega),w2]
    rw [if_neg w2,hg x x0 x1]
    by_cases w3:k<x∧x≤m
    ·rw [if_pos w3,if_pos (by omega)]
    ·rw [if_neg w3,if_neg w2,if_neg (by omega),if_neg w1]
   ·have:k=i:=by omega
    subst this
    simp only [ltF hk2,cond_false]
    refine ⟨zs,rfl,hz,fun x y x1 x2 x3=> ?_⟩
    rw [hg x (by omega) (by omega),hg y (by omega) (by omega)]
    by_cases w1:k<x∧x≤m
    ·rw [if_pos w1,if_pos (by omega:k<y∧y≤m)]
     exact sl (x - 1) (y - 1) (by omega) (by omega) (by omega)
    ·rw [if_neg w1]
     by_cases w2:x=k
     ·rw [if_pos w2]
      by_cases w3:k<y∧y≤m
      ·rw [if_pos w3]; exact hi' (y - 1) (by omega) (by omega)
      ·rw [if_neg w3,if_pos (by omega:y=k)]; exact hφ.refl pm
     ·rw [if_neg w2]
      by_cases w3:k<y∧y≤m
      ·rw [if_pos w3]; exact sl x (y - 1) (by omega) (by omega) (by omega)
      ·rw [if_neg w3]
       by_cases w4:y=k
       ·rw [if_pos w4]; exact lo x (by omega) (by omega)
       ·rw [if_neg w4]; exact sl x y (by omega) x2 (by omega)
 simp only [eqF q2,cond_false]
 have em:=qk4 (x:=a) (y:=b) (by omega) (by omega) (by omega)
 rw [em]
 generalize hmid:(a+b) / 2=mid
 have hm1:a<mid:=by omega
 have hm2:mid<b:=by omega
 have en:qS .i64 mid m=mid+m:=qat (by omega) (by omega)
 have en2:qT .i64 (mid+m) b=mid+m - b:=qam (by omega) (by omega)
 have en3:qT .i64 (mid+m) 1=mid+m - 1:=qam (by omega) (by omega)
 simp only [en,en2,en3]
 obtain ⟨st,r,hst,hr,g1,g2,g3,g4,g5,g6,g7⟩:∃st r:Int,(bif ltI mid m then mid+m - b else a)=st∧(bif ltI mid m then mid else m)=r∧a≤st∧st≤r∧r≤mid∧r≤m∧mid+m - st≤b∧(st=a∨mid+m - st=b)∧(r=mid∨r=m):=by
  by_cases hq:mid<m
  ·exact ⟨_,_,rfl,rfl,by rw [ltT hq]; simp only [cond_true]; exact ⟨by omega,by omega,by omega,by omega,by omega,.inr (by omega),.inl trivial⟩⟩
  ·exact ⟨_,_,rfl,rfl,by rw [ltF hq]; simp only [cond_false]; exact ⟨by omega,by omega,by omega,by omega,by omega,.inl trivial,.inr trivial⟩⟩
 simp only [hst,hr]
 refine qas (S:=List α×(Int×(Int×Unit))) (fun p=>(p.2.2.1 - p.2.1).toNat) (fun p=>p.1=xs∧st≤p.2.1∧p.2.1≤p.2.2.1∧p.2.2.1≤r∧(st<p.2.1→le (qi xs (p.2.1 - 1) d) (qi xs (mid+m - p.2.1) d))∧(p.2.2.1<r→le (qi xs (mid+m - 1 - p.2.2.1) d) (qi xs p.2.2.1 d))) (qlQ P d n le a b xs) ?_ N _ ⟨rfl,by simp only; omega,by simp only; omega,by simp only; omega,fun w=>by simp only at w; omega,fun w=>by simp only at w; omega⟩ (by simp only; omega)
 rintro ih1 ⟨ys,i,j,⟨⟩⟩ ⟨hy,hi,hij,hj,lo,hi'⟩ hih
 simp only at hy hi hij hj lo hi' hih⊢
 subst hy
 by_cases hc:i<j
 ·have em:=qk4 (x:=i) (y:=j) (by omega) (by omega) (by omega)
  have em1:qS .i64 ((i+j) / 2) 1=(i+j) / 2+1:=qat (by omega) (by omega)
  have em2:qT .i64 (mid+m - 1) ((i+j) / 2)=mid+m - 1 - (i+j) / 2:=qam (by omega) (by omega)
  obtain ⟨c,e3,e4⟩:=qkP hφ (h.get d (i:=mid+m - 1 - (i+j) / 2) (by omega) (by omega)) (h.get d (i:=(i+j) / 2) (by omega) (by omega))
  simp only [ltT hc,cond_true,em,em1,em2,h.inB (i:=mid+m - 1 - (i+j) / 2) (by omega) (by omega),h.inB (i:=(i+j) / 2) (by omega) (by omega),e3,qf,qh,Bool.and_self]
  rcases e4 with ⟨c0,-,c2⟩|⟨c0,c1⟩
  ·simp only [ltT c0,Bool.not_true,cond_false]
   exact hih _ ⟨rfl,hi,by simp only; omega,by simp only; omega,lo,fun _=>c2⟩ (by simp only; omega)
  ·simp only [ltF c0,Bool.not_false,cond_true]
   refine hih _ ⟨rfl,by simp only; omega,by simp only; omega,hj,fun _=> ?_,hi'⟩ (by simp only; omega)
   simp only
   rw [show (i+j) / 2+1 - 1=(i+j) / 2 by omega,show mid+m - ((i+j) / 2+1)=mid+m - 1 - (i+j) / 2 by omega]
   exact c1
 ·have hijq:i=j:=by omega
  subst hijq
  have ee:qT .i64 (mid+m) i=mid+m - i:=qam (by omega) (by omega)
  simp only [ltF hc,cond_false,ee]
  generalize hen:mid+m - i=en at *
  obtain ⟨zs,z1,z2,z3,z4⟩:∃zs,Seg d n a b ys zs∧(bif (ltI i m&&ltI m en) then qt (qef d N (ys,(i,(m,(en,(φ,())))))) else true)=true∧(bif (ltI i m&&ltI m en) then (qr (qef d N (ys,(i,(m,(en,(φ,())))))) ((),(([]:List α),()))).2.1 else ys)=zs∧∀k,0≤k→k<(n:Int)→qi zs k d=qwe d ys i m en k:=by
   by_cases hq:i<m∧m<en
   ·obtain ⟨out,k1,k2,k3⟩:=qua (φ:=φ) (P:=P) d hn hN h (a:=i) (m:=m) (b:=en) (by omega) hq.1 hq.2 (by omega)
    exact ⟨out,k2.mono d ha hb (by omega) (by omega),by simp only [ltT hq.1,ltT hq.2,Bool.and_self,cond_true,k1,qf],by simp only [ltT hq.1,ltT hq.2,Bool.and_self,cond_true,k1,qh],k3⟩
   ·have e:(ltI i m&&ltI m en)=false:=by
     by_cases hq1:i<m
     ·rw [ltF (fun hq2=>hq ⟨hq1,hq2⟩),Bool.and_false]
     ·rw [ltF hq1,Bool.false_and]
    refine ⟨ys,.refl d _ _ ys,by simp only [e,cond_false],by simp only [e,cond_false],fun k k0 k1=> ?_⟩
    by_cases w0:i≤k∧k<en
    ·by_cases w1:i=m
     ·rw [qih d ys (by omega) (by omega)]; congr 1; omega
     ·rw [qiz d ys (by omega) (by omega)]; congr 1; omega
    ·rw [qg7 d ys (by omega) (by omega) (by omega)]
  have zc:=z1.ck d h
  simp only [z2,z3,cond_true]
  have hL1:∀k,a≤k→k<i→qi zs k d=qi ys k d:=fun k k1 k2=>by rw [z4 k (by omega) (by omega),qg7 d ys (by omega) (by omega) (by omega)]
  have hL2:∀k,i≤k→k<mid→qi zs k d=qi ys (k+(m - i)) d:=fun k k1 k2=>by rw [z4 k (by omega) (by omega),qih d ys (by omega) (by omega)]
  have hR1:∀k,mid≤k→k<en→qi zs k d=qi ys (k - (en - m)) d:=fun k k1 k2=>by rw [z4 k (by omega) (by omega),qiz d ys (by omega) (by omega)]
  have hR2:∀k,en≤k→k<b→qi zs k d=qi ys k d:=fun k k1 k2=>by rw [z4 k (by omega) (by omega),qg7 d ys (by omega) (by omega) (by omega)]
  have cross:∀x y,a≤x→x<mid→mid≤y→y<b→le (qi zs x d) (qi zs y d):=fun x y x1 x2 y1 y2=>by
   by_cases wx:x<i
   ·rw [hL1 x x1 wx]
    by_cases wy:y<en
    ·rw [hR1 y y1 wy]; exact sl x _ x1 (by omega) (by omega)
    ·rw [hR2 y (by omega) y2]
     have:=lo (by omega)
     refine hφ.trans _ _ _ (h.get d (by omega) (by omega)) (h.get d (i:=i - 1) (by omega) (by omega)) (h.get d (by omega) (by omega)) (sl x (i - 1) x1 (by omega) (by omega)) (hφ.trans _ _ _ (h.get d (i:=i - 1) (by omega) (by omega)) (h.get d (i:=en) (by omega) (by omega)) (h.get d (by omega) (by omega)) this (sr en y (by omega) (by omega) y2))
   ·rw [hL2 x (by omega) x2]
    by_cases wy:y<en
    ·rw [hR1 y y1 wy]
     have:=hi' (by omega)
     rw [show mid+m - 1 - i=en - 1 by omega] at this
     refine hφ.trans _ _ _ (h.get d (by omega) (by omega)) (h.get d (i:=en - 1) (by omega) (by omega)) (h.get d (by omega) (by omega)) (sr _ (en - 1) (by omega) (by omega) (by omega)) (hφ.trans _ _ _ (h.get d (i:=en - 1) (by omega) (by omega)) (h.get d (i:=i) (by omega) (by omega)) (h.get d (by omega) (by omega)) this (sl i _ (by omega) (by omega) (by omega)))
    ·rw [hR2 y (by omega) y2]; exact sr _ y (by omega) (by omega) y2
  have s1:Srt d le a i zs:=fun x y x1 x2 x3=>by rw [hL1 x x1 (by omega),hL1 y (by omega) x3]; exact sl x y x1 x2 (by omega)
  have s2:Srt d le i mid zs:=fun x y x1 x2 x3=>by rw [hL2 x x1 (by omega),hL2 y (by omega) x3]; exact sr _ _ (by omega) (by omega) (by omega)
  have s3:Srt d le mid en zs:=fun x y x1 x2 x3=>by rw [hR1 x x1 (by omega),hR1 y (by omega) x3]; exact sl _ _ (by omega) (by omega) (by omega)
  have s4:Srt d le en b zs:=fun x y x1 x2 x3=>by rw [hR2 x x1 (by omega),hR2 y (by omega) x3]; exact sr x y (by omega) x2 x3
  obtain ⟨ws,w1,w2,w3,w4⟩:∃ws,Seg d n a mid zs ws∧(bif (ltI a i&&ltI i mid) then qt (Fs (zs,(a,(i,(mid,(φ,())))))) else true)=true∧(bif (ltI a i&&ltI i mid) then (qr (Fs (zs,(a,(i,(mid,(φ,())))))) ((),(([]:List α),()))).2.1 else zs)=ws∧Srt d le a mid ws:=by
   by_cases hq:a<i∧i<mid
   ·obtain ⟨out,k1,k2,k3⟩:=ih zs zc a i mid ha hq.1 hq.2 (by omega) (by omega) s1 s2
    exact ⟨out,k2,by simp only [ltT hq.1,ltT hq.2,Bool.and_self,cond_true,k1,qf],by simp only [ltT hq.1,ltT hq.2,Bool.and_self,cond_true,k1,qh],k3⟩
   ·have e:(ltI a i&&ltI i mid)=false:=by
     by_cases hq1:a<i
     ·rw [ltF (fun hq2=>hq ⟨hq1,hq2⟩),Bool.and_false]
     ·rw [ltF hq1,Bool.false_and]
    refine ⟨zs,.refl d _ _ zs,by simp only [e,cond_false],by simp only [e,cond_false],?_⟩
    by_cases hq1:a<i
    ·rw [show mid=i by omega]; exact s1
    ·rw [show a=i by omega]; exact s2
  have wc:=w1.ck d zc
  simp only [w2,w3,cond_true]
  have s3':Srt d le mid en ws:=fun x y x1 x2 x3=>by rw [w1.out x (by omega) (by omega) (by omega),w1.out y (by omega) (by omega) (by omega)]; exact s3 x y x1 x2 x3
  have s4':Srt d le en b ws:=fun x y x1 x2 x3=>by rw [w1.out x (by omega) (by omega) (by omega),w1.out y (by omega) (by omega) (by omega)]; exact s4 x y x1 x2 x3
  have cross':∀x y,a≤x→x<mid→mid≤y→y<b→le (qi ws x d) (qi ws y d):=fun x y x1 x2 y1 y2=>by
   obtain ⟨k,k1,k2,k3⟩:=w1.inn x x1 x2
   rw [k3,w1.out y (by omega) (by omega) (by omega)]; exact cross k y k1 k2 y1 y2
  have last:∀out,Seg d n mid b ws out→Srt d le mid b out→qlQ P d n le a b ys (some ((),(out,()))):=fun out o1 o2=>by
   refine ⟨out,rfl,z1.trans d ((w1.mono d ha hb (by omega) (by omega)).trans d (o1.mono d ha hb (by omega) (by omega))),fun x y x1 x2 x3=> ?_⟩
   by_cases wy:y<mid
   ·rw [o1.out x (by omega) (by omega) (by omega),o1.out y (by omega) (by omega) (by omega)]; exact w4 x y x1 x2 wy
   ·by_cases wx:x<mid
    ·obtain ⟨k,k1,k2,k3⟩:=o1.inn y (by omega) x3
     rw [k3,o1.out x (by omega) (by omega) (by omega)]; exact cross' x k x1 wx k1 k2
    ·exact o2 x y (by omega) x2 x3
  by_cases hq:mid<en∧en<b
  ·obtain ⟨out,k1,k2,k3⟩:=ih ws wc mid en b (by omega) hq.1 hq.2 hb (by omega) s3' s4'
   simp only [ltT hq.1,ltT hq.2,Bool.and_self,cond_true,k1,qf,qh]
   exact last out k2 k3
  ·have e:(ltI mid en&&ltI en b)=false:=by
    by_cases hq1:mid<en
    ·rw [ltF (fun hq2=>hq ⟨hq1,hq2⟩),Bool.and_false]
    ·rw [ltF hq1,Bool.false_and]
   simp only [e,cond_false,cond_true]
   refine last ws (.refl d _ _ ws) ?_
   by_cases hq1:mid<en
   ·have:en=b:=by omega
    rw [←this]; exact s3'
   ·have:mid=en:=by omega
    rw [this]; exact s4'
theorem qkN (hφ:Cmp P φ le) (hn:n≤1099511627776) (hN:2 * n+1<N):∀M:Nat,qyn P d n le φ M (qgG d N M)
 |0=>fun xs h a m b ha h1 h2 hb hM=>by omega
 |M+1=>qt1 d hφ hn hN (qkN hφ hn hN M)
inductive Bk (d:α) (le:α→α→Prop) (n:Nat) (s:Int) (xs:List α):Int→Prop where
 |last {a:Int} :a≤(n:Int)→(n:Int)≤a+s→Srt d le a (n:Int) xs→Bk d le n s xs a
 |step {a:Int} :a+s≤(n:Int)→Srt d le a (a+s) xs→Bk d le n s xs (a+s)→Bk d le n s xs a
inductive Pf (d:α) (le:α→α→Prop) (s:Int) (xs:List α):Int→Prop where
 |zero:Pf d le s xs 0
 |step {a:Int} :0≤a→Pf d le s xs a→Srt d le a (a+s) xs→Pf d le s xs (a+s)
theorem Pf.bk {s:Int} {xs:List α} :∀ {a:Int},Pf d le s xs a→a≤(n:Int)→0≤s→Bk d le n s xs a→Bk d le n s xs 0
 |_,.zero,_,_,h=>h
 |_,.step h0 hp hs,hn,h0s,h=>hp.bk (by omega) h0s (.step (by omega) hs h)
theorem Srt.same {a b:Int} {xs ys:List α} (h:Srt d le a b xs) (he:∀k,a≤k→k<b→qi ys k d=qi xs k d):Srt d le a b ys:=fun x y x1 x2 x3=>by
 rw [he x x1 (by omega),he y (by omega) x3]; exact h x y x1 x2 x3
theorem Pf.same {s:Int} {xs ys:List α} (h0s:0≤s):∀ {a:Int},Pf d le s xs a→(∀k,0≤k→k<a→qi ys k d=qi xs k d)→Pf d le s ys a
 |_,.zero,_=> .zero
 |_,.step h0 hp hs,he=> .step h0 (hp.same h0s fun k k0 k1=>he k k0 (by omega)) (hs.same d fun k k0 k1=>he k (by omega) (by omega))
theorem Bk.same {s:Int} {xs ys:List α} (h0s:0≤s):∀ {a:Int},Bk d le n s xs a→(∀k,a≤k→k<(n:Int)→qi ys k d=qi xs k d)→Bk d le n s ys a
 |_,.last h1 h2 hs,he=> .last h1 h2 (hs.same d fun k k0 k1=>he k k0 k1)
 |_,.step h1 hs hb,he=> .step h1 (hs.same d fun k k0 k1=>he k k0 (by omega)) (hb.same h0s fun k k0 k1=>he k (by omega) k1)
theorem Bk.two {s a:Int} {xs:List α} (h:Bk d le n s xs a) (hs:1≤s) (hb:a+2 * s≤(n:Int)):Srt d le a (a+s) xs∧Srt d le (a+s) (a+2 * s) xs∧Bk d le n s xs (a+2 * s):=by
 cases h with
 |last h1 h2 h3=>omega
 |step h1 h2 h3=>
  refine ⟨h2,?_⟩
  generalize hq:a+s=q at *
  rw [show a+2 * s=q+s by omega]
  cases h3 with
  |last k1 k2 k3=>
   have:(n:Int)=q+s:=by omega
   exact ⟨by rw [←this]; exact k3,by rw [←this]; exact .last (Int.le_refl _) (by omega) fun x y x1 x2 x3=>by omega⟩
  |step k1 k2 k3=>exact ⟨k2,k3⟩
theorem Bk.one {s a:Int} {xs:List α} (h:Bk d le n s xs a) (hs:1≤s) (hb:(n:Int)<a+2 * s) (hm:a+s<(n:Int)):Srt d le a (a+s) xs∧Srt d le (a+s) (n:Int) xs:=by
 cases h with
 |last h1 h2 h3=>omega
 |step h1 h2 h3=>
  refine ⟨h2,?_⟩
  generalize hq:a+s=q at *
  cases h3 with
  |last k1 k2 k3=>exact k3
  |step k1 k2 k3=>omega
theorem Bk.nil {s a:Int} {xs:List α} (h:Bk d le n s xs a) (hm:(n:Int)≤a+s):Srt d le a (n:Int) xs:=by
 cases h with
 |last h1 h2 h3=>exact h3
 |step h1 h2 h3=>
  have:(n:Int)=a+s:=by omega
  rw [this]; exact h2
theorem qud (hφ:Cmp P φ le) (hn:n≤1099511627776) (hN:2 * n+100<N) {xs:List α} (h:Ck P n xs):qlQ P d n le 0 (n:Int) xs (qmE d N (xs,((n:Int),(φ,())))):=by
 simp only [qmE,qG]
 refine qas (S:=List α×(Int×(Int×Unit))) (fun p=>((n:Int)+20 - p.2.2.1).toNat) (fun p=>Seg d n 0 (n:Int) xs p.1∧0≤p.2.1∧p.2.1≤(n:Int)∧p.2.2.1=p.2.1+20∧Pf d le 20 p.1 p.2.1) (qlQ P d n le 0 (n:Int) xs) ?_ N _ ⟨.refl d _ _ xs,by simp only; omega,by simp only; omega,by simp only; omega,.zero⟩ (by simp only; omega)
 rintro ih ⟨ys,a,b,⟨⟩⟩ ⟨hs,ha,ha2,hb,hp⟩ hih
 simp only at hs ha ha2 hb hp hih⊢
 have hc:=hs.ck d h
 by_cases q:b≤(n:Int)
 ·obtain ⟨out,o1,o2,o3⟩:=qmq d (N:=N) hφ hn (by omega) hc (a:=a) (b:=b) ha ha2 q
  have e1:qS .i64 b 20=b+20:=qat (by omega) (by omega)
  simp only [leT q,cond_true,o1,qf,qh,e1]
  subst hb
  exact hih _ ⟨hs.trans d (o2.mono d (Int.le_refl 0) (Int.le_refl _) ha q),by simp only; omega,by simp only; omega,by simp only,.step ha (hp.same d (by omega) fun k k0 k1=>o2.out k k0 (by omega) (by omega)) o3⟩ (by simp only; omega)
 ·obtain ⟨out,o1,o2,o3⟩:=qmq d (N:=N) hφ hn (by omega) hc (a:=a) (b:=(n:Int)) ha ha2 (Int.le_refl _)
  simp only [leF q,cond_false,o1,qf,qh,cond_true]
  have hbk:Bk d le n 20 out 0:=(hp.same d (by omega) fun k k0 k1=>o2.out k k0 (by omega) (by omega)).bk d ha2 (by omega) (.last ha2 (by omega) o3)
  refine qas (S:=List α×(Int×Unit)) (fun p=>((n:Int) - p.2.1).toNat) (fun p=>Seg d n 0 (n:Int) xs p.1∧1≤p.2.1∧p.2.1≤2 * (n:Int)+20∧Bk d le n p.2.1 p.1 0) (qlQ P d n le 0 (n:Int) xs) ?_ N _ ⟨hs.trans d (o2.mono d (Int.le_refl 0) (Int.le_refl _) ha (Int.le_refl _)),by simp only; omega,by simp only; omega,hbk⟩ (by simp only; omega)
  rintro jh ⟨ys,s,⟨⟩⟩ ⟨hs,hs1,hs2,hk⟩ hjh
  simp only at hs hs1 hs2 hk hjh⊢
  have hc:=hs.ck d h
  by_cases hsn:s<(n:Int)
  ·have e1:qol .i64 2 s=2 * s:=by rw [qdY,qdH (by omega) (by omega)]
   have e2:qol .i64 s 2=2 * s:=by rw [qdY,qdH (by omega) (by omega)]; omega
   simp only [ltT hsn,cond_true,e1,e2]
   refine qas (S:=List α×(Int×(Int×Unit))) (fun p=>((n:Int)+2 * s - p.2.2.1).toNat) (fun p=>Seg d n 0 (n:Int) xs p.1∧0≤p.2.1∧p.2.1≤(n:Int)∧p.2.2.1=p.2.1+2 * s∧Pf d le (2 * s) p.1 p.2.1∧Bk d le n s p.1 p.2.1) (qlQ P d n le 0 (n:Int) xs) ?_ N _ ⟨hs,by simp only; omega,by simp only; omega,by simp only; omega,.zero,hk⟩ (by simp only; omega)
   rintro kh ⟨zs,a,b,⟨⟩⟩ ⟨hz,ha,ha2,hb,hp,hk⟩ hkh
   simp only at hz ha ha2 hb hp hk hkh⊢
   have hzc:=hz.ck d h
   have e3:qS .i64 a s=a+s:=qat (by omega) (by omega)
   by_cases q:b≤(n:Int)
   ·subst hb
    obtain ⟨b1,b2,b3⟩:=hk.two d hs1 q
    obtain ⟨out,o1,o2,o3⟩:=qkN d hφ hn (by omega:2 * n+1<N) N zs hzc a (a+s) (a+2 * s) ha (by omega) (by omega) q (by omega) b1 b2
    have e4:qS .i64 (a+2 * s) (2 * s)=a+2 * s+2 * s:=qat (by omega) (by omega)
    have o1':qmH d N (zs,(a,(a+s,(a+2 * s,(φ,())))))=some ((),(out,())):=o1
    simp only [leT q,cond_true,e3,o1',qf,qh,e4]
    exact hkh _ ⟨hz.trans d (o2.mono d (Int.le_refl 0) (Int.le_refl _) ha q),by simp only; omega,by simp only; omega,by simp only,.step ha (hp.same d (by omega) fun k k0 k1=>o2.out k k0 (by omega) (by omega)) o3,b3.same d (by omega) fun k k0 k1=>o2.out k (by omega) k1 (by omega)⟩ (by simp only; omega)
   ·simp only [leF q,cond_false,e3]
    have fin:∀out,Seg d n a (n:Int) zs out→Srt d le a (n:Int) out→qlQ P d n le 0 (n:Int) xs (jh (out,(2 * s,()))):=fun out o1 o2=>
     hjh _ ⟨hz.trans d (o1.mono d (Int.le_refl 0) (Int.le_refl _) ha (Int.le_refl _)),by simp only; omega,by simp only; omega,(hp.same d (by omega) fun k k0 k1=>o1.out k k0 (by omega) (by omega)).bk d ha2 (by omega) (.last ha2 (by omega) o2)⟩ (by simp only; omega)
    by_cases hq:a+s<(n:Int)
    ·obtain ⟨b1,b2⟩:=hk.one d hs1 (by omega) hq
     obtain ⟨out,o1,o2,o3⟩:=qkN d hφ hn (by omega:2 * n+1<N) N zs hzc a (a+s) (n:Int) ha (by omega) hq (Int.le_refl _) (by omega) b1 b2
     have o1':qmH d N (zs,(a,(a+s,((n:Int),(φ,())))))=some ((),(out,())):=o1
     simp only [ltT hq,cond_true,o1',qf,qh]
     exact fin out o2 o3
    ·simp only [ltF hq,cond_false,cond_true]
     exact fin zs (.refl d _ _ zs) (hk.nil d (by omega))
  ·simp only [ltF hsn,cond_false]
   exact ⟨ys,rfl,hs,hk.nil d (by omega)⟩
theorem qub (hφ:Cmp P φ le) {xs:List α} (hn:xs.length≤1099511627776) (hN:2 * xs.length+100<N) (h:∀x∈xs,P x):∃out,qot d N (xs,(φ,()))=some ((),(out,()))∧out.Perm xs∧Srt d le 0 (xs.length:Int) out:=by
 obtain ⟨out,o1,o2,o3⟩:=qud d hφ hn hN ⟨rfl,h⟩
 refine ⟨out,?_,o2.perm,o3⟩
 simp only [qot,qj,o1,qf,qh,cond_true]
end
end
end Go.Vi
