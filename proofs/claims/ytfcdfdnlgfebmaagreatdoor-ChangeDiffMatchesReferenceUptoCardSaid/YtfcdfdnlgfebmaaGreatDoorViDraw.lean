/- The abstract interpreter: regions that draw their order. -/
import Derived.Test.YtfcdfdnlgfebmaaGreatDoorViSeq
import Derived.Orders
set_option linter.unusedVariables false
set_option linter.unusedSimpArgs false
set_option linter.unnecessarySimpa false
set_option linter.unusedSectionVars false
namespace Go.Vi
open Go.RowKit
def qcf (S:Nat→Bool):Nat→List qeY→St→St
 |_,[],σ=>σ
 |i,f::r,σ=>qcf S (i+1) r (if S i then qr σ f.us else σ)
def qex (l:List qeY) (σ:St):St:=l.foldl (fun σ f=>qr σ f.us) σ
theorem qbD (S:Nat→Bool):(l:List qeY)→(i:Nat)→(σ:St)→(qcf S i l σ).length=σ.length
 |[],_,_=>rfl
 |f::r,i,σ=>by
  simp only [qcf]
  rw [qbD S r]
  split
  ·rw [qF]
  ·rfl
theorem qoC {σ τ:St} {u:U} {s:Nat} (hl:σ.length=τ.length) (h:qt σ s=qt τ s):qt (qR σ u) s=qt (qR τ u) s:=by
 by_cases hs:s=u.s
 ·subst hs
  by_cases hlt:u.s<σ.length
  ·rw [qM σ u hlt,qM τ u (by omega),h]
  ·have e1:qR σ u=σ:=by simp only [qR]; exact List.set_eq_of_length_le (by omega)
   have e2:qR τ u=τ:=by simp only [qR]; exact List.set_eq_of_length_le (by omega)
   rw [e1,e2,h]
 ·rw [qv _ _ hs,qv _ _ hs,h]
theorem qgZ:(us:List U)→ {σ τ:St} → {s:Nat} →σ.length=τ.length→qt σ s=qt τ s→qt (qr σ us) s=qt (qr τ us) s
 |[],_,_,_,_,h=>h
 |u::us,σ,τ,s,hl,h=>qgZ us (σ:=qR σ u) (τ:=qR τ u) (by rw [qak,qak,hl]) (qoC hl h)
theorem qgP:(us:List U)→ {σ:St} → {s:Nat} →s∉us.map (·.s)→qt (qr σ us) s=qt σ s
 |[],_,_,_=>rfl
 |u::us,σ,s,h=>by
  simp only [List.map_cons,List.mem_cons,not_or] at h
  exact (qgP us (σ:=qR σ u) h.2).trans (qv _ _ h.1)
theorem qdl {S S':Nat→Bool} {s:Nat} :(l:List qeY)→(i:Nat)→ {σ τ:St} →σ.length=τ.length→qt σ s=qt τ s→(∀k f,l[k]? =some f→s∈f.wr→S (i+k)=S' (i+k))→qt (qcf S i l σ) s=qt (qcf S' i l τ) s
 |[],_,_,_,_,h,_=>h
 |f::r,i,σ,τ,hl,h,hS=>by
  simp only [qcf]
  refine qdl r (i+1) ?_ ?_ fun k f' hk hs=>by
   have:=hS (k+1) f' (by simpa using hk) hs
   rwa [show i+(k+1)=i+1+k by omega] at this
  ·split <;> split <;> simp only [qF,hl]
  ·by_cases hs:s∈f.wr
   ·have:=hS 0 f rfl hs
    rw [Nat.add_zero] at this
    rw [←this]
    split
    ·exact qgZ _ hl h
    ·exact h
   ·have n1:∀ρ:St,qt (qr ρ f.us) s=qt ρ s:=fun ρ=>qgP f.us hs
    split <;> split <;> simp only [n1,h]
theorem qnY {σ τ:St} (hl:σ.length=τ.length) (h:∀s,qt σ s=qt τ s):σ=τ:=by
 apply List.ext_getElem?
 intro s
 by_cases hs:s<σ.length
 ·have:=h s
  simp only [qt,List.getD_eq_getElem?_getD,List.getElem?_eq_getElem hs,List.getElem?_eq_getElem (show s<τ.length by omega),Option.getD_some] at this
  rw [List.getElem?_eq_getElem hs,List.getElem?_eq_getElem (by omega),this]
 ·rw [List.getElem?_eq_none (by omega),List.getElem?_eq_none (by omega)]
theorem qiX:(l:List qeY)→(i:Nat)→(σ:St)→qcf (fun _=>false) i l σ=σ
 |[],_,_=>rfl
 |f::r,i,σ=>by simp only [qcf,Bool.false_eq_true,if_false]; exact qiX r (i+1) σ
theorem qdm:(l:List qeY)→(i m:Nat)→(σ:St)→qcf (fun k=>decide (k<i+m)) i l σ=qex (l.take m) σ
 |[],i,m,σ=>by simp [qcf,qex]
 |f::r,i,0,σ=>by
  have:qcf (fun k=>decide (k<i+0)) i (f::r) σ=qcf (fun _=>false) i (f::r) σ:=by
   apply qnY
   ·rw [qbD,qbD]
   ·intro s
    exact qdl _ _ rfl rfl fun k f _ _=>by simp
  rw [this,qiX]
  rfl
 |f::r,i,m+1,σ=>by
  simp only [qcf]
  rw [if_pos (by simp)]
  have:=qdm r (i+1) m (qr σ f.us)
  rw [show i+1+m=i+(m+1) by omega] at this
  rw [this]
  rfl
theorem Q.run_congr {α:Type} {lk lk':Nat→Ent} :(q:Q α)→(∀s∈q.log lk,lk' s=lk s)→q.run lk'=q.run lk
 | .ret _,_=>rfl
 | .fail,_=>rfl
 | .get s k,h=>by
  have h0:=h s List.mem_cons_self
  simp only [Q.run,h0]
  exact Q.run_congr (k (lk s)) fun s' hs'=>h s' (List.mem_cons_of_mem _ hs')
def qrQ (E:Env) (ops:Array Oper) (σ:St) (l:List Oper) (fl:List qeY) (c:List Bool):Prop:=
 fl.length=l.length∧∀k o ft,l[k]? =some o→fl[k]? =some ft→∃g f,qf6 ops o=some g∧(qis E g o).run (qt (qex (fl.take k) σ))=some f∧ft= { rd:=(qis E g o).log (qt (qex (fl.take k) σ)),us:=f.upd } ∧(∀u∈f.upd,u.s<σ.length)∧∀b∈f.chk,b∈c
theorem qkJ {E:Env} {wr:List Nat} {ops:Array Oper} :(l:List Oper)→ {σ σ':St} → {c c':List Bool} → {fs fs':List qeY} →qdv E wr ops l σ c fs=some (σ',c',fs')→
  ∃fl,fs'=fl.reverse++fs∧qrQ E ops σ l fl c'∧σ'=qex fl σ∧∀b∈c,b∈c'
 |[],σ,σ',c,c',fs,fs',he=>by
  simp only [qdv,Option.some.injEq,Prod.mk.injEq] at he
  obtain ⟨rfl,rfl,rfl⟩:=he
  exact ⟨[],rfl,⟨rfl,fun k o ft h=>by simp at h⟩,rfl,fun b h=>h⟩
 |o::r,σ,σ',c,c',fs,fs',he=>by
  simp only [qdv] at he
  split at he
  ·cases he
  rename_i g hg
  split at he
  ·cases he
  rename_i f hf
  split at he
  case isFalse=>cases he
  rename_i hu
  obtain ⟨fl,h1,⟨h2,h3⟩,h4,h5⟩:=qkJ r he
  refine ⟨{ rd:=(qis E g o).log (qt σ),us:=f.upd } ::fl,by rw [h1]; simp,⟨by simp [h2],fun k o' ft hk hft=> ?_⟩,by rw [h4]; rfl,fun b hb=>h5 b (List.mem_append_left _ hb)⟩
  cases k with
  |zero=>
   simp at hk hft
   subst hk; subst hft
   refine ⟨g,f,hg,hf,rfl,fun u hm=> ?_,fun b hb=>h5 b (List.mem_append_right _ hb)⟩
   have:=List.all_eq_true.1 hu u hm
   simp at this
   exact this.2
  |succ k=>
   obtain ⟨g',f',k1,k2,k3,k4,k5⟩:=h3 k o' ft (by simpa using hk) (by simpa using hft)
   exact ⟨g',f',k1,k2,k3,fun u hm=>by have:=k4 u hm; rwa [qF] at this,k5⟩
theorem qkA {ms:List Nat} {j:Nat} :(es:List Nat)→(m:Nat)→(es.foldl (fun m j=>m|||(1 <<< j)|||ms.getD j 0) m).testBit j=true→m.testBit j=true∨j∈es∨∃k∈es,(ms.getD k 0).testBit j=true
 |[],m,h=> .inl h
 |e::es,m,h=>by
  rcases qkA es _ h with h|h|⟨k,hk,h⟩
  ·simp only [Nat.testBit_or,Bool.or_eq_true] at h
   rcases h with (h|h)|h
   ·exact .inl h
   ·refine .inr (.inl ?_)
    rw [Nat.one_shiftLeft,Nat.testBit_two_pow] at h
    have:e=j:=by simpa using h
    rw [this]
    exact List.mem_cons_self
   ·exact .inr (.inr ⟨e,List.mem_cons_self,h⟩)
  ·exact .inr (.inl (List.mem_cons_of_mem _ h))
  ·exact .inr (.inr ⟨k,List.mem_cons_of_mem _ hk,h⟩)
theorem qm5 {m:Nat} {f:qeY} :(l:List qeY)→(j:Nat)→qnq m f j l=true→∀k g,l[k]? =some g→m.testBit (j+k)=true∨qe6 f g=true
 |[],_,_,k,g,h=>by simp at h
 |x::r,j,hp,k,g,h=>by
  simp only [qnq,Bool.and_eq_true,Bool.or_eq_true] at hp
  cases k with
  |zero=>simp at h; subst h; exact hp.1
  |succ k=>
   have:=qm5 r (j+1) hp.2 k g (by simpa using h)
   rwa [show j+1+k=j+(k+1) by omega] at this
theorem qoV:(os:List Oper)→(fs:List qeY)→(ms:List Nat)→(done:List qeY)→ms.length=done.length→qiw os fs ms done=true→
  ∃M:List Nat,M.length=os.length∧fs.length=os.length∧∀k o f,os[k]? =some o→fs[k]? =some f→(∀j∈qb0 o,j<ms.length+k)∧(ms++M).getD (ms.length+k) 0=qhP ((ms++M).take (ms.length+k)) (qb0 o)∧
   ∀j g,j<ms.length+k→(done++fs)[j]? =some g→((ms++M).getD (ms.length+k) 0).testBit j=true∨qe6 f g=true
 |[],[],_,_,_,_=>⟨[],rfl,rfl,fun k o f h=>by simp at h⟩
 |o::os,f::fs,ms,done,hl,h=>by
  simp only [qiw,Bool.and_eq_true] at h
  obtain ⟨h1,h2,h3⟩:=h
  obtain ⟨M,k1,k2,k3⟩:=qoV os fs _ _ (by simp [hl]) h3
  refine ⟨qhP ms (qb0 o)::M,by simp [k1],by simp [k2],fun k o' f' ho hf=> ?_⟩
  have e1:ms++qhP ms (qb0 o)::M=(ms++[qhP ms (qb0 o)])++M:=by simp
  have e2:done++f::fs=(done++[f])++fs:=by simp
  cases k with
  |zero=>
   simp at ho hf
   subst ho; subst hf
   refine ⟨fun j hj=>by have:=List.all_eq_true.1 h1 j hj; simpa using this,?_,fun j g hj hg=> ?_⟩
   ·rw [Nat.add_zero,List.take_left' rfl]
    simp [List.getD]
   ·rw [Nat.add_zero] at hj⊢
    have hg':done[j]? =some g:=by rwa [List.getElem?_append_left (by omega)] at hg
    have:=qm5 done 0 h2 j g hg'
    rw [Nat.zero_add] at this
    have e:(ms++qhP ms (qb0 o)::M).getD ms.length 0=qhP ms (qb0 o):=by simp [List.getD]
    rw [e]
    exact this
  |succ k=>
   obtain ⟨q1,q2,q3⟩:=k3 k o' f' (by simpa using ho) (by simpa using hf)
   have e3:(ms++[qhP ms (qb0 o)]).length+k=ms.length+(k+1):=by simp; omega
   rw [e3] at q1 q2 q3
   rw [e1,e2]
   exact ⟨q1,q2,q3⟩
 |[],_::_,_,_,_,h=>by cases h
 |_::_,[],_,_,_,h=>by cases h
def ql4 (ops:Array Oper) (S:Nat→Bool):Prop:=∀i o,ops[i]? =some o→S i=true→∀j∈qb0 o,S j=true
theorem qm6 {ops:Array Oper} {fl:List qeY} (h:qiw ops.toList fl [] []=true):fl.length=ops.size∧∃M:List Nat,∀k o f,ops[k]? =some o→fl[k]? =some f→(∀j∈qb0 o,j<k)∧M.getD k 0=qhP (M.take k) (qb0 o)∧∀j g,j<k→fl[j]? =some g→(M.getD k 0).testBit j=true∨qe6 f g=true:=by
 obtain ⟨M,h1,h2,h3⟩:=qoV ops.toList fl [] [] rfl h
 refine ⟨by simpa using h2,M,fun k o f ho hf=> ?_⟩
 have:=h3 k o f (by simpa using ho) hf
 simpa using this
theorem qiD {ops:Array Oper} {fl:List qeY} {M:List Nat} (hlen:fl.length=ops.size) (hM:∀k o f,ops[k]? =some o→fl[k]? =some f→(∀j∈qb0 o,j<k)∧M.getD k 0=qhP (M.take k) (qb0 o)∧∀j g,j<k→fl[j]? =some g→(M.getD k 0).testBit j=true∨qe6 f g=true)
  {S:Nat→Bool} (hS:ql4 ops S):∀(n k:Nat) (o:Oper),k<n→ops[k]? =some o→(∀j∈qb0 o,S j=true)→∀j,(M.getD k 0).testBit j=true→S j=true
 |0,k,o,h,_,_,_,_=>by omega
 |n+1,k,o,hk,ho,he,j,hj=>by
  have hks:k<ops.size:=(Array.getElem?_eq_some_iff.1 ho).1
  obtain ⟨q1,q2,_⟩:=hM k o _ ho (List.getElem?_eq_getElem (by omega))
  rw [q2] at hj
  rcases qkA _ _ hj with h|h|⟨k',hk',h⟩
  ·simp at h
  ·exact he j h
  ·have hlt:=q1 k' hk'
   have ho':ops[k']? =some ops[k']:=Array.getElem?_eq_getElem (by omega)
   have e:(M.take k).getD k' 0=M.getD k' 0:=by
    simp only [List.getD_eq_getElem?_getD,List.getElem?_take,if_pos hlt]
   rw [e] at h
   exact qiD hlen hM hS n k' _ (by omega) ho' (hS k' _ ho' (he k' hk')) j h
theorem qqF {f g:qeY} (h:qe6 f g=true) {s:Nat} :(s∈f.wr→s∉g.rd∧s∉g.wr)∧(s∈g.wr→s∉f.rd):=by
 simp only [qe6,Bool.and_eq_true] at h
 have h1:=qfB h.1
 have h2:=qfB h.2
 exact ⟨fun hs=>⟨fun hr=>h1 s hs (List.mem_append_left _ hr),fun hw=>h1 s hs (List.mem_append_right _ hw)⟩,fun hs=>h2 s hs⟩
theorem qoP {ops:Array Oper} {fl:List qeY} (h:qiw ops.toList fl [] []=true) {S:Nat→Bool} (hS:ql4 ops S) {i:Nat} {o:Oper} {f:qeY} (ho:ops[i]? =some o) (hf:fl[i]? =some f) (hn:S i=false) (he:∀j∈qb0 o,S j=true)
  {s:Nat} (hs:s∈f.rd∨s∈f.wr):∀j g,fl[j]? =some g→s∈g.wr→S j=decide (j<i):=by
 obtain ⟨hlen,M,hM⟩:=qm6 h
 intro j g hg hw
 have hjs:j<ops.size:=by
  have:=(List.getElem?_eq_some_iff.1 hg).1
  omega
 have hoj:ops[j]? =some ops[j]:=Array.getElem?_eq_getElem hjs
 rcases Nat.lt_trichotomy j i with hlt|heq|hgt
 ·rw [decide_eq_true hlt]
  cases hSj:S j with
  |true=>rfl
  |false=>
   rcases (hM i o f ho hf).2.2 j g hlt hg with hb|hb
   ·have:=qiD hlen hM hS (i+1) i o (by omega) ho he j hb
    rw [hSj] at this
    cases this
   ·obtain ⟨n1,n2⟩:=qqF hb (s:=s)
    rcases hs with hs|hs
    ·exact absurd hs (n2 hw)
    ·exact absurd hw (n1 hs).2
 ·subst heq
  rw [hn]
  simp
 ·rw [decide_eq_false (by omega)]
  cases hSj:S j with
  |false=>rfl
  |true=>
   rcases (hM j _ g hoj hg).2.2 i f hgt hf with hb|hb
   ·have:=qiD hlen hM hS (j+1) j _ (by omega) hoj (hS j _ hoj hSj) i hb
    rw [hn] at this
    cases this
   ·obtain ⟨n1,n2⟩:=qqF hb (s:=s)
    rcases hs with hs|hs
    ·exact absurd hs (n1 hw).1
    ·exact absurd hs (n1 hw).2
theorem qm7 {ops:Array Oper} {fl:List qeY} {σ:St} (h:qiw ops.toList fl [] []=true) {S:Nat→Bool} (hS:ql4 ops S) {i:Nat} {o:Oper} {f:qeY} (ho:ops[i]? =some o) (hf:fl[i]? =some f) (hn:S i=false) (he:∀j∈qb0 o,S j=true)
  {s:Nat} (hs:s∈f.rd∨s∈f.wr):qt (qcf S 0 fl σ) s=qt (qex (fl.take i) σ) s:=by
 have hb:=qdm fl 0 i σ
 rw [Nat.zero_add] at hb
 rw [←hb]
 exact qdl fl 0 rfl rfl fun k g hg hw=>by
  rw [Nat.zero_add]
  exact qoP h hS ho hf hn he hs k g hg hw
theorem qpO {fl:List qeY} {i:Nat} {f:qeY} (hf:fl[i]? =some f) (σ:St):qex (fl.take (i+1)) σ=qr (qex (fl.take i) σ) f.us:=by
 rw [List.take_add_one,hf]
 simp [qex,List.foldl_append]
theorem qpT {ops:Array Oper} {fl:List qeY} {σ:St} (h:qiw ops.toList fl [] []=true) {S S':Nat→Bool} (hS:ql4 ops S) {i:Nat} {o:Oper} {f:qeY} (ho:ops[i]? =some o) (hf:fl[i]? =some f) (hn:S i=false) (he:∀j∈qb0 o,S j=true)
  (hS1:S' i=true) (hS2:∀j,j≠i→S' j=S j):qcf S' 0 fl σ=qr (qcf S 0 fl σ) f.us:=by
 apply qnY
 ·rw [qF,qbD,qbD]
 ·intro s
  by_cases hs:s∈f.wr
  ·have h1:qt (qcf S' 0 fl σ) s=qt (qex (fl.take (i+1)) σ) s:=by
    have hb:=qdm fl 0 (i+1) σ
    rw [Nat.zero_add] at hb
    rw [←hb]
    refine qdl fl 0 rfl rfl fun k g hg hw=> ?_
    rw [Nat.zero_add]
    by_cases hk:k=i
    ·subst hk
     rw [hS1]
     simp
    ·rw [hS2 k hk,qoP h hS ho hf hn he (.inr hs) k g hg hw]
     by_cases hlt:k<i
     ·rw [decide_eq_true hlt,decide_eq_true (by omega)]
     ·rw [decide_eq_false hlt,decide_eq_false (by omega)]
   rw [h1,qpO hf]
   refine (qgZ _ ?_ (qm7 h hS ho hf hn he (.inr hs))).symm
   rw [qbD]
   have hb:=qdm fl 0 i σ
   rw [←hb,qbD]
  ·rw [qgP _ hs]
   refine qdl fl 0 rfl rfl fun k g hg hw=> ?_
   rw [Nat.zero_add]
   refine hS2 k fun e=> ?_
   subst e
   rw [hf] at hg
   injection hg with hg
   subst hg
   exact hs hw
theorem qip {ops:Array Oper} {listed:Array Bool} {i:Nat} (h:i∈Region.ready .any ops listed):i<ops.size∧listed.getD i true=false∧∃o,ops[i]? =some o∧∀j∈qb0 o,listed.getD j false=true:=by
 simp only [Region.ready,List.mem_filter,List.mem_range,Bool.and_eq_true,Bool.not_eq_true'] at h
 obtain ⟨h1,h2,h3⟩:=h
 have ho:ops[i]? =some ops[i]:=Array.getElem?_eq_getElem h1
 refine ⟨h1,h2,_,ho,fun j hj=> ?_⟩
 rw [ho] at h3
 simp only [Option.map_some,Option.getD_some] at h3
 rw [←Array.all_toList,List.all_eq_true] at h3
 simp only [qb0,List.mem_map,List.mem_filter] at hj
 obtain ⟨e,⟨he,hb⟩,rfl⟩:=hj
 have:=h3 e he
 rw [hb] at this
 simpa using this
theorem qmr {ops:Array Oper} {listed:Array Bool} {i:Nat} {o:Oper} (ho:ops[i]? =some o) (hl:listed.getD i true=false) (he:∀j∈qb0 o,listed.getD j false=true):i∈Region.ready .any ops listed:=by
 simp only [Region.ready,List.mem_filter,List.mem_range,Bool.and_eq_true,Bool.not_eq_true']
 refine ⟨(Array.getElem?_eq_some_iff.1 ho).1,hl,?_⟩
 rw [ho]
 simp only [Option.map_some,Option.getD_some]
 rw [←Array.all_toList,List.all_eq_true]
 intro e hm
 by_cases hb:Region.binds .any e=true
 ·rw [he e.on (List.mem_map.2 ⟨e,List.mem_filter.2 ⟨hm,hb⟩,rfl⟩)]
  simp
 ·simp [hb]
theorem qpd (S:Nat→Bool):(l l':List qeY)→l.map (·.us)=l'.map (·.us)→∀i σ,qcf S i l σ=qcf S i l' σ
 |[],[],_,_,_=>rfl
 |[],_::_,h,_,_=>by cases h
 |_::_,[],h,_,_=>by cases h
 |f::l,f'::l',h,i,σ=>by
  simp only [List.map_cons,List.cons.injEq] at h
  simp only [qcf,h.1]
  exact qpd S l l' h.2 _ _
theorem ql6:(l l':List qeY)→l.map (·.us)=l'.map (·.us)→∀σ,qex l σ=qex l' σ
 |[],[],_,_=>rfl
 |[],_::_,h,_=>by cases h
 |_::_,[],h,_=>by cases h
 |f::l,f'::l',h,σ=>by
  simp only [List.map_cons,List.cons.injEq] at h
  simp only [qex,List.foldl_cons,h.1]
  exact ql6 l l' h.2 _
theorem qoe (σ:St) (fl:List qeY):(os:List Oper)→(fs:List qeY)→fs.length=os.length→(qi9 σ fl os fs).map (·.us)=fs.map (·.us)
 |[],[],_=>rfl
 |[],_::_,h=>by cases h
 |_::_,[],h=>by cases h
 |o::os,f::fs,h=>by
  simp only [qi9,List.map_cons,qoe σ fl os fs (by simpa using h)]
  congr 1
  split
  ·split <;> rfl
  ·rfl
theorem qo8 (σ:St) (fl:List qeY):(os:List Oper)→(fs:List qeY)→fs.length=os.length→∀(i:Nat) (o:Oper) (f f':qeY),os[i]? =some o→fs[i]? =some f→(qi9 σ fl os fs)[i]? =some f'→f'.rd=f.rd∨∃s,qiY o=some s∧qqJ σ fl s=true
 |[],_,_,i,o,f,f',h,_,_=>by simp at h
 |_::_,[],h,_,_,_,_,_,_,_=>by cases h
 |o'::os,f0::fs,h,i,o,f,f',h1,h2,h3=>by
  cases i with
  |zero=>
   simp only [qi9,List.getElem?_cons_zero,Option.some.injEq] at h1 h2 h3
   subst h1; subst h2; subst h3
   split
   ·rename_i s hs
    split
    ·rename_i hq
     exact .inr ⟨s,hs,hq⟩
    ·exact .inl rfl
   ·exact .inl rfl
  |succ i=>
   simp only [qi9,List.getElem?_cons_succ] at h1 h2 h3
   exact qo8 σ fl os fs (by simpa using h) i o f f' h1 h2 h3
theorem qkK {s:Nat} :(us:List U)→ {σ:St} →qgp (qt σ s).2=true→us.all (fun u=>u.s != s||(!u.bump&&qgp u.a))=true→(qt (qr σ us) s).1=(qt σ s).1∧qgp (qt (qr σ us) s).2=true
 |[],_,h,_=>⟨rfl,h⟩
 |u::us,σ,h,hu=>by
  simp only [List.all_cons,Bool.and_eq_true] at hu
  have key:(qt (qR σ u) s).1=(qt σ s).1∧qgp (qt (qR σ u) s).2=true:=by
   by_cases hs:s=u.s
   ·by_cases hlt:u.s<σ.length
    ·have h1:=hu.1
     simp only [hs,bne_self_eq_false,Bool.false_or,Bool.and_eq_true,Bool.not_eq_true'] at h1
     rw [hs,qM σ u hlt,h1.1]
     exact ⟨rfl,h1.2⟩
    ·have e1:qR σ u=σ:=by simp only [qR]; exact List.set_eq_of_length_le (by omega)
     rw [e1]
     exact ⟨rfl,h⟩
   ·rw [qv _ _ hs]
    exact ⟨rfl,h⟩
  obtain ⟨k1,k2⟩:=qkK us (σ:=qR σ u) key.2 hu.2
  exact ⟨k1.trans key.1,k2⟩
theorem qgU {S:Nat→Bool} {s:Nat} :(l:List qeY)→(i:Nat)→ {σ:St} →qgp (qt σ s).2=true→l.all (fun f=>f.us.all (fun u=>u.s != s||(!u.bump&&qgp u.a)))=true→(qt (qcf S i l σ) s).1=(qt σ s).1∧qgp (qt (qcf S i l σ) s).2=true
 |[],_,_,h,_=>⟨rfl,h⟩
 |f::l,i,σ,h,hl=>by
  simp only [List.all_cons,Bool.and_eq_true] at hl
  simp only [qcf]
  split
  ·obtain ⟨k1,k2⟩:=qkK f.us h hl.1
   obtain ⟨k3,k4⟩:=qgU l (i+1) k2 hl.2
   exact ⟨k3.trans k1,k4⟩
  ·exact qgU l (i+1) h hl.2
theorem qto {E:Env} {o:Oper} {s:Nat} (ho:qiY o=some s) {lk lk':Nat→Ent} (h1:qgp (lk s).2=true) (h2:qgp (lk' s).2=true) (h3:(lk' s).1=(lk s).1):(qis E none o).run lk'=(qis E none o).run lk:=by
 unfold qiY at ho
 split at ho
 case h_2=>cases ho
 rename_i s' hg hop
 injection ho with ho
 subst ho
 cases ha:lk s' with
 |mk v a=>
  cases ha':lk' s' with
  |mk v' a'=>
   rw [ha] at h1 h3
   rw [ha'] at h2 h3
   simp only at h1 h2 h3
   subst h3
   cases a <;> simp only [qgp,Bool.false_eq_true] at h1
   cases a' <;> simp only [qgp,Bool.false_eq_true] at h2
   simp only [qis,qee,hop,opd,Q.bind,Q.run,ha,ha',qbM,qsW,Bool.false_eq_true,if_false,okE]
   unfold qnO
   split
   ·rfl
   ·have e:∀d,((qbV o (.ref s' v')).any (qqC d))=false:=fun d=>by unfold qbV; split <;> simp [qqC]
    simp only [e,Bool.false_eq_true,if_false,Q.run]
theorem qs3 {ops:Array Oper} {o:Oper} {s:Nat} {g:Option (Nat×Bool)} (ho:qiY o=some s) (hg:qf6 ops o=some g):g=none:=by
 unfold qiY at ho
 split at ho
 case h_2=>cases ho
 rename_i s' hgd hop
 unfold qf6 at hg
 rw [hgd] at hg
 injection hg with hg
 exact hg.symm
theorem qag.drew {C:Ctx} {σ:St} {tm:Array Value} {w:World} {own:Nat→List Nat} (h:qag C σ tm w own):qag C σ tm w.drew own:=
 ⟨h.size,h.kept.drew,h.mine,h.nodup,h.apart,h.outside,fun s hs=>qaF.keep (X:= { P:=C.P,ver:=fun s=>(qt σ s).1,tm:=fun s=>tm.getD s undef,w,F:=C.free w own,own,pn:=C.pn }) (X':= { P:=C.P,ver:=fun s=>(qt σ s).1,tm:=fun s=>tm.getD s undef,w:=w.drew,F:=C.free w.drew own,own,pn:=C.pn }) ⟨rfl,rfl⟩ (fun b hb hlt=>⟨hb,hlt,rfl⟩) (fun _ _ _=>rfl) (fun m hm hv=>⟨hv,rfl,fun b hb hp=>⟨hb,rfl⟩⟩) (h.rep s hs),h.wf⟩
end Go.Vi
