import Derived.Test.YtpdhkfofjpankaaGreatDoorViXC
import Derived.Orders
import Derived.Test.YtpdhkfofjpankaaGreatDoorViXB
import Derived.Test.YtpdhkfofjpankaaGreatDoorViXA
import Derived.Carry
import Derived.OpenShut
import Derived.ChangeSame
import Derived.WideShapes
import Derived.Lib.Bytealg
import Derived.Lib.LaidTab
import Derived.Lib.ItoaNum
import Derived.Lib.ItoaLen
import Derived.Lib.AtoiAllCases
import Derived.Lib.ParseIntBTie
import Derived.Lib.AtoiErrMem
import Derived.Lib.AppendIntMem
set_option linter.unusedVariables false
set_option linter.unusedSimpArgs false
set_option linter.unnecessarySimpa false
set_option linter.unusedSectionVars false
namespace Go.Vi
open Go.RowKit
def qb4 (S:Nat→Bool):Nat→List qd0→St→St
 |_,[],σ=>σ
 |i,f::r,σ=>qb4 S (i+1) r (if S i then qf σ f.us else σ)
def qdT (l:List qd0) (σ:St):St:=l.foldl (fun σ f=>qf σ f.us) σ
theorem qbC (S:Nat→Bool):(l:List qd0)→(i:Nat)→(σ:St)→(qb4 S i l σ).length=σ.length
 |[],_,_=>rfl
 |f::r,i,σ=>by
  simp only [qb4]
  rw [qbC S r]
  split
  ·rw [qE]
  ·rfl
theorem qnp {σ τ:St} {u:U} {s:Nat} (hl:σ.length=τ.length) (h:qi σ s=qi τ s):qi (qI σ u) s=qi (qI τ u) s:=by
 by_cases hs:s=u.s
 ·subst hs
  by_cases hlt:u.s<σ.length
  ·rw [qG σ u hlt,qG τ u (by omega),h]
  ·have e1:qI σ u=σ:=by simp only [qI]; exact List.set_eq_of_length_le (by omega)
   have e2:qI τ u=τ:=by simp only [qI]; exact List.set_eq_of_length_le (by omega)
   rw [e1,e2,h]
 ·rw [qp _ _ hs,qp _ _ hs,h]
theorem qf7:(us:List U)→ {σ τ:St} → {s:Nat} →σ.length=τ.length→qi σ s=qi τ s→qi (qf σ us) s=qi (qf τ us) s
 |[],_,_,_,_,h=>h
 |u::us,σ,τ,s,hl,h=>qf7 us (σ:=qI σ u) (τ:=qI τ u) (by rw [qV,qV,hl]) (qnp hl h)
theorem qfY:(us:List U)→ {σ:St} → {s:Nat} →s∉us.map (·.s)→qi (qf σ us) s=qi σ s
 |[],_,_,_=>rfl
 |u::us,σ,s,h=>by
  simp only [List.map_cons,List.mem_cons,not_or] at h
  exact (qfY us (σ:=qI σ u) h.2).trans (qp _ _ h.1)
theorem qc6 {S S':Nat→Bool} {s:Nat} :(l:List qd0)→(i:Nat)→ {σ τ:St} →σ.length=τ.length→qi σ s=qi τ s→(∀k f,l[k]? =some f→s∈f.wr→S (i+k)=S' (i+k))→qi (qb4 S i l σ) s=qi (qb4 S' i l τ) s
 |[],_,_,_,_,h,_=>h
 |f::r,i,σ,τ,hl,h,hS=>by
  simp only [qb4]
  refine qc6 r (i+1) ?_ ?_ fun k f' hk hs=>by
   have:=hS (k+1) f' (by simpa using hk) hs
   rwa [show i+(k+1)=i+1+k by omega] at this
  ·split <;> split <;> simp only [qE,hl]
  ·by_cases hs:s∈f.wr
   ·have:=hS 0 f rfl hs
    rw [Nat.add_zero] at this
    rw [←this]
    split
    ·exact qf7 _ hl h
    ·exact h
   ·have n1:∀ρ:St,qi (qf ρ f.us) s=qi ρ s:=fun ρ=>qfY f.us hs
    split <;> split <;> simp only [n1,h]
theorem qmh {σ τ:St} (hl:σ.length=τ.length) (h:∀s,qi σ s=qi τ s):σ=τ:=by
 apply List.ext_getElem?
 intro s
 by_cases hs:s<σ.length
 ·have:=h s
  simp only [qi,List.getD_eq_getElem?_getD,List.getElem?_eq_getElem hs,List.getElem?_eq_getElem (show s<τ.length by omega),Option.getD_some] at this
  rw [List.getElem?_eq_getElem hs,List.getElem?_eq_getElem (by omega),this]
 ·rw [List.getElem?_eq_none (by omega),List.getElem?_eq_none (by omega)]
theorem qhZ:(l:List qd0)→(i:Nat)→(σ:St)→qb4 (fun _=>false) i l σ=σ
 |[],_,_=>rfl
 |f::r,i,σ=>by simp only [qb4,Bool.false_eq_true,if_false]; exact qhZ r (i+1) σ
theorem qcE:(l:List qd0)→(i m:Nat)→(σ:St)→qb4 (fun k=>decide (k<i+m)) i l σ=qdT (l.take m) σ
 |[],i,m,σ=>by simp [qb4,qdT]
 |f::r,i,0,σ=>by
  have:qb4 (fun k=>decide (k<i+0)) i (f::r) σ=qb4 (fun _=>false) i (f::r) σ:=by
   apply qmh
   ·rw [qbC,qbC]
   ·intro s
    exact qc6 _ _ rfl rfl fun k f _ _=>by simp
  rw [this,qhZ]
  rfl
 |f::r,i,m+1,σ=>by
  simp only [qb4]
  rw [if_pos (by simp)]
  have:=qcE r (i+1) m (qf σ f.us)
  rw [show i+1+m=i+(m+1) by omega] at this
  rw [this]
  rfl
theorem Q.run_congr {α:Type} {lk lk':Nat→Ent} :(q:Q α)→(∀s∈q.log lk,lk' s=lk s)→q.run lk'=q.run lk
 | .ret _,_=>rfl
 | .fail,_=>rfl
 | .get s k,h=>by
  have h0:=h s List.mem_cons_self
  simp only [Q.run,h0]
  exact Q.run_congr (k (lk s)) fun s' hs'=>h s' (List.mem_cons_of_mem _ hs')
def qqI (E:Env) (ops:Array Oper) (σ:St) (l:List Oper) (fl:List qd0) (c:List Bool):Prop:=
 fl.length=l.length∧∀k o ft,l[k]? =some o→fl[k]? =some ft→∃g f,qfv ops o=some g∧(qfE E g o).run (qi (qdT (fl.take k) σ))=some f∧ft= { rd:=(qfE E g o).log (qi (qdT (fl.take k) σ)),us:=f.upd } ∧(∀u∈f.upd,u.s<σ.length)∧∀b∈f.chk,b∈c
theorem qjo {E:Env} {wr:List Nat} {ops:Array Oper} :(l:List Oper)→ {σ σ':St} → {c c':List Bool} → {fs fs':List qd0} →qdk E wr ops l σ c fs=some (σ',c',fs')→
  ∃fl,fs'=fl.reverse++fs∧qqI E ops σ l fl c'∧σ'=qdT fl σ∧∀b∈c,b∈c'
 |[],σ,σ',c,c',fs,fs',he=>by
  simp only [qdk,Option.some.injEq,Prod.mk.injEq] at he
  obtain ⟨rfl,rfl,rfl⟩:=he
  exact ⟨[],rfl,⟨rfl,fun k o ft h=>by simp at h⟩,rfl,fun b h=>h⟩
 |o::r,σ,σ',c,c',fs,fs',he=>by
  simp only [qdk] at he
  split at he
  ·cases he
  rename_i g hg
  split at he
  ·cases he
  rename_i f hf
  split at he
  case isFalse=>cases he
  rename_i hu
  obtain ⟨fl,h1,⟨h2,h3⟩,h4,h5⟩:=qjo r he
  refine ⟨{ rd:=(qfE E g o).log (qi σ),us:=f.upd } ::fl,by rw [h1]; simp,⟨by simp [h2],fun k o' ft hk hft=> ?_⟩,by rw [h4]; rfl,fun b hb=>h5 b (List.mem_append_left _ hb)⟩
  cases k with
  |zero=>
   simp at hk hft
   subst hk; subst hft
   refine ⟨g,f,hg,hf,rfl,fun u hm=> ?_,fun b hb=>h5 b (List.mem_append_right _ hb)⟩
   have:=List.all_eq_true.1 hu u hm
   simp at this
   exact this.2
  |succ k=>
   obtain ⟨g',f',k1,k2,k3,k4,k5⟩:=h3 k o' ft (by simpa using hk) (by simpa using hft)
   exact ⟨g',f',k1,k2,k3,fun u hm=>by have:=k4 u hm; rwa [qE] at this,k5⟩
theorem qjw {ms:List Nat} {j:Nat} :(es:List Nat)→(m:Nat)→(es.foldl (fun m j=>m|||(1 <<< j)|||ms.getD j 0) m).testBit j=true→m.testBit j=true∨j∈es∨∃k∈es,(ms.getD k 0).testBit j=true
 |[],m,h=> .inl h
 |e::es,m,h=>by
  rcases qjw es _ h with h|h|⟨k,hk,h⟩
  ·simp only [Nat.testBit_or,Bool.or_eq_true] at h
   rcases h with (h|h)|h
   ·exact .inl h
   ·refine .inr (.inl ?_)
    rw [Nat.one_shiftLeft,Nat.testBit_two_pow] at h
    have:e=j:=by simpa using h
    rw [this]
    exact List.mem_cons_self
   ·exact .inr (.inr ⟨e,List.mem_cons_self,h⟩)
  ·exact .inr (.inl (List.mem_cons_of_mem _ h))
  ·exact .inr (.inr ⟨k,List.mem_cons_of_mem _ hk,h⟩)
theorem qlL {m:Nat} {f:qd0} :(l:List qd0)→(j:Nat)→qmt m f j l=true→∀k g,l[k]? =some g→m.testBit (j+k)=true∨qev f g=true
 |[],_,_,k,g,h=>by simp at h
 |x::r,j,hp,k,g,h=>by
  simp only [qmt,Bool.and_eq_true,Bool.or_eq_true] at hp
  cases k with
  |zero=>simp at h; subst h; exact hp.1
  |succ k=>
   have:=qlL r (j+1) hp.2 k g (by simpa using h)
   rwa [show j+1+k=j+(k+1) by omega] at this
theorem qnk:(os:List Oper)→(fs:List qd0)→(ms:List Nat)→(done:List qd0)→ms.length=done.length→qhy os fs ms done=true→
  ∃M:List Nat,M.length=os.length∧fs.length=os.length∧∀k o f,os[k]? =some o→fs[k]? =some f→(∀j∈qbW o,j<ms.length+k)∧(ms++M).getD (ms.length+k) 0=qgy ((ms++M).take (ms.length+k)) (qbW o)∧
   ∀j g,j<ms.length+k→(done++fs)[j]? =some g→((ms++M).getD (ms.length+k) 0).testBit j=true∨qev f g=true
 |[],[],_,_,_,_=>⟨[],rfl,rfl,fun k o f h=>by simp at h⟩
 |o::os,f::fs,ms,done,hl,h=>by
  simp only [qhy,Bool.and_eq_true] at h
  obtain ⟨h1,h2,h3⟩:=h
  obtain ⟨M,k1,k2,k3⟩:=qnk os fs _ _ (by simp [hl]) h3
  refine ⟨qgy ms (qbW o)::M,by simp [k1],by simp [k2],fun k o' f' ho hf=> ?_⟩
  have e1:ms++qgy ms (qbW o)::M=(ms++[qgy ms (qbW o)])++M:=by simp
  have e2:done++f::fs=(done++[f])++fs:=by simp
  cases k with
  |zero=>
   simp at ho hf
   subst ho; subst hf
   refine ⟨fun j hj=>by have:=List.all_eq_true.1 h1 j hj; simpa using this,?_,fun j g hj hg=> ?_⟩
   ·rw [Nat.add_zero,List.take_left' rfl]
    simp [List.getD]
   ·rw [Nat.add_zero] at hj⊢
    have hg':done[j]? =some g:=by rwa [List.getElem?_append_left (by omega)] at hg
    have:=qlL done 0 h2 j g hg'
    rw [Nat.zero_add] at this
    have e:(ms++qgy ms (qbW o)::M).getD ms.length 0=qgy ms (qbW o):=by simp [List.getD]
    rw [e]
    exact this
  |succ k=>
   obtain ⟨q1,q2,q3⟩:=k3 k o' f' (by simpa using ho) (by simpa using hf)
   have e3:(ms++[qgy ms (qbW o)]).length+k=ms.length+(k+1):=by simp; omega
   rw [e3] at q1 q2 q3
   rw [e1,e2]
   exact ⟨q1,q2,q3⟩
 |[],_::_,_,_,_,h=>by cases h
 |_::_,[],_,_,_,h=>by cases h
def qj5 (ops:Array Oper) (S:Nat→Bool):Prop:=∀i o,ops[i]? =some o→S i=true→∀j∈qbW o,S j=true
theorem qlz {ops:Array Oper} {fl:List qd0} (h:qhy ops.toList fl [] []=true):fl.length=ops.size∧∃M:List Nat,∀k o f,ops[k]? =some o→fl[k]? =some f→(∀j∈qbW o,j<k)∧M.getD k 0=qgy (M.take k) (qbW o)∧∀j g,j<k→fl[j]? =some g→(M.getD k 0).testBit j=true∨qev f g=true:=by
 obtain ⟨M,h1,h2,h3⟩:=qnk ops.toList fl [] [] rfl h
 refine ⟨by simpa using h2,M,fun k o f ho hf=> ?_⟩
 have:=h3 k o f (by simpa using ho) hf
 simpa using this
theorem qh9 {ops:Array Oper} {fl:List qd0} {M:List Nat} (hlen:fl.length=ops.size) (hM:∀k o f,ops[k]? =some o→fl[k]? =some f→(∀j∈qbW o,j<k)∧M.getD k 0=qgy (M.take k) (qbW o)∧∀j g,j<k→fl[j]? =some g→(M.getD k 0).testBit j=true∨qev f g=true)
  {S:Nat→Bool} (hS:qj5 ops S):∀(n k:Nat) (o:Oper),k<n→ops[k]? =some o→(∀j∈qbW o,S j=true)→∀j,(M.getD k 0).testBit j=true→S j=true
 |0,k,o,h,_,_,_,_=>by omega
 |n+1,k,o,hk,ho,he,j,hj=>by
  have hks:k<ops.size:=(Array.getElem?_eq_some_iff.1 ho).1
  obtain ⟨q1,q2,_⟩:=hM k o _ ho (List.getElem?_eq_getElem (by omega))
  rw [q2] at hj
  rcases qjw _ _ hj with h|h|⟨k',hk',h⟩
  ·simp at h
  ·exact he j h
  ·have hlt:=q1 k' hk'
   have ho':ops[k']? =some ops[k']:=Array.getElem?_eq_getElem (by omega)
   have e:(M.take k).getD k' 0=M.getD k' 0:=by
    simp only [List.getD_eq_getElem?_getD,List.getElem?_take,if_pos hlt]
   rw [e] at h
   exact qh9 hlen hM hS n k' _ (by omega) ho' (hS k' _ ho' (he k' hk')) j h
theorem qoJ {f g:qd0} (h:qev f g=true) {s:Nat} :(s∈f.wr→s∉g.rd∧s∉g.wr)∧(s∈g.wr→s∉f.rd):=by
 simp only [qev,Bool.and_eq_true] at h
 have h1:=qeV h.1
 have h2:=qeV h.2
 exact ⟨fun hs=>⟨fun hr=>h1 s hs (List.mem_append_left _ hr),fun hw=>h1 s hs (List.mem_append_right _ hw)⟩,fun hs=>h2 s hs⟩
theorem qnt {ops:Array Oper} {fl:List qd0} (h:qhy ops.toList fl [] []=true) {S:Nat→Bool} (hS:qj5 ops S) {i:Nat} {o:Oper} {f:qd0} (ho:ops[i]? =some o) (hf:fl[i]? =some f) (hn:S i=false) (he:∀j∈qbW o,S j=true)
  {s:Nat} (hs:s∈f.rd∨s∈f.wr):∀j g,fl[j]? =some g→s∈g.wr→S j=decide (j<i):=by
 obtain ⟨hlen,M,hM⟩:=qlz h
 intro j g hg hw
 have hjs:j<ops.size:=by
  have:=(List.getElem?_eq_some_iff.1 hg).1
  omega
 have hoj:ops[j]? =some ops[j]:=Array.getElem?_eq_getElem hjs
 rcases Nat.lt_trichotomy j i with hlt|heq|hgt
 ·rw [decide_eq_true hlt]
  cases hSj:S j with
  |true=>rfl
  |false=>
   rcases (hM i o f ho hf).2.2 j g hlt hg with hb|hb
   ·have:=qh9 hlen hM hS (i+1) i o (by omega) ho he j hb
    rw [hSj] at this
    cases this
   ·obtain ⟨n1,n2⟩:=qoJ hb (s:=s)
    rcases hs with hs|hs
    ·exact absurd hs (n2 hw)
    ·exact absurd hw (n1 hs).2
 ·subst heq
  rw [hn]
  simp
 ·rw [decide_eq_false (by omega)]
  cases hSj:S j with
  |false=>rfl
  |true=>
   rcases (hM j _ g hoj hg).2.2 i f hgt hf with hb|hb
   ·have:=qh9 hlen hM hS (j+1) j _ (by omega) hoj (hS j _ hoj hSj) i hb
    rw [hn] at this
    cases this
   ·obtain ⟨n1,n2⟩:=qoJ hb (s:=s)
    rcases hs with hs|hs
    ·exact absurd hs (n1 hw).1
    ·exact absurd hs (n1 hw).2
theorem qls {ops:Array Oper} {fl:List qd0} {σ:St} (h:qhy ops.toList fl [] []=true) {S:Nat→Bool} (hS:qj5 ops S) {i:Nat} {o:Oper} {f:qd0} (ho:ops[i]? =some o) (hf:fl[i]? =some f) (hn:S i=false) (he:∀j∈qbW o,S j=true)
  {s:Nat} (hs:s∈f.rd∨s∈f.wr):qi (qb4 S 0 fl σ) s=qi (qdT (fl.take i) σ) s:=by
 have hb:=qcE fl 0 i σ
 rw [Nat.zero_add] at hb
 rw [←hb]
 exact qc6 fl 0 rfl rfl fun k g hg hw=>by
  rw [Nat.zero_add]
  exact qnt h hS ho hf hn he hs k g hg hw
theorem qos {fl:List qd0} {i:Nat} {f:qd0} (hf:fl[i]? =some f) (σ:St):qdT (fl.take (i+1)) σ=qf (qdT (fl.take i) σ) f.us:=by
 rw [List.take_add_one,hf]
 simp [qdT,List.foldl_append]
theorem qog {ops:Array Oper} {fl:List qd0} {σ:St} (h:qhy ops.toList fl [] []=true) {S S':Nat→Bool} (hS:qj5 ops S) {i:Nat} {o:Oper} {f:qd0} (ho:ops[i]? =some o) (hf:fl[i]? =some f) (hn:S i=false) (he:∀j∈qbW o,S j=true)
  (hS1:S' i=true) (hS2:∀j,j≠i→S' j=S j):qb4 S' 0 fl σ=qf (qb4 S 0 fl σ) f.us:=by
 apply qmh
 ·rw [qE,qbC,qbC]
 ·intro s
  by_cases hs:s∈f.wr
  ·have h1:qi (qb4 S' 0 fl σ) s=qi (qdT (fl.take (i+1)) σ) s:=by
    have hb:=qcE fl 0 (i+1) σ
    rw [Nat.zero_add] at hb
    rw [←hb]
    refine qc6 fl 0 rfl rfl fun k g hg hw=> ?_
    rw [Nat.zero_add]
    by_cases hk:k=i
    ·subst hk
     rw [hS1]
     simp
    ·rw [hS2 k hk,qnt h hS ho hf hn he (.inr hs) k g hg hw]
     by_cases hlt:k<i
     ·rw [decide_eq_true hlt,decide_eq_true (by omega)]
     ·rw [decide_eq_false hlt,decide_eq_false (by omega)]
   rw [h1,qos hf]
   refine (qf7 _ ?_ (qls h hS ho hf hn he (.inr hs))).symm
   rw [qbC]
   have hb:=qcE fl 0 i σ
   rw [←hb,qbC]
  ·rw [qfY _ hs]
   refine qc6 fl 0 rfl rfl fun k g hg hw=> ?_
   rw [Nat.zero_add]
   refine hS2 k fun e=> ?_
   subst e
   rw [hf] at hg
   injection hg with hg
   subst hg
   exact hs hw
theorem qhB {ops:Array Oper} {listed:Array Bool} {i:Nat} (h:i∈Region.ready .any ops listed):i<ops.size∧listed.getD i true=false∧∃o,ops[i]? =some o∧∀j∈qbW o,listed.getD j false=true:=by
 simp only [Region.ready,List.mem_filter,List.mem_range,Bool.and_eq_true,Bool.not_eq_true'] at h
 obtain ⟨h1,h2,h3⟩:=h
 have ho:ops[i]? =some ops[i]:=Array.getElem?_eq_getElem h1
 refine ⟨h1,h2,_,ho,fun j hj=> ?_⟩
 rw [ho] at h3
 simp only [Option.map_some,Option.getD_some] at h3
 rw [←Array.all_toList,List.all_eq_true] at h3
 simp only [qbW,List.mem_map,List.mem_filter] at hj
 obtain ⟨e,⟨he,hb⟩,rfl⟩:=hj
 have:=h3 e he
 rw [hb] at this
 simpa using this
theorem qk9 {ops:Array Oper} {listed:Array Bool} {i:Nat} {o:Oper} (ho:ops[i]? =some o) (hl:listed.getD i true=false) (he:∀j∈qbW o,listed.getD j false=true):i∈Region.ready .any ops listed:=by
 simp only [Region.ready,List.mem_filter,List.mem_range,Bool.and_eq_true,Bool.not_eq_true']
 refine ⟨(Array.getElem?_eq_some_iff.1 ho).1,hl,?_⟩
 rw [ho]
 simp only [Option.map_some,Option.getD_some]
 rw [←Array.all_toList,List.all_eq_true]
 intro e hm
 by_cases hb:Region.binds .any e=true
 ·rw [he e.on (List.mem_map.2 ⟨e,List.mem_filter.2 ⟨hm,hb⟩,rfl⟩)]
  simp
 ·simp [hb]
theorem qka (S:Nat→Bool):(l l':List qd0)→l.map (·.us)=l'.map (·.us)→∀i σ,qb4 S i l σ=qb4 S i l' σ
 |[],[],_,_,_=>rfl
 |[],_::_,h,_,_=>by cases h
 |_::_,[],h,_,_=>by cases h
 |f::l,f'::l',h,i,σ=>by
  simp only [List.map_cons,List.cons.injEq] at h
  simp only [qb4,h.1]
  exact qka S l l' h.2 _ _
theorem qkR:(l l':List qd0)→l.map (·.us)=l'.map (·.us)→∀σ,qdT l σ=qdT l' σ
 |[],[],_,_=>rfl
 |[],_::_,h,_=>by cases h
 |_::_,[],h,_=>by cases h
 |f::l,f'::l',h,σ=>by
  simp only [List.map_cons,List.cons.injEq] at h
  simp only [qdT,List.foldl_cons,h.1]
  exact qkR l l' h.2 _
theorem qmX (pins:List Nat) (σ:St) (fl:List qd0):(os:List Oper)→(fs:List qd0)→fs.length=os.length→(qir pins σ fl os fs).map (·.us)=fs.map (·.us)
 |[],[],_=>rfl
 |[],_::_,h=>by cases h
 |_::_,[],h=>by cases h
 |o::os,f::fs,h=>by
  simp only [qir,List.map_cons,qmX pins σ fl os fs (by simpa using h)]
  congr 1
  split
  ·split <;> rfl
  ·rfl
theorem qnA (pins:List Nat) (σ:St) (fl:List qd0):(os:List Oper)→(fs:List qd0)→fs.length=os.length→∀(i:Nat) (o:Oper) (f f':qd0),os[i]? =some o→fs[i]? =some f→(qir pins σ fl os fs)[i]? =some f'→f'.rd=f.rd∨∃s,qf0 o=some s∧(qoR σ fl s||qmJ pins σ fl s)=true
 |[],_,_,i,o,f,f',h,_,_=>by simp at h
 |_::_,[],h,_,_,_,_,_,_,_=>by cases h
 |o'::os,f0::fs,h,i,o,f,f',h1,h2,h3=>by
  cases i with
  |zero=>
   simp only [qir,List.getElem?_cons_zero,Option.some.injEq] at h1 h2 h3
   subst h1; subst h2; subst h3
   split
   ·rename_i s hs
    split
    ·rename_i hq
     exact .inr ⟨s,hs,hq⟩
    ·exact .inl rfl
   ·exact .inl rfl
  |succ i=>
   simp only [qir,List.getElem?_cons_succ] at h1 h2 h3
   exact qnA pins σ fl os fs (by simpa using h) i o f f' h1 h2 h3
theorem qjp {s:Nat} :(us:List U)→ {σ:St} →qfy (qi σ s).2=true→us.all (fun u=>u.s != s||(!u.bump&&qfy u.a))=true→(qi (qf σ us) s).1=(qi σ s).1∧qfy (qi (qf σ us) s).2=true
 |[],_,h,_=>⟨rfl,h⟩
 |u::us,σ,h,hu=>by
  simp only [List.all_cons,Bool.and_eq_true] at hu
  have key:(qi (qI σ u) s).1=(qi σ s).1∧qfy (qi (qI σ u) s).2=true:=by
   by_cases hs:s=u.s
   ·by_cases hlt:u.s<σ.length
    ·have h1:=hu.1
     simp only [hs,bne_self_eq_false,Bool.false_or,Bool.and_eq_true,Bool.not_eq_true'] at h1
     rw [hs,qG σ u hlt,h1.1]
     exact ⟨rfl,h1.2⟩
    ·have e1:qI σ u=σ:=by simp only [qI]; exact List.set_eq_of_length_le (by omega)
     rw [e1]
     exact ⟨rfl,h⟩
   ·rw [qp _ _ hs]
    exact ⟨rfl,h⟩
  obtain ⟨k1,k2⟩:=qjp us (σ:=qI σ u) key.2 hu.2
  exact ⟨k1.trans key.1,k2⟩
theorem qf3 {S:Nat→Bool} {s:Nat} :(l:List qd0)→(i:Nat)→ {σ:St} →qfy (qi σ s).2=true→l.all (fun f=>f.us.all (fun u=>u.s != s||(!u.bump&&qfy u.a)))=true→(qi (qb4 S i l σ) s).1=(qi σ s).1∧qfy (qi (qb4 S i l σ) s).2=true
 |[],_,_,h,_=>⟨rfl,h⟩
 |f::l,i,σ,h,hl=>by
  simp only [List.all_cons,Bool.and_eq_true] at hl
  simp only [qb4]
  split
  ·obtain ⟨k1,k2⟩:=qjp f.us h hl.1
   obtain ⟨k3,k4⟩:=qf3 l (i+1) k2 hl.2
   exact ⟨k3.trans k1,k4⟩
  ·exact qf3 l (i+1) h hl.2
theorem qqA {E:Env} {o:Oper} {s:Nat} (ho:qf0 o=some s) {lk lk':Nat→Ent} (h1:qfy (lk s).2=true) (h2:qfy (lk' s).2=true) (h3:(lk' s).1=(lk s).1):(qfE E none o).run lk'=(qfE E none o).run lk:=by
 unfold qf0 at ho
 split at ho
 case h_2=>cases ho
 rename_i s' hg hop
 injection ho with ho
 subst ho
 cases ha:lk s' with
 |mk v a=>
  cases ha':lk' s' with
  |mk v' a'=>
   rw [ha] at h1 h3
   rw [ha'] at h2 h3
   simp only at h1 h2 h3
   subst h3
   have ev:∀ {b:AV} {lk0:Nat→Ent},lk0 s'=(v',b)→qfy b=true→(qdv E [] o).run lk0=some ⟨qbG o (.ref s' v'),[]⟩:=fun {b lk0} hb h0=>by
    unfold qfy at h0
    split at h0
    ·simp only [qdv,hop,opd,Q.bind,Q.run,hb,qbp,qoe,Bool.false_eq_true,if_false,okE]
    ·simp only [qdv,hop,opd,Q.bind,Q.run,hb,qbp,qoe,Bool.false_eq_true,if_false,okE]
    ·cases h0
   simp only [qfE,Q.run_bind,ev ha h1,ev ha' h2,Option.bind_some]
   unfold qkd
   split
   ·rfl
   ·have e:∀d,((qbG o (.ref s' v')).any (qlG d))=false:=fun d=>by unfold qbG; split <;> simp [qlG]
    simp only [e,Bool.false_eq_true,if_false,Q.run]
theorem qkj {s:Nat} :(us:List U)→ {σ:St} →qgc (qi σ s).2=true→us.all (fun u=>u.s != s||qgc u.a)=true→qgc (qi (qf σ us) s).2=true
 |[],_,h,_=>h
 |u::us,σ,h,hu=>by
  simp only [List.all_cons,Bool.and_eq_true] at hu
  refine qkj us (σ:=qI σ u) ?_ hu.2
  by_cases hs:s=u.s
  ·by_cases hlt:u.s<σ.length
   ·have h1:=hu.1
    simp only [hs,bne_self_eq_false,Bool.false_or] at h1
    rw [hs,qG σ u hlt]
    exact h1
   ·have e1:qI σ u=σ:=by simp only [qI]; exact List.set_eq_of_length_le (by omega)
    rw [e1]
    exact h
  ·rw [qp _ _ hs]
   exact h
theorem qg9 {S:Nat→Bool} {s:Nat} :(l:List qd0)→(i:Nat)→ {σ:St} →qgc (qi σ s).2=true→l.all (fun f=>f.us.all (fun u=>u.s != s||qgc u.a))=true→qgc (qi (qb4 S i l σ) s).2=true
 |[],_,_,h,_=>h
 |f::l,i,σ,h,hl=>by
  simp only [List.all_cons,Bool.and_eq_true] at hl
  simp only [qb4]
  split
  ·exact qg9 l (i+1) (qkj f.us h hl.1) hl.2
  ·exact qg9 l (i+1) h hl.2
theorem qsw {E:Env} {o:Oper} {s:Nat} (ho:qf0 o=some s) (hp:E.pins.contains s=true) {lk lk':Nat→Ent} (h1:qgc (lk s).2=true) (h2:qgc (lk' s).2=true):(qfE E none o).run lk'=(qfE E none o).run lk:=by
 unfold qf0 at ho
 split at ho
 case h_2=>cases ho
 rename_i s' hg hop
 injection ho with ho
 subst ho
 cases ha:lk s' with
 |mk v a=>
  cases ha':lk' s' with
  |mk v' a'=>
   rw [ha] at h1
   rw [ha'] at h2
   simp only at h1 h2
   cases a <;> simp only [qgc,Bool.false_eq_true] at h1
   cases a' <;> simp only [qgc,Bool.false_eq_true] at h2
   simp only [qfE,qdv,hop,opd,Q.bind,Q.run,ha,ha',qbp,qoe,hp,if_true,okE]
   unfold qkd
   split
   ·rfl
   ·have e:∀d,((qbG o (.pip s' 0)).any (qlG d))=false:=fun d=>by unfold qbG; split <;> simp [qlG]
    simp only [e,Bool.false_eq_true,if_false,Q.run]
theorem qqk {ops:Array Oper} {o:Oper} {s:Nat} {g:Option (Nat×Bool)} (ho:qf0 o=some s) (hg:qfv ops o=some g):g=none:=by
 unfold qf0 at ho
 split at ho
 case h_2=>cases ho
 rename_i s' hgd hop
 unfold qfv at hg
 rw [hgd] at hg
 injection hg with hg
 exact hg.symm
theorem qR.drew {C:Ctx} {σ:St} {tm:Array Value} {w:World} {own:Nat→List Nat} (h:qR C σ tm w own):qR C σ tm w.drew own:=
 ⟨h.size,h.kept.drew,h.mine,h.nodup,h.apart,h.outside,fun s hs=>qak.keep (X:= { P:=C.P,ver:=fun s=>(qi σ s).1,tm:=fun s=>tm.getD s undef,w,F:=C.free w own,own,pn:=C.pn }) (X':= { P:=C.P,ver:=fun s=>(qi σ s).1,tm:=fun s=>tm.getD s undef,w:=w.drew,F:=C.free w.drew own,own,pn:=C.pn }) ⟨rfl,rfl⟩ (fun b hb hlt=>⟨hb,hlt,rfl⟩) (fun _ _ _=>rfl) (fun m hm hv=>⟨hv,rfl,fun b hb hp=>⟨hb,rfl⟩⟩) (h.rep s hs),h.wf⟩
end Go.Vi
namespace Go.Vi
open Go.RowKit
section
variable {C:Ctx} {E:Env} {σ τ:St} {tm:Array Value} {a:Act} {w w':World} {own:Nat→List Nat} {o:Oper} {p:qgw} [Tabbed E C]
theorem qjR: {c:List Bool} →qsZ c=true→qc0 c
 |[],_=>fun b hb=>by cases hb
 |[x],h=>fun b hb=>by simp at hb; rw [hb]; exact h
 |x::y::r,h=>fun b hb=>by
  simp only [qsZ,Bool.and_eq_true] at h
  rcases List.mem_cons.1 hb with rfl|hb
  ·exact h.1
  ·exact qjR h.2 b hb
theorem qdD {wr:List Nat} :(us:List U)→ {σ:St} →(∀u∈us,u.s∈wr)→Fr wr σ (qf σ us)
 |[],σ,_=>⟨rfl,fun _ _=>rfl⟩
 |u::us,σ,h=>by
  obtain ⟨h1,h2⟩:=qdD us (σ:=qI σ u) (fun v hv=>h v (List.mem_cons_of_mem _ hv))
  refine ⟨by rw [show qf σ (u::us)=qf (qI σ u) us from rfl,h1,qV],fun s hs=> ?_⟩
  show qi (qf (qI σ u) us) s=_
  rw [h2 s hs]
  exact qp σ u fun e=>hs (e ▸ h u List.mem_cons_self)
theorem Fr.trans {wr:List Nat} {a b c:St} (h:Fr wr a b) (k:Fr wr b c):Fr wr a c:=⟨k.1.trans h.1,fun s hs=>(k.2 s hs).trans (h.2 s hs)⟩
theorem Fr.refl (wr:List Nat) (a:St):Fr wr a a:=⟨rfl,fun _ _=>rfl⟩
theorem Fr.mono {wr wr':List Nat} {a b:St} (h:Fr wr a b) (hs:∀s∈wr,s∈wr'):Fr wr' a b:=⟨h.1,fun s hn=>h.2 s fun hm=>hn (hs s hm)⟩
def qsQ (σ σ':St):Prop:=∀s,(qi σ s).1≤(qi σ' s).1
theorem qox (σ:St) (u:U):qsQ σ (qI σ u):=fun s=>by
 by_cases h:s=u.s
 ·subst h
  by_cases hl:u.s<σ.length
  ·rw [qG σ u hl]
   simp only
   split
   ·exact Nat.le_succ _
   ·exact Nat.le_refl _
  ·have:qI σ u=σ:=by simp only [qI]; exact List.set_eq_of_length_le (by omega)
   rw [this]
   exact Nat.le_refl _
 ·rw [qp _ _ h]; exact Nat.le_refl _
theorem qsQ.trans {a b c:St} (h:qsQ a b) (k:qsQ b c):qsQ a c:=fun s=>Nat.le_trans (h s) (k s)
theorem qjx:(us:List U)→(σ:St)→qsQ σ (qf σ us)
 |[],_=>fun _=>Nat.le_refl _
 |u::us,σ=>(qox σ u).trans (qjx us (qI σ u))
theorem qjf {wr:List Nat} {ops:Array Oper} :(l:List Oper)→ {σ σ':St} → {c c':List Bool} → {fs fs':List qd0} →qdk E wr ops l σ c fs=some (σ',c',fs')→
  Fr wr σ σ'∧qsQ σ σ'∧(∀b∈c,b∈c')∧(∀f∈fs,f∈fs')∧Fr (fs'.flatMap (·.wr)) σ σ'
 |[],σ,σ',c,c',fs,fs',he=>by
  simp only [qdk,Option.some.injEq,Prod.mk.injEq] at he
  obtain ⟨rfl,rfl,rfl⟩:=he
  exact ⟨Fr.refl _ _,fun _=>Nat.le_refl _,fun _ h=>h,fun _ h=>h,Fr.refl _ _⟩
 |o::r,σ,σ',c,c',fs,fs',he=>by
  simp only [qdk] at he
  split at he
  ·cases he
  rename_i g hg
  split at he
  ·cases he
  rename_i f hf
  split at he
  case isFalse=>cases he
  rename_i hu
  obtain ⟨h1,h2,h3,h4,h5⟩:=qjf r he
  have hu':∀u∈f.upd,u.s∈wr:=fun u hm=>by
   have:=List.all_eq_true.1 hu u hm
   simp at this
   exact this.1
  refine ⟨(qdD f.upd hu').trans h1,(qjx _ _).trans h2,fun b hb=>h3 b (List.mem_append_left _ hb),fun x hx=>h4 x (List.mem_cons_of_mem _ hx),(qdD f.upd fun u hm=> ?_).trans h5⟩
  exact List.mem_flatMap.2 ⟨_,h4 _ List.mem_cons_self,List.mem_map_of_mem hm⟩
def qds (pin:List Nat) (a a':Act):Prop:=a'.defers=a.defers∧∀s∈pin,a'.tmps.getD s undef=a.tmps.getD s undef
theorem qds.refl (pin:List Nat) (a:Act):qds pin a a:=⟨rfl,fun _ _=>rfl⟩
theorem qds.trans {pin:List Nat} {a b c:Act} (h:qds pin b c) (k:qds pin a b):qds pin a c:=⟨h.1.trans k.1,fun s hs=>(h.2 s hs).trans (k.2 s hs)⟩
theorem qds.pinC {pin:List Nat} {a a':Act} (hF:qnl E C pin) (hpc:qrF C a.tmps) (h:qds pin a a'):qrF C a'.tmps:=fun k b hb=>(h.2 k (hF.sub k b hb)).trans (hpc k b hb)
theorem qlC (hE:qbA E C.P) {pin wr:List Nat} (hF:qnl E C pin) {ops:Array Oper} {Q:Exit→Act→World→Prop} :(l:List Oper)→qlP pin l=true→ {σ σ':St} → {a:Act} → {w:World} → {own:Nat→List Nat} → {c c':List Bool} → {fs fs':List qd0} →
  qdk E wr ops l σ c fs=some (σ',c',fs')→qc0 c'→qrF C a.tmps→qR C σ a.tmps w own→(∀a' w' own',qds pin a a'→qR C σ' a'.tmps w' own'→Q .normal a' w')→wpList C.P ops Q l a w
 |[],_,σ,σ',a,w,own,c,c',fs,fs',he,_,_,h,hQ=>by
  simp only [qdk,Option.some.injEq,Prod.mk.injEq] at he
  obtain ⟨rfl,_,_⟩:=he
  exact hQ a w own (qds.refl _ _) h
 |o::r,hp,σ,σ',a,w,own,c,c',fs,fs',he,hc,hpc,h,hQ=>by
  simp only [qlP,List.all_cons,Bool.and_eq_true] at hp
  simp only [qdk] at he
  split at he
  ·cases he
  rename_i g hg
  split at he
  ·cases he
  rename_i f hf
  split at he
  case isFalse=>cases he
  rename_i hu
  have hu':∀u∈f.upd,u.s<σ.length:=fun u hm=>by
   have:=List.all_eq_true.1 hu u hm
   simp at this
   exact this.2
  obtain ⟨_,_,h3,_,_⟩:=qjf r he
  have hcf:qc0 f.chk:=fun b hb=>hc b (h3 b (List.mem_append_right _ hb))
  have hok:=qmS hE hF hpc h hg hf hu' hcf (wpList C.P ops Q r) Q fun a' w' own' hd hst=>by
   have hk:qds pin a a':=⟨hd.1,fun s hs=>hd.2 s fun e=>qeV hp.1 s (by simp [e]) hs⟩
   exact qlC hE hF r hp.2 he hc (hk.pinC hF hpc) hst fun a2 w2 own2 hd2 hst2=>hQ a2 w2 own2 (hd2.trans hk) hst2
  unfold wpList
  split at hok
  ·rename_i hw
   rw [if_pos hw]
   exact .inl hok
  ·rename_i hw
   rw [if_neg hw]
   exact hok
theorem qp0 {listed:Array Bool} (h:listed.toList.countP (fun b=> !b)=0) {i:Nat} (hi:i<listed.size):listed.getD i false=true:=by
 have:=List.countP_eq_zero.1 h listed[i] (by simp)
 rw [Array.getD_eq_getD_getElem?,Array.getElem?_eq_getElem hi]
 simpa using this
theorem qrW (hE:qbA E C.P) {pin:List Nat} (hF:qnl E C pin) {ops:Array Oper} {Q:Exit→Act→World→Prop} {fl0 fl:List qd0} {c:List Bool} {a0:Act} (hp:qlP pin ops.toList=true) (hd:qqI E ops σ ops.toList fl0 c) (hus:fl.map (·.us)=fl0.map (·.us)) (hsoft:∀(i:Nat) (o:Oper) (f f':qd0),ops.toList[i]? =some o→fl0[i]? =some f→fl[i]? =some f'→f'.rd=f.rd∨∃s,qf0 o=some s∧(qoR σ fl0 s||qmJ E.pins σ fl0 s)=true) (hg:qhy ops.toList fl [] []=true) (hc:qc0 c) (hpc:qrF C a0.tmps)
  (hQ:∀a' w' own',qds pin a0 a'→qR C (qdT fl σ) a'.tmps w' own'→Q .normal a' w'):∀(fuel:Nat) (listed:Array Bool) (a:Act) (w:World) (own:Nat→List Nat),listed.size=ops.size→listed.toList.countP (fun b=> !b)=fuel→qj5 ops (fun i=>listed.getD i false)→qds pin a0 a→
   qR C (qb4 (fun i=>listed.getD i false) 0 fl σ) a.tmps w own→wpAny C.P .any ops Q fuel listed a w:=by
 have hlen0:fl0.length=ops.size:=by have:=hd.1; simpa using this
 have hlen:fl.length=ops.size:=by have:=congrArg List.length hus; simp only [List.length_map] at this; omega
 have full:∀ {listed:Array Bool},(∀i,i<ops.size→listed.getD i false=true)→qb4 (fun i=>listed.getD i false) 0 fl σ=qdT fl σ:=by
  intro listed hall
  have hb:=qcE fl 0 fl.length σ
  rw [List.take_length] at hb
  rw [←hb]
  apply qmh
  ·rw [qbC,qbC]
  ·intro s
   refine qc6 fl 0 rfl rfl fun k g hg _=> ?_
   have:=(List.getElem?_eq_some_iff.1 hg).1
   rw [hall (0+k) (by omega),decide_eq_true (by omega)]
 intro fuel
 induction fuel with
 |zero=>
  intro listed a w own hs hcnt hcl hk hst
  have hall:∀i,i<ops.size→listed.getD i false=true:=fun i hi=>qp0 hcnt (by omega)
  refine ⟨?_,hQ a w own hk (by rw [full hall] at hst; exact hst)⟩
  cases hr:Region.ready .any ops listed with
  |nil=>rfl
  |cons i r=>
   obtain ⟨h1,h2,_⟩:=qhB (ops:=ops) (listed:=listed) (i:=i) (by rw [hr]; exact List.mem_cons_self)
   have h3:=hall i h1
   rw [Array.getD_eq_getD_getElem?,Array.getElem?_eq_getElem (by omega)] at h2 h3
   simp only [Option.getD_some] at h2 h3
   rw [h2] at h3
   cases h3
 |succ fuel ih=>
  intro listed a w own hs hcnt hcl hk hst
  refine ⟨fun hr=> ?_,fun i hi=> ?_⟩
  ·have hall:∀i,i<ops.size→listed.getD i false=true:=by
    intro i
    induction i using Nat.strongRecOn with
    |ind i ihi=>
     intro hi
     cases hb:listed.getD i false with
     |true=>rfl
     |false=>
      have ho:ops[i]? =some ops[i]:=Array.getElem?_eq_getElem hi
      obtain ⟨_,M,hM⟩:=qlz hg
      obtain ⟨q1,_,_⟩:=hM i _ _ ho (List.getElem?_eq_getElem (by omega))
      have hb':listed.getD i true=false:=by
       rw [Array.getD_eq_getD_getElem?,Array.getElem?_eq_getElem (by omega)] at hb⊢
       exact hb
      have:=qk9 ho hb' fun j hj=>ihi j (q1 j hj) (by have:=q1 j hj; omega)
      rw [hr] at this
      cases this
   exact hQ a w own hk (by rw [full hall] at hst; exact hst)
  ·obtain ⟨h1,h2,o,ho,he⟩:=qhB hi
   have hf:fl[i]? =some fl[i]:=List.getElem?_eq_getElem (by omega)
   have hn:listed.getD i false=false:=by
    rw [Array.getD_eq_getD_getElem?,Array.getElem?_eq_getElem (by omega)] at h2⊢
    exact h2
   have hf0:fl0[i]? =some fl0[i]:=List.getElem?_eq_getElem (by omega)
   obtain ⟨g,f,k1,k2,k3,k4,k5⟩:=hd.2 i o _ (by simpa using ho) hf0
   have hui:(fl[i]).us=f.upd:=by
    have h1:(fl.map (·.us))[i]? =(fl0.map (·.us))[i]? :=by rw [hus]
    simp only [List.getElem?_map,hf,hf0,Option.map_some,Option.some.injEq] at h1
    rw [h1,k3]
   have hta:qdT (fl0.take i) σ=qdT (fl.take i) σ:=qkR _ _ (by rw [List.map_take,List.map_take,hus]) σ
   have hrun:(qfE E g o).run (qi (qb4 (fun i=>listed.getD i false) 0 fl σ))=some f:=by
    rw [←k2]
    rcases hsoft i o _ _ (by simpa using ho) hf0 hf with hrd|⟨s,hs1,hs2⟩
    ·rw [hta]
     rw [hta] at k3
     refine Go.Vi.Q.run_congr _ fun s hs=>qls hg hcl ho hf hn he (.inl ?_)
     rw [hrd,k3]
     exact hs
    ·have hgn:=qqk hs1 k1
     subst hgn
     rcases Bool.or_eq_true_iff.1 hs2 with hs2|hs2
     ·simp only [qoR,Bool.and_eq_true] at hs2
      obtain ⟨a1,a2⟩:=qf3 (S:=fun i=>listed.getD i false) fl0 0 hs2.1 hs2.2
      obtain ⟨b1,b2⟩:=qf3 (S:=fun k=>decide (k<0+i)) fl0 0 hs2.1 hs2.2
      rw [qka _ fl0 fl hus.symm] at a1 a2
      rw [qcE fl0 0 i σ] at b1 b2
      exact qqA hs1 b2 a2 (a1.trans b1.symm)
     ·simp only [qmJ,Bool.and_eq_true] at hs2
      have a2:=qg9 (S:=fun i=>listed.getD i false) fl0 0 hs2.2.1 hs2.2.2
      have b2:=qg9 (S:=fun k=>decide (k<0+i)) fl0 0 hs2.2.1 hs2.2.2
      rw [qka _ fl0 fl hus.symm] at a2
      rw [qcE fl0 0 i σ] at b2
      exact qsw hs1 hs2.1 b2 a2
   have hok:=qmS hE hF (hk.pinC hF hpc) hst k1 hrun (fun u hu=>by rw [qbC]; exact k4 u hu) (fun b hb=>hc b (k5 b hb)) (wpAny C.P .any ops Q fuel (listed.setIfInBounds i true)) Q fun a' w' own' hkd hst'=> ?_
   ·unfold wpOp
    rw [ho]
    simp only
    split at hok
    ·rename_i hw
     rw [if_pos hw]
     exact .inl hok
    ·rename_i hw
     rw [if_neg hw]
     exact hok
   ·have hset:∀j,(listed.setIfInBounds i true).getD j false=if j=i then true else listed.getD j false:=by
     intro j
     simp only [Array.getD_eq_getD_getElem?,Array.getElem?_setIfInBounds]
     by_cases hj:j=i
     ·subst hj
      simp [hs,h1]
     ·rw [if_neg (fun e=>hj e.symm),if_neg hj]
    refine ih _ a' w' own' (by simpa using hs) ?_ ?_ ?_ ?_
    ·rw [Array.toList_setIfInBounds,List.countP_set (by simp; omega),hcnt]
     have hb:listed.toList[i]'(by simp; omega)=false:=by
      rw [Array.getD_eq_getD_getElem?,Array.getElem?_eq_getElem (by omega)] at hn
      simpa using hn
     rw [hb]
     simp
    ·intro j oj hoj hSj k hkk
     simp only [hset] at hSj⊢
     split
     ·rfl
     ·by_cases hji:j=i
      ·subst hji
       rw [ho] at hoj
       injection hoj with hoj
       subst hoj
       exact he k hkk
      ·rw [if_neg hji] at hSj
       exact hcl j oj hoj hSj k hkk
    ·refine qds.trans ⟨hkd.1,fun s hs=>hkd.2 s fun e=> ?_⟩ hk
     have:=List.all_eq_true.1 hp o (by have:=Array.mem_of_getElem? ho; simpa using this)
     exact qeV this s (by simp [e]) hs
    ·have e:=qog (σ:=σ) hg (S':=fun j=>(listed.setIfInBounds i true).getD j false) hcl ho hf hn he (by simp [hset]) (fun j hj=>by simp [hset,hj])
     rw [e]
     rw [hui]
     exact hst'
theorem qiq (hE:qbA E C.P) {pin wr:List Nat} (hF:qnl E C pin) {id:Nat} {ops:Array Oper} {d:Bool} {Q:Exit→Act→World→Prop} {σ':St} {c:List Bool} {ds:List Nat} (hp:qlP pin ops.toList=true) (he:qc7 E wr ops d σ=some (σ',c,ds)) (hc:qc0 c) (hpc:qrF C a.tmps) (h:qR C σ a.tmps w own)
  (hQ:∀a' w' own',qds pin a a'→qR C σ' a'.tmps w' own'→Q .normal a' w'):(Code.region id ops d).wp C.P Q a w:=by
 unfold qc7 at he
 split at he
 case h_2=>cases he
 rename_i σ1 c1 fs h1
 split at he
 case isFalse=>cases he
 rename_i hd
 injection he with he
 simp only [Prod.mk.injEq] at he
 obtain ⟨rfl,rfl,rfl⟩:=he
 cases d with
 |false=>exact wp_region_list (qlC hE hF ops.toList hp h1 hc hpc h hQ)
 |true=>
  obtain ⟨fl,g1,g2,g3,_⟩:=qjo ops.toList h1
  have hfs:fs.reverse=fl:=by rw [g1]; simp
  rw [hfs] at hd
  have hd:qhy ops.toList (qir E.pins σ fl ops.toList fl) [] []=true:=by simpa using hd
  have hsu:=qmX E.pins σ fl ops.toList fl g2.1
  refine wp_region_any hE.mixed (qrW hE hF (a0:=a) hp g2 hsu (qnA E.pins σ fl ops.toList fl g2.1) hd hc hpc (by rw [qkR _ _ hsu,←g3]; exact hQ) _ _ _ _ own (by simp) (by simp [List.countP_replicate]) (fun i o ho hS=> ?_) (qds.refl _ _) ?_)
  ·simp [Array.getD_eq_getD_getElem?,Array.getElem?_replicate] at hS
   split at hS <;> simp at hS
  ·have e:qb4 (fun i=>(Array.replicate ops.size false).getD i false) 0 (qir E.pins σ fl ops.toList fl) σ=σ:=by
    have:(fun i=>(Array.replicate ops.size false).getD i false)=fun _=>false:=by
     funext i
     simp only [Array.getD_eq_getD_getElem?,Array.getElem?_replicate]
     split <;> rfl
    rw [this,qhZ]
   rw [e]
   exact h.drew
theorem qig {wr:List Nat} {ops:Array Oper} {d:Bool} {σ':St} {c:List Bool} {ds:List Nat} (he:qc7 E wr ops d σ=some (σ',c,ds)):Fr wr σ σ'∧qsQ σ σ'∧Fr ds σ σ':=by
 unfold qc7 at he
 split at he
 case h_2=>cases he
 rename_i σ1 c1 fs h1
 split at he
 case isFalse=>cases he
 injection he with he
 simp only [Prod.mk.injEq] at he
 obtain ⟨rfl,rfl,rfl⟩:=he
 obtain ⟨k1,k2,_,_,k5⟩:=qjf ops.toList h1
 exact ⟨k1,k2,k5⟩
theorem qkN (b:Bool) (σ1 σ2:St):(ds:List Nat)→(σ:St)→(qjl b ds σ σ1 σ2).length=σ.length∧∀s,(s∈ds∧s<σ.length→qi (qjl b ds σ σ1 σ2) s=(max (qi σ1 s).1 (qi σ2 s).1+1,qfe b (qi σ1 s).2 (qi σ2 s).2))∧(¬(s∈ds∧s<σ.length)→qi (qjl b ds σ σ1 σ2) s=qi σ s)
 |[],σ=>⟨rfl,fun s=>⟨fun h=>(by cases h.1),fun _=>rfl⟩⟩
 |d::ds,σ=>by
  obtain ⟨h1,h2⟩:=qkN b σ1 σ2 ds (σ.set d (max (qi σ1 d).1 (qi σ2 d).1+1,qfe b (qi σ1 d).2 (qi σ2 d).2))
  have e:qjl b (d::ds) σ σ1 σ2=qjl b ds (σ.set d (max (qi σ1 d).1 (qi σ2 d).1+1,qfe b (qi σ1 d).2 (qi σ2 d).2)) σ1 σ2:=rfl
  rw [e]
  refine ⟨by rw [h1]; simp,fun s=> ?_⟩
  obtain ⟨k1,k2⟩:=h2 s
  rw [List.length_set] at k1 k2
  by_cases hs:s∈ds∧s<σ.length
  ·exact ⟨fun _=>k1 hs,fun hn=>absurd ⟨List.mem_cons_of_mem _ hs.1,hs.2⟩ hn⟩
  ·rw [k2 hs,qhb]
   by_cases hd:s=d∧d<σ.length
   ·rw [if_pos hd]
    obtain ⟨rfl,hd⟩:=hd
    exact ⟨fun _=>rfl,fun hn=>absurd ⟨List.mem_cons_self,hd⟩ hn⟩
   ·rw [if_neg hd]
    refine ⟨fun hn=> ?_,fun _=>rfl⟩
    rcases List.mem_cons.1 hn.1 with rfl|hm
    ·exact absurd ⟨rfl,hn.2⟩ hd
    ·exact absurd ⟨hm,hn.2⟩ hs
theorem qR.join {b:Bool} {ds:List Nat} {σ1 σ2:St} (h:qR C (bif b then σ1 else σ2) tm w own) (h1:Fr ds σ σ1) (h2:Fr ds σ σ2):qR C (qjl b ds σ σ1 σ2) tm w own:=by
 obtain ⟨j1,j2⟩:=qkN b σ1 σ2 ds σ
 have hf:Fr ds σ (bif b then σ1 else σ2):=by cases b <;> assumption
 have zero:∀ {ρ:St} {s:Nat},ρ.length=σ.length→¬s<σ.length→qi ρ s=(0,.undef):=fun {ρ s} hl hs=>by simp [qi,List.getD,List.getElem?_eq_none (show ρ.length≤s by omega)]
 refine h.retag (j1.trans hf.1.symm) (fun s=>s∈ds∧s<σ.length) (fun s hs=> ?_) (fun s hs=> ?_) (fun s m _ hm hb=> ?_)
 ·rw [(j2 s).2 hs]
  by_cases hd:s∈ds
  ·have hl:¬s<σ.length:=fun hl=>hs ⟨hd,hl⟩
   rw [zero rfl hl,zero hf.1 hl]
  ·exact (hf.2 s hd).symm
 ·rw [(j2 s).1 hs]
  have e:(qi (bif b then σ1 else σ2) s).2=bif b then (qi σ1 s).2 else (qi σ2 s).2:=by cases b <;> rfl
  refine ⟨?_,fun v hv=> ?_⟩
  ·exact (qlw (X:=sit C (bif b then σ1 else σ2) tm w own) b (by rw [←e]; exact h.at_ s)).2
  ·rw [e] at hv
   exact (qlw b hv).1
 ·rw [(j2 m.1).1 hb]
  have:=h.wf s m hm
  have:m.2≤max (qi σ1 m.1).1 (qi σ2 m.1).1:=by
   cases b
   ·exact Nat.le_trans this (Nat.le_max_right _ _)
   ·exact Nat.le_trans this (Nat.le_max_left _ _)
  show m.2<_+1
  omega
theorem qmQ {b:Bool} {ds wr:List Nat} {σ1 σ2:St} (h:∀s∈ds,s∈wr):Fr wr σ (qjl b ds σ σ1 σ2):=by
 obtain ⟨j1,j2⟩:=qkN b σ1 σ2 ds σ
 exact ⟨j1,fun s hs=>(j2 s).2 fun hn=>hs (h s hn.1)⟩
end
end Go.Vi
namespace Go.Vi
open Go.RowKit
theorem qR.refillB {C:Ctx} {σ:St} {tm:Array Value} {w:World} {own:Nat→List Nat} (h:qR C σ tm w own) {s t1:Nat} {c c':BC} {o v0 v1 et:Nat} {e:Ty} {xs:List e.den} (hs:(qi σ s).2= .bhl c o t1 v0) (hgt:qi σ t1=(v1,.own et e xs)) (hv:v1=v0) (hne:t1≠s)
  (hsw:c.swap o (.own et e xs)=some c'):∃own',qR C (qf σ [⟨s,false,.box c'⟩,⟨t1,true,.undef⟩]) tm w own':=by
 subst hv
 have hat:=h.at_ s
 rw [hs] at hat
 obtain ⟨b,cs,te,b1,b3,hv,h1,h2,h3,h4,h5,h6⟩:=hat
 have hrt:=h.at_ t1
 rw [hgt] at hrt
 have hrt:qS w (C.free w own) et e xs (tm.getD t1 undef) (own t1):=hrt
 have h6:tm.getD t1 undef=hv:=h6 (show (qi σ t1).1=v1 by rw [hgt])
 have h1:tm.getD s undef=ptr b 0:=h1
 have h5:own s=b::(b1++b3):=h5
 have lt:∀ {x:Nat},(qi σ x).2≠ .undef→x<σ.length:=fun {x} hx=>by
  by_cases hlt:x<σ.length
  ·exact hlt
  ·exact absurd (by simp [qi,List.getD,List.getElem?_eq_none (Nat.le_of_not_lt hlt)]) hx
 have hsl:s<σ.length:=lt (by rw [hs]; simp)
 have htl:t1<σ.length:=lt (by rw [hgt]; simp)
 let nbS:List Nat:=b::(b1++(own t1++b3))
 have hperm:nbS.Perm (own s++own t1):=by
  rw [h5]
  refine List.perm_iff_count.2 fun x=> ?_
  simp only [nbS,List.count_append,List.count_cons]
  omega
 have hnn:(own s++own t1).Nodup:=List.nodup_append.2 ⟨h.nodup s,h.nodup t1,fun b hb b' hb' e=>by subst e; exact hne (h.apart t1 s b hb' hb)⟩
 let nb:Nat→List Nat:=fun x=>if x=s then nbS else []
 have nS:nb s=nbS:=by simp [nb]
 have nX:nb t1=[]:=by simp [nb,hne]
 have mem:∀u:U,u∈([⟨s,false,.box c'⟩,⟨t1,true,.undef⟩]:List U)→u=⟨s,false,.box c'⟩∨u=⟨t1,true,.undef⟩:=fun u hu=>by simpa using hu
 refine Exists.elim (h.multi (tm':=tm) (w':=w) [⟨s,false,.box c'⟩,⟨t1,true,.undef⟩] nb (by simp [Ne.symm hne]) (fun u hu=> ?_) rfl (fun _ _=>rfl) (fun u hu=> ?_) (qcA.refl _ _) (fun u hu=> ?_) (fun u hu u' hu' b hb hb'=> ?_) (fun X' hP hpn hw hF hF2 hver htm u hu=> ?_) (fun u hu m hm=> ?_)) fun own' hfin=>⟨own',hfin.1⟩
 ·rcases mem u hu with rfl|rfl
  ·exact hsl
  ·exact htl
 ·rcases mem u hu with rfl|rfl
  ·refine .inr ⟨rfl,fun b hb hp=>⟨?_,rfl⟩⟩
   show b∈nb s
   rw [nS]
   exact hperm.mem_iff.2 (List.mem_append_left _ hb)
  ·exact .inl rfl
 ·rcases mem u hu with rfl|rfl
  ·simp only [nS]
   refine ⟨fun b hb=> ?_,hperm.nodup_iff.2 hnn⟩
   rcases List.mem_append.1 (hperm.mem_iff.1 hb) with hb|hb
   ·exact .inr ⟨⟨s,false,.box c'⟩,by simp,hb⟩
   ·exact .inr ⟨⟨t1,true,.undef⟩,by simp,hb⟩
  ·simp only [nX]
   exact ⟨(fun b hb=>by cases hb),List.nodup_nil⟩
 ·rcases mem u hu with rfl|rfl <;> rcases mem u' hu' with rfl|rfl
  ·rfl
  ·simp only [nX] at hb'; cases hb'
  ·simp only [nX] at hb; cases hb
  ·rfl
 ·rcases mem u hu with rfl|rfl
  ·simp only [nS]
   refine ⟨b,cs,b1++(own t1++b3),te,h1,by rw [hw]; exact h2,?_,rfl⟩
   rw [hw]
   refine h4 (.own et e xs) c' (own t1) (fun x hx hlt=>⟨hF x hx,hlt,rfl⟩) (fun _ _ _=>rfl) hsw ⟨hv,rfl,?_⟩
   rw [←h6]
   exact hrt.keep (fun b hb hlt=>⟨hF b hb,hlt,rfl⟩) (fun _ _ _=>rfl)
  ·trivial
 ·rcases mem u hu with rfl|rfl <;> cases hm
theorem qR.refill {C:Ctx} {σ:St} {tm:Array Value} {w:World} {own:Nat→List Nat} (h:qR C σ tm w own) {s t:Nat} {a':AV} (hr:qnV σ s=some (a',t)):∃own',qR C (qf σ [⟨s,false,a'⟩,⟨t,true,.undef⟩]) tm w own':=by
 unfold qnV at hr
 split at hr
 case h_3=>cases hr
 case h_2=>
  rename_i c o t1 v0 hs
  split at hr
  case h_2=>cases hr
  rename_i v1 et e xs hgt
  split at hr
  case isFalse=>cases hr
  rename_i hcond
  split at hr
  case h_2=>cases hr
  rename_i c' hsw
  injection hr with hr
  simp only [Prod.mk.injEq] at hr
  obtain ⟨rfl,rfl⟩:=hr
  exact h.refillB hs hgt hcond.1 hcond.2 hsw
 rename_i av fo i o1 t1 v0 hs
 split at hr
 case h_2=>cases hr
 rename_i et e xs v1 et' e' ys hrow hgt
 split at hr
 case isFalse=>cases hr
 rename_i hcond
 obtain ⟨hv,hne,hna,hat,hmk,hsub⟩:=hcond
 subst hv
 obtain ⟨y0,hsub⟩:=Option.isSome_iff_exists.1 hsub
 split at hr
 case h_2=>cases hr
 rename_i y hy
 split at hr
 case h_2=>cases hr
 rename_i a2 hsw
 injection hr with hr
 simp only [Prod.mk.injEq] at hr
 obtain ⟨rfl,rfl⟩:=hr
 obtain ⟨g,n,cap,b1,b2,b3,j1,j2,j3,j4,j5,j6,j7,j8⟩:=h.holRow hs hrow
 have hcell:=j5 (by rw [hgt])
 have hrt:=h.at_ t1
 rw [hgt] at hrt
 have hrt:qan w (C.free w own) et' e' ys (tm.getD t1 undef) (own t1):=qS.to0 hmk hrt
 obtain ⟨p,q,w3,w4⟩:=qgs.refill j3 j1 j2 hna hsub hat hy hcell hrt
 have lt:∀ {x:Nat},(qi σ x).2≠ .undef→x<σ.length:=fun {x} hx=>by
  by_cases hlt:x<σ.length
  ·exact hlt
  ·exact absurd (by simp [qi,List.getD,List.getElem?_eq_none (Nat.le_of_not_lt hlt)]) hx
 have hsl:s<σ.length:=lt (by rw [hs]; simp)
 have htl:t1<σ.length:=lt (by rw [hgt]; simp)
 let nbS:List Nat:=b1++((g::(p++(own t1++q)))++b3)
 have hperm:nbS.Perm (own s++own t1):=by
  rw [j6,w3]
  refine List.perm_iff_count.2 fun x=> ?_
  simp only [nbS,List.count_append,List.count_cons]
  omega
 have hnn:(own s++own t1).Nodup:=List.nodup_append.2 ⟨h.nodup s,h.nodup t1,fun b hb b' hb' e=>by subst e; exact hne (h.apart t1 s b hb' hb)⟩
 let nb:Nat→List Nat:=fun x=>if x=s then nbS else []
 have nS:nb s=nbS:=by simp [nb]
 have nX:nb t1=[]:=by simp [nb,hne]
 have mem:∀u:U,u∈([⟨s,false,a2⟩,⟨t1,true,.undef⟩]:List U)→u=⟨s,false,a2⟩∨u=⟨t1,true,.undef⟩:=fun u hu=>by simpa using hu
 refine Exists.elim (h.multi (tm':=tm) (w':=w) [⟨s,false,a2⟩,⟨t1,true,.undef⟩] nb (by simp [Ne.symm hne]) (fun u hu=> ?_) rfl (fun _ _=>rfl) (fun u hu=> ?_) (qcA.refl _ _) (fun u hu=> ?_) (fun u hu u' hu' b hb hb'=> ?_) (fun X' hP hpn hw hF hF2 hver htm u hu=> ?_) (fun u hu m hm=> ?_)) fun own' hfin=>⟨own',hfin.1⟩
 ·rcases mem u hu with rfl|rfl
  ·exact hsl
  ·exact htl
 ·rcases mem u hu with rfl|rfl
  ·refine .inr ⟨rfl,fun b hb hp=>⟨?_,rfl⟩⟩
   show b∈nb s
   rw [nS]
   exact hperm.mem_iff.2 (List.mem_append_left _ hb)
  ·exact .inl rfl
 ·rcases mem u hu with rfl|rfl
  ·simp only [nS]
   refine ⟨fun b hb=> ?_,hperm.nodup_iff.2 hnn⟩
   rcases List.mem_append.1 (hperm.mem_iff.1 hb) with hb|hb
   ·exact .inr ⟨⟨s,false,a2⟩,by simp,hb⟩
   ·exact .inr ⟨⟨t1,true,.undef⟩,by simp,hb⟩
  ·simp only [nX]
   exact ⟨(fun b hb=>by cases hb),List.nodup_nil⟩
 ·rcases mem u hu with rfl|rfl <;> rcases mem u' hu' with rfl|rfl
  ·rfl
  ·simp only [nX] at hb'; cases hb'
  ·simp only [nX] at hb; cases hb
  ·rfl
 ·rcases mem u hu with rfl|rfl
  ·simp only [nS]
   refine (j8 X' (.own et e (qjr xs i y)) (g::(p++(own t1++q))) a2 ?_ hF ⟨_,rfl,?_⟩ hsw).1
   ·rw [hw]; exact qcA.refl _ _
   ·rw [hw]
    exact qgs.keep (fun b hb hlt=>⟨hF b hb,hlt,rfl⟩) (fun _ _ _=>rfl) w4
  ·trivial
 ·rcases mem u hu with rfl|rfl
  ·rw [qgi hsw] at hm; cases hm
  ·cases hm
end Go.Vi
namespace Go.Vi
open Go.RowKit
section
variable {C:Ctx} {E:Env} {σ τ:St} {tm:Array Value} {a:Act} {w w':World} {own:Nat→List Nat} {o:Oper} {p:qgw} [Tabbed E C]
theorem qlQ {wr:List Nat} {ops:Array Oper} :(l:List Oper)→ {σ σ':St} → {c c':List Bool} → {fs fs':List qd0} →qdk E wr ops l σ c fs=some (σ',c',fs')→(∀f∈fs,∀s∈f.wr,s∈wr)→∀f∈fs',∀s∈f.wr,s∈wr
 |[],σ,σ',c,c',fs,fs',he,h=>by
  simp only [qdk,Option.some.injEq,Prod.mk.injEq] at he
  obtain ⟨rfl,rfl,rfl⟩:=he
  exact h
 |o::r,σ,σ',c,c',fs,fs',he,h=>by
  simp only [qdk] at he
  split at he
  ·cases he
  rename_i g hg
  split at he
  ·cases he
  rename_i f hf
  split at he
  case isFalse=>cases he
  rename_i hu
  refine qlQ r he fun f' hf' s hs=> ?_
  rcases List.mem_cons.1 hf' with rfl|hf'
  ·obtain ⟨u,hm,rfl⟩:=List.mem_map.1 hs
   have:=List.all_eq_true.1 hu u hm
   simp at this
   exact this.1
  ·exact h f' hf' s hs
theorem qil {wr:List Nat} {ops:Array Oper} {d:Bool} {σ':St} {c:List Bool} {ds:List Nat} (he:qc7 E wr ops d σ=some (σ',c,ds)):∀s∈ds,s∈wr:=by
 unfold qc7 at he
 split at he
 case h_2=>cases he
 rename_i σ1 c1 fs h1
 split at he
 case isFalse=>cases he
 injection he with he
 simp only [Prod.mk.injEq] at he
 obtain ⟨rfl,rfl,rfl⟩:=he
 intro s hs
 obtain ⟨f,hf,hs⟩:=List.mem_flatMap.1 hs
 exact qlQ ops.toList h1 (fun f hf=>by cases hf) f hf s hs
theorem qqf (hpc:qrF C a.tmps) (h:qR C σ a.tmps w own) {c:Operand} {x:Bool} {ow:List Nat} (he:Q.run (qi σ) ((opd E [] 0 c).bind qk2)=some ⟨.bool,x,ow⟩):a.eval c= .bool x:=by
 obtain ⟨o1,h1,h2⟩:=Q.bind_some he
 exact qau.bool (qcY h (qax h ⟨hpc,fun q hq=>by cases hq⟩ h1) h2)
theorem qq3 {σ:St} {own:Nat→List Nat} (l:List Nat) (s:Nat) (h:qR C σ tm w own):∃own',qR C (qqi l σ s) tm w own':=by
 unfold qqi
 split
 ·rename_i av t hr
  split
  ·exact h.refill hr
  ·exact ⟨own,h⟩
 ·exact ⟨own,h⟩
theorem qqo {wr l:List Nat} {σ:St} {s:Nat} (hl:∀t∈l,t∈wr) (hs:s∈wr):Fr wr σ (qqi l σ s):=by
 unfold qqi
 split
 ·rename_i av t hr
  split
  ·rename_i ht
   refine qdD _ fun u hu=> ?_
   rcases List.mem_cons.1 hu with rfl|hu
   ·exact hs
   ·rw [List.mem_singleton.1 hu]
    exact hl t (by simpa using ht)
  ·exact Fr.refl _ _
 ·exact Fr.refl _ _
theorem qqY (l0:List Nat):(l:List Nat)→ {σ:St} → {own:Nat→List Nat} →qR C σ tm w own→∃own',qR C (l.foldl (qqi l0) σ) tm w own'
 |[],_,own,h=>⟨own,h⟩
 |s::l,σ,own,h=>by
  obtain ⟨own1,h1⟩:=qq3 l0 s h
  exact qqY l0 l h1
theorem qsv (l:List Nat) {σ:St} {own:Nat→List Nat} (h:qR C σ tm w own):∃own',qR C (qsi l σ) tm w own':=qqY l l h
theorem qq1 {wr l0:List Nat} (hl:∀t∈l0,t∈wr):(l:List Nat)→ {σ:St} →(∀s∈l,s∈wr)→Fr wr σ (l.foldl (qqi l0) σ)
 |[],σ,_=>Fr.refl _ _
 |s::l,σ,h=>(qqo hl (h s List.mem_cons_self)).trans (qq1 hl l fun s' hs=>h s' (List.mem_cons_of_mem _ hs))
theorem qsj {wr:List Nat} (l:List Nat) {σ:St} (h:∀s∈l,s∈wr):Fr wr σ (qsi l σ):=qq1 h l h
theorem qfP:(l:List Nat)→ {σ:St} → {own:Nat→List Nat} →qR C σ tm w own→∃own',qR C (qhg l σ) tm w own'
 |[],_,own,h=>⟨own,h⟩
 |s::l,σ,own,h=>by
  obtain ⟨own1,h1,_⟩:=h.freeze s
  exact qfP l h1
theorem qfQ {wr:List Nat} :(l:List Nat)→ {σ:St} →(∀s∈l,s∈wr)→Fr wr σ (qhg l σ)
 |[],σ,_=>Fr.refl _ _
 |s::l,σ,h=>by
  have h1:Fr wr σ (qf σ [⟨s,false,(qi σ s).2.freeze⟩]):=qdD _ fun u hu=>by
   rw [List.mem_singleton.1 hu]
   exact h s List.mem_cons_self
  exact h1.trans (qfQ l fun s' hs=>h s' (List.mem_cons_of_mem _ hs))
theorem qpz {σ:St} {own:Nat→List Nat} (s:Nat) (h:qR C σ tm w own):∃own',qR C (qkQ σ s) tm w own':=by
 unfold qkQ
 split
 ·rename_i t x hs
  obtain ⟨own',h1,_⟩:=h.expose (u:=t) (x:=x) (f:=false) hs rfl (by simp [BC.get,Ty.sub_self])
  exact ⟨own',h1⟩
 ·exact ⟨own,h⟩
theorem qkx:(l:List Nat)→ {σ:St} → {own:Nat→List Nat} →qR C σ tm w own→∃own',qR C (qjX l σ) tm w own'
 |[],_,own,h=>⟨own,h⟩
 |s::l,σ,own,h=>by
  obtain ⟨own1,h1⟩:=qpz s h
  exact qkx l h1
theorem qkC {wr:List Nat} :(l:List Nat)→ {σ:St} →(∀s∈l,s∈wr)→Fr wr σ (qjX l σ)
 |[],σ,_=>Fr.refl _ _
 |s::l,σ,h=>by
  have h1:Fr wr σ (qkQ σ s):=by
   unfold qkQ
   split
   ·rename_i t x _
    exact qdD [⟨s,true,.view t x 0⟩] fun u hu=>by
     rw [List.mem_singleton.1 hu]
     exact h s List.mem_cons_self
   ·exact Fr.refl _ _
  exact h1.trans (qkC l fun s' hs=>h s' (List.mem_cons_of_mem _ hs))
theorem qiB {σ1 σ2:St} :(l:List Nat)→∀s∈qlj σ1 σ2 l,s∈l
 |[],s,h=>h
 |x::l,s,h=>by
  simp only [qlj] at h
  split at h
  ·rcases List.mem_cons.1 h with rfl|h
   ·exact List.mem_cons_self
   ·exact List.mem_cons_of_mem _ (qiB l s h)
  ·exact List.mem_cons_of_mem _ (qiB l s h)
theorem qti (p:Nat×qdx) {σ:St} {own:Nat→List Nat} (h:qR C σ tm w own):∃own',qR C (fix1 p σ) tm w own':=by
 unfold fix1
 split
 ·exact h.refit p.2 p.1
 ·exact ⟨own,h⟩
theorem qn0 (wr:List Nat):(l:List (Nat×qdx))→ {σ:St} → {own:Nat→List Nat} →qR C σ tm w own→∃own',qR C (qsW wr l σ) tm w own'
 |[],_,own,h=>⟨own,h⟩
 |p::l,σ,own,h=>by
  obtain ⟨own1,h1⟩:=qq3 wr p.1 h
  obtain ⟨own2,h2⟩:=qti p h1
  exact qn0 wr l h2
theorem qow {wr:List Nat} : {l:List (Nat×qdx)} → {σ:St} →(h:∀q∈l,q.1∈wr)→Fr wr σ (qsW wr l σ)
 |[],σ,_=>Fr.refl _ _
 |p::l,σ,h=>by
  have h1:Fr wr σ (qqi wr σ p.1):=qqo (fun t ht=>ht) (h p List.mem_cons_self)
  have h2:Fr wr (qqi wr σ p.1) (fix1 p (qqi wr σ p.1)):=by
   unfold fix1
   split
   ·exact qdD [⟨p.1,false,_⟩] fun u hu=>by
     rw [List.mem_singleton.1 hu]
     exact h p List.mem_cons_self
   ·exact Fr.refl _ _
  exact (h1.trans h2).trans (qow fun q hq=>h q (List.mem_cons_of_mem _ hq))
theorem qp6 {frz:List (Nat×List Nat)} {wr:List Nat} {id:Nat} {ops:Array Oper} {d:Bool} {σ':St} {c:List Bool} {ds:List Nat} (he:regE E frz wr id ops d σ=some (σ',c,ds)):Fr wr σ σ'∧Fr ds σ σ'∧∀s∈ds,s∈wr:=by
 unfold regE at he
 split at he
 ·obtain ⟨h1,_,h3⟩:=qig he
  exact ⟨h1,h3,qil he⟩
 ·rename_i fz _
  split at he
  case isFalse=>cases he
  rename_i hall
  split at he
  case h_2=>cases he
  rename_i σ1 c1 d1 h1
  injection he with he
  simp only [Prod.mk.injEq] at he
  obtain ⟨rfl,rfl,rfl⟩:=he
  obtain ⟨g1,_,g3⟩:=qig h1
  simp only [Bool.and_eq_true] at hall
  have hsub:∀s∈qch frz (some (id+3000000000))++qch frz (some id),s∈wr:=fun s hs=>by
   have:=List.all_eq_true.1 hall.1 s hs
   simpa using this
  have hex:∀s∈qch frz (some (id+2000000000)),s∈qch frz (some (id+3000000000))++qch frz (some id):=fun s hs=>by
   have:=List.all_eq_true.1 hall.2 s hs
   simpa using this
  have fz:∀W:List Nat,(∀s∈qch frz (some (id+3000000000))++qch frz (some id),s∈W)→Fr W σ (qjX (qch frz (some (id+2000000000))) (qhg (qch frz (some id)) (qsi (qch frz (some (id+3000000000))) σ))):=fun W hW=>
   ((qsj _ fun s hs=>hW s (List.mem_append_left _ hs)).trans (qfQ _ fun s hs=>hW s (List.mem_append_right _ hs))).trans (qkC _ fun s hs=>hW s (hex s hs))
  refine ⟨(fz wr hsub).trans g1,(fz _ fun s hs=>List.mem_append_left _ hs).trans (g3.mono fun s hs=>List.mem_append_right _ hs),fun s hs=> ?_⟩
  rcases List.mem_append.1 hs with hs|hs
  ·exact hsub s hs
  ·exact qil h1 s hs
theorem qrb (hE:qbA E C.P) {pin:List Nat} (hF:qnl E C pin) {frz:List (Nat×List Nat)} {wr:List Nat} {id:Nat} {ops:Array Oper} {d:Bool} {Q:Exit→Act→World→Prop} {σ':St} {c:List Bool} {ds:List Nat} (hp:qlP pin ops.toList=true) (he:regE E frz wr id ops d σ=some (σ',c,ds)) (hc:qc0 c) (hpc:qrF C a.tmps) (h:qR C σ a.tmps w own)
  (hQ:∀a' w' own',qds pin a a'→qR C σ' a'.tmps w' own'→Q .normal a' w'):(Code.region id ops d).wp C.P Q a w:=by
 unfold regE at he
 split at he
 ·exact qiq hE hF hp he hc hpc h hQ
 ·split at he
  case isFalse=>cases he
  split at he
  case h_2=>cases he
  rename_i σ1 c1 d1 h1
  injection he with he
  simp only [Prod.mk.injEq] at he
  obtain ⟨rfl,rfl,rfl⟩:=he
  obtain ⟨own0,hst0⟩:=qsv (qch frz (some (id+3000000000))) h
  obtain ⟨own1,hst⟩:=qfP (qch frz (some id)) hst0
  obtain ⟨own2,hst2⟩:=qkx (qch frz (some (id+2000000000))) hst
  exact qiq hE hF hp h1 hc hpc hst2 hQ
theorem qhG {frz:List (Nat×List Nat)} {wr:List Nat} :(c:Code)→ {σ σ':St} → {ch:List Bool} → {ds:List Nat} →qpB E frz wr c σ=some (σ',ch,ds)→Fr wr σ σ'∧Fr ds σ σ'∧∀s∈ds,s∈wr
 | .skip,σ,σ',ch,ds,he=>by
  simp only [qpB,Option.some.injEq,Prod.mk.injEq] at he
  obtain ⟨rfl,rfl,rfl⟩:=he
  exact ⟨Fr.refl _ _,Fr.refl _ _,fun s hs=>by cases hs⟩
 | .region _ ops d,σ,σ',ch,ds,he=>by
  exact qp6 he
 | .seq x y,σ,σ',ch,ds,he=>by
  simp only [qpB] at he
  split at he
  case h_2=>cases he
  rename_i σ1 c1 d1 h1
  split at he
  case h_2=>cases he
  rename_i σ2 c2 d2 h2
  injection he with he
  simp only [Prod.mk.injEq] at he
  obtain ⟨rfl,rfl,rfl⟩:=he
  obtain ⟨g1,g2,g3⟩:=qhG x h1
  obtain ⟨k1,k2,k3⟩:=qhG y h2
  refine ⟨g1.trans k1,(g2.mono fun s hs=>List.mem_append_left _ hs).trans (k2.mono fun s hs=>List.mem_append_right _ hs),fun s hs=> ?_⟩
  rcases List.mem_append.1 hs with hs|hs
  ·exact g3 s hs
  ·exact k3 s hs
 | .cond c x y,σ,σ',ch,ds,he=>by
  simp only [qpB] at he
  split at he
  case h_2=>cases he
  split at he
  case h_2=>cases he
  rename_i σ1 c1 d1 σ2 c2 d2 h1 h2
  injection he with he
  simp only [Prod.mk.injEq] at he
  obtain ⟨rfl,rfl,rfl⟩:=he
  obtain ⟨g1,g2,g3⟩:=qhG x h1
  obtain ⟨k1,k2,k3⟩:=qhG y h2
  have hsub:∀s∈d1++d2,s∈wr:=fun s hs=>by
   rcases List.mem_append.1 hs with hs|hs
   ·exact g3 s hs
   ·exact k3 s hs
  exact ⟨qmQ hsub,qmQ fun s hs=>hs,hsub⟩
 | .label _,_,_,_,_,he=>by cases he
 | .block _ _,_,_,_,_,he=>by cases he
 | .loop _,_,_,_,_,he=>by cases he
 | .exit _,_,_,_,_,he=>by cases he
 | .goto _,_,_,_,_,he=>by cases he
 | .ret,_,_,_,_,he=>by cases he
theorem qoA {b:Bool} {c d:List Bool} (h:qc0 (qnU b c d)):qc0 (bif b then c else d):=by
 unfold qnU at h
 split at h
 ·cases b <;> exact fun x hx=>by cases hx
 ·have:=h _ (List.mem_singleton.2 rfl)
  cases b
  ·exact qjR this
  ·exact qjR this
theorem qkm (hE:qbA E C.P) {frz:List (Nat×List Nat)} {pin wr:List Nat} (hF:qnl E C pin):(c:Code)→qiu pin c=true→ {σ σ':St} → {ch:List Bool} → {ds:List Nat} → {Q1:Exit→Act→World→Prop} → {a:Act} → {w:World} → {own:Nat→List Nat} →qpB E frz wr c σ=some (σ',ch,ds)→qc0 ch→qrF C a.tmps→qR C σ a.tmps w own→
  (∀a' w' own',qds pin a a'→qR C σ' a'.tmps w' own'→Q1 .normal a' w')→c.wp C.P Q1 a w
 | .skip,hp,σ,σ',ch,ds,Q1,a,w,own,he,_,hpc,h,hQ=>by
  simp only [qpB,Option.some.injEq,Prod.mk.injEq] at he
  obtain ⟨rfl,rfl,rfl⟩:=he
  exact wp_skip (hQ a w own (qds.refl _ _) h)
 | .region _ ops d,hp,σ,σ',ch,ds,Q1,a,w,own,he,hc,hpc,h,hQ=>qrb hE hF hp he hc hpc h hQ
 | .seq x y,hp,σ,σ',ch,ds,Q1,a,w,own,he,hc,hpc,h,hQ=>by
  simp only [qpB] at he
  split at he
  case h_2=>cases he
  rename_i σ1 c1 d1 h1
  split at he
  case h_2=>cases he
  rename_i σ2 c2 d2 h2
  injection he with he
  simp only [Prod.mk.injEq] at he
  obtain ⟨rfl,rfl,rfl⟩:=he
  simp only [qiu,Bool.and_eq_true] at hp
  refine wp_seq (qkm hE hF x hp.1 h1 (fun b hb=>hc b (List.mem_append_left _ hb)) hpc h fun a1 w1 own1 hd1 hst1=> ?_)
  exact qkm hE hF y hp.2 h2 (fun b hb=>hc b (List.mem_append_right _ hb)) (hd1.pinC hF hpc) hst1 fun a2 w2 own2 hd2 hst2=>hQ a2 w2 own2 (hd2.trans hd1) hst2
 | .cond c x y,hp,σ,σ',ch,ds,Q1,a,w,own,he,hc,hpc,h,hQ=>by
  simp only [qpB] at he
  split at he
  case h_2=>cases he
  rename_i b ow hb
  split at he
  case h_2=>cases he
  rename_i σ1 c1 d1 σ2 c2 d2 h1 h2
  injection he with he
  simp only [Prod.mk.injEq] at he
  obtain ⟨rfl,rfl,rfl⟩:=he
  have hch:=qoA hc
  simp only [qiu,Bool.and_eq_true] at hp
  have f1:=(qhG x h1).2.1.mono (wr':=d1++d2) fun s hs=>List.mem_append_left _ hs
  have f2:=(qhG y h2).2.1.mono (wr':=d1++d2) fun s hs=>List.mem_append_right _ hs
  refine wp_cond (qqf hpc h hb) ?_
  have z1:=f1.trans (qfQ (qlj σ1 σ2 (d1++d2)) (qiB _))
  have z2:=f2.trans (qfQ (qlj σ2 σ1 (d1++d2)) (qiB _))
  cases b with
  |true=>
   refine qkm hE hF x hp.1 h1 hch hpc h fun a1 w1 own1 hd1 hst1=> ?_
   obtain ⟨own2,hst2⟩:=qfP (qlj σ1 σ2 (d1++d2)) hst1
   exact hQ a1 w1 own2 hd1 (qR.join (b:=true) hst2 z1 z2)
  |false=>
   refine qkm hE hF y hp.2 h2 hch hpc h fun a1 w1 own1 hd1 hst1=> ?_
   obtain ⟨own2,hst2⟩:=qfP (qlj σ2 σ1 (d1++d2)) hst1
   exact hQ a1 w1 own2 hd1 (qR.join (b:=false) hst2 z1 z2)
 | .label _,_,_,_,_,_,_,_,_,_,he,_,_,_,_=>by cases he
 | .block _ _,_,_,_,_,_,_,_,_,_,he,_,_,_,_=>by cases he
 | .loop _,_,_,_,_,_,_,_,_,_,he,_,_,_,_=>by cases he
 | .exit _,_,_,_,_,_,_,_,_,_,he,_,_,_,_=>by cases he
 | .goto _,_,_,_,_,_,_,_,_,_,he,_,_,_,_=>by cases he
 | .ret,_,_,_,_,_,_,_,_,_,he,_,_,_,_=>by cases he
theorem qgO {R:Type} {c:List Bool} {r:Option R} {x:R} (h:andThen c r=some x):qc0 c∧r=some x:=by
 unfold andThen at h
 split at h
 ·refine ⟨fun b hb=> ?_,h⟩
  cases hb
 ·cases hc:qsZ c with
  |true=>rw [hc] at h; exact ⟨qjR hc,h⟩
  |false=>rw [hc] at h; cases h
structure KOk {R:Type} (C:Ctx) (pin:List Nat) (k:K R) (r:R) (wr:List Nat) (σ:St) (ds:Act) (Q1:Exit→Act→World→Prop):Prop where
 n:∀σ' a' w' own',Fr wr σ σ'→qds pin ds a'→qR C σ' a'.tmps w' own'→k.n σ'=some r→Q1 .normal a' w'
 e:∀i σ' a' w' own',Fr wr σ σ'→qds pin ds a'→qR C σ' a'.tmps w' own'→k.e i σ'=some r→Q1 (.exit i) a' w'
 r:∀σ' a' w' own',Fr wr σ σ'→qds pin ds a'→qR C σ' a'.tmps w' own'→k.r σ'=some r→Q1 .ret a' w'
theorem KOk.fr {R:Type} {pin:List Nat} {k:K R} {r:R} {wr wr':List Nat} {ds ds':Act} {Q1:Exit→Act→World→Prop} (h:KOk C pin k r wr σ ds Q1) (hd:qds pin ds ds') (hs:∀s∈wr',s∈wr) (hf:Fr wr σ τ):KOk C pin k r wr' τ ds' Q1:=
 ⟨fun σ' a' w' own' f g=>h.n σ' a' w' own' (hf.trans (f.mono hs)) (g.trans hd),fun i σ' a' w' own' f g=>h.e i σ' a' w' own' (hf.trans (f.mono hs)) (g.trans hd),fun σ' a' w' own' f g=>h.r σ' a' w' own' (hf.trans (f.mono hs)) (g.trans hd)⟩
theorem ql1 {σ:St} {s v:Nat} {a:AV} (h:qi σ s=(v,a)) (ha:a≠ .undef):σ.set s (v,a)=σ:=by
 have hl:s<σ.length:=qfU (by rw [h]; exact ha)
 rw [←h]
 simp only [qi,List.getD_eq_getElem?_getD,List.getElem?_eq_getElem hl,Option.getD_some]
 exact List.set_getElem_self hl
theorem qc2 {R:Type} :(l:List Nat)→(σ:St)→(k:St→Option R)→qeR l σ k=k σ
 |[],_,_=>rfl
 |s::r,σ,k=>by
  unfold qeR
  split
  ·rename_i v t x h
   rw [qM,ql1 h (fun h=>by cases h)]
   exact qc2 r σ k
  ·rename_i v et e xs h
   rw [qM,ql1 h (fun h=>by cases h)]
   exact qc2 r σ k
  ·rename_i v t x h
   rw [qM,ql1 h (fun h=>by cases h)]
   exact qc2 r σ k
  ·exact qc2 r σ k
theorem qs3 (hE:qbA E C.P) {N:Nat} {anns:qsJ} {R:Type} {pin:List Nat} {r:R} (hF:qnl E C pin) (c:Code):qiu pin c=true→∀ {wr:List Nat} {σ:St} {k:K R} {Q1:Exit→Act→World→Prop} {a:Act} {w:World} {own:Nat→List Nat},
  qnL E N anns c wr σ k=some r→qrF C a.tmps→qR C σ a.tmps w own→KOk C pin k r wr σ a Q1→c.wp C.P Q1 a w:=by
 induction c with
 |skip=>intro hp wr σ k Q1 a w own he hpc h hk; exact wp_skip (hk.n σ a w own (Fr.refl _ _) (qds.refl _ _) h he)
 |region id ops d=>
  intro hp wr σ k Q1 a w own he hpc h hk
  simp only [qnL,qc2] at he
  split at he
  case h_2=>cases he
  rename_i σ1 c1 d1 h1
  obtain ⟨hc,he⟩:=qgO he
  exact qrb hE hF hp h1 hc hpc h fun a1 w1 own1 hd1 hst1=>hk.n _ a1 w1 own1 (qp6 h1).1 hd1 hst1 he
 |seq x y ihx ihy=>
  intro hp wr σ k Q1 a w own he hpc h hk
  simp only [qiu,Bool.and_eq_true] at hp
  refine wp_seq (ihx hp.1 he hpc h ⟨fun σ' a' w' own' f hd hst he'=> ?_,fun i σ' a' w' own' f hd hst he'=>hk.e i σ' a' w' own' f hd hst he',fun σ' a' w' own' f hd hst he'=>hk.r σ' a' w' own' f hd hst he'⟩)
  exact ihy hp.2 he' (hd.pinC hF hpc) hst (hk.fr hd (fun s hs=>hs) f)
 |cond c x y ihx ihy=>
  intro hp wr σ k Q1 a w own he hpc h hk
  simp only [qnL,qc2] at he
  cases hamb:qs5 c σ with
  |some wm=>
   obtain ⟨w0,m⟩:=wm
   simp only [qiu,Bool.and_eq_true] at hp
   obtain ⟨b,hev,hbm⟩:∃b,a.eval c= .bool b∧(b=w0→m=true):=by
    unfold qs5 at hamb
    split at hamb
    case h_2=>cases hamb
    rename_i t
    split at hamb
    case h_2=>cases hamb
    rename_i w1 m1 hat
    injection hamb with hamb
    injection hamb with e1 e2
    subst e1; subst e2
    have:=h.at_ t
    rw [hat] at this
    obtain ⟨_,b,h1,h2⟩:=this
    exact ⟨b,h1,h2⟩
   simp only [hamb] at he
   refine wp_cond hev ?_
   cases m with
   |true=>
    simp only [cond_true,qnB] at he
    split at he
    case isFalse=>cases he
    rename_i hag
    cases b with
    |true=>exact ihx hp.1 he hpc h hk
    |false=>exact ihy hp.2 (hag ▸ he) hpc h hk
   |false=>
    simp only [cond_false] at he
    have hne:b≠w0:=fun e=>by cases hbm e
    cases b <;> cases w0 <;> simp only at he <;> first|exact absurd rfl hne|exact ihx hp.1 he hpc h hk|exact ihy hp.2 he hpc h hk
  |none=>
  simp only [hamb] at he
  split at he
  case h_2=>cases he
  rename_i b ow hb
  split at he
  ·split at he
   case h_2=>cases he
   rename_i σ1 c1 d1 h1
   obtain ⟨hc,he⟩:=qgO he
   exact qkm hE hF (.cond c x y) hp h1 hc hpc h fun a1 w1 own1 hd1 hst1=>hk.n _ a1 w1 own1 (qhG _ h1).1 hd1 hst1 he
  ·simp only [qiu,Bool.and_eq_true] at hp
   refine wp_cond (qqf hpc h hb) ?_
   cases b with
   |true=>exact ihx hp.1 he hpc h hk
   |false=>exact ihy hp.2 he hpc h hk
 |block id x ih=>
  intro hp wr σ k Q1 a w own he hpc h hk
  refine wp_block (ih hp he hpc h ⟨fun σ' a' w' own' f hd hst he'=>hk.n σ' a' w' own' f hd hst he',fun i σ' a' w' own' f hd hst he'=> ?_,fun σ' a' w' own' f hd hst he'=>hk.r σ' a' w' own' f hd hst he'⟩)
  simp only at he'
  by_cases hi:i=id
  ·rw [if_pos hi] at he'
   subst hi
   simpa [Exit.inBlock] using hk.n σ' a' w' own' f hd hst he'
  ·rw [if_neg hi] at he'
   simpa [Exit.inBlock,hi] using hk.e i σ' a' w' own' f hd hst he'
 |exit id=>intro hp wr σ k Q1 a w own he hpc h hk; exact wp_exit (hk.e id σ a w own (Fr.refl _ _) (qds.refl _ _) h he)
 |ret=>intro hp wr σ k Q1 a w own he hpc h hk; exact wp_ret (hk.r σ a w own (Fr.refl _ _) (qds.refl _ _) h he)
 |loop x ih=>
  intro hp wr σ k Q1 a w own he hpc h hk
  simp only [qnL,qc2] at he
  split at he
  case h_2=>cases he
  rename_i A hA
  split at he
  case isFalse=>cases he
  rename_i hcond
  simp only [Bool.and_eq_true] at hcond
  obtain ⟨⟨c1,c2⟩,c3⟩:=hcond
  split at he
  case h_2=>cases he
  rename_i p0 hp0
  have hsub:∀s∈A.wr,s∈wr:=fun s hs=>by
   have:=List.all_eq_true.1 c1 s hs
   simpa using this
  have hlive:∀q∈A.live,q.1∈A.wr:=fun q hq=>by
   have:=List.all_eq_true.1 c2 q hq
   simpa using this
  have hn:=qdG c3
  obtain ⟨own0,h0⟩:=qn0 A.wr A.live h
  refine wp_loop_ghost (fun n a' w'=>∃q own',qR C (qfr A σ q) a'.tmps w' own'∧qds pin a a'∧qaI n (fun ih p=>qnL E N anns x A.wr (qfr A σ p) { k with n:=fun σ'=>match qnZ A.live (qsW A.wr A.live σ') with
     |some q=>ih q
     |none=>none }) q=some r) N ⟨p0,own0,qR.head (τ:=qsW A.wr A.live σ) h0 hlive hn h.wf (qow hlive) hp0,qds.refl _ _,he⟩ ?_
  rintro n a1 w1 ⟨q,own1,hst,hd1,hit⟩
  cases n with
  |zero=>cases hit
  |succ n=>
   have hfr:=qnw (σ:=σ) hlive hn q
   refine ih hp hit (hd1.pinC hF hpc) hst ⟨fun σ' a' w' own' f hd hst' he'=> ?_,fun i σ' a' w' own' f hd hst' he'=> ?_,fun σ' a' w' own' f hd hst' he'=> ?_⟩
   ·simp only at he'
    split at he'
    case h_2=>cases he'
    rename_i q' hq'
    obtain ⟨own2,hst2⟩:=qn0 A.wr A.live hst'
    exact ⟨n,Nat.lt_succ_self n,q',own2,qR.head (τ:=qsW A.wr A.live σ') hst2 hlive hn h.wf ((hfr.trans f).trans (qow hlive)) hq',hd.trans hd1,he'⟩
   ·exact hk.e i σ' a' w' own' ((hfr.trans f).mono hsub) (hd.trans hd1) hst' he'
   ·exact hk.r σ' a' w' own' ((hfr.trans f).mono hsub) (hd.trans hd1) hst' he'
 |_=>intro hp wr σ k Q1 a w own he hpc h hk; cases he
end
end Go.Vi
namespace Go.Vi
open Go.RowKit
section
variable {C:Ctx} {E:Env} {σ τ:St} {tm:Array Value} {a:Act} {w w':World} {own:Nat→List Nat} {o:Oper} {p:qgw} [Tabbed E C]
theorem qep: {l:List (List Nat)} →l.flatten.Nodup→(∀i,(l.getD i []).Nodup)∧∀i j b,b∈l.getD i []→b∈l.getD j []→i=j
 |[],_=>⟨fun i=>by simp,fun i j b h=>by simp at h⟩
 |x::l,h=>by
  rw [List.flatten_cons] at h
  obtain ⟨h1,h2,h3⟩:=List.nodup_append.1 h
  obtain ⟨k1,k2⟩:=qep h2
  have mem:∀i b,b∈l.getD i []→b∈l.flatten:=fun i b hb=>by
   rw [List.getD_eq_getElem?_getD] at hb
   cases hi:l[i]? with
   |none=>rw [hi] at hb; simp at hb
   |some y=>
    rw [hi] at hb
    exact List.mem_flatten.2 ⟨y,List.mem_of_getElem? hi,by simpa using hb⟩
  refine ⟨fun i=> ?_,fun i j b hi hj=> ?_⟩
  ·cases i with
   |zero=>simpa using h1
   |succ i=>simpa using k1 i
  ·cases i with
   |zero=>
    cases j with
    |zero=>rfl
    |succ j=>exact (h3 b (by simpa using hi) b (mem j b (by simpa using hj)) rfl).elim
   |succ i=>
    cases j with
    |zero=>exact (h3 b (by simpa using hj) b (mem i b (by simpa using hi)) rfl).elim
    |succ j=>rw [k2 i j b (by simpa using hi) (by simpa using hj)]
theorem qdr {X:Sit} {F:Nat→Prop} (hF:∀b,F b→b<X.w.heap.size→X.F b):(ps:List PM)→ {x:PMs.den ps} → {vs:List Value} → {g i:List Nat} →qaj X.P X.w F ps x vs g i→(g++i).Nodup→
  ∃owns:List (List Nat),owns.length=ps.length∧vs.length=ps.length∧(qbJ ps x).length=ps.length∧owns.flatten.Nodup∧(∀b∈owns.flatten,b∈g++i)∧
   ∀k,k<ps.length→qak X (qi (qbJ ps x) k).2 (vs.getD k undef) (owns.getD k [])∧(qi (qbJ ps x) k).2.mentions=[]
 |[],x,vs,g,i,⟨h1,h2,h3⟩,_=>⟨[],rfl,by rw [h1]; rfl,rfl,by simp,fun b hb=>by simp at hb,fun k hk=>by cases hk⟩
 | .val t::ps,x,vs,g,i,⟨v,r,h1,h2,h3⟩,hn=>by
  obtain ⟨owns,k1,k2,k3,k4,k5,k6⟩:=qdr hF ps h3 hn
  refine ⟨[]::owns,by simp [k1],by rw [h1]; simp [k2],by simp [qbJ,k3],by simpa using k4,by simpa using k5,fun k hk=> ?_⟩
  cases k with
  |zero=>exact ⟨⟨rfl,by rw [h1]; exact h2.mono hF⟩,rfl⟩
  |succ k=>rw [h1]; exact k6 k (by simpa using hk)
 | .nil et e::ps,x,vs,g,i,⟨r,h1,h3⟩,hn=>by
  obtain ⟨owns,k1,k2,k3,k4,k5,k6⟩:=qdr hF ps h3 hn
  refine ⟨[]::owns,by simp [k1],by rw [h1]; simp [k2],by simp [qbJ,k3],by simpa using k4,by simpa using k5,fun k hk=> ?_⟩
  cases k with
  |zero=>exact ⟨⟨rfl,by rw [h1]; rfl⟩,rfl⟩
  |succ k=>rw [h1]; exact k6 k (by simpa using hk)
 | .rd t::ps,x,vs,g,i,⟨ad,cs,r,h1,h2,h3,h4,h5,h6⟩,hn=>by
  obtain ⟨owns,k1,k2,k3,k4,k5,k6⟩:=qdr hF ps h6 hn
  refine ⟨[]::owns,by simp [k1],by rw [h1]; simp [k2],by simp [qbJ,k3],by simpa using k4,by simpa using k5,fun k hk=> ?_⟩
  cases k with
  |zero=>exact ⟨⟨rfl,ad,cs,by rw [h1]; simp [Addr.add],hF _ h2 h3,h3,h4,h5.keep fun b hb hlt=>⟨hF b hb hlt,hlt,rfl⟩⟩,rfl⟩
  |succ k=>rw [h1]; exact k6 k (by simpa using hk)
 | .ior et e::ps,x,vs,g,i,⟨v,r,i1,i2,h1,h2,h3,h4⟩,hn=>by
  rw [h2] at hn
  have hn':=List.nodup_append.1 hn
  have hni:=List.nodup_append.1 hn'.2.1
  have hn2:(g++i2).Nodup:=List.nodup_append.2 ⟨hn'.1,hni.2.1,fun b hb b' hb'=>hn'.2.2 b hb b' (List.mem_append_right _ hb')⟩
  obtain ⟨owns,k1,k2,k3,k4,k5,k6⟩:=qdr hF ps h4 hn2
  refine ⟨i1::owns,by simp [k1],by rw [h1]; simp [k2],by simp [qbJ,k3],?_,?_,fun k hk=> ?_⟩
  ·rw [List.flatten_cons]
   refine List.nodup_append.2 ⟨hni.1,k4,fun b hb b' hb' e=> ?_⟩
   subst e
   rcases List.mem_append.1 (k5 b hb') with hm|hm
   ·exact hn'.2.2 b hm b (List.mem_append_left _ hb) rfl
   ·exact hni.2.2 b hb b hm rfl
  ·intro b hb
   rw [List.flatten_cons] at hb
   rw [h2]
   rcases List.mem_append.1 hb with hb|hb
   ·exact List.mem_append_right _ (List.mem_append_left _ hb)
   ·rcases List.mem_append.1 (k5 b hb) with hm|hm
    ·exact List.mem_append_left _ hm
    ·exact List.mem_append_right _ (List.mem_append_right _ hm)
  ·cases k with
   |zero=>exact ⟨by rw [h1]; exact h3.own.keep (fun b hb hlt=>⟨hF b hb hlt,hlt,rfl⟩) (fun _ _ _=>rfl),rfl⟩
   |succ k=>rw [h1]; exact k6 k (by simpa using hk)
 | .fn ts us::ps,x,vs,g,i,⟨v,r,h1,h2,h3⟩,hn=>by
  obtain ⟨owns,k1,k2,k3,k4,k5,k6⟩:=qdr hF ps h3 hn
  refine ⟨[]::owns,by simp [k1],by rw [h1]; simp [k2],by simp [qbJ,k3],by simpa using k4,by simpa using k5,fun k hk=> ?_⟩
  cases k with
  |zero=>exact ⟨⟨rfl,by rw [h1]; exact h2.keep fun b hb hlt=>⟨hF b hb hlt,hlt,rfl⟩⟩,rfl⟩
  |succ k=>rw [h1]; exact k6 k (by simpa using hk)
 | .own et e::ps,x,vs,g,i,⟨v,r,g1,g2,h1,h2,h3,h4⟩,hn=>by
  rw [h2,List.append_assoc] at hn
  obtain ⟨n1,n2,n3⟩:=List.nodup_append.1 hn
  obtain ⟨owns,k1,k2,k3,k4,k5,k6⟩:=qdr hF ps h4 n2
  refine ⟨g1::owns,by simp [k1],by rw [h1]; simp [k2],by simp [qbJ,k3],?_,?_,fun k hk=> ?_⟩
  ·rw [List.flatten_cons]
   exact List.nodup_append.2 ⟨n1,k4,fun b hb b' hb'=>n3 b hb b' (k5 b' hb')⟩
  ·intro b hb
   rw [List.flatten_cons] at hb
   rw [h2,List.append_assoc]
   rcases List.mem_append.1 hb with hb|hb
   ·exact List.mem_append_left _ hb
   ·exact List.mem_append_right _ (k5 b hb)
  ·cases k with
   |zero=>exact ⟨by rw [h1]; exact h3.keep (fun b hb hlt=>⟨hF b hb hlt,hlt,rfl⟩) (fun _ _ _=>rfl),rfl⟩
   |succ k=>rw [h1]; exact k6 k (by simpa using hk)
 | .io t::ps,x,vs,g,i,⟨b0,r,i2,cs,te,h1,h2,h3,h4,h5⟩,hn=>by
  rw [h2] at hn
  have hn':=List.nodup_append.1 hn
  have hni:=List.nodup_cons.1 hn'.2.1
  have hn2:(g++i2).Nodup:=List.nodup_append.2 ⟨hn'.1,hni.2,fun b hb b' hb'=>hn'.2.2 b hb b' (List.mem_cons_of_mem _ hb')⟩
  obtain ⟨owns,k1,k2,k3,k4,k5,k6⟩:=qdr hF ps h5 hn2
  refine ⟨[b0]::owns,by simp [k1],by rw [h1]; simp [k2],by simp [qbJ,k3],?_,?_,fun k hk=> ?_⟩
  ·rw [List.flatten_cons]
   refine List.nodup_append.2 ⟨by simp,k4,fun b hb b' hb' e=> ?_⟩
   simp at hb
   subst hb; subst e
   rcases List.mem_append.1 (k5 b hb') with hm|hm
   ·exact hn'.2.2 b hm b List.mem_cons_self rfl
   ·exact hni.1 hm
  ·intro b hb
   rw [List.flatten_cons] at hb
   rw [h2]
   rcases List.mem_append.1 hb with hb|hb
   ·simp at hb; subst hb; simp
   ·rcases List.mem_append.1 (k5 b hb) with hm|hm
    ·exact List.mem_append_left _ hm
    ·exact List.mem_append_right _ (List.mem_cons_of_mem _ hm)
  ·cases k with
   |zero=>exact ⟨⟨b0,cs,[],te,by rw [h1]; rfl,h3,⟨rfl,h4.keep fun b hb hlt=>⟨hF b hb hlt,hlt,rfl⟩⟩,rfl⟩,rfl⟩
   |succ k=>rw [h1]; exact k6 k (by simpa using hk)
 | .iob t::ps,x,vs,g,i,⟨b0,r,g1,g2,i2,cs,te,h1,h0,h2,h3,h4,h5⟩,hn=>by
  subst h0; subst h2
  have hp:((g1++g2)++b0::i2).Perm ((b0::g1)++(g2++i2)):=List.perm_iff_count.2 fun a=>by simp only [List.count_append,List.count_cons]; omega
  have hn':=List.nodup_append.1 (hp.nodup_iff.1 hn)
  obtain ⟨owns,k1,k2,k3,k4,k5,k6⟩:=qdr hF ps h5 hn'.2.1
  refine ⟨(b0::g1)::owns,by simp [k1],by rw [h1]; simp [k2],by simp [qbJ,k3],?_,?_,fun k hk=> ?_⟩
  ·rw [List.flatten_cons]
   exact List.nodup_append.2 ⟨hn'.1,k4,fun b hb b' hb'=>hn'.2.2 b hb b' (k5 b' hb')⟩
  ·intro b hb
   rw [List.flatten_cons] at hb
   refine hp.mem_iff.2 ?_
   rcases List.mem_append.1 hb with hb|hb
   ·exact List.mem_append_left _ hb
   ·exact List.mem_append_right _ (k5 b hb)
  ·cases k with
   |zero=>exact ⟨⟨b0,cs,g1,te,by rw [h1]; rfl,h3,h4.keep (fun b hb hlt=>⟨hF b hb hlt,hlt,rfl⟩) (fun _ _ _=>rfl),rfl⟩,rfl⟩
   |succ k=>rw [h1]; exact k6 k (by simpa using hk)
theorem qgW {fn:Func} {ps:List PM} {x:PMs.den ps} {k:Nat} (hl:(qbJ ps x).length=ps.length) (hk:k<ps.length):qi (qex fn ps x) k=qi (qbJ ps x) k:=by
 simp [qi,qex,List.getD_eq_getElem?_getD,List.getElem?_append_left (show k<(qbJ ps x).length by omega)]
theorem qgd {fn:Func} {ps:List PM} {x:PMs.den ps} {k:Nat} (hl:(qbJ ps x).length=ps.length) (hk:¬k<ps.length):qi (qex fn ps x) k=(0,.undef):=by
 simp only [qi,qex,List.getD_eq_getElem?_getD]
 rw [List.getElem?_append_right (by omega),List.getElem?_replicate]
 split <;> rfl
theorem qsA {pn:Nat→Option Nat} {P:Program} {F:Nat→Prop} {fn:Func} {ps:List PM} {x:PMs.den ps} {vs:List Value} {g i:List Nat} {T:qk1} (hT:qdn T w fun b=>F b∧¬b∈g++i) (hlen:ps.length≤fn.ntmps) (hp:qaj P w F ps x vs g i) (hpre:∀b∈g++i,¬F b∧b<w.heap.size) (hn:(g++i).Nodup):
  ∃own,qR { P,w0:=w,O:=fun b=>b∈g++i,G:=F,pn,T,hT } (qex fn ps x) (vs.toArray++Array.replicate (fn.ntmps - vs.toArray.size) undef) w own:=by
 have base:∃owns:List (List Nat),owns.length=ps.length∧vs.length=ps.length∧(qbJ ps x).length=ps.length∧owns.flatten.Nodup∧(∀b∈owns.flatten,b∈g++i)∧
   ∀k,k<ps.length→qak { P,ver:=fun s=>(qi (qex fn ps x) s).1,tm:=fun s=>(vs.toArray++Array.replicate (fn.ntmps - vs.toArray.size) undef).getD s undef,w,F:=fun b=>F b,own:=fun _=>[],pn } (qi (qbJ ps x) k).2 (vs.getD k undef) (owns.getD k [])∧(qi (qbJ ps x) k).2.mentions=[]:=
  qdr (X:= { P,ver:=_,tm:=_,w,F:=fun b=>F b,own:=fun _=>[],pn }) (fun b hb _=>hb) ps hp hn
 obtain ⟨owns,k1,k2,k3,k4,k5,k6⟩:=base
 obtain ⟨n1,n2⟩:=qep k4
 have mem:∀s b,b∈owns.getD s []→b∈g++i:=fun s b hb=>by
  refine k5 b ?_
  rw [List.getD_eq_getElem?_getD] at hb
  cases hi:owns[s]? with
  |none=>rw [hi] at hb; simp at hb
  |some y=>
   rw [hi] at hb
   exact List.mem_flatten.2 ⟨y,List.mem_of_getElem? hi,by simpa using hb⟩
 have hsl:(qex fn ps x).length=fn.ntmps:=by simp [qex,k3]; omega
 have hz:∀k,¬k<ps.length→owns.getD k []=[]:=fun k hk=>by
  rw [List.getD_eq_getElem?_getD,List.getElem?_eq_none (by omega)]; rfl
 refine ⟨fun s=>owns.getD s [],⟨?_,qcA.refl _ _,fun s b hb=>⟨.inl (mem s b hb),(hpre b (mem s b hb)).2⟩,n1,n2,fun s hs=>hz s (by omega),fun s hs=> ?_,fun s m hm=> ?_⟩⟩
 ·simp [hsl,k2]; omega
 ·by_cases hk:s<ps.length
  ·rw [qgW k3 hk]
   obtain ⟨h1,h2⟩:=k6 s hk
   have e:(vs.toArray++Array.replicate (fn.ntmps - vs.toArray.size) undef).getD s undef=vs.getD s undef:=by
    rw [Array.getD_eq_getD_getElem?,Array.getElem?_append_left (by simp [k2]; exact hk),List.getD_eq_getElem?_getD]
    simp
   rw [e]
   refine qak.keep (X:= { P,ver:=fun s=>(qi (qex fn ps x) s).1,tm:=fun s=>(vs.toArray++Array.replicate (fn.ntmps - vs.toArray.size) undef).getD s undef,w,F:=fun b=>F b,own:=fun _=>[],pn }) (X':=sit { P,w0:=w,O:=fun b=>b∈g++i,G:=F,pn,T,hT } (qex fn ps x) (vs.toArray++Array.replicate (fn.ntmps - vs.toArray.size) undef) w (fun s=>owns.getD s [])) ⟨rfl,rfl⟩ (fun b hb hlt=>⟨⟨.inl hb,hlt,fun s' hs'=>(hpre b (mem s' b hs')).1 hb⟩,hlt,rfl⟩) (fun _ _ _=>rfl) (fun m hm=>by rw [h2] at hm; cases hm) h1
  ·rw [qgd k3 hk]
   trivial
 ·by_cases hk:s<ps.length
  ·rw [qgW k3 hk,(k6 s hk).2] at hm
   cases hm
  ·rw [qgd k3 hk] at hm
   cases hm
def qqV (tmps:Array Value):ResultVar→Sem Value
 | .tmp t=>pure (tmps.getD t undef)
 | .cell a t=>do loadVar t (←asAddr (tmps.getD a undef))
theorem qop {P:Program} {t:Nat} {u:Ty} (h:TyB P t u) {ad:Addr} {cs:List Value} (hc:qfc w ad cs) (hl:cs.length=u.size):(loadVar t ad).run P w= .ok (mkV u cs) w:=by
 have:=qc4 (w:=w) h hc hl
 simpa only [Instr.loadAt,Instr.sureAddr,Sem.run_bind,Sem.run_pure,Result.andThen_ok] using this
theorem qj9 (hE:qbA E C.P) (h:qR C σ tm w own):(r:RM)→ {v:ResultVar} → {x:r.den×List Nat} →(qlu E r v).run (qi σ)=some x→∃z,(qqV tm v).run C.P w= .ok z w∧
  (match r,x with
   | .val t,x=>qau w (FW (sit C σ tm w own) x.2) t x.1 z
   | .nz e,x=>qau w (C.free w own) (.slice e) x.1 z∧(∀c,(nzC [.nz e] [v]).run (qi σ)=some c→qc0 c→x.1=[]→z= .slice none 0 0)
   | .own et e,x=>∃s',x.2=[s']∧qS w (C.free w own) et e x.1 z (own s')∧∃ys,(qi σ s').2= .own et e ys)
 | .val t,.tmp s,x,he=>by
  simp only [qlu,Q.run_get] at he
  exact ⟨tm.getD s undef,rfl,qcH h (o:=⟨some s,(qi σ s).1,(qi σ s).2⟩) ⟨rfl,rfl,h.at_ s⟩ he⟩
 | .val u,.cell s t,x,he=>by
  simp only [qlu,Q.run_get] at he
  have hat:=h.at_ s
  split at he
  case h_2=>cases he
  rename_i c hc
  split at he
  case isFalse=>cases he
  rename_i hcond
  split at he
  case h_2=>cases he
  rename_i y f hg
  have:=Q.ret_some he
  subst this
  obtain ⟨b0,cs,bs',te,b1,b2,b3,b4⟩:=h.box (a:= { tmps:=tm,defers:=[] }) hc
  obtain ⟨q1,q2,q3⟩:=b3.get hg
  have hcl:=b3.length
  rw [List.drop_zero,List.take_of_length_le (by omega)] at q2
  rw [List.drop_zero,List.take_of_length_le (by omega)] at q3
  refine ⟨mkV u cs,?_,qau.ofCells ?_⟩
  ·have hcs:qfc w ⟨b0,0,none⟩ cs:=by
    intro j u hj
    rw [qai,qg6 b2,Nat.zero_add]
    exact hj
   have hl:=qop (hE.ty t u hcond.1) hcs (by omega)
   have b1:tm.getD s undef=ptr b0 0:=b1
   simp only [qqV,b1,ptr,asAddr,Sem.run_bind,Sem.run_pure,Result.andThen_ok]
   exact hl
  ·cases f with
   |false=>exact (q3 rfl).keep fun b hb hlt=>⟨.inl hb,hlt,rfl⟩
   |true=>
    refine q2.keep fun b hb hlt=>⟨?_,hlt,rfl⟩
    rcases hb with hb|hb
    ·exact .inl hb
    ·refine .inr ⟨s,List.mem_singleton.2 rfl,by show b∈own s; rw [b4]; exact List.mem_cons_of_mem _ hb,fun e=> ?_⟩
     have e:tm.getD s undef=ptr b 0:=e
     have b1:tm.getD s undef=ptr b0 0:=b1
     rw [b1] at e
     have e:=(qcM e).1
     subst e
     have hn:=h.nodup s
     rw [b4] at hn
     exact (List.nodup_cons.1 hn).1 hb
 | .own et e,.tmp s,x,he=>by
  simp only [qlu,Q.run_get] at he
  have hat:=h.at_ s
  split at he
  ·rename_i et' e' xs' h3
   rw [h3] at hat
   split at he
   ·rename_i het
    subst het
    split at he
    ·rename_i xs has
     have:=Q.ret_some he
     subst this
     obtain ⟨e1,e2⟩:=Ty.as_some has
     injection e1 with e1
     subst e1
     have e2:xs'=xs:=e2
     subst e2
     exact ⟨_,rfl,s,rfl,hat,_,h3⟩
    ·cases he
   ·cases he
  ·rename_i s' v0 h3
   rw [h3] at hat
   simp only [Q.run_get] at he
   split at he
   ·rename_i hv
    have hu:tm.getD s' undef=tm.getD s undef:=hat.2 hv
    have hat':=h.at_ s'
    rw [hu] at hat'
    split at he
    ·rename_i et' e' xs' h4
     rw [h4] at hat'
     split at he
     ·rename_i het
      subst het
      split at he
      ·rename_i xs has
       have:=Q.ret_some he
       subst this
       obtain ⟨e1,e2⟩:=Ty.as_some has
       injection e1 with e1
       subst e1
       have e2:xs'=xs:=e2
       subst e2
       exact ⟨_,rfl,s',rfl,hat',_,h4⟩
      ·cases he
     ·cases he
    ·cases he
   ·cases he
  ·cases he
 | .own _ _,.cell _ _,x,he=>by cases he
 | .nz _,.cell _ _,x,he=>by cases he
 | .nz e,.tmp s,x,he=>by
  simp only [qlu,Q.run_get] at he
  have hat:=h.at_ s
  split at he
  ·rename_i et e' h3
   rw [h3] at hat
   have:=Q.ret_some he
   subst this
   have hat:_∧_:=hat
   refine ⟨_,rfl,?_,fun c _ _ _=>hat.2⟩
   rw [hat.2]
   exact qau.ofSlice (.inl ⟨rfl,rfl⟩)
  ·rename_i e' xs h3
   rw [h3] at hat
   split at he
   case h_2=>cases he
   rename_i ys has
   have:=Q.ret_some he
   subst this
   obtain ⟨e1,e2⟩:=Ty.as_some has
   injection e1 with e1
   subst e1
   have e2:xs=ys:=e2
   subst e2
   exact ⟨_,rfl,hat.2.1,fun c _ _ h0=>hat.2.2 h0⟩
  ·rename_i e' xs h3
   rw [h3] at hat
   split at he
   case h_2=>cases he
   rename_i ys has
   have:=Q.ret_some he
   subst this
   obtain ⟨e1,e2⟩:=Ty.as_some has
   injection e1 with e1
   subst e1
   have e2:xs=ys:=e2
   subst e2
   refine ⟨_,rfl,hat.2,fun c hc hb h0=> ?_⟩
   simp only [nzC,Q.run_get,h3] at hc
   have:=Q.ret_some hc
   subst this
   have h0:xs=[]:=h0
   subst h0
   have:=hb _ (List.mem_singleton.2 rfl)
   rw [qkJ,qe] at this
   simp at this
  ·cases he
theorem qmy (r:RM) (v:ResultVar) (rs:List RM) (vs:List ResultVar) {c:List Bool} (hc:(nzC (r::rs) (v::vs)).run (qi σ)=some c) (hb:qc0 c):(∀c,(nzC [r] [v]).run (qi σ)=some c→qc0 c)∧∃c2,(nzC rs vs).run (qi σ)=some c2∧qc0 c2:=by
 have none:(nzC (r::rs) (v::vs)=nzC rs vs)→nzC [r] [v]= .ret []→(∀c,(nzC [r] [v]).run (qi σ)=some c→qc0 c)∧∃c2,(nzC rs vs).run (qi σ)=some c2∧qc0 c2:=fun e1 e2=>by
  rw [e1] at hc
  refine ⟨fun c h=> ?_,c,hc,hb⟩
  rw [e2] at h
  have:=Q.ret_some h
  subst this
  intro b hb
  cases hb
 cases r with
 |val t=>exact none rfl rfl
 |own et e=>exact none rfl rfl
 |nz e=>
  cases v with
  |cell a t=>exact none rfl rfl
  |tmp s=>
   simp only [nzC,Q.run_get] at hc⊢
   split at hc
   ·rename_i e' xs h3
    obtain ⟨c2,h1,h2⟩:=Q.bind_some hc
    have:=Q.ret_some h2
    subst this
    refine ⟨fun c h=> ?_,c2,h1,fun b hm=>hb b (List.mem_cons_of_mem _ hm)⟩
    have:=Q.ret_some (show (Q.ret [neI (qk xs) 0]).run (qi σ)=some c from h)
    subst this
    intro b hm
    exact hb b (by rw [List.mem_singleton.1 hm]; exact List.mem_cons_self)
   ·rename_i h3
    refine ⟨fun c h=> ?_,c,hc,hb⟩
    have:=Q.ret_some h
    subst this
    intro b hb
    cases hb
theorem qha (hE:qbA E C.P) (h:qR C σ tm w own):(rs:List RM)→ {vars:List ResultVar} → {q:RMs.den rs×List Nat×List Nat} →(qiU E rs vars).run (qi σ)=some q→(∃c,(nzC rs vars).run (qi σ)=some c∧qc0 c)→∃(vs:List Value) (bs:List Nat),(vars.mapM (qqV tm)).run C.P w= .ok vs w∧
  qaJ w (FW (sit C σ tm w own) q.2.2) (qcN rs q.1) vs bs∧(∀b∈bs,∃s∈q.2.1,b∈own s)∧(q.2.1.Nodup→bs.Nodup)∧∀s∈q.2.1,∃et e ys,(qi σ s).2= .own et e ys
 |[],[],q,he,_=>by
  have:=Q.ret_some he
  subst this
  exact ⟨[],[],rfl,⟨rfl,rfl⟩,fun b hb=>(by cases hb),fun _=>List.nodup_nil,fun s hs=>(by cases hs)⟩
 | .nz e::rs,v::vars,q,he,⟨c,hc,hb⟩=>by
  simp only [qiU] at he
  obtain ⟨x,h1,he⟩:=Q.bind_some he
  obtain ⟨q',h2,he⟩:=Q.bind_some he
  have:=Q.ret_some he
  subst this
  obtain ⟨n1,n2⟩:=qmy _ _ _ _ hc hb
  obtain ⟨z,hz,hr,hr2⟩:=qj9 hE h (.nz e) h1
  obtain ⟨vs,bs,k1,k2,k3,k4,k5⟩:=qha hE h rs h2 n2
  have hnz:∃c,(nzC [.nz e] [v]).run (qi σ)=some c:=by
   cases v with
   |cell a t=>exact ⟨[],rfl⟩
   |tmp s=>
    simp only [nzC,Q.run_get]
    split
    ·exact ⟨_,rfl⟩
    ·exact ⟨_,rfl⟩
  obtain ⟨c0,hc0⟩:=hnz
  refine ⟨z::vs,bs,by simp only [List.mapM_cons,Sem.run_bind,hz,Result.andThen_ok,k1,Sem.run_pure],⟨_,_,[],bs,rfl,rfl,⟨rfl,hr.mono fun b hb _=> .inl hb,hr2 c0 hc0 (n1 c0 hc0)⟩,k2⟩,k3,k4,k5⟩
 | .val t::rs,v::vars,q,he,⟨c,hc,hb⟩=>by
  simp only [qiU] at he
  obtain ⟨x,h1,he⟩:=Q.bind_some he
  obtain ⟨q',h2,he⟩:=Q.bind_some he
  have:=Q.ret_some he
  subst this
  obtain ⟨z,hz,hr⟩:=qj9 hE h (.val t) h1
  obtain ⟨vs,bs,k1,k2,k3,k4,k5⟩:=qha hE h rs h2 (qmy _ _ _ _ hc hb).2
  refine ⟨z::vs,bs,by simp only [List.mapM_cons,Sem.run_bind,hz,Result.andThen_ok,k1,Sem.run_pure],⟨_,_,[],bs,rfl,rfl,⟨rfl,hr.mono fun b hb _=>FW.mono (fun s hs=>List.mem_append_left _ hs) hb⟩,qaJ.turn rs (.inr fun b hb _=>FW.mono (fun s hs=>List.mem_append_right _ hs) hb) k2⟩,k3,k4,k5⟩
 | .own et e::rs,v::vars,q,he,⟨c,hc,hb⟩=>by
  simp only [qiU] at he
  obtain ⟨x,h1,he⟩:=Q.bind_some he
  obtain ⟨q',h2,he⟩:=Q.bind_some he
  have:=Q.ret_some he
  subst this
  obtain ⟨z,hz,s',hx,hr,ys,hys⟩:=qj9 hE h (.own et e) h1
  obtain ⟨vs,bs,k1,k2,k3,k4,k5⟩:=qha hE h rs h2 (qmy _ _ _ _ hc hb).2
  refine ⟨z::vs,own s'++bs,by simp only [List.mapM_cons,Sem.run_bind,hz,Result.andThen_ok,k1,Sem.run_pure],⟨_,_,own s',bs,rfl,rfl,hr.keep (fun b hb hlt=>⟨.inl hb,hlt,rfl⟩) (fun _ _ _=>rfl),k2⟩,fun b hb=> ?_,fun hn=> ?_,fun s2 hs2=> ?_⟩
  ·rcases List.mem_append.1 hb with hb|hb
   ·exact ⟨s',by simp [hx],hb⟩
   ·obtain ⟨s2,g1,g2⟩:=k3 b hb
    exact ⟨s2,List.mem_append_right _ g1,g2⟩
  ·simp only [hx] at hn
   have hn':=List.nodup_cons.1 hn
   refine List.nodup_append.2 ⟨h.nodup s',k4 hn'.2,fun b hb b' hb' e=> ?_⟩
   subst e
   obtain ⟨s2,g1,g2⟩:=k3 b hb'
   have:=h.apart s' s2 b hb g2
   subst this
   exact hn'.1 g1
  ·simp only [hx] at hs2
   rcases List.mem_cons.1 hs2 with rfl|hs2
   ·exact ⟨et,e,ys,hys⟩
   ·exact k5 s2 hs2
 |[],_::_,_,he,_=>by cases he
 | .val _::_,[],_,he,_=>by cases he
 | .own _ _::_,[],_,he,_=>by cases he
 | .nz _::_,[],_,he,_=>by cases he
def qce (tm:Nat→Value):List PM→Nat→List Value→List Nat→Prop
 |[],_,_,i=>i=[]
 | .io _::ps,k,as,i=>∃b i2,i=b::i2∧tm k=ptr b 0∧qce tm ps (k+1) as.tail i2
 | .iob _::ps,k,as,i=>∃b i2,i=b::i2∧tm k=ptr b 0∧qce tm ps (k+1) as.tail i2
 | .ior _ _::ps,k,as,i=>∃i1 i2,i=i1++i2∧tm k=as.headD undef∧i1=(as.headD undef).ownBlock.toList∧qce tm ps (k+1) as.tail i2
 | .val _::ps,k,as,i=>qce tm ps (k+1) as.tail i
 | .own _ _::ps,k,as,i=>qce tm ps (k+1) as.tail i
 | .fn _ _::ps,k,as,i=>qce tm ps (k+1) as.tail i
 | .nil _ _::ps,k,as,i=>qce tm ps (k+1) as.tail i
 | .rd _::ps,k,as,i=>qce tm ps (k+1) as.tail i
theorem qce.congr {tm tm':Nat→Value} :(ps:List PM)→(k:Nat)→ {as:List Value} → {i:List Nat} →(∀s∈qcx ps k,tm' s=tm s)→qce tm ps k as i→qce tm' ps k as i
 |[],_,_,_,_,h=>h
 | .io _::ps,k,_,_,he,⟨b,i2,h1,h2,h3⟩=>⟨b,i2,h1,by rw [he k (by simp [qcx])]; exact h2,h3.congr ps (k+1) fun s hs=>he s (by simp [qcx,hs])⟩
 | .iob _::ps,k,_,_,he,⟨b,i2,h1,h2,h3⟩=>⟨b,i2,h1,by rw [he k (by simp [qcx])]; exact h2,h3.congr ps (k+1) fun s hs=>he s (by simp [qcx,hs])⟩
 | .ior _ _::ps,k,_,_,he,⟨i1,i2,h1,h2,h3,h4⟩=>⟨i1,i2,h1,by rw [he k (by simp [qcx])]; exact h2,h3,h4.congr ps (k+1) fun s hs=>he s (by simp [qcx,hs])⟩
 | .val _::ps,k,_,_,he,h=>qce.congr ps (k+1) he h
 | .own _ _::ps,k,_,_,he,h=>qce.congr ps (k+1) he h
 | .fn _ _::ps,k,_,_,he,h=>qce.congr ps (k+1) he h
 | .nil _ _::ps,k,_,_,he,h=>qce.congr ps (k+1) he h
 | .rd _::ps,k,_,_,he,h=>qce.congr ps (k+1) he h
theorem qce.boxes {tm:Nat→Value} :(ps:List PM)→(k:Nat)→ {as:List Value} → {i:List Nat} →qce tm ps k as i→∃ib:List Nat,(qcm ps k).map tm=ib.map (fun b=>ptr b 0)
 |[],_,_,_,_=>⟨[],rfl⟩
 | .io _::ps,k,_,_,⟨b,i2,h1,h2,h3⟩=>by
  obtain ⟨ib,hib⟩:=h3.boxes ps (k+1)
  exact ⟨b::ib,by simp [qcm,h2,hib]⟩
 | .iob _::ps,k,_,_,⟨b,i2,h1,h2,h3⟩=>by
  obtain ⟨ib,hib⟩:=h3.boxes ps (k+1)
  exact ⟨b::ib,by simp [qcm,h2,hib]⟩
 | .ior _ _::ps,k,_,_,⟨i1,i2,h1,h2,h3,h4⟩=>by
  obtain ⟨ib,hib⟩:=h4.boxes ps (k+1)
  exact ⟨ib,by simp [qcm,hib]⟩
 | .val _::ps,k,_,_,h=>qce.boxes ps (k+1) h
 | .own _ _::ps,k,_,_,h=>qce.boxes ps (k+1) h
 | .fn _ _::ps,k,_,_,h=>qce.boxes ps (k+1) h
 | .nil _ _::ps,k,_,_,h=>qce.boxes ps (k+1) h
 | .rd _::ps,k,_,_,h=>qce.boxes ps (k+1) h
theorem qcp:(ps:List PM)→(k:Nat)→∀s∈qcm ps k,s∈qcx ps k
 |[],_,_,h=>h
 | .io _::ps,k,s,h=>by
  rcases List.mem_cons.1 h with rfl|h
  ·simp [qcx]
  ·simp [qcx,qcp ps (k+1) s h]
 | .iob _::ps,k,s,h=>by
  rcases List.mem_cons.1 h with rfl|h
  ·simp [qcx]
  ·simp [qcx,qcp ps (k+1) s h]
 | .ior _ _::ps,k,s,h=>by simp [qcx,qcp ps (k+1) s h]
 | .val _::ps,k,s,h=>qcp ps (k+1) s h
 | .own _ _::ps,k,s,h=>qcp ps (k+1) s h
 | .fn _ _::ps,k,s,h=>qcp ps (k+1) s h
 | .nil _ _::ps,k,s,h=>qcp ps (k+1) s h
 | .rd _::ps,k,s,h=>qcp ps (k+1) s h
theorem qdl (h:qR C σ a.tmps w own):(ps:List PM)→(k:Nat)→ {z:PMs.ioDen ps} → {as:List Value} → {i:List Nat} →(qfA ps k).run (qi σ)=some z→
  qce (fun s=>a.tmps.getD s undef) ps k as i→∃js:List Nat,js.Nodup∧(∀F:Nat→Prop,(∀b s c,k≤s→(qi σ s).2= .box c→b∈(own s).tail→b∉js→F b)→(∀b,C.free w own b→F b)→qcD w F ps z as i js)∧
   (∀b∈i,∃s,b∈own s∧((a.tmps.getD s undef=ptr b 0∧∃c,(qi σ s).2= .box c)∨(s∈qcv ps k∧∃et e ys,(qi σ s).2= .own et e ys)))∧
   ∀b∈js,∃s,k≤s∧b∈own s∧s∈qcv ps k∧(∃c,(qi σ s).2= .box c)∧a.tmps.getD s undef≠ptr b 0
 |[],k,z,as,i,_,hi=>by
  have hi:i=[]:=hi
  subst hi
  exact ⟨[],List.nodup_nil,fun _ _ _=>⟨rfl,rfl⟩,fun b hb=>(by cases hb),fun b hb=>(by cases hb)⟩
 | .val _::ps,k,z,as,i,he,hi=>by
  obtain ⟨js,n,g0,g1,g2⟩:=qdl h ps (k+1) (z:=z) he hi
  exact ⟨js,n,fun F hF hF0=>g0 F (fun b s c hk=>hF b s c (by omega)) hF0,g1,fun b hb=>by
   obtain ⟨s,q1,q2⟩:=g2 b hb
   exact ⟨s,by omega,q2⟩⟩
 | .own _ _::ps,k,z,as,i,he,hi=>by
  obtain ⟨js,n,g0,g1,g2⟩:=qdl h ps (k+1) (z:=z) he hi
  exact ⟨js,n,fun F hF hF0=>g0 F (fun b s c hk=>hF b s c (by omega)) hF0,g1,fun b hb=>by
   obtain ⟨s,q1,q2⟩:=g2 b hb
   exact ⟨s,by omega,q2⟩⟩
 | .fn _ _::ps,k,z,as,i,he,hi=>by
  obtain ⟨js,n,g0,g1,g2⟩:=qdl h ps (k+1) (z:=z) he hi
  exact ⟨js,n,fun F hF hF0=>g0 F (fun b s c hk=>hF b s c (by omega)) hF0,g1,fun b hb=>by
   obtain ⟨s,q1,q2⟩:=g2 b hb
   exact ⟨s,by omega,q2⟩⟩
 | .nil _ _::ps,k,z,as,i,he,hi=>by
  obtain ⟨js,n,g0,g1,g2⟩:=qdl h ps (k+1) (z:=z) he hi
  exact ⟨js,n,fun F hF hF0=>g0 F (fun b s c hk=>hF b s c (by omega)) hF0,g1,fun b hb=>by
   obtain ⟨s,q1,q2⟩:=g2 b hb
   exact ⟨s,by omega,q2⟩⟩
 | .rd _::ps,k,z,as,i,he,hi=>by
  obtain ⟨js,n,g0,g1,g2⟩:=qdl h ps (k+1) (z:=z) he hi
  exact ⟨js,n,fun F hF hF0=>g0 F (fun b s c hk=>hF b s c (by omega)) hF0,g1,fun b hb=>by
   obtain ⟨s,q1,q2⟩:=g2 b hb
   exact ⟨s,by omega,q2⟩⟩
 | .ior et e::ps,k,z,as,i,he,⟨i1,i2,p1,p2,p3,p4⟩=>by
  simp only [qfA,Q.run_get] at he
  split at he
  case h_2=>cases he
  rename_i et' e' xs hx
  split at he
  case isFalse=>cases he
  rename_i hty
  obtain ⟨hty,hmk⟩:=hty
  subst hty
  split at he
  case h_2=>cases he
  rename_i x hs
  obtain ⟨r,h1,he⟩:=Q.bind_some he
  have:=Q.ret_some he
  subst this
  obtain ⟨e1,e2⟩:=Ty.as_some hs
  injection e1 with e1
  subst e1
  have e2:xs=x:=e2
  subst e2
  obtain ⟨js,hjn,g1,g2,g3⟩:=qdl h ps (k+1) h1 p4
  have hat:=h.at_ k
  rw [hx,show a.tmps.getD k undef=as.headD undef from p2] at hat
  have hown:qfl w (C.free w own) et e' xs (as.headD undef) (own k):=qS.toRow hmk hat
  have hb:own k=i1:=by
   obtain ⟨_,cells,_,hb,_⟩:=hown
   rw [hb,p3]
  refine ⟨js,hjn,fun F hF hF0=>⟨i1,i2,p1,?_,g1 F (fun b s c hk=>hF b s c (by omega)) hF0⟩,fun b hbm=> ?_,fun b hb=> ?_⟩
  ·rw [hb] at hown
   exact hown.keep (fun b hb hlt=>⟨hF0 b hb,hlt,rfl⟩) (fun _ _ _=>rfl)
  ·rw [p1] at hbm
   rcases List.mem_append.1 hbm with hbm|hbm
   ·exact ⟨k,by rw [hb]; exact hbm,.inr ⟨by simp [qcv],et,e',xs,hx⟩⟩
   ·obtain ⟨s,q1,q2⟩:=g2 b hbm
    refine ⟨s,q1,q2.imp id fun ⟨q3,q4⟩=>⟨by simp [qcv,q3],q4⟩⟩
  ·obtain ⟨s,q0,q1,q2,q3⟩:=g3 b hb
   exact ⟨s,by omega,q1,by simp [qcv,q2],q3⟩
 | .io t::ps,k,z,as,i,he,⟨b,i2,p1,p2,p3⟩=>by
  subst p1
  simp only [qfA,Q.run_get] at he
  split at he
  case h_2=>cases he
  rename_i c hc
  split at he
  case h_2=>cases he
  rename_i x fl hg
  split at hg
  case isFalse=>cases hg
  rename_i hsz
  obtain ⟨r,h1,he⟩:=Q.bind_some he
  have:=Q.ret_some he
  subst this
  obtain ⟨b0,cs,bs',te,b1,b2,b3,b4⟩:=h.box hc
  have hb:b0=b:=(qcM (b1.symm.trans p2)).1
  subst hb
  obtain ⟨js,hjn,g1,g2,g3⟩:=qdl h ps (k+1) h1 p3
  obtain ⟨q1,q2,_⟩:=b3.get hg
  have hcl:=b3.length
  rw [List.drop_zero,List.take_of_length_le (by omega)] at q2
  refine ⟨js,hjn,fun F hF hF0=>⟨b0,i2,cs,te,rfl,b2,q2.keep fun b hb hlt=>⟨?_,hlt,rfl⟩,g1 F (fun b s c hk=>hF b s c (by omega)) hF0⟩,fun b hb=> ?_,fun b hb=> ?_⟩
  ·rcases hb with hb|hb
   ·exact hF0 b hb
   ·refine hF b k c (Nat.le_refl _) hc (by rw [b4]; exact hb) fun hj=> ?_
    obtain ⟨s,r0,r1,_⟩:=g3 b hj
    have:=h.apart s k b r1 (by rw [b4]; exact List.mem_cons_of_mem _ hb)
    omega
  ·rcases List.mem_cons.1 hb with rfl|hb
   ·exact ⟨k,by rw [b4]; exact List.mem_cons_self,.inl ⟨b1,c,hc⟩⟩
   ·exact g2 b hb
  ·obtain ⟨s,q0,q1,q2,q3⟩:=g3 b hb
   exact ⟨s,by omega,q1,by simpa [qcv] using q2,q3⟩
 | .iob t::ps,k,z,as,i,he,⟨b,i2,p1,p2,p3⟩=>by
  subst p1
  simp only [qfA,Q.run_get] at he
  split at he
  case h_2=>cases he
  rename_i c hc
  split at he
  case h_2=>cases he
  rename_i x hg
  obtain ⟨r,h1,he⟩:=Q.bind_some he
  have:=Q.ret_some he
  subst this
  obtain ⟨b0,cs,bs',te,b1,b2,b3,b4⟩:=h.box hc
  have hb:b0=b:=(qcM (b1.symm.trans p2)).1
  subst hb
  obtain ⟨js,hjn,g1,g2,g3⟩:=qdl h ps (k+1) h1 p3
  have hnd:=h.nodup k
  rw [b4] at hnd
  have hnd:=List.nodup_cons.1 hnd
  obtain ⟨j1,q1,q2⟩:=b3.fit t hnd.2 hg
  have hk:∀b∈j1,b∈own k:=fun b hb=>by rw [b4]; exact List.mem_cons_of_mem _ (q1.subset hb)
  have hjk:∀b∈own k,b∉js:=fun b hb hj=>by
   obtain ⟨s,r0,r1,_⟩:=g3 b hj
   have:=h.apart s k b r1 hb
   omega
  refine ⟨j1++js,List.nodup_append.2 ⟨hnd.2.sublist q1,hjn,fun b hb b' hb' e=>hjk b (hk b hb) (e ▸ hb')⟩,fun F hF hF0=>⟨b0,i2,j1,js,cs,te,rfl,rfl,b2,q2 F hF0 fun k' hk' hkn=> ?_,g1 F (fun b s c' hks hc' hb hnj=> ?_) hF0⟩,fun b hb=> ?_,fun b hb=> ?_⟩
  ·refine hF k' k c (Nat.le_refl _) hc (by rw [b4]; exact hk') fun hm=> ?_
   rcases List.mem_append.1 hm with hm|hm
   ·exact hkn hm
   ·exact hjk k' (by rw [b4]; exact List.mem_cons_of_mem _ hk') hm
  ·by_cases hj:b∈j1
   ·have:=h.apart s k b (List.mem_of_mem_tail hb) (hk b hj)
    omega
   ·exact hF b s c' (by omega) hc' hb fun hm=>(List.mem_append.1 hm).elim hj hnj
  ·rcases List.mem_cons.1 hb with rfl|hb
   ·exact ⟨k,by rw [b4]; exact List.mem_cons_self,.inl ⟨b1,c,hc⟩⟩
   ·obtain ⟨s,r1,r2⟩:=g2 b hb
    exact ⟨s,r1,r2.imp id fun ⟨q3,q4⟩=>⟨by simp [qcv,q3],q4⟩⟩
  ·rcases List.mem_append.1 hb with hb|hb
   ·refine ⟨k,Nat.le_refl _,hk b hb,by simp [qcv],⟨c,hc⟩,fun e=> ?_⟩
    have e2:a.tmps.getD k undef=ptr b0 0:=b1
    have:=(qcM (e2.symm.trans e)).1
    subst this
    exact hnd.1 (q1.subset hb)
   ·obtain ⟨s,r0,r1,r2,r3⟩:=g3 b hb
    exact ⟨s,by omega,r1,by simp [qcv,r2],r3⟩
end
end Go.Vi
namespace Go.Vi
open Go.RowKit
theorem qn5 {P:Program} {w:World} {fn:Func} {tmps:Array Value} {vs:List Value} (h:(fn.results.toList.mapM (qqV tmps)).run P w= .ok vs w):(results fn tmps).run P w=Result.ok (qd8 vs) w:=by
 have e:results fn tmps=(do
   let vs ←fn.results.mapM (qqV tmps)
   pure (if h:vs.size=1 then vs[0] else .tuple vs)):=rfl
 rw [e,Array.mapM_eq_mapM_toList]
 simp only [Sem.run_bind,Sem.run_map,h,Result.andThen_ok,Sem.run_pure]
 congr 1
 match vs with
 |[]=>rfl
 |[v]=>rfl
 |v::u::r=>simp [qd8]
theorem qcJ {P:Program} {w:World} {F:Nat→Prop} (tm:Nat→Value):(ps:List PM)→(k:Nat)→ {x:PMs.den ps} → {vs:List Value} → {g i:List Nat} →qaj P w F ps x vs g i→(∀j,j<ps.length→tm (k+j)=vs.getD j undef)→qce tm ps k vs i
 |[],k,x,vs,g,i,⟨_,_,h3⟩,_=>h3
 | .val t::ps,k,x,vs,g,i,⟨v,r,h1,h2,h3⟩,ht=>by
  subst h1
  exact qcJ tm ps (k+1) h3 fun j hj=>by
   have:=ht (j+1) (by simpa using hj)
   rw [show k+1+j=k+(j+1) from by omega]
   simpa using this
 | .nil _ _::ps,k,x,vs,g,i,⟨r,h1,h3⟩,ht=>by
  subst h1
  exact qcJ tm ps (k+1) h3 fun j hj=>by
   have:=ht (j+1) (by simpa using hj)
   rw [show k+1+j=k+(j+1) from by omega]
   simpa using this
 | .rd _::ps,k,x,vs,g,i,⟨_,_,r,h1,_,_,_,_,h3⟩,ht=>by
  subst h1
  exact qcJ tm ps (k+1) h3 fun j hj=>by
   have:=ht (j+1) (by simpa using hj)
   rw [show k+1+j=k+(j+1) from by omega]
   simpa using this
 | .fn _ _::ps,k,x,vs,g,i,⟨v,r,h1,h2,h3⟩,ht=>by
  subst h1
  exact qcJ tm ps (k+1) h3 fun j hj=>by
   have:=ht (j+1) (by simpa using hj)
   rw [show k+1+j=k+(j+1) from by omega]
   simpa using this
 | .own _ _::ps,k,x,vs,g,i,⟨v,r,g1,g2,h1,h2,h3,h4⟩,ht=>by
  subst h1
  exact qcJ tm ps (k+1) h4 fun j hj=>by
   have:=ht (j+1) (by simpa using hj)
   rw [show k+1+j=k+(j+1) from by omega]
   simpa using this
 | .ior _ _::ps,k,x,vs,g,i,⟨v,r,i1,i2,h1,h2,h3,h4⟩,ht=>by
  subst h1
  have h0:tm k=v:=by simpa using ht 0 (by simp)
  refine ⟨i1,i2,h2,h0,?_,qcJ tm ps (k+1) h4 fun j hj=> ?_⟩
  ·obtain ⟨_,cells,_,hb,_⟩:=h3
   exact hb
  ·have:=ht (j+1) (by simpa using hj)
   rw [show k+1+j=k+(j+1) from by omega]
   simpa using this
 | .iob t::ps,k,x,vs,g,i,⟨b,r,g1,g2,i2,cs,te,h1,h0,h2,h3,h4,h5⟩,ht=>by
  subst h1
  have h0:tm k=ptr b 0:=by simpa using ht 0 (by simp)
  refine ⟨b,i2,h2,h0,qcJ tm ps (k+1) h5 fun j hj=> ?_⟩
  have:=ht (j+1) (by simpa using hj)
  rw [show k+1+j=k+(j+1) from by omega]
  simpa using this
 | .io t::ps,k,x,vs,g,i,⟨b,r,i2,cs,te,h1,h2,h3,h4,h5⟩,ht=>by
  subst h1
  have h0:tm k=ptr b 0:=by simpa using ht 0 (by simp)
  refine ⟨b,i2,h2,h0,qcJ tm ps (k+1) h5 fun j hj=> ?_⟩
  have:=ht (j+1) (by simpa using hj)
  rw [show k+1+j=k+(j+1) from by omega]
  simpa using this
end Go.Vi
namespace Go.Vi
open Go.RowKit
theorem qqO (vs:List Value) (n:Nat) (j:Nat):(vs.toArray++Array.replicate n undef).getD j undef=vs.getD j undef:=by
 rw [Array.getD_eq_getD_getElem?,List.getD_eq_getElem?_getD]
 by_cases h:j<vs.length
 ·rw [Array.getElem?_append_left (by simpa using h)]
  simp
 ·rw [Array.getElem?_append_right (by simpa using h),List.getElem?_eq_none (by omega),Array.getElem?_replicate]
  split <;> rfl
theorem qqP {P:Program} {E:Env} (hE:qbA E P) {w w':World} {F:Nat→Prop} {fn:Func} {ps:List PM} {rs:List RM} {g i:List Nat} {σ:St} {a:Act} {own:Nat→List Nat} {y:RMs.den rs×PMs.ioDen ps}
  (hpre:∀b∈g++i,¬F b∧b<w.heap.size) (hn:(g++i).Nodup)
  {pn:Nat→Option Nat} {hT:qdn E.tabs w fun b=>F b∧¬b∈g++i} (h:qR { P,w0:=w,O:=fun b=>b∈g++i,G:=F,pn,T:=E.tabs,hT } σ a.tmps w' own) {as:List Value} (hpin:qce (fun s=>a.tmps.getD s undef) ps 0 as i) (he:qmT E fn ps rs σ=some y):
  ∃vs bs js,(results fn a.tmps).run P w'=Result.ok (qd8 vs) w'∧(bs++js).Nodup∧(∀b∈bs++js,(b∈g∨w.heap.size≤b)∧b<w'.heap.size)∧qaJ w' (qja w F g i (bs++js)) (qcN rs y.1) vs bs∧qcD w' (qja w F g i (bs++js)) ps y.2 as i js∧qcA (fun b=>b∈g++i) w w':=by
 haveI:Tabbed E { P,w0:=w,O:=fun b=>b∈g++i,G:=F,pn,T:=E.tabs,hT } :=⟨rfl⟩
 unfold qmT at he
 split at he
 case h_2=>cases he
 rename_i y1 gone ow z cc hr hz hcc
 split at he
 case isFalse=>cases he
 rename_i hc
 obtain ⟨hca,he⟩:=qgO he
 injection he with he
 subst he
 simp only [Bool.and_eq_true] at hc
 have hgn:=qdG hc.1.1
 have hap:=qeV hc.1.2
 have hrow:=qeV hc.2
 obtain ⟨vs0,bs,k1,k2,k3,k4,k5⟩:=qha hE h rs hr ⟨cc,hcc,hca⟩
 obtain ⟨js,hjn,hios,hio,hj⟩:=qdl h ps 0 hz hpin
 have hbi:∀b∈bs,b∉i:=fun b hb hi=>by
  obtain ⟨s,hs,hbs⟩:=k3 b hb
  obtain ⟨et,e,ys,hys⟩:=k5 s hs
  obtain ⟨s',h1,h2⟩:=hio b hi
  have:=h.apart s s' b hbs h1
  subst this
  rcases h2 with ⟨_,c,h3⟩|⟨h3,_⟩
  ·rw [h3] at hys
   cases hys
  ·exact hrow s (List.mem_append_left _ hs) h3
 have hbj:∀b∈bs,b∉js:=fun b hb hjb=>by
  obtain ⟨s,hs,hbs⟩:=k3 b hb
  obtain ⟨et,e,ys,hys⟩:=k5 s hs
  obtain ⟨s',_,h1,_,⟨c,h2⟩,_⟩:=hj b hjb
  have:=h.apart s s' b hbs h1
  subst this
  rw [h2] at hys
  cases hys
 have hji:∀b∈js,b∉i:=fun b hb hi=>by
  obtain ⟨s,_,h1,_,⟨c,h2⟩,h3⟩:=hj b hb
  obtain ⟨s',h4,h5⟩:=hio b hi
  have:=h.apart s s' b h1 h4
  subst this
  rcases h5 with ⟨h5,_⟩|⟨_,et,e,ys,h5⟩
  ·exact h3 h5
  ·rw [h2] at h5; cases h5
 have hfree:∀b,Ctx.free { P,w0:=w,O:=fun b=>b∈g++i,G:=F,pn,T:=E.tabs,hT } w' own b→qja w F g i (bs++js) b:=fun b hb=>by
  have hni:b∉i:=fun hi=>by
   obtain ⟨s',h1,_⟩:=hio b hi
   exact hb.2.2 s' h1
  refine ⟨?_,fun hbb=> ?_,hni⟩
  ·rcases hb.1 with hb|hb|hb
   ·exact .inl hb
   ·rcases List.mem_append.1 hb with hb|hb
    ·exact .inr (.inl hb)
    ·exact absurd hb hni
   ·exact .inr (.inr hb)
  ·rcases List.mem_append.1 hbb with hbb|hbb
   ·obtain ⟨s,_,hbs⟩:=k3 b hbb
    exact hb.2.2 s hbs
   ·obtain ⟨s,_,hbs,_⟩:=hj b hbb
    exact hb.2.2 s hbs
 have hmine:∀s b,b∈own s→b∉i→F b∨b∈g∨w.heap.size≤b:=fun s b hb hni=>by
  rcases (h.mine s b hb).1 with hb|hb
  ·rcases List.mem_append.1 hb with hb|hb
   ·exact .inr (.inl hb)
   ·exact absurd hb hni
  ·exact .inr (.inr hb)
 refine ⟨_,bs,js,qn5 k1,List.nodup_append.2 ⟨k4 hgn,hjn,fun b hb b' hb' e=>hbj b hb (e ▸ hb')⟩,fun b hb=> ?_,qaJ.turn rs (.inr fun b hb _=> ?_) k2,hios _ (fun b s c _ hc hb hnj=> ?_) hfree,h.kept⟩
 ·have hni:b∉i:=(List.mem_append.1 hb).elim (hbi b) (hji b)
  obtain ⟨s,hbs⟩:∃s,b∈own s:=by
   rcases List.mem_append.1 hb with hb|hb
   ·obtain ⟨s,_,hbs⟩:=k3 b hb
    exact ⟨s,hbs⟩
   ·obtain ⟨s,_,hbs,_⟩:=hj b hb
    exact ⟨s,hbs⟩
  obtain ⟨h1,h2⟩:=h.mine s b hbs
  refine ⟨?_,h2⟩
  rcases h1 with h1|h1
  ·rcases List.mem_append.1 h1 with h1|h1
   ·exact .inl h1
   ·exact absurd h1 hni
  ·exact .inr h1
 ·rcases hb with hb|⟨s,hs,hbs,hne⟩
  ·exact hfree b hb
  ·have hni:b∉i:=fun hi=>by
    obtain ⟨s',h1,h2⟩:=hio b hi
    have:=h.apart s s' b hbs h1
    subst this
    rcases h2 with ⟨h2,_⟩|⟨h2,_⟩
    ·exact hne h2
    ·exact hrow s (List.mem_append_right _ hs) h2
   refine ⟨hmine s b hbs hni,fun hbb=> ?_,hni⟩
   rcases List.mem_append.1 hbb with hbb|hbb
   ·obtain ⟨s',hs',hbs'⟩:=k3 b hbb
    have:=h.apart s s' b hbs hbs'
    subst this
    exact hap s hs hs'
   ·obtain ⟨s',_,hbs',hr',_⟩:=hj b hbb
    have:=h.apart s s' b hbs hbs'
    subst this
    exact hrow s (List.mem_append_right _ hs) hr'
 ·obtain ⟨b0,cs,bs',te,b1,b2,b3,b4⟩:=h.box hc
  have hb0:=hb
  rw [b4] at hb
  have hb:b∈bs':=hb
  have hbs:b∈own s:=by rw [b4]; exact List.mem_cons_of_mem _ hb
  have hni:b∉i:=fun hi=>by
   obtain ⟨s',h1,h2⟩:=hio b hi
   have:=h.apart s s' b hbs h1
   subst this
   rcases h2 with ⟨h2,_⟩|⟨_,et,e,ys,h2⟩
   ·rw [b1] at h2
    have:=(qcM h2).1
    subst this
    have hnd:=h.nodup s
    rw [b4] at hnd
    exact (List.nodup_cons.1 hnd).1 hb
   ·rw [hc] at h2
    cases h2
  refine ⟨hmine s b hbs hni,fun hbb=> ?_,hni⟩
  rcases List.mem_append.1 hbb with hbb|hbb
  case inr=>exact hnj hbb
  obtain ⟨s',hs',hbs'⟩:=k3 b hbb
  have:=h.apart s s' b hbs hbs'
  subst this
  obtain ⟨et,e,ys,hys⟩:=k5 s hs'
  rw [hc] at hys
  cases hys
def qmp:List Nat→List Nat→Nat→Option Nat
 |k::l,b::i,j=>if k=j then some b else qmp l i j
 |_,_,_=>none
theorem qoF {tm:Nat→Value} :(l i:List Nat)→l.map tm=i.map (fun b=>ptr b 0)→(∀k b,qmp l i k=some b→tm k=ptr b 0∧k∈l)∧∀k∈l,∃b,qmp l i k=some b
 |[],_,_=>⟨fun k b h=>(by cases h),fun k h=>(by cases h)⟩
 |k::l,[],h=>by simp at h
 |k::l,b::i,h=>by
  simp only [List.map_cons,List.cons.injEq] at h
  obtain ⟨h1,h2⟩:=qoF l i h.2
  refine ⟨fun j c hj=> ?_,fun j hj=> ?_⟩
  ·simp only [qmp] at hj
   split at hj
   ·rename_i e
    injection hj with hj
    subst e; subst hj
    exact ⟨h.1,List.mem_cons_self⟩
   ·obtain ⟨q1,q2⟩:=h1 j c hj
    exact ⟨q1,List.mem_cons_of_mem _ q2⟩
  ·simp only [qmp]
   by_cases e:k=j
   ·exact ⟨b,by rw [if_pos e]⟩
   ·rw [if_neg e]
    rcases List.mem_cons.1 hj with hj|hj
    ·exact absurd hj.symm e
    ·exact h2 j hj
theorem qbA.pinned {E:Env} {P:Program} (h:qbA E P) (anns:qsJ) (ps:List PM) (rs:List RM):qbA (E.at anns ps rs) P:=
 ⟨h.ty,fun t e he=>⟨(h.elem t e he).under,(h.elem t e he).info,(h.elem t e he).notInt⟩,h.dflt,h.size,h.arr,h.struct,h.str,h.int,h.bool,h.err,h.opt,h.map,h.off,fun t c hc=>by
  have hc:(E.zero t).map (BC.remask (qch anns.frz (some 1000000008)))=some c:=hc
  rw [Option.map_eq_some_iff] at hc
  obtain ⟨c0,h0,rfl⟩:=hc
  obtain ⟨i,z,h1,h2,h3⟩:=h.zero t c0 h0
  exact ⟨i,z,h1,h2,fun w F=>(h3 w F).remask _⟩,h.eq,h.mixed⟩
theorem qeP {P:Program} {f:Nat} {fn:Func} {c:Code} (hf:P.funcs[f]? =some fn) (hb:fn.body=some c) (hname:(fn.name == "runtime.NumGoroutine")=false) (as:Array Value) (w:World):(callFunc f as).run P w= .ok (.enter f as) w:=by
 have hn:¬fn.name= "runtime.NumGoroutine" :=by simpa using hname
 simp [callFunc,hf,hn,hb]
theorem qto {P:Program} {E:Env} (hE:qbA E P) (hF:qfk E P) {N:Nat} {anns:qsJ} {f:Nat} {fn:Func} {c:Code} (hf:P.funcs[f]? =some fn) (hb:fn.body=some c) (hname:(fn.name == "runtime.NumGoroutine")=false) (D:qg)
  (hrun:∀x y,D.sem x=some y→runF E N anns fn D.ps D.rs x=some y):D.okT P E.tabs f:=by
 refine ⟨fun as w=>qeP hf hb hname as w,fun w F x y as g i hT hp hpre hn hy=> ?_⟩
 have hT':qdn E.tabs w fun b=>F b∧¬b∈g++i:=hT.keep fun b hb hlt=>⟨⟨hb,fun hm=>(hpre b hm).1 hb⟩,hlt,rfl⟩
 have he:=hrun x y hy
 unfold runF at he
 rw [hb] at he
 simp only at he
 split at he
 case isFalse=>cases he
 rename_i hcond
 simp only [Bool.and_eq_true] at hcond
 obtain ⟨c1,c2⟩:=hcond
 have hlen:D.ps.length≤fn.ntmps:=of_decide_eq_true c2
 have hpin0:=qcJ (fun s=>(as.toArray++Array.replicate (fn.ntmps - as.toArray.size) undef).getD s undef) D.ps 0 hp fun j _=>by
  rw [Nat.zero_add]; exact qqO as _ j
 obtain ⟨ib,hib⟩:=hpin0.boxes D.ps 0
 obtain ⟨p1,p2⟩:=qoF (qcm D.ps 0) ib hib
 obtain ⟨own,hst⟩:=qsA (pn:=qmp (qcm D.ps 0) ib) (fn:=fn) hT' hlen hp hpre hn
 have fin:∀(σ':St) (a':Act) (w':World) (own':Nat→List Nat),qds (qcx D.ps 0) { tmps:=as.toArray++Array.replicate (fn.ntmps - as.toArray.size) undef,defers:=[] } a'→qR { P,w0:=w,O:=fun b=>b∈g++i,G:=F,pn:=qmp (qcm D.ps 0) ib,T:=E.tabs,hT:=hT' } σ' a'.tmps w' own'→qmT E fn D.ps D.rs σ'=some y→
   a'.defers=[]∧∃v,(results fn a'.tmps).run P w'= .ok v w'∧∃v',Ending.returned v= .returned v'∧D.Post w F as g i y v' w':=by
  intro σ' a' w' own' hk hs hfin
  have hpin:qce (fun s=>a'.tmps.getD s undef) D.ps 0 as i:=hpin0.congr D.ps 0 fun s hs=>hk.2 s hs
  obtain ⟨vs,bs,js,h1,h2,h3,h4,h5,h6⟩:=qqP hE hpre hn hs hpin hfin
  exact ⟨hk.1,qd8 vs,h1,qd8 vs,rfl,vs,bs,js,rfl,h2,h3,h4,h5,h6⟩
 haveI:Tabbed (E.at anns D.ps D.rs) { P,w0:=w,O:=fun b=>b∈g++i,G:=F,pn:=qmp (qcm D.ps 0) ib,T:=E.tabs,hT:=hT' } :=⟨rfl⟩
 refine calls_of_wp hf hb (qs3 (E:=E.at anns D.ps D.rs) (C:= { P,w0:=w,O:=fun b=>b∈g++i,G:=F,pn:=qmp (qcm D.ps 0) ib,T:=E.tabs,hT:=hT' }) (pin:=qcx D.ps 0) (hE.pinned anns D.ps D.rs) ⟨fun f C h=>hF f C h,fun k hk=>p2 k hk,fun k b h=>qcp D.ps 0 k (p1 k b h).2⟩ c c1 he (fun k b h=>(p1 k b h).1) hst ⟨fun σ' a' w' own' hfr hk hs hfin=>fin σ' a' w' own' hk hs hfin,fun i σ' a' w' own' hfr hk hs hfin=>(by cases hfin),fun σ' a' w' own' hfr hk hs hfin=>fin σ' a' w' own' hk hs hfin⟩)
theorem qo2 {P:Program} {T:qk1} {f:Nat} {fn:Func} (hf:P.funcs[f]? =some fn) (hb:fn.body.isSome=true) (hname:(fn.name == "runtime.NumGoroutine")=false) {ps:List PM} {rs:List RM} :qg.okT P T f ⟨ps,rs,fun _=>none⟩:=by
 obtain ⟨c,hc⟩:=Option.isSome_iff_exists.1 hb
 exact ⟨fun as w=>qeP hf hc hname as w,fun w F x y as g i _ _ _ _ hy=>by cases hy⟩
theorem keeps {P:Program} {E:Env} (hE:qbA E P) (hF:qfk E P) {N:Nat} {anns:qsJ} {f:Nat} {fn:Func} (hf:P.funcs[f]? =some fn) (hb:fn.body.isSome=true) (hname:(fn.name == "runtime.NumGoroutine")=false) {ps:List PM} {rs:List RM} {sem:PMs.den ps→Option (RMs.den rs×PMs.ioDen ps)}
  (hrun:∀x,runF E N anns fn ps rs x=sem x):qg.okT P E.tabs f ⟨ps,rs,sem⟩:=by
 obtain ⟨c,hc⟩:=Option.isSome_iff_exists.1 hb
 exact qto hE hF (N:=N) (anns:=anns) hf hc hname ⟨ps,rs,sem⟩ fun x y h=>(hrun x).trans h
end Go.Vi
namespace Go.Vi
noncomputable section
structure TI where
 t:Nat
 ty:Ty
 et:Nat
 fs:List (Nat×Nat)
 z:qcb
 bytes:Nat
 eq:Bool
def qiD:List TI→Nat→Option TI
 |[],_=>none
 |x::r,t=>match decEq x.t t with
  |isTrue _=>some x
  |isFalse _=>qiD r t
def qcb.zero:qcb→BC
 | .val t=> .val t t.dflt
 | .own et e=> .own et e []
 | .pair a b=> .pair a.zero b.zero
 | .hole n=> .hole n
def qts {α:Type} :List (Nat×α)→Nat→Option α
 |[],_=>none
 |(a,x)::r,k=>match decEq a k with
  |isTrue _=>some x
  |isFalse _=>qts r k
def Env.tab (T:List TI) (fns:List (Nat×qg)):Env where
 ty t:=(qiD T t).map (·.ty)
 etid t:=((qiD T t).map (·.et)).getD 0
 off t f:=(qiD T t).bind fun x=>(x.fs[f]?).map (·.1)
 fty t f:=(((qiD T t).bind fun x=>(x.fs[f]?).map (·.2))).getD 0
 zero t:=(qiD T t).map (·.z.zero)
 bytes t:=((qiD T t).map (·.bytes)).getD 0
 eqok t:=((qiD T t).map (·.eq)).getD false
 fn:=qts fns
 pins:=[]
 ownz:=false
 tabs:=fun _=>none
 rf:=[]
def Env.tabG (G:qk1) (T:List TI) (fns:List (Nat×qg)):Env:= { Env.tab T fns with tabs:=G }
def Env.tabGO (G:qk1) (T:List TI) (fns:List (Nat×qg)):Env:= { Env.tabG G T fns with ownz:=true }
end
end Go.Vi
namespace Go.Vi
def Ty.zeroOk:Ty→List Value→Bool
 | .int k,cs=>match cs with
  |[.int k' n]=>decide (k'=k)&&decide (n=0)
  |_=>false
 | .bool,cs=>match cs with
  |[.bool b]=> !b
  |_=>false
 | .str,cs=>match cs with
  |[.string s]=>s.data.toList.isEmpty
  |_=>false
 | .unit,cs=>cs.isEmpty
 | .err,cs=>match cs with
  |[.nilIface]=>true
  |_=>false
 | .opt _,cs=>match cs with
  |[.pointer none]=>true
  |_=>false
 | .map _ _,_=>false
 | .pair a b,cs=>a.zeroOk (cs.take a.size)&&b.zeroOk (cs.drop a.size)
 | .slice _,cs=>match cs with
  |[.slice none 0 0]=>true
  |_=>false
 | .arr n e,cs=>decide (cs.length=n * e.size)&&(List.range n).all fun i=>e.zeroOk ((cs.drop (i * e.size)).take e.size)
def qcb.zeroOk:qcb→List Value→Bool
 | .val t,cs=>t.zeroOk cs
 | .own _ _,cs=>match cs with
  |[.slice none 0 0]=>true
  |_=>false
 | .pair a b,cs=>a.zeroOk (cs.take a.zero.size)&&b.zeroOk (cs.drop a.zero.size)
 | .hole n,cs=>decide (cs.length=n)
def qqX (P:Program):List Field→Ty→Nat→Bool
 |[],.unit,_=>true
 |f::fs,.pair a b,off=>decide (f.offset=off)&&(match P.info? f.type with
  |some i=>decide (i.size=a.size)
  |none=>false)&&qqX P fs b (off+a.size)
 |_,_,_=>false
def fsOk (P:Program):List Field→List (Nat×Nat)→Bool
 |_,[]=>true
 |f::fs,(off,ft)::r=>decide (f.offset=off)&&decide (f.type=ft)&&(match P.info? ft with
  |some i=>decide (i.size≠0)
  |none=>false)&&fsOk P fs r
 |[],_::_=>false
def qoY (P:Program) (T:List TI) (et:Nat) (e:Ty):Bool:=
 match P.info? et with
 |some i=>decide (i.size=e.size)&&(match i.zero with
  |some z=>e.zeroOk z.cells.toList&&decide (z.cells.size=e.size)&&(match z with
   | .agg _=>e.agg
   |_=>true)
  |none=>false)&&decide (i.bytes=((qiD T et).map (·.bytes)).getD 0)
 |none=>false
def qee (P:Program) (T:List TI) (x:TI) (d:TypeDesc):Ty→Bool
 | .int k=>match d with
  | .int k'=>decide (k'=k)
  |_=>false
 | .bool=>match d with
  | .bool=>true
  |_=>false
 | .str=>match d with
  | .string=>true
  |_=>false
 | .slice e=>match d with
  | .slice et=>decide (et=x.et)&&qoY P T et e
  |_=>false
 | .arr n e=>match d with
  | .array m et=>decide (m=n)&&decide (et=x.et)&&(match P.info? et with
   |some i=>decide (i.size=e.size)
   |none=>false)
  |_=>false
 | .err=>match d with
  | .interface _=>true
  |_=>false
 | .opt _=>match d with
  | .pointer _=>true
  |_=>false
 | .map k v=>match d with
  | .map kn vn=>decide (vn=x.et)&&(match P.underlying kn with
   |some kd=>qi8 k kd
   |none=>false)&&(match P.info? vn with
   |some i=>(match i.zero with
    |some z=>v.zeroOk z.cells.toList&&(match z with
     | .agg _=>v.agg
     |_=> !v.agg)
    |none=>false)
   |none=>false)
  |_=>false
 | .unit=>match d with
  | .struct fs=>qqX P fs.toList .unit 0&&fsOk P fs.toList x.fs
  |_=>false
 | .pair a b=>match d with
  | .struct fs=>qqX P fs.toList (.pair a b) 0&&fsOk P fs.toList x.fs
  |_=>false
def tiOk (P:Program) (T:List TI) (x:TI):Bool:=
 match P.info? x.t,P.underlying x.t with
 |some i,some d=>decide (i.size=x.ty.size)&&(match i.zero with
  |some z=>(if x.ty.struct then x.ty.zeroOk z.cells.toList else true)&&x.z.zeroOk z.cells.toList
  |none=>false)&&qee P T x d x.ty&&(match d with
  | .struct _=>true
  |_=>x.fs.isEmpty)&&(!x.eq||qs9 P x.ty x.t)
 |_,_=>false
def qqQ (P:Program) (T:List TI):Bool:=P.follows .mixedOrders&&T.all (tiOk P T)
theorem qln: {T:List TI} → {t:Nat} → {x:TI} →qiD T t=some x→x∈T∧x.t=t
 |y::r,t,x,h=>by
  simp only [qiD] at h
  split at h
  ·injection h with h
   subst h
   exact ⟨List.mem_cons_self,by assumption⟩
  ·obtain ⟨h1,h2⟩:=qln h
   exact ⟨List.mem_cons_of_mem _ h1,h2⟩
theorem Ty.zeroOk_rep {w:World} {F:Nat→Prop} :(t:Ty)→ {cs:List Value} →t.zeroOk cs=true→Rep w F t t.dflt cs
 | .int k,cs,h=>by
  simp only [Ty.zeroOk] at h
  split at h
  ·simp only [Bool.and_eq_true,decide_eq_true_eq] at h
   obtain ⟨rfl,rfl⟩:=h
   refine ⟨rfl,?_⟩
   rename_i k
   cases k <;> exact ⟨by decide,by decide⟩
  ·cases h
 | .bool,cs,h=>by
  simp only [Ty.zeroOk] at h
  split at h
  ·simp at h; subst h; rfl
  ·cases h
 | .err,cs,h=>by
  simp only [Ty.zeroOk] at h
  split at h
  ·exact ⟨_,rfl,.inl ⟨rfl,rfl⟩⟩
  ·cases h
 | .opt _,cs,h=>by
  simp only [Ty.zeroOk] at h
  split at h
  ·exact ⟨_,rfl,.inl ⟨rfl,rfl⟩⟩
  ·cases h
 | .map _ _,cs,h=>by cases h
 | .str,cs,h=>by
  simp only [Ty.zeroOk] at h
  split at h
  ·rename_i s
   refine ⟨?_,by simp [Ty.dflt]⟩
   have h1:s.data.toList=[]:=by simpa using h
   have h2:s.data= #[]:=by
    apply Array.toList_inj.1
    rw [h1]
   cases s
   simp only at h2
   subst h2
   rfl
  ·cases h
 | .unit,cs,h=>by
  have:cs=[]:=by simpa [Ty.zeroOk] using h
  exact this
 | .pair a b,cs,h=>by
  simp only [Ty.zeroOk,Bool.and_eq_true] at h
  exact ⟨_,_,(List.take_append_drop a.size cs).symm,a.zeroOk_rep h.1,b.zeroOk_rep h.2⟩
 | .slice e,cs,h=>by
  simp only [Ty.zeroOk] at h
  split at h
  ·exact ⟨_,rfl,.inl ⟨rfl,rfl⟩⟩
  ·cases h
 | .arr n e,cs,h=>by
  simp only [Ty.zeroOk,Bool.and_eq_true,decide_eq_true_eq,List.all_eq_true,List.mem_range] at h
  obtain ⟨h1,h2⟩:=h
  refine ⟨by simp [Ty.dflt],(List.range n).map (fun i=>(cs.drop (i * e.size)).take e.size),by simp,?_,fun i x c hi hc=> ?_⟩
  ·clear h2
   induction n generalizing cs with
   |zero=>simp at h1; subst h1; rfl
   |succ n ih=>
    have:=ih (cs:=cs.drop e.size) (by rw [List.length_drop,h1,Nat.add_mul]; omega)
    rw [List.range_succ_eq_map,List.map_cons,List.flatten_cons,List.map_map]
    rw [Nat.zero_mul,List.drop_zero]
    have e2:((fun i=>List.take e.size (List.drop (i * e.size) cs)) ∘ Nat.succ)=fun i=>List.take e.size (List.drop (i * e.size) (cs.drop e.size)):=by
     funext i
     simp only [Function.comp,List.drop_drop]
     rw [Nat.succ_mul,Nat.add_comm]
    rw [e2,←this,List.take_append_drop]
  ·have hx:x=e.dflt:=by
    simp only [Ty.dflt] at hi
    rw [List.getElem?_replicate] at hi
    split at hi
    ·injection hi with hi; exact hi.symm
    ·cases hi
   rw [List.getElem?_map] at hc
   by_cases hin:i<n
   ·rw [List.getElem?_range hin] at hc
    simp only [Option.map_some,Option.some.injEq] at hc
    rw [hx,←hc]
    exact e.zeroOk_rep (h2 i hin)
   ·rw [List.getElem?_eq_none (by simpa using hin)] at hc
    cases hc
theorem qcb.zeroOk_rep {w:World} {F:Nat→Prop} :(b:qcb)→ {cs:List Value} →b.zeroOk cs=true→qar w F b.zero cs []
 | .val t,cs,h=>⟨rfl,t.zeroOk_rep h⟩
 | .own et e,cs,h=>by
  simp only [qcb.zeroOk] at h
  split at h
  ·exact ⟨_,rfl,qS.nil_ _ _ _ _⟩
  ·cases h
 | .pair a b,cs,h=>by
  simp only [qcb.zeroOk,Bool.and_eq_true] at h
  exact ⟨_,_,[],[],(List.take_append_drop a.zero.size cs).symm,rfl,a.zeroOk_rep h.1,b.zeroOk_rep h.2⟩
 | .hole n,cs,h=>⟨rfl,by simpa [qcb.zeroOk] using h⟩
theorem qew {P:Program} {w:World} {t:Nat} {i:TypeInfo} (h:P.info? t=some i):(sizeOf t).run P w= .ok i.size w:=by
 simp [sizeOf,typeInfo,h]
theorem qnG {P:Program} : {fs:List Field} → {T:Ty} → {off:Nat} →qqX P fs T off=true→Lay P fs T off
 |[],.unit,_,_=>trivial
 |f::fs,.pair a b,off,h=>by
  simp only [qqX,Bool.and_eq_true,decide_eq_true_eq] at h
  obtain ⟨⟨h1,h2⟩,h3⟩:=h
  split at h2
  ·rename_i i hi
   simp only [decide_eq_true_eq] at h2
   exact ⟨h1,fun w=>by rw [qew hi,h2],qnG h3⟩
  ·cases h2
theorem qqL {P:Program} : {fs:List Field} → {l:List (Nat×Nat)} → {f:Nat} → {q:Nat×Nat} →fsOk P fs l=true→l[f]? =some q→∃fl,fs[f]? =some fl∧fl.offset=q.1∧fl.type=q.2∧∃i,P.info? fl.type=some i∧i.size≠0
 |fl::fs,(off,ft)::r,f,q,h,hq=>by
  simp only [fsOk,Bool.and_eq_true,decide_eq_true_eq] at h
  obtain ⟨⟨⟨h1,h2⟩,h3⟩,h4⟩:=h
  cases f with
  |zero=>
   simp at hq
   subst hq
   refine ⟨fl,rfl,h1,h2,?_⟩
   subst h2
   split at h3
   ·rename_i i hi
    exact ⟨i,hi,of_decide_eq_true h3⟩
   ·cases h3
  |succ f=>
   simp only [List.getElem?_cons_succ] at hq⊢
   exact qqL h4 hq
 |_,[],f,q,_,hq=>by simp at hq
 |[],_::_,_,_,h,_=>by cases h
theorem qm2 {P:Program} {T:List TI} (h:qqQ P T=true) (fns:List (Nat×qg)):qbA (Env.tab T fns) P:=by
 simp only [qqQ,Bool.and_eq_true] at h
 have one:∀ {t:Nat} {x:TI},qiD T t=some x→x.t=t∧∃i d z,P.info? t=some i∧P.underlying t=some d∧i.zero=some z∧i.size=x.ty.size∧(x.ty.struct=true→x.ty.zeroOk z.cells.toList=true)∧x.z.zeroOk z.cells.toList=true∧qee P T x d x.ty=true∧((∃fs,d= .struct fs)∨x.fs=[])∧(x.eq=true→EqB P t x.ty):=by
  intro t x hx
  obtain ⟨h1,h2⟩:=qln hx
  have:=List.all_eq_true.1 h.2 x h1
  unfold tiOk at this
  split at this
  ·rename_i i d hi hd
   simp only [Bool.and_eq_true,decide_eq_true_eq] at this
   obtain ⟨⟨⟨⟨g1,g2⟩,g3⟩,g4⟩,g5⟩:=this
   split at g2
   ·rename_i z hz
    simp only [Bool.and_eq_true] at g2
    refine ⟨h2,i,d,z,h2 ▸ hi,h2 ▸ hd,hz,g1,fun hs=> ?_,g2.2,g3,?_⟩
    ·have:=g2.1
     rw [if_pos hs] at this
     exact this
    ·refine ⟨?_,fun he=> ?_⟩
     ·split at g4
      ·exact .inl ⟨_,rfl⟩
      ·exact .inr (by simpa using g4)
     ·rw [he] at g5
      exact h2 ▸ qsH g5
   ·cases g2
  ·cases this
 have ent:∀ {t:Nat} {u:Ty},(Env.tab T fns).ty t=some u→∃x,qiD T t=some x∧x.ty=u:=by
  intro t u hu
  simp only [Env.tab,Option.map_eq_some_iff] at hu
  exact hu
 have etid:∀ {t:Nat} {x:TI},qiD T t=some x→(Env.tab T fns).etid t=x.et:=by
  intro t x hx
  simp [Env.tab,hx]
 refine ⟨?_,?_,?_,?_,?_,?_,?_,?_,?_,?_,?_,?_,?_,?_,?_,h.1⟩
 ·intro t u hu
  obtain ⟨x,hx,rfl⟩:=ent hu
  obtain ⟨_,i,d,z,h1,h2,h3,h4,h5,h6,h7,h8,h9⟩:=one hx
  refine ⟨⟨i,h1,h4⟩,d,h2,?_⟩
  cases hty:x.ty <;> rw [hty] at h7 <;> simp only [qee] at h7 <;> split at h7 <;> first|rfl|cases h7
 ·intro t e hu
  obtain ⟨x,hx,hty⟩:=ent hu
  obtain ⟨_,i,d,z,h1,h2,h3,h4,h5,h6,h7,h8,h9⟩:=one hx
  rw [hty] at h7
  simp only [qee] at h7
  split at h7
  ·rename_i et
   simp only [Bool.and_eq_true,decide_eq_true_eq] at h7
   obtain ⟨rfl,h7⟩:=h7
   unfold qoY at h7
   split at h7
   ·rename_i ie hie
    simp only [Bool.and_eq_true,decide_eq_true_eq] at h7
    obtain ⟨⟨k1,k2⟩,k3⟩:=h7
    split at k2
    ·rename_i ze hze
     simp only [Bool.and_eq_true,decide_eq_true_eq] at k2
     refine ⟨by rw [etid hx]; exact h2,⟨ie,ze,by rw [etid hx]; exact hie,k1,hze,k2.1.2,?_⟩,fun k hk=>by rw [h2] at hk; cases hk⟩
     rw [etid hx]
     exact k3
    ·cases k2
   ·cases h7
  ·cases h7
 ·intro t e hu
  obtain ⟨x,hx,hty⟩:=ent hu
  obtain ⟨_,i,d,z,h1,h2,h3,h4,h5,h6,h7,h8,h9⟩:=one hx
  rw [hty] at h7
  simp only [qee] at h7
  split at h7
  ·rename_i et
   simp only [Bool.and_eq_true,decide_eq_true_eq] at h7
   obtain ⟨rfl,h7⟩:=h7
   unfold qoY at h7
   split at h7
   ·rename_i ie hie
    simp only [Bool.and_eq_true,decide_eq_true_eq] at h7
    obtain ⟨⟨k1,k2⟩,k3⟩:=h7
    split at k2
    ·rename_i ze hze
     simp only [Bool.and_eq_true,decide_eq_true_eq] at k2
     refine ⟨ie,ze,by rw [etid hx]; exact hie,hze,fun ha cs hcs=> ?_,fun w F=>e.zeroOk_rep k2.1.1⟩
     have:=k2.2
     rw [hcs] at this
     simp only at this
     rw [ha] at this
     cases this
    ·cases k2
   ·cases h7
  ·cases h7
 ·intro t e hu
  rcases hu with hu|⟨n,hu⟩
  ·obtain ⟨x,hx,hty⟩:=ent hu
   obtain ⟨_,i,d,z,h1,h2,h3,h4,h5,h6,h7,h8,h9⟩:=one hx
   rw [hty] at h7
   simp only [qee] at h7
   split at h7
   ·rename_i et
    simp only [Bool.and_eq_true,decide_eq_true_eq] at h7
    obtain ⟨rfl,h7⟩:=h7
    unfold qoY at h7
    split at h7
    ·rename_i ie hie
     simp only [Bool.and_eq_true,decide_eq_true_eq] at h7
     funext w
     rw [etid hx,qew hie,h7.1.1]
    ·cases h7
   ·cases h7
  ·obtain ⟨x,hx,hty⟩:=ent hu
   obtain ⟨_,i,d,z,h1,h2,h3,h4,h5,h6,h7,h8,h9⟩:=one hx
   rw [hty] at h7
   simp only [qee] at h7
   split at h7
   ·rename_i m et
    simp only [Bool.and_eq_true,decide_eq_true_eq] at h7
    obtain ⟨⟨rfl,rfl⟩,h7⟩:=h7
    split at h7
    ·rename_i ie hie
     simp only [decide_eq_true_eq] at h7
     funext w
     rw [etid hx,qew hie,h7]
    ·cases h7
   ·cases h7
 ·intro t n e hu
  obtain ⟨x,hx,hty⟩:=ent hu
  obtain ⟨_,i,d,z,h1,h2,h3,h4,h5,h6,h7,h8,h9⟩:=one hx
  rw [hty] at h7
  simp only [qee] at h7
  split at h7
  ·rename_i m et
   simp only [Bool.and_eq_true,decide_eq_true_eq] at h7
   obtain ⟨⟨rfl,rfl⟩,h7⟩:=h7
   rw [etid hx]
   exact h2
  ·cases h7
 ·intro t u hu hs
  obtain ⟨x,hx,hty⟩:=ent hu
  obtain ⟨_,i,d,z,h1,h2,h3,h4,h5,h6,h7,h8,h9⟩:=one hx
  rw [hty] at h7 h5
  have h5:=h5 hs
  cases u <;> simp only [Ty.struct] at hs <;> first|cases hs|skip
  all_goals
   simp only [qee] at h7
   split at h7
   ·rename_i fs
    simp only [Bool.and_eq_true] at h7
    exact ⟨fs,z,i,h2,h1,h3,fun w F=>Ty.zeroOk_rep _ h5,qnG h7.1⟩
   ·cases h7
 ·intro t hu
  obtain ⟨x,hx,hty⟩:=ent hu
  obtain ⟨_,i,d,z,h1,h2,h3,h4,h5,h6,h7,h8,h9⟩:=one hx
  rw [hty] at h7
  simp only [qee] at h7
  split at h7
  ·exact h2
  ·cases h7
 ·intro t k hu
  obtain ⟨x,hx,hty⟩:=ent hu
  obtain ⟨_,i,d,z,h1,h2,h3,h4,h5,h6,h7,h8,h9⟩:=one hx
  rw [hty] at h7
  simp only [qee] at h7
  split at h7
  ·simp only [decide_eq_true_eq] at h7
   subst h7
   exact h2
  ·cases h7
 ·intro t hu
  obtain ⟨x,hx,hty⟩:=ent hu
  obtain ⟨_,i,d,z,h1,h2,h3,h4,h5,h6,h7,h8,h9⟩:=one hx
  rw [hty] at h7
  simp only [qee] at h7
  split at h7
  ·exact h2
  ·cases h7
 ·intro t hu
  obtain ⟨x,hx,hty⟩:=ent hu
  obtain ⟨_,i,d,z,h1,h2,h3,h4,h5,h6,h7,h8,h9⟩:=one hx
  rw [hty] at h7
  simp only [qee] at h7
  split at h7
  ·exact ⟨_,h2⟩
  ·cases h7
 ·intro t e hu
  obtain ⟨x,hx,hty⟩:=ent hu
  obtain ⟨_,i,d,z,h1,h2,h3,h4,h5,h6,h7,h8,h9⟩:=one hx
  rw [hty] at h7
  simp only [qee] at h7
  split at h7
  ·exact ⟨_,h2⟩
  ·cases h7
 ·intro t k v hu
  obtain ⟨x,hx,hty⟩:=ent hu
  obtain ⟨_,i,d,z,h1,h2,h3,h4,h5,h6,h7,h8,h9⟩:=one hx
  rw [hty] at h7
  simp only [qee] at h7
  split at h7
  ·rename_i kn vn
   simp only [Bool.and_eq_true] at h7
   obtain ⟨⟨k1,k2⟩,k3⟩:=h7
   split at k2
   case h_2=>cases k2
   rename_i kd hkd
   split at k3
   case h_2=>cases k3
   rename_i iv hiv
   split at k3
   case h_2=>cases k3
   rename_i zv hzv
   simp only [Bool.and_eq_true] at k3
   refine ⟨kn,vn,kd,iv,zv,h2,hkd,k2,hiv,hzv,fun w F=>⟨v.zeroOk_rep k3.1,fun ha=> ?_,fun ha cs he=> ?_⟩⟩
   ·have k4:=k3.2
    split at k4
    ·exact ⟨_,rfl⟩
    ·rw [ha] at k4
     cases k4
   ·have k4:=k3.2
    rw [he] at k4
    simp only at k4
    rw [ha] at k4
    cases k4
  ·cases h7
 ·intro t f n ho
  simp only [Env.tab,Option.bind_eq_some_iff,Option.map_eq_some_iff] at ho
  obtain ⟨x,hx,q,hq,rfl⟩:=ho
  obtain ⟨_,i,d,z,h1,h2,h3,h4,h5,h6,h7,h8,h9⟩:=one hx
  rcases h8 with ⟨fs,rfl⟩|h8
  ·have hfs:fsOk P fs.toList x.fs=true:=by
    cases hty:x.ty <;> rw [hty] at h7 <;> simp only [qee] at h7 <;> first|(simp only [Bool.and_eq_true] at h7; exact h7.2)|cases h7
   obtain ⟨fl,g1,g2,g3,g4⟩:=qqL hfs hq
   refine ⟨fs,fl,h2,by simpa using g1,g2,?_,g4⟩
   simp [Env.tab,hx,hq,g3]
  ·rw [h8] at hq
   simp at hq
 ·intro t c hc
  simp only [Env.tab,Option.map_eq_some_iff] at hc
  obtain ⟨x,hx,rfl⟩:=hc
  obtain ⟨_,i,d,z,h1,h2,h3,h4,h5,h6,h7,h8,h9⟩:=one hx
  exact ⟨i,z,h1,h3,fun w F=>x.z.zeroOk_rep h6⟩
 ·intro t u he hu
  obtain ⟨x,hx,rfl⟩:=ent hu
  obtain ⟨_,i,d,z,h1,h2,h3,h4,h5,h6,h7,h8,h9⟩:=one hx
  exact h9 (by simpa [Env.tab,hx] using he)
theorem qpT {P:Program} {T:List TI} (G:qk1) (h:qqQ P T=true) (fns:List (Nat×qg)):qbA (Env.tabG G T fns) P:=
 let e:=qm2 h fns
 ⟨e.ty,fun t x he=>⟨(e.elem t x he).under,(e.elem t x he).info,(e.elem t x he).notInt⟩,e.dflt,e.size,e.arr,e.struct,e.str,e.int,e.bool,e.err,e.opt,e.map,e.off,e.zero,e.eq,e.mixed⟩
theorem qph {P:Program} {T:List TI} {G:qk1} :qfk (Env.tabG G T []) P:=fun f C h=>by cases h
theorem qon {P:Program} {T:List TI} {G:qk1} {fns:List (Nat×qg)} {f:Nat} {C:qg} (h:C.okT P G f) (hF:qfk (Env.tabG G T fns) P):qfk (Env.tabG G T ((f,C)::fns)) P:=fun f' C' h'=>by
 simp only [Env.tabG,Env.tab,qts] at h'
 split at h'
 ·rename_i e _
  injection h' with h'
  subst h'
  subst e
  exact h
 ·exact hF f' C' h'
theorem qs2 {P:Program} {T:List TI} {G:qk1} {fns:List (Nat×qg)} (h:qfk (Env.tabG G T fns) P):qfk (Env.tabGO G T fns) P:=h
theorem qnO {P:Program} {T:List TI} (G:qk1) (h:qqQ P T=true) (fns:List (Nat×qg)):qbA (Env.tabGO G T fns) P:=
 have h:=qm2 h fns
 ⟨h.ty,fun t e he=>⟨(h.elem t e he).under,(h.elem t e he).info,(h.elem t e he).notInt⟩,h.dflt,h.size,h.arr,h.struct,h.str,h.int,h.bool,h.err,h.opt,h.map,h.off,h.zero,h.eq,h.mixed⟩
end Go.Vi
namespace Go.Vi
open Go.RowKit Go.WideShapes Go.ChangeShapes
def qmA (P:Program) (a:Nat→Bool) (sa:Nat) (b:List Field→Nat→Bool):List Field→Nat→Bool
 |f::r,off=>decide (f.offset=off)&&(decide (P.cellsOf f.type=sa)&&(a f.type&&b r (off+sa)))
 |[],_=>false
def qiW (P:Program):Ty→(Nat→Bool)×(List Field→Nat→Bool)
 | .int k=>(fun t=>match P.underlying t with
  |some (.int k')=>decide (k'=k)
  |_=>false,fun _ _=>false)
 | .bool=>(fun t=>match P.underlying t with
  |some .bool=>true
  |_=>false,fun _ _=>false)
 | .str=>(fun t=>match P.underlying t with
  |some .string=>true
  |_=>false,fun _ _=>false)
 | .err=>(fun _=>false,fun _ _=>false)
 | .opt _=>(fun _=>false,fun _ _=>false)
 | .map _ _=>(fun _=>false,fun _ _=>false)
 | .unit=>(fun t=>match P.underlying t with
  |some (.struct fs)=>fs.toList.isEmpty&&decide (P.cellsOf t=0)
  |_=>false,fun fs _=>fs.isEmpty)
 | .pair a b=>(fun t=>match P.underlying t with
  |some (.struct fs)=>qmA P (qiW P a).1 a.size (qiW P b).2 fs.toList 0&&decide (P.cellsOf t=a.size+b.size)
  |_=>false,qmA P (qiW P a).1 a.size (qiW P b).2)
 | .slice e=>(fun t=>match P.underlying t with
  |some (.slice et)=>decide (P.cellsOf et=e.size)&&(decide (e.size≠0)&&(qiW P e).1 et)
  |_=>false,fun _ _=>false)
 | .arr n e=>(fun t=>match P.underlying t with
  |some (.array m et)=>decide (m=n)&&(decide (P.cellsOf et=e.size)&&(decide (P.cellsOf t=n * e.size)&&(qiW P e).1 et))
  |_=>false,fun _ _=>false)
def Ty.bulk:(t:Ty)→t.den→Nat
 | .int _,_=>1
 | .bool,_=>1
 | .str,s=>List.length (α:=UInt8) s+1
 | .unit,_=>1
 | .err,_=>1
 | .opt _,_=>1
 | .map _ _,_=>1
 | .pair a b,x=>a.bulk x.1+b.bulk x.2
 | .slice e,xs=>(List.map e.bulk xs).sum+1
 | .arr _ e,xs=>(List.map e.bulk xs).sum+1
def Ty.good:(t:Ty)→t.den→Prop
 | .int k,n=>k.has n
 | .bool,_=>True
 | .str,s=>List.length (α:=UInt8) s≤maxLen
 | .unit,_=>True
 | .err,_=>True
 | .opt e,x=>match x with
  |some y=>e.good y
  |none=>True
 | .map _ _,_=>True
 | .pair a b,x=>a.good x.1∧b.good x.2
 | .slice e,xs=>List.length (xs:List e.den)≤maxLen∧∀y∈(xs:List e.den),e.good y
 | .arr _ e,xs=>∀y∈(xs:List e.den),e.good y
theorem Rep.good {w:World} {F:Nat→Prop} : {t:Ty} → {x:t.den} → {cs:List Value} →Rep w F t x cs→t.good x
 | .int _,_,_,h=>h.2
 | .bool,_,_,_=>trivial
 | .str,_,_,h=>h.2
 | .unit,_,_,_=>trivial
 | .err,_,_,_=>trivial
 | .map _ _,_,_,_=>trivial
 | .opt e,x,_,⟨v,_,h⟩=>by
  rcases h with ⟨rfl,_⟩|⟨y,a,cs,rfl,_,_,_,_,h⟩
  ·trivial
  ·exact h.good
 | .pair _ _,_,_,⟨_,_,_,h1,h2⟩=>⟨h1.good,h2.good⟩
 | .slice e,xs,_,⟨v,_,h⟩=>by
  refine ⟨?_,?_⟩
  ·rcases h with ⟨_,h⟩|⟨a,cap,_,h1,h2,_⟩
   ·have h:xs=[]:=h
    subst h
    exact Nat.zero_le _
   ·exact Nat.le_trans h1 h2
  intro y hy
  rcases h with ⟨_,h⟩|⟨a,cap,_,_,_,hx⟩
  ·have h:xs=[]:=h
   subst h
   cases hy
  ·obtain ⟨i,hi,rfl⟩:=List.getElem_of_mem hy
   obtain ⟨_,_,cs,_,h4⟩:=hx i _ (List.getElem?_eq_getElem hi)
   exact h4.good
 | .arr n e,xs,_,⟨hl,css,hcl,hc,hx⟩=>by
  intro y hy
  obtain ⟨i,hi,rfl⟩:=List.getElem_of_mem hy
  exact (hx i _ _ (List.getElem?_eq_getElem hi) (List.getElem?_eq_getElem (by have hi:i<List.length xs:=hi; omega))).good
def ql6:(us:List Ty)→PMs.den (us.map .val)→Prop
 |[],_=>True
 |u::us,x=>u.good x.1∧ql6 us x.2
theorem qaj.good {P:Program} {w:World} {F:Nat→Prop} :(us:List Ty)→ {x:PMs.den (us.map .val)} → {vs:List Value} → {g i:List Nat} →qaj P w F (us.map .val) x vs g i→ql6 us x
 |[],_,_,_,_,_=>trivial
 |_::us,_,_,_,_,⟨_,_,_,h2,h3⟩=>⟨h2.1.good,qaj.good us h3⟩
structure qrx {H:Type} (bk:DataW H→Nat) (bkA:List (DataW H)→Nat):Prop where
 int:∀k n,1≤bk (.lit (.int k n))
 bool:∀b,1≤bk (.lit (.bool b))
 str:∀s,s.length+1≤bk (.lit (.string s))
 nil:1≤bk .nil
 slice:∀es sp,bkA es+1≤bk (.slice es sp)
 agg:∀ps,bkA ps+1≤bk (.agg ps)
 cons:∀d r,bk d+bkA r≤bkA (d::r)
section
variable {H:Type} {enc:TypeId×Value→H} {P:Program} {w:World} {bk:DataW H→Nat} {bkA:List (DataW H)→Nat}
theorem qmm {a:Addr} {n:Nat} {cs:List Value} (h:w.cells? 0 a n=some cs):cs.length=n∧qfc w a cs∧(n≠0→a.block<w.heap.size):=by
 obtain ⟨_,h1,h2⟩:=World.cells?_some h
 refine ⟨h1,fun j u hj=> ?_,fun hn=> ?_⟩
 ·have hlt:j<n:=by
   have:=(List.getElem?_eq_some_iff.1 hj).1
   omega
  rw [h2 j hlt]
  exact hj
 ·have h0:=h2 0 (by omega)
  have:∃v,cs[0]? =some v:=⟨_,List.getElem?_eq_getElem (by omega)⟩
  obtain ⟨v,hv⟩:=this
  rw [hv] at h0
  have e:a.add 0=a:=by simp [Addr.add]
  rw [e] at h0
  unfold World.cell? at h0
  split at h0
  ·rename_i c t hh
   exact (Array.getElem?_eq_some_iff.1 hh).1
  ·cases h0
theorem qlT {α β:Type} {R:Nat→α→β→Prop} :(n:Nat)→(ys:List β)→ys.length=n→(∀i y,ys[i]? =some y→∃x,R i x y)→∃xs:List α,xs.length=n∧∀(i:Nat) (x:α) (y:β),xs[i]? =some x→ys[i]? =some y→R i x y
 |0,ys,_,_=>⟨[],rfl,fun i x y h=>by simp at h⟩
 |n+1,[],h,_=>by simp at h
 |n+1,y::ys,h,hr=>by
  obtain ⟨x,hx⟩:=hr 0 y rfl
  obtain ⟨xs,h1,h2⟩:=qlT (R:=fun i=>R (i+1)) n ys (by simpa using h) fun i y hy=>hr (i+1) y (by simpa using hy)
  refine ⟨x::xs,by simp [h1],fun i x' y' hx' hy'=> ?_⟩
  cases i with
  |zero=>simp at hx' hy'; subst hx'; subst hy'; exact hx
  |succ i=>exact h2 i x' y' (by simpa using hx') (by simpa using hy')
theorem qmC (hb:qrx bk bkA) {e:Ty} :(xs:List e.den)→(ys:List (DataW H×List MemPlace))→xs.length=ys.length→(∀(i:Nat) (x:e.den) (y:DataW H×List MemPlace),xs[i]? =some x→ys[i]? =some y→e.bulk x≤bk y.1)→(List.map e.bulk xs).sum≤bkA (ys.map (·.1))
 |[],_,_,_=>by simp
 |x::xs,[],h,_=>by simp at h
 |x::xs,y::ys,h,hr=>by
  have h0:=hr 0 x y rfl rfl
  have h1:=qmC hb xs ys (by simpa using h) fun i x y hx hy=>hr (i+1) x y (by simpa using hx) (by simpa using hy)
  have:=hb.cons y.1 (ys.map (·.1))
  simp only [List.map_cons,List.sum_cons]
  omega
theorem qqR {t:Nat} (h:(qiW P .unit).1 t=true):∃fs,P.underlying t=some (.struct fs)∧fs.toList=[]∧P.cellsOf t=0:=by
 simp only [qiW] at h
 split at h
 ·rename_i fs hu
  simp only [Bool.and_eq_true,decide_eq_true_eq] at h
  exact ⟨fs,hu,by simpa using h.1,h.2⟩
 ·cases h
theorem qgV (hb:qrx bk bkA):(u:Ty)→
  (∀(fuel t:Nat) (cs:List Value) (y:DataW H×List MemPlace),(qiW P u).1 t=true→DataW.trod enc P w 0 (fun _=>true) true fuel t cs=some y→∃x:u.den,Rep w (fun b=>b<w.heap.size) u x cs∧u.bulk x≤bk y.1)∧
  (∀(m:Nat) (fs:List Field) (off:Nat) (cs:List Value) (ys:List (DataW H×List MemPlace)),(qiW P u).2 fs off=true→ys.length=fs.length→(∀(i:Nat) (f:Field),fs[i]? =some f→DataW.trod enc P w 0 (fun _=>true) true m f.type ((cs.drop f.offset).take (P.cellsOf f.type))=ys[i]?)→cs.length=off+u.size→
   ∃x:u.den,Rep w (fun b=>b<w.heap.size) u x (cs.drop off)∧u.bulk x≤bkA (ys.map (·.1))+1)
 | .int k=>by
  refine ⟨fun fuel t cs y hd h=> ?_,fun m fs off cs ys hd=>by cases hd⟩
  simp only [qiW] at hd
  split at hd
  ·rename_i k' hu
   simp only [decide_eq_true_eq] at hd
   subst hd
   obtain ⟨n,rfl,rfl,hw⟩:=DataW.trod_int hu h
   refine ⟨n,⟨rfl,?_⟩,hb.int k' n⟩
   simpa [Lit.wf,IntKind.has] using hw
  ·cases hd
 | .bool=>by
  refine ⟨fun fuel t cs y hd h=> ?_,fun m fs off cs ys hd=>by cases hd⟩
  simp only [qiW] at hd
  split at hd
  ·rename_i hu
   obtain ⟨b,rfl,rfl⟩:=DataW.trod_bool hu h
   exact ⟨b,rfl,hb.bool b⟩
  ·cases hd
 | .err=>⟨fun fuel t cs y hd h=>(by cases hd),fun m fs off cs ys hd=>by cases hd⟩
 | .opt _=>⟨fun fuel t cs y hd h=>(by cases hd),fun m fs off cs ys hd=>by cases hd⟩
 | .map _ _=>⟨fun fuel t cs y hd h=>(by cases hd),fun m fs off cs ys hd=>by cases hd⟩
 | .str=>by
  refine ⟨fun fuel t cs y hd h=> ?_,fun m fs off cs ys hd=>by cases hd⟩
  simp only [qiW] at hd
  split at hd
  ·rename_i hu
   obtain ⟨s,rfl,rfl,hl⟩:=DataW.trod_string hu h
   refine ⟨s.data.toList,⟨by simp,?_⟩,hb.str _⟩
   rw [Array.length_toList]
   exact hl
  ·cases hd
 | .unit=>by
  refine ⟨fun fuel t cs y hd h=> ?_,fun m fs off cs ys hd hl _ hcl=> ?_⟩
  ·obtain ⟨fs,hu,hf,hc⟩:=qqR hd
   obtain ⟨xs,n,rfl,rfl,hl,_⟩:=DataW.trod_struct hu h
   have:cs=[]:=List.eq_nil_of_length_eq_zero (by omega)
   subst this
   have:=hb.agg (xs.map (·.1))
   exact ⟨(),rfl,by show 1≤_; simp only; omega⟩
  ·have:cs.drop off=[]:=List.drop_of_length_le (by rw [hcl]; exact Nat.le_refl _)
   exact ⟨(),this,by show 1≤_; omega⟩
 | .pair a b=>by
  obtain ⟨ha,_⟩:=qgV hb a
  obtain ⟨_,hb2⟩:=qgV hb b
  have fld:∀(m:Nat) (fs:List Field) (off:Nat) (cs:List Value) (ys:List (DataW H×List MemPlace)),qmA P (qiW P a).1 a.size (qiW P b).2 fs off=true→ys.length=fs.length→(∀(i:Nat) (f:Field),fs[i]? =some f→DataW.trod enc P w 0 (fun _=>true) true m f.type ((cs.drop f.offset).take (P.cellsOf f.type))=ys[i]?)→cs.length=off+(a.size+b.size)→
   ∃x:(Ty.pair a b).den,Rep w (fun b=>b<w.heap.size) (.pair a b) x (cs.drop off)∧(Ty.pair a b).bulk x≤bkA (ys.map (·.1))+1:=by
   intro m fs off cs ys hd hl hi hcl
   cases fs with
   |nil=>cases hd
   |cons f r=>
    simp only [qmA,Bool.and_eq_true,decide_eq_true_eq] at hd
    obtain ⟨h1,h2,h3,h4⟩:=hd
    cases ys with
    |nil=>simp at hl
    |cons y ys=>
     have h0:=hi 0 f rfl
     rw [h1,h2] at h0
     obtain ⟨xa,k1,k2⟩:=ha m f.type _ y h3 h0
     obtain ⟨xb,k3,k4⟩:=hb2 m r (off+a.size) cs ys h4 (by simpa using hl) (fun i f' hf'=>by have:=hi (i+1) f' (by simpa using hf'); simpa using this) (by omega)
     refine ⟨(xa,xb),⟨_,_,?_,k1,k3⟩,?_⟩
     ·rw [←List.drop_drop,List.take_append_drop]
     ·have:=hb.cons y.1 (ys.map (·.1))
      show a.bulk xa+b.bulk xb≤_
      simp only [List.map_cons]
      omega
  refine ⟨fun fuel t cs y hd h=> ?_,fld⟩
  simp only [qiW] at hd
  split at hd
  ·rename_i fs hu
   simp only [Bool.and_eq_true,decide_eq_true_eq] at hd
   obtain ⟨xs,n,rfl,rfl,hl,hxl,hxi⟩:=DataW.trod_struct hu h
   obtain ⟨x,k1,k2⟩:=fld n fs.toList 0 cs xs hd.1 (by simpa using hxl) (fun i f hf=>hxi i f (by simpa using hf)) (by omega)
   have:=hb.agg (xs.map (·.1))
   exact ⟨x,by simpa using k1,by simp only; omega⟩
  ·cases hd
 | .slice e=>by
  obtain ⟨he,_⟩:=qgV hb e
  refine ⟨fun fuel t cs y hd h=> ?_,fun m fs off cs ys hd=>by cases hd⟩
  simp only [qiW] at hd
  split at hd
  ·rename_i et hu
   simp only [Bool.and_eq_true,decide_eq_true_eq] at hd
   obtain ⟨h1,h2,h3⟩:=hd
   rcases DataW.trod_slice hu h with ⟨rfl,rfl⟩|⟨a,len,cap,elems,rest,n,rfl,rfl,rfl,_,g1,g2,g3,g4,_⟩
   ·exact ⟨[],⟨_,rfl,.inl ⟨rfl,rfl⟩⟩,by show 0+1≤_; exact hb.nil⟩
   ·obtain ⟨xs,k1,k2⟩:=qlT (α:=e.den) (R:=fun i x y=>a.block<w.heap.size∧(∃cs,qfc w (a.add (i * e.size)) cs∧Rep w (fun b=>b<w.heap.size) e x cs)∧e.bulk x≤bk y.1) len elems g3 (fun i y hy=>by
     have hlt:i<len:=by
      have:=(List.getElem?_eq_some_iff.1 hy).1
      omega
     have:=g4 i hlt
     rw [hy,h1] at this
     obtain ⟨cs,hc1,hc2⟩:=Option.bind_eq_some_iff.1 this
     obtain ⟨q1,q2,q3⟩:=qmm hc1
     obtain ⟨x,r1,r2⟩:=he n et cs y h3 hc2
     exact ⟨x,by simpa [qW] using q3 h2,⟨cs,q2,r1⟩,r2⟩)
    have idx:∀(i:Nat) (x:e.den),xs[i]? =some x→∃y,elems[i]? =some y:=fun i x hx=>⟨_,List.getElem?_eq_getElem (by have:=(List.getElem?_eq_some_iff.1 hx).1; omega)⟩
    refine ⟨xs,⟨_,rfl,.inr ⟨a,cap,by rw [k1],by omega,g2,fun i x hx=> ?_⟩⟩,?_⟩
    ·obtain ⟨y,hy⟩:=idx i x hx
     obtain ⟨q1,q2,_⟩:=k2 i x y hx hy
     exact ⟨q1,q1,q2⟩
    ·have:=qmC hb xs elems (by omega) fun i x y hx hy=>(k2 i x y hx hy).2.2
     have:=hb.slice (elems.map (·.1)) (rest.map (·.1))
     show (List.map e.bulk xs).sum+1≤_
     simp only
     omega
  ·cases hd
 | .arr n e=>by
  obtain ⟨he,_⟩:=qgV hb e
  refine ⟨fun fuel t cs y hd h=> ?_,fun m fs off cs ys hd=>by cases hd⟩
  simp only [qiW] at hd
  split at hd
  ·rename_i m et hu
   simp only [Bool.and_eq_true,decide_eq_true_eq] at hd
   obtain ⟨rfl,h1,h2,h3⟩:=hd
   obtain ⟨ys,k,rfl,rfl,g1,g2,g3⟩:=DataW.trod_array hu h
   obtain ⟨xs,k1,k2⟩:=qlT (α:=e.den) (R:=fun i x y=>Rep w (fun b=>b<w.heap.size) e x ((cs.drop (i * e.size)).take e.size)∧e.bulk x≤bk y.1) m ys g2 (fun i y hy=>by
    have hlt:i<m:=by
     have:=(List.getElem?_eq_some_iff.1 hy).1
     omega
    have:=g3 i hlt
    rw [hy,h1] at this
    exact he k et _ y h3 this)
   refine ⟨xs,⟨k1,(List.range m).map (fun i=>(cs.drop (i * e.size)).take e.size),by simp,?_,fun i x c hi hc=> ?_⟩,?_⟩
   ·rw [h2] at g1
    clear g3 k2 k1 g2 h hu h2
    induction m generalizing cs with
    |zero=>simp at g1; subst g1; rfl
    |succ m ih=>
     have:=ih (cs:=cs.drop e.size) (by rw [List.length_drop,g1,Nat.add_mul]; omega)
     rw [List.range_succ_eq_map,List.map_cons,List.flatten_cons,List.map_map]
     rw [Nat.zero_mul,List.drop_zero]
     have e2:((fun i=>List.take e.size (List.drop (i * e.size) cs)) ∘ Nat.succ)=fun i=>List.take e.size (List.drop (i * e.size) (cs.drop e.size)):=by
      funext i
      simp only [Function.comp,List.drop_drop]
      rw [Nat.succ_mul,Nat.add_comm]
     rw [e2,←this,List.take_append_drop]
   ·have hlt:i<m:=by
     have:=(List.getElem?_eq_some_iff.1 hi).1
     omega
    have hy:ys[i]? =some (ys[i]'(by omega)):=List.getElem?_eq_getElem (by omega)
    rw [List.getElem?_map,List.getElem?_range hlt] at hc
    simp only [Option.map_some,Option.some.injEq] at hc
    rw [←hc]
    exact (k2 i x _ hi hy).1
   ·have:=qmC hb xs ys (by omega) fun i x y hx hy=>(k2 i x y hx hy).2
    have:=hb.agg (ys.map (·.1))
    show (List.map e.bulk xs).sum+1≤_
    simp only
    omega
  ·cases hd
theorem qqd {u:Ty} {t:Nat} {v:Value} {r:Reach} {b0:Nat} (hd:(qiW P u).1 t=true) (hv:Value.okWide P w r b0 t v):(u.agg=true→∃cs,v= .agg cs)∧(u.agg=false→∀cs,v≠ .agg cs):=by
 cases u with
 |err=>cases hd
 |opt _=>cases hd
 |map _ _=>cases hd
 |int k=>
  simp only [qiW] at hd
  split at hd
  ·rename_i hu
   obtain ⟨n,rfl⟩:=okWide_int hu hv
   exact ⟨fun h=>(by cases h),fun _ cs h=>(by cases h)⟩
  ·cases hd
 |bool=>
  simp only [qiW] at hd
  split at hd
  ·rename_i hu
   obtain ⟨n,rfl⟩:=okWide_bool hu hv
   exact ⟨fun h=>(by cases h),fun _ cs h=>(by cases h)⟩
  ·cases hd
 |str=>
  simp only [qiW] at hd
  split at hd
  ·rename_i hu
   obtain ⟨n,rfl⟩:=okWide_string hu hv
   exact ⟨fun h=>(by cases h),fun _ cs h=>(by cases h)⟩
  ·cases hd
 |slice e=>
  simp only [qiW] at hd
  split at hd
  ·rename_i hu
   obtain ⟨a,n,c,rfl⟩:=okWide_slice hu hv
   exact ⟨fun h=>(by cases h),fun _ cs h=>(by cases h)⟩
  ·cases hd
 |unit=>
  simp only [qiW] at hd
  split at hd
  ·rename_i hu
   obtain ⟨cs,h,_⟩:=okWide_struct hu hv
   exact ⟨fun _=>⟨cs,h⟩,fun h=>(by cases h)⟩
  ·cases hd
 |pair a b=>
  simp only [qiW] at hd
  split at hd
  ·rename_i hu
   obtain ⟨cs,h,_⟩:=okWide_struct hu hv
   exact ⟨fun _=>⟨cs,h⟩,fun h=>(by cases h)⟩
  ·cases hd
 |arr n e=>
  simp only [qiW] at hd
  split at hd
  ·rename_i hu
   unfold Value.okWide at hv
   rw [hu] at hv
   obtain ⟨cs,h,_⟩:=hv
   exact ⟨fun _=>⟨cs,h⟩,fun h=>(by cases h)⟩
  ·cases hd
def qkt:(us:List Ty)→PMs.den (us.map .val)→Nat
 |[],_=>0
 |u::us,x=>u.bulk x.1+qkt us x.2
def qjc (P:Program):List Ty→List Nat→Bool
 |[],[]=>true
 |u::us,t::ts=>(qiW P u).1 t&&qjc P us ts
 |_,_=>false
theorem qm5 (hb:qrx bk bkA) {r:Reach} {b0:Nat} :(us:List Ty)→ {ts:List Nat} → {vs:List Value} → {ds:List (DataW H)} → {ps:List MemPlace} →qjc P us ts=true→(∀(j:Nat) t v,ts[j]? =some t→vs[j]? =some v→Value.okWide P w r b0 t v)→
  DataW.TrodAll enc P w 0 (fun _=>true) true ts vs ds ps→∃x:PMs.den (us.map .val),qaj P w (fun b=>b<w.heap.size) (us.map .val) x vs [] []∧qkt us x≤bkA ds
 |[],[],vs,ds,ps,_,_,h=>by
  obtain ⟨rfl,rfl,rfl⟩:=trodAll_nil h
  exact ⟨(),⟨rfl,rfl,rfl⟩,Nat.zero_le _⟩
 |u::us,t::ts,vs,ds,ps,hd,hv,h=>by
  simp only [qjc,Bool.and_eq_true] at hd
  obtain ⟨v,vs',d,ds',p,q,rfl,rfl,rfl,h0,hr⟩:=trodAll_cons h
  obtain ⟨fuel,h0⟩:=h0
  obtain ⟨x,k1,k2⟩:=(qgV hb u).1 fuel t _ _ hd.1 h0
  obtain ⟨xs,k3,k4⟩:=qm5 hb us hd.2 (fun j t' v' ht hv'=>hv (j+1) t' v' (by simpa using ht) (by simpa using hv')) hr
  have:=hb.cons d ds'
  exact ⟨(x,xs),⟨v,vs',rfl,⟨k1,qqd hd.1 (hv 0 t v rfl rfl)⟩,k3⟩,by show u.bulk x+qkt us xs≤_; simp only at k2; omega⟩
theorem qm1 {W W':World} {sp:Nat→Bool} (hl:laidOutB P=true): {ts:List Nat} → {vs:List Value} → {ds:List (DataW H)} → {ps:List MemPlace} →(∀t∈ts,P.readableRec t=true∧t<P.types.size)→DataW.TrodAll enc P W 0 (fun _=>true) true ts vs ds ps→Below W.heap.size W W'→(∀x∈ps,x.block<W.heap.size)→(∀x∈ps,sp x.block=true)→
  DataW.TrodAll enc P W' 0 sp true ts vs ds ps
 |[],_,_,_,_,h,_,_,_=>by
  obtain ⟨rfl,rfl,rfl⟩:=trodAll_nil h
  rfl
 |t::ts,_,_,_,ht,h,hb,hlt,hs=>by
  obtain ⟨v,vs',d,ds',p,q,rfl,rfl,rfl,h0,hr⟩:=trodAll_cons h
  exact trodAll_cons_mk (WideElems.Trod_stays hl (ht t List.mem_cons_self).1 (ht t List.mem_cons_self).2 h0 (fun x hx=>hb.same (hlt x (List.mem_append_left _ hx))) fun x hx=>hs x (List.mem_append_left _ hx)) (qm1 hl (fun t' h'=>ht t' (List.mem_cons_of_mem _ h')) hr hb (fun x hx=>hlt x (List.mem_append_right _ hx)) fun x hx=>hs x (List.mem_append_right _ hx))
end
end Go.Vi
namespace Go.Vi
open Go.RowKit Go.WideShapes Go.ChangeShapes
section
variable {H:Type} {enc:TypeId×Value→H} {P:Program}
theorem qpW {f:Func} {s:ChangeSpec} {apart fresh handsOn again:Bool} {W W':World} {args:Array Value} {v:Value} {ds gs:List (DataW H)} {before pa pv:List MemPlace}
  (hW:DataW.Whole enc P f.params.toList s.vars apart W args.toList ds gs before)
  (hres:∀(b:Nat) (sp:Nat→Bool) (hd:Bool),DataW.TrodAll enc P W' b sp hd f.resultTypes.toList (v.resultList f.resultTypes.size) (s.fn H (ds++gs)).results [])
  (hargs:∀sp:Nat→Bool,(∀p∈before,sp p.block=true)→DataW.TrodAll enc P W' 0 sp true f.params.toList args.toList (s.fn H (ds++gs)).args pa)
  (hvars:∀sp:Nat→Bool,(∀p∈before,sp p.block=true)→DataW.TrodVars enc P W' sp s.vars (s.fn H (ds++gs)).vars pv)
  (hps:before=pa++pv) (hb:Below W.heap.size W W')
  (hok:∀(j:Nat) (t:TypeId) (r:Value),f.resultTypes[j]? =some t→(v.resultList f.resultTypes.size)[j]? =some r→Value.okWide P W' .any 0 t r):
  s.post enc P f apart fresh handsOn again W args v W':=by
 have hlt:∀p∈before,p.block<W.heap.size:=fun p hp=>hW.lt p hp
 have hold:∀p∈before,(fun b=>decide (b<W.heap.size)) p.block=true:=fun p hp=>by simpa using hlt p hp
 refine ⟨ds,gs,before,[],pa,pv,hW,hres _ _ _,hargs _ hold,hvars _ hold,World.keptBut_mono (fun p hp=>⟨hp,?_⟩) (hb.frame (· ∈before)),fun _=> ?_⟩
 ·rw [hps,List.mem_append] at hp
  exact Or.inr hp
 ·obtain ⟨_,_,_,_,_,hz,hn⟩:=hW
  refine ⟨hok,_,_,([]++pa)++pv,⟨[]++pa,pv,trodAll_append (hargs _ (fun _ _=>rfl)) (hres _ _ _),hvars _ (fun _ _=>rfl),rfl,?_,?_⟩,?_⟩
  ·intro b off hp
   have hin:MemPlace.cell b off∈before:=by rw [hps]; simpa using hp
   rw [hb.frozen (hlt _ hin)]
   exact hz b off hin
  ·intro ha
   have:=hn ha
   rw [hps] at this
   simpa using this
  ·intro p hp _
   rw [hps]
   simpa using hp
theorem qmx {T:qk1} {bk:DataW H→Nat} {bkA:List (DataW H)→Nat} (hb:qrx bk bkA) {B:Nat} {fi:Nat} {fn:Func} {s:ChangeSpec} {apart fresh handsOn again:Bool} {us:List Ty} {ts:List Nat} {tb:Nat} {sem:Nat→PMs.den (us.map .val)→Option (RMs.den [.val .bool]×PMs.ioDen (us.map .val))}
  (hp:fn.params.toList=ts) (hr:fn.resultTypes= #[tb]) (htb:P.underlying tb=some .bool) (hdeep:qjc P us ts=true) (hl:laidOutB P=true) (hread:ts.all (fun t=>P.readableRec t&&decide (t<P.types.size))=true) (hvars:s.vars=[])
  (hfn:∀ds:List (DataW H),ds.length=us.length→s.fn H ds= { results:=[.lit (.bool true)],args:=ds })
  (hC:∀N,qg.okT P T fi ⟨us.map .val,[.val .bool],sem N⟩) (hsem:∀x,ql6 us x→qkt us x≤B→∃N z,sem N x=some ((true,()),z))
  {W:World} {args:Array Value} {ds gs:List (DataW H)} {before:List MemPlace} {r:Reach} {base:Nat}
  (hT:qdn T W fun b=>b<W.heap.size)
  (hval:∀(j:Nat) t v,fn.params[j]? =some t→args[j]? =some v→Value.okWide P W r base t v)
  (hW:DataW.Whole enc P fn.params.toList s.vars apart W args.toList ds gs before) (hk:bkA (ds++gs)≤B):
  Calls P fi args W fun e W'=>∃v,e= .returned v∧s.post enc P fn apart fresh handsOn again W args v W':=by
 have hW':=hW
 obtain ⟨p,q,hA,hV,rfl,hfz,hnd⟩:=hW
 rw [hvars] at hV
 obtain ⟨rfl,rfl⟩:=trodVars_none hV
 rw [hp] at hA
 have hrd:∀t∈ts,P.readableRec t=true∧t<P.types.size:=fun t ht=>by
  have:=List.all_eq_true.1 hread t ht
  simpa using this
 have hlen:∀ {ts:List Nat} {us:List Ty} {vs:List Value} {ds:List (DataW H)} {p:List MemPlace},qjc P us ts=true→DataW.TrodAll enc P W 0 (fun _=>true) true ts vs ds p→ds.length=us.length:=by
  intro ts
  induction ts with
  |nil=>
   intro us vs ds p hd h
   obtain ⟨rfl,rfl,rfl⟩:=trodAll_nil h
   cases us with
   |nil=>rfl
   |cons u us=>cases hd
  |cons t ts ih=>
   intro us vs ds p hd h
   obtain ⟨v,vs',d,ds',p,q,rfl,rfl,rfl,h0,hr⟩:=trodAll_cons h
   cases us with
   |nil=>cases hd
   |cons u us=>
    simp only [qjc,Bool.and_eq_true] at hd
    simp only [List.length_cons]
    rw [ih hd.2 hr]
 have hdl:=hlen hdeep hA
 obtain ⟨x,k1,k2⟩:=qm5 hb us hdeep (fun j t v ht hv=>hval j t v (by rw [←Array.getElem?_toList,hp]; exact ht) (by rw [←Array.getElem?_toList]; exact hv)) hA
 rw [List.append_nil] at hk
 obtain ⟨N,z,hz⟩:=hsem x (qaj.good us k1) (by omega)
 have:=(hC N).2 W (fun b=>b<W.heap.size) x ((true,()),z) args.toList [] [] hT k1 (fun b hb=>by cases hb) List.nodup_nil hz
 rw [Array.toArray_toList] at this
 refine this.mono fun e W' ⟨v,he,vs,bs,js,hv,_,_,hcs,_,hkept⟩=>⟨v,he,?_⟩
 obtain ⟨v',r',b1,b2,rfl,rfl,⟨rfl,hrep,_,hna⟩,hnil,_⟩:=hcs
 subst hnil
 have hv':v'= .bool true:=by
  have:v'.cells.toList=[.bool true]:=hrep
  have hna:=hna rfl
  cases v' <;> simp_all [Value.cells]
 rw [hv'] at hv
 have hv:v= .bool true:=hv
 rw [hv]
 have hbelow:Below W.heap.size W W':=⟨hkept.os,hkept.tape,hkept.output,hkept.size,fun k hk=>hkept.block k hk fun h=>by cases h⟩
 have hlt:∀x∈p,x.block<W.heap.size:=fun x hx=>hW'.lt x (by simpa using hx)
 refine qpW (pa:=p) (pv:=[]) hW' (fun b sp hd=> ?_) (fun sp hsp=> ?_) (fun sp _=> ?_) rfl hbelow (ok_one hr rfl (okWide_bool_mk htb true))
 ·rw [List.append_nil,hfn ds hdl,hr]
  exact trodAll_cons_mk (p':=[]) (shut_bool htb true) trodAll_mk0
 ·rw [List.append_nil,hfn ds hdl,hp]
  exact qm1 hl hrd hA hbelow hlt fun x hx=>hsp x (by simpa using hx)
 ·rw [List.append_nil,hfn ds hdl,hvars]
  rfl
end
end Go.Vi
namespace Go.Vi
open Go.RowKit
theorem qpl {P:Program} {f:Nat} {fn:Func} (hf:P.funcs[f]? =some fn) (hb:fn.body.isSome=true) (hname:(fn.name == "runtime.NumGoroutine")=false) (φ:List UInt8→List UInt8→Int) (hφ:∀a b,IntKind.i64.has (φ a b))
  (h:∀(a b:ByteArray) (w:World),Calls P f #[.string a,.string b] w fun e w'=>e= .returned (.int .i64 (φ a.data.toList b.data.toList))∧w'=w):
  qg.ok P f ⟨[.val .str,.val .str],[.val (.int .i64)],fun x=>some ((φ x.1 x.2.1,()),())⟩:=by
 obtain ⟨c,hc⟩:=Option.isSome_iff_exists.1 hb
 refine ⟨fun as w=>qeP hf hc hname as w,fun w F x y as g i _ hp hpre hn hy=> ?_⟩
 obtain ⟨a,b,_⟩:=x
 obtain ⟨v1,r1,rfl,h1,v2,r2,rfl,h2,rfl,rfl,rfl⟩:=hp
 obtain ⟨e1,_⟩:=qau.str h1
 obtain ⟨e2,_⟩:=qau.str h2
 subst e1
 subst e2
 injection hy with hy
 subst hy
 refine (h ⟨List.toArray a⟩ ⟨List.toArray b⟩ w).mono fun e w' ⟨he,hw⟩=>⟨_,he,?_⟩
 subst hw
 refine qg.Post.mk0 [_] [] rfl List.nodup_nil (fun b hb=>(by cases hb)) ⟨_,_,[],[],rfl,rfl,⟨rfl,?_⟩,rfl,rfl⟩ ⟨rfl,rfl⟩ (qcA.refl _ _)
 exact qau.ofInt _ _ (hφ _ _)
theorem qg.lift {P:Program} {f:Nat} {C:qg} {T:qk1} (h:C.ok P f):C.okT P T f:=⟨h.1,fun w F x y as g i _ a b c d=>h.2 w F x y as g i qdn.none a b c d⟩
theorem qjF (a b:List UInt8):IntKind.i64.has (Lib.compareBytes a b):=by
 have:Lib.compareBytes a b= -1∨Lib.compareBytes a b=0∨Lib.compareBytes a b=1:=by
  induction a generalizing b with
  |nil=>cases b <;> simp [Lib.compareBytes]
  |cons x a ih=>cases b with
   |nil=>simp [Lib.compareBytes]
   |cons y b=>
    simp only [Lib.compareBytes]
    split
    ·simp
    ·split
     ·simp
     ·exact ih b
 rcases this with h|h|h <;> rw [h] <;> exact ⟨by decide,by decide⟩
end Go.Vi
namespace Go.Vi
open Go.RowKit
theorem qcA.ofBelow {w w':World} (h:Below w.heap.size w w'):qcA (fun _=>False) w w':=⟨h.os,h.tape,h.output,h.size,fun k hk _=>h.block k hk⟩
theorem qqv {P:Program} {T:qk1} {f:Nat} {fn:Func} (hf:P.funcs[f]? =some fn) (hb:fn.body.isSome=true) (hname:(fn.name == "runtime.NumGoroutine")=false) (ts us:List Ty) (φ:denL ts→Option (denL us))
  (h:∀(w:World) (F:Nat→Prop) (x:denL ts) (y:denL us) (as:List Value),qdn T w F→qdq w F ts x as→φ x=some y→
   Calls P f as.toArray w fun e w'=>∃vs,e= .returned (qd8 vs)∧qdq w' (fun b=>F b∨w.heap.size≤b) us y vs∧qcA (fun _=>False) w w'):
  qg.okT P T f ⟨valPs ts,valRs us,fun x=>qjZ (fun y=>(qrH us y,PMs.ioDflt (valPs ts))) (φ (qrU ts x))⟩:=by
 obtain ⟨c,hc⟩:=Option.isSome_iff_exists.1 hb
 refine ⟨fun as w=>qeP hf hc hname as w,fun w F x y as g i hT hp hpre hn hy=> ?_⟩
 simp only [qeg,Option.map_eq_some_iff] at hy
 obtain ⟨z,hz,rfl⟩:=hy
 obtain ⟨k1,rfl,rfl⟩:=qhM ts hp
 refine (h w F _ z as hT k1 hz).mono ?_
 rintro e w' ⟨vs,rfl,hv,hk⟩
 refine ⟨_,rfl,qg.Post.mk0 vs [] rfl List.nodup_nil (fun b hb=>(by cases hb)) (qi0 us (hv.mono us fun b hb=> ?_)) (qg2 ts) (hk.mono fun _ h=>h.elim)⟩
 exact ⟨hb.elim .inl fun h=> .inr (.inr h),by simp,by simp⟩
theorem qne (k:IntKind):(l:List Int)→(css:List (List Value))→css.length=l.length→(∀(i:Nat) (x:Int) (c:List Value),l[i]? =some x→css[i]? =some c→c=[.int k x])→css.flatten=l.map (fun z=> .int k z)
 |[],[],_,_=>rfl
 |[],_::_,h,_=>by simp at h
 |_::_,[],h,_=>by simp at h
 |x::l,c::css,h,hx=>by
  have h0:=hx 0 x c rfl rfl
  have ih:=qne k l css (by simpa using h) fun i x c h1 h2=>hx (i+1) x c (by simpa using h1) (by simpa using h2)
  rw [List.flatten_cons,ih,h0]
  rfl
theorem qsz {P:Program} {T:qk1} {w:World} {F:Nat→Prop} (hT:qdn T w F) {name:String} {g n:Nat} {k:IntKind} {tab zs:List Int} (hg:P.globalNamed name=some g) (ht:T g=some ⟨.arr n (.int k),tab⟩) (hz:tab=zs):Lib.TabIs P w name k zs:=by
 subst hz
 obtain ⟨_,_,cs,te,fz,h3,hl,css,hcl,rfl,hx⟩:=hT g _ ht
 have e:=qne k tab css (by rw [hcl]; exact hl.symm) fun i x c h1 h2=>(hx i x c h1 h2).1
 rw [Lib.TabIs,World.var?,hg]
 simp only [Option.bind_some,h3,e]
theorem qtE {P:Program} {T:qk1} {f g:Nat} {fn:Func} {tab:List Int} (hf:P.funcs[f]? =some fn) (hb:fn.body.isSome=true) (hname:(fn.name == "runtime.NumGoroutine")=false)
  (hg:P.globalNamed "internal/strconv.uint64pow10" =some g) (ht:T g=some ⟨.arr 20 (.int .u64),tab⟩) (hz:tab=Lib.pow10Tab)
  (h:∀(n:Int),-9223372036854775808≤n→n≤9223372036854775807→∀(w:World),Lib.TabIs P w "internal/strconv.uint64pow10" .u64 Lib.pow10Tab→
   Calls P f #[.int .i64 n] w fun e w'=>e= .returned (.string ⟨(Lib.itoa n).toArray⟩)∧∃k os,w'=Sort.grow (w.drewN k) os):
  qg.okT P T f ⟨[.val (.int .i64)],[.val .str],fun x=>some ((Lib.itoa x.1,()),())⟩:=by
 have:=qqv (T:=T) hf hb hname [.int .i64] [.str] (fun x=>some (Lib.itoa x.1,())) (fun w F x y as hT hv hy=>by
  obtain ⟨v,r,rfl,h1,rfl⟩:=hv
  obtain ⟨rfl,hn⟩:=qau.int h1
  injection hy with hy
  subst hy
  have hn': -9223372036854775808≤x.1∧x.1≤9223372036854775807:=by simpa [IntKind.has,IntKind.min,IntKind.max,IntKind.signed,IntKind.bits] using hn
  refine (h x.1 hn'.1 hn'.2 w (qsz hT hg ht hz)).mono ?_
  rintro e w' ⟨rfl,k,os,rfl⟩
  refine ⟨[_],rfl,⟨_,[],rfl,qau.ofStr _ _ ?_,rfl⟩,qcA.ofBelow (Lib.below_grow _ _ (Nat.le_refl _) _ _)⟩
  have:=Lib.itoa_length_le x.1 hn'.1 hn'.2
  simp only [maxLen]
  omega)
 refine ⟨this.1,fun w F x y as g i a b c d e=>this.2 w F x y as g i a b c d ?_⟩
 injection e with e
 subst e
 simp only [qeg]
 rfl
def qky (w:World) (g:Nat) (r:(t:Ty)×t.den):Prop:=g<w.heap.size∧∃(cs:List Value) (te:Nat) (fz:Nat×Nat),w.heap[g]? =some (.cells cs.toArray te fz)∧Rep w (fun b=>b<w.heap.size) r.1 r.2 cs
theorem qnI {P:Program} {w:World} {n:String} {g:Nat} {cs:Array Value} (hg:P.globalNamed n=some g) (h:w.var? P n=some cs):g<w.heap.size∧∃(te:Nat) (fz:Nat×Nat),w.heap[g]? =some (.cells cs te fz):=by
 rw [World.var?,hg] at h
 simp only [Option.bind_some] at h
 split at h
 ·rename_i c te fz e
  injection h with h
  subst h
  exact ⟨(Array.getElem?_eq_some_iff.1 e).1,te,fz,e⟩
 ·cases h
theorem qky.err {P:Program} {w:World} {n:String} {g:Nat} {t:TypeId} {x:Value} (hg:P.globalNamed n=some g) (h:w.var? P n=some #[.iface t x]):qky w g ⟨.err,false⟩:=by
 obtain ⟨h1,te,fz,h2⟩:=qnI hg h
 exact ⟨h1,[.iface t x],te,fz,h2,_,rfl,.inr ⟨rfl,t,x,rfl⟩⟩
theorem qju {α β:Type} (f:α→β):(l:List α)→l.map f=(l.map fun z=>[f z]).flatten
 |[]=>rfl
 |x::l=>by simp only [List.map_cons,List.flatten_cons,←qju f l]; rfl
theorem qky.ints {P:Program} {w:World} {name:String} {g n:Nat} {k:IntKind} {tab zs:List Int} (hg:P.globalNamed name=some g) (hn:zs.length=n) (hk:zs.all (fun z=>decide (k.min≤z∧z≤k.max))=true) (ht:tab=zs) (h:Lib.TabIs P w name k zs):qky w g ⟨.arr n (.int k),tab⟩:=by
 subst ht
 obtain ⟨h1,te,fz,h2⟩:=qnI hg h
 refine ⟨h1,tab.map (fun z=> .int k z),te,fz,h2,hn,tab.map (fun z=>[.int k z]),by rw [List.length_map,hn],qju _ _,fun i x c hx hc=> ?_⟩
 rw [List.getElem?_map,hx] at hc
 injection hc with hc
 subst hc
 have h3:k.min≤x∧x≤k.max:=of_decide_eq_true (List.all_eq_true.1 hk x (List.mem_of_getElem? hx))
 exact ⟨rfl,h3⟩
def encV (v:Int×(Int×(List UInt8×Unit))):List UInt8:=124::(Lib.itoa v.1++44::(Lib.itoa v.2.1++44::(Lib.itoa (v.2.2.1.length:Int)++44::v.2.2.1)))
def encR (xs:List (Int×(Int×(List UInt8×Unit)))):List UInt8:=Lib.itoa (xs.length:Int)++(xs.map encV).flatten
def qmj (s t:List UInt8):Option ((Int×Unit)×Unit):=match t with
 |[c]=>some ((Lib.indexByte s c,()),())
 |_=>none
theorem qgD:(s:List UInt8)→(c:UInt8)→ -1≤Lib.indexByte s c∧Lib.indexByte s c<(s.length:Int)+1
 |[],_=>by simp [Lib.indexByte]
 |b::l,c=>by
  have:=qgD l c
  simp only [Lib.indexByte]
  split
  ·simp only [List.length_cons]; omega
  ·split
   ·simp only [List.length_cons]; omega
   ·simp only [List.length_cons]; omega
theorem qrp {P:Program} {T:qk1} {f:Nat} {fn:Func} (hf:P.funcs[f]? =some fn) (hb:fn.body.isSome=true) (hname:(fn.name == "runtime.NumGoroutine")=false)
  (h:∀(s:ByteArray) (c:UInt8) (w:World),Calls P f #[.string s,.string ⟨#[c]⟩] w fun e w'=>e= .returned (.int .i64 (Lib.indexByte s.data.toList c))∧w'=w):
  qg.okT P T f ⟨[.val .str,.val .str],[.val (.int .i64)],fun x=>qmj x.1 x.2.1⟩:=by
 have:=qqv (T:=T) hf hb hname [.str,.str] [.int .i64] (fun x=>match x.2.1 with
  |[c]=>some (Lib.indexByte x.1 c,())
  |_=>none) (fun w F x y as hT hv hy=>by
  obtain ⟨v,r,rfl,h1,v2,r2,rfl,h2,rfl⟩:=hv
  obtain ⟨rfl,hn⟩:=qau.str h1
  obtain ⟨rfl,hn2⟩:=qau.str h2
  obtain ⟨s,t,u⟩:=x
  simp only at hy hn hn2⊢
  split at hy
  ·rename_i c
   injection hy with hy
   subst hy
   refine (h ⟨s.toArray⟩ c w).mono ?_
   rintro e w' ⟨rfl,rfl⟩
   refine ⟨[_],rfl,⟨_,[],rfl,qau.ofInt _ _ ?_,rfl⟩,qcA.refl _ _⟩
   have h3:=qgD s c
   simp only [maxLen] at hn
   simp [IntKind.has,IntKind.min,IntKind.max,IntKind.signed,IntKind.bits]
   omega
  ·cases hy)
 refine ⟨this.1,fun w F x y as g i a b c d e=>this.2 w F x y as g i a b c d ?_⟩
 obtain ⟨s,t,u⟩:=x
 simp only [qmj] at e
 simp only [qeg,qrU]
 split at e
 ·injection e with e
  subst e
  rfl
 ·cases e
end Go.Vi
namespace Go.Vi
theorem qdB {S R:Type} (n:Nat) (step:(S→Option R)→S→Option R) (s:S):qaI (n+1) step s=step (qaI n step) s:=rfl
theorem qeo {S R:Type} {step:(S→Option R)→S→Option R} (m:S→Nat) (I:S→Prop) (out:S→R) (h:∀(ih:S→Option R) (s:S),I s→(∀s',I s'→m s'<m s→ih s'=some (out s'))→step ih s=some (out s)):∀(n:Nat) (s:S),I s→m s<n→qaI n step s=some (out s)
 |0,s,_,hm=>absurd hm (Nat.not_lt_zero _)
 |n+1,s,hI,hm=>h (qaI n step) s hI fun s' hI' hm'=>qeo m I out h n s' hI' (by omega)
theorem qh {α:Type} (x:α):qA (some x)=true:=by rw [qfg]; rfl
theorem qr {α:Type} (x d:α):qP (some x) d=x:=by rw [qjV]; rfl
theorem qfp {α:Type} :qA (none:Option α)=false:=by rw [qfg]; rfl
theorem qri {z:Int} (h1: -9223372036854775808≤z) (h2:z<9223372036854775808):IntKind.wrap .i64 z=z:=by
 simp [IntKind.wrap,IntKind.signed,IntKind.bits]
 split <;> omega
theorem qw {α:Type} {c:Bool} {a b:α} (h:c=true):(bif c then a else b)=a:=by rw [h]; rfl
theorem qF {α:Type} {c:Bool} {a b:α} (h:c=false):(bif c then a else b)=b:=by rw [h]; rfl
theorem qad {α:Type} {p:Prop} [Decidable p] {a b:α} :(bif decide p then a else b)=if p then a else b:=by by_cases h:p <;> simp [h]
theorem qbE (x y:Int):eqI x y=decide (x=y):=by rw [qhK]; rfl
theorem qaF (x y:Int):neI x y= !decide (x=y):=by rw [qkJ]; rfl
theorem qbw (x y:List UInt8):eqS x y=decide (x=y):=by rw [qoh]; by_cases h:x=y <;> simp [h]
theorem ql9 (x y:Bool):eqB x y=decide (x=y):=by rw [qmI]; cases x <;> cases y <;> rfl
theorem qss {α:Type} (c:Bool) (a b:α):(bif c then a else b)=if c=true then a else b:=by cases c <;> rfl
theorem condO {α:Type} (c:Bool) (a b:Option α):(bif c then a else b)=if c=true then a else b:=by cases c <;> rfl
theorem qf9 {α:Type} {xs:List α} {i:Nat} {d x:α} (h:xs[i]? =some x):qn xs (i:Int) d=x:=by
 rw [qdH]
 simp [List.getD,h]
theorem qte {i n:Nat} (h:i<n):inB (i:Int) (n:Int)=true:=by
 rw [qcB]
 simp
 omega
theorem qfI:(t:Ty)→(x:t.den)→1≤t.bulk x
 | .int _,_=>Nat.le_refl _
 | .bool,_=>Nat.le_refl _
 | .str,_=>Nat.le_add_left _ _
 | .unit,_=>Nat.le_refl _
 | .err,_=>Nat.le_refl _
 | .opt _,_=>Nat.le_refl _
 | .map _ _,_=>Nat.le_refl _
 | .pair a b,x=>by have:=qfI a x.1; show 1≤a.bulk x.1+b.bulk x.2; omega
 | .slice e,xs=>Nat.le_add_left _ _
 | .arr _ e,xs=>Nat.le_add_left _ _
theorem qfu (e:Ty):(xs:List e.den)→xs.length+1≤(Ty.slice e).bulk xs
 |[]=>Nat.le_refl _
 |x::xs=>by
  have:=qfu e xs
  have h1:=qfI e x
  simp only [Ty.bulk,List.map_cons,List.sum_cons,List.length_cons] at this⊢
  omega
end Go.Vi
namespace Go.Vi
theorem qfn {S R:Type} {step:(S→Option R)→S→Option R} {s0:S} (st:Nat→S) (n:Nat) (r:R) (h0:st 0=s0) (hs:∀i,i<n→∀ih,step ih (st i)=ih (st (i+1))) (he:∀ih,step ih (st n)=some r) {N:Nat} (hN:n<N):qaI N step s0=some r:=by
 rw [←h0]
 have:∀k i,i+k=n→∀M,k<M→qaI M step (st i)=some r:=by
  intro k
  induction k with
  |zero=>
   intro i hi M hM
   obtain ⟨M,rfl⟩:∃m,M=m+1:=⟨M - 1,by omega⟩
   rw [qdB,show i=n by omega]; exact he _
  |succ k ih=>
   intro i hi M hM
   obtain ⟨M,rfl⟩:∃m,M=m+1:=⟨M - 1,by omega⟩
   rw [qdB,hs i (by omega)]
   exact ih (i+1) (by omega) M (by omega)
 exact this n 0 (by omega) N hN
theorem qdt {S R:Type} {step:(S→Option R)→S→Option R} {s0:S} (st:Nat→S) (n:Nat) (r:Option R) (h0:st 0=s0) (hs:∀i,i<n→∀ih,step ih (st i)=ih (st (i+1))) (he:∀ih,step ih (st n)=r) {N:Nat} (hN:n<N):qaI N step s0=r:=by
 rw [←h0]
 have:∀k i,i+k=n→∀M,k<M→qaI M step (st i)=r:=by
  intro k
  induction k with
  |zero=>
   intro i hi M hM
   obtain ⟨M,rfl⟩:∃m,M=m+1:=⟨M - 1,by omega⟩
   rw [qdB,show i=n by omega]; exact he _
  |succ k ih=>
   intro i hi M hM
   obtain ⟨M,rfl⟩:∃m,M=m+1:=⟨M - 1,by omega⟩
   rw [qdB,hs i (by omega)]
   exact ih (i+1) (by omega) M (by omega)
 exact this n 0 (by omega) N hN
theorem qbF (x y:Int):ltI x y=decide (x<y):=qaZ x y
theorem qcX (x y:Int):leI x y=decide (x≤y):=qci x y
theorem qg1 (i n:Int):inB i n=decide (0≤i∧i<n):=by rw [qcB]; simp
theorem qkF (l h n:Int):inS l h n=decide (0≤l∧l≤h∧h≤n):=by rw [qiY]; simp
theorem qoP {x y:Int} (h1: -9223372036854775808≤x+y) (h2:x+y<9223372036854775808):qcq .i64 x y=x+y:=by rw [qih,qri h1 h2]
theorem qeC {x y:Int} (h1: -9223372036854775808≤x - y) (h2:x - y<9223372036854775808):qda .i64 x y=x - y:=by rw [qjS,qri h1 h2]
theorem qO {i:Nat} (h:i<4611686018427387904):qcq .i64 (i:Int) 1=((i+1:Nat):Int):=by
 rw [qih,qri (by omega) (by omega)]
 omega
theorem qaE {α:Type} {xs:List α} {i:Nat} (h:i<xs.length):ltI (i:Int) (qk xs)=true:=by rw [qaZ,qe]; simp; omega
theorem qal {α:Type} {xs:List α} {i:Nat} (h:¬i<xs.length):ltI (i:Int) (qk xs)=false:=by rw [qaZ,qe]; simp; omega
theorem qC {α:Type} {xs:List α} {i:Nat} (h:i<xs.length):inB (i:Int) (qk xs)=true:=by rw [qe]; exact qte h
theorem qi9 {α:Type} {xs:List α} {i:Nat} (h:i<xs.length):xs.drop i=xs[i]::xs.drop (i+1):=List.drop_eq_getElem_cons h
theorem qbj {α:Type} {xs:List α} {i:Nat} (h:i<xs.length):xs.take (i+1)=xs.take i++[xs[i]]:=by rw [List.take_succ_eq_append_getElem h]
theorem qH {α:Type} {xs:List α} {i:Nat} (d:α) (h:i<xs.length):qn xs (i:Int) d=xs[i]:=qf9 (List.getElem?_eq_getElem h)
theorem qek {α β:Type} {xs:List α} {ys:List β} {b:Nat} (h:(xs.length+ys.length) * b≤140737488355328):qcP (qk xs) (qk ys) b=true:=by
 rw [qgN,qe,qe]
 refine decide_eq_true ?_
 have:(((xs.length+ys.length) * b:Nat):Int)≤140737488355328:=by omega
 rwa [Int.natCast_mul,Int.natCast_add] at this
theorem qpI {α:Type} (xs:List α) (i:Nat):qam xs (i:Int) (qk xs)=xs.drop i:=by
 rw [qcg,qe]; simp
theorem qjQ {α:Type} (xs:List α) (i:Nat):qam xs 0 (i:Int)=xs.take i:=by
 rw [qcg]; simp
theorem qoW {α:Type} {xs:List α} {i:Nat} (h:i≤xs.length):inS (i:Int) (qk xs) (qk xs)=true:=by
 rw [qiY,qe]; simp; omega
theorem qgz {α β:Type} (p:α×β) (xs:List (α×β)) (k:α) (d:β):qij (p::xs) k d=open Classical in if p.1=k then p.2 else qij xs k d:=by
 rw [qid,qid]
 have:qgk (p::xs) k=open Classical in if p.1=k then 0 else qgk xs k+1:=by
  unfold qgk
  rw [List.findIdx_cons]
  by_cases h:p.1=k <;> simp [h]
 rw [this]
 by_cases h:p.1=k <;> simp [h]
theorem qsb {α β:Type} (k:α) (d:β):qij ([]:List (α×β)) k d=d:=by rw [qid]; rfl
theorem qsB {α β:Type} (k:α) (v:β):qmK ([]:List (α×β)) k v=[(k,v)]:=by rw [qiL]; rfl
theorem qqg {α β:Type} (p:α×β) (xs:List (α×β)) (k:α) (v:β):qmK (p::xs) k v=open Classical in if p.1=k then (p.1,v)::xs else p::qmK xs k v:=by
 rw [qiL,qiL]
 have:qgk (p::xs) k=open Classical in if p.1=k then 0 else qgk xs k+1:=by
  unfold qgk
  rw [List.findIdx_cons]
  by_cases h:p.1=k <;> simp [h]
 rw [this]
 by_cases h:p.1=k
 ·simp [h,qqs]
 ·simp only [h,if_false,List.length_cons,Nat.add_lt_add_iff_right]
  by_cases h2:qgk xs k<xs.length
  ·simp only [h2,if_true,qqs,List.getElem?_cons_succ,List.getElem?_eq_getElem h2,List.set_cons_succ]
  ·simp [h2]
theorem qmO {α β:Type} (xs:List (α×β)) (k:α) (v:β) (k':α) (d:β):qij (qmK xs k v) k' d=open Classical in if k=k' then v else qij xs k' d:=by
 induction xs with
 |nil=>rw [qsB,qgz]
 |cons p r ih=>
  rw [qqg]
  by_cases h:p.1=k
  ·rw [if_pos h,qgz,qgz]
   by_cases h2:k=k'
   ·simp [h,h2]
   ·simp [h,h2]
  ·rw [if_neg h,qgz,qgz,ih]
   by_cases h2:p.1=k'
   ·have:¬k=k':=fun e=>h (h2.trans e.symm)
    simp [h2,this]
   ·simp [h2]
noncomputable def qnK {α:Type} (ks:List α):List (α×Int):=ks.foldl (fun m k=>qmK m k (qcq .i64 (qij m k 0) 1)) []
theorem qrY {α:Type} :qnK ([]:List α)=[]:=rfl
theorem qkw {α:Type} (ks:List α) (k:α):qnK (ks++[k])=qmK (qnK ks) k (qcq .i64 (qij (qnK ks) k 0) 1):=by simp [qnK]
theorem qsx {α:Type} (ks:List α) (h:ks.length<4611686018427387904) (k:α):0≤qij (qnK ks) k 0∧qij (qnK ks) k 0≤(ks.length:Int)∧(0<qij (qnK ks) k 0↔k∈ks):=by
 have key:∀(l:List α),l.length<4611686018427387904→∀k,0≤qij (qnK l.reverse) k 0∧qij (qnK l.reverse) k 0≤(l.length:Int)∧(0<qij (qnK l.reverse) k 0↔k∈l):=by
  intro l
  induction l with
  |nil=>intro _ k; simp [qrY,qsb]
  |cons a l ih=>
   intro hl k
   rw [List.length_cons] at hl
   rw [List.reverse_cons,qkw,qmO]
   obtain ⟨h1,h2,h3⟩:=ih (by omega) a
   obtain ⟨g1,g2,g3⟩:=ih (by omega) k
   by_cases e:a=k
   ·subst e
    rw [if_pos rfl,qoP (by omega) (by omega),List.length_cons]
    refine ⟨by omega,by omega,by simp; omega⟩
   ·rw [if_neg e,List.length_cons]
    refine ⟨g1,by omega,by rw [g3]; simp [Ne.symm e]⟩
 have:=key ks.reverse (by simpa using h) k
 simpa using this
theorem qlx {α:Type} (ks:List α) (h:ks.length<4611686018427387904) (k:α):ltI 1 (qij (qmK (qnK ks) k (qcq .i64 (qij (qnK ks) k 0) 1)) k 0)=open Classical in decide (k∈ks):=by
 obtain ⟨h1,h2,h3⟩:=qsx ks h k
 rw [qmO,if_pos rfl,qoP (by omega) (by omega),qbF]
 by_cases hk:k∈ks
 ·have:=h3.2 hk
  simp [hk]; omega
 ·have:¬0<qij (qnK ks) k 0:=fun e=>hk (h3.1 e)
  simp [hk]; omega
def q8 {E:Type} (g:Nat→Option E):Nat→Option E
 |0=>none
 |n+1=>match q8 g n with
  |some e=>some e
  |none=>g n
theorem qbh {E:Type} {g:Nat→Option E} : {n:Nat} →q8 g n=none→∀i,i<n→g i=none
 |0,_,i,hi=>by omega
 |n+1,h,i,hi=>by
  simp only [q8] at h
  split at h
  ·cases h
  ·rename_i h0
   by_cases e:i=n
   ·rw [e]; exact h
   ·exact qbh h0 i (by omega)
theorem qc1 {E:Type} {g:Nat→Option E} {e:E} : {n:Nat} →q8 g n=some e→∃i,i<n∧g i=some e∧q8 g i=none
 |0,h=>by cases h
 |n+1,h=>by
  simp only [q8] at h
  split at h
  ·rename_i e' h0
   injection h with h
   subst h
   obtain ⟨i,h1,h2⟩:=qc1 h0
   exact ⟨i,by omega,h2⟩
  ·rename_i h0
   exact ⟨n,by omega,h,h0⟩
theorem qY {S R E:Type} {step:(S→Option R)→S→Option R} {s0:S} (st:Nat→S) (n:Nat) (g:Nat→Option E) (out:E→Option R) (fin:Option R) (h0:st 0=s0)
  (hs:∀i,i<n→q8 g i=none→∀ih,step ih (st i)=match g i with
   |some e=>out e
   |none=>ih (st (i+1)))
  (he:q8 g n=none→∀ih,step ih (st n)=fin) {N:Nat} (hN:n<N):qaI N step s0=match q8 g n with
   |some e=>out e
   |none=>fin:=by
 rw [←h0]
 have:∀k i,i+k=n→q8 g i=none→∀M,k<M→qaI M step (st i)=match q8 g n with
   |some e=>out e
   |none=>fin:=by
  intro k
  induction k with
  |zero=>
   intro i hi hg M hM
   obtain ⟨M,rfl⟩:∃m,M=m+1:=⟨M - 1,by omega⟩
   have hin:i=n:=by omega
   subst hin
   rw [qdB,hg]
   exact he hg _
  |succ k ih=>
   intro i hi hg M hM
   obtain ⟨M,rfl⟩:∃m,M=m+1:=⟨M - 1,by omega⟩
   rw [qdB,hs i (by omega) hg]
   cases hgi:g i with
   |none=>exact ih (i+1) (by omega) (by simp only [q8,hg,hgi]) M (by omega)
   |some e=>
    have:∀m,q8 g (i+1+m)=some e:=by
     intro m
     induction m with
     |zero=>simp only [Nat.add_zero,q8,hg,hgi]
     |succ m ihm=>rw [←Nat.add_assoc]; simp only [q8,ihm]
    have:=this k
    rw [show i+1+k=n by omega] at this
    rw [this]
 exact this n 0 (by omega) rfl N hN
end Go.Vi
namespace Go.Vi
def dig (b:UInt8):Prop:=b=45∨(48≤b.toNat∧b.toNat≤57)
instance (b:UInt8):Decidable (dig b):=by unfold dig; infer_instance
theorem qfN {d:Nat} (h:d<10):(UInt8.ofNat (48+d)).toNat=48+d:=by
 rw [UInt8.toNat_ofNat']; omega
theorem qfT (u:Nat):∀b∈Lib.decDigits u,48≤b.toNat∧b.toNat≤57:=by
 induction u using Nat.strongRecOn with
 |ind u ih=>
  intro b hb
  rw [Lib.decDigits] at hb
  split at hb
  ·rename_i h
   simp only [List.mem_singleton] at hb
   subst hb
   rw [qfN h]; omega
  ·rename_i h
   rcases List.mem_append.1 hb with hb|hb
   ·exact ih (u / 10) (by omega) b hb
   ·simp only [List.mem_singleton] at hb
    subst hb
    rw [qfN (Nat.mod_lt _ (by omega))]; omega
def qob (l:List UInt8):Nat:=l.foldl (fun n b=>n * 10+(b.toNat - 48)) 0
theorem qps (l:List UInt8) (b:UInt8):qob (l++[b])=qob l * 10+(b.toNat - 48):=by simp [qob]
theorem qde (u:Nat):qob (Lib.decDigits u)=u:=by
 induction u using Nat.strongRecOn with
 |ind u ih=>
  rw [Lib.decDigits]
  split
  ·rename_i h
   simp only [qob,List.foldl_cons,List.foldl_nil,qfN h]; omega
  ·rename_i h
   rw [qps,ih (u / 10) (by omega),qfN (Nat.mod_lt _ (by omega))]
   omega
theorem qo5 (n:Int):∀b∈Lib.itoa n,dig b:=by
 intro b hb
 unfold Lib.itoa at hb
 split at hb
 ·rcases List.mem_cons.1 hb with rfl|hb
  ·exact .inl rfl
  ·exact .inr (qfT _ b hb)
 ·exact .inr (qfT _ b hb)
theorem qsD {a b:Int} (h:Lib.itoa a=Lib.itoa b):a=b:=by
 have no45:∀u:Nat,∀r,Lib.decDigits u≠45::r:=fun u r e=>by
  have:=qfT u 45 (by rw [e]; exact List.mem_cons_self)
  have:(48:Nat)≤45:=this.1
  omega
 unfold Lib.itoa at h
 split at h <;> split at h
 ·have e:=congrArg qob (List.cons.inj h).2
  rw [qde,qde] at e
  omega
 ·exact absurd h.symm (no45 _ _)
 ·exact absurd h (no45 _ _)
 ·have e:=congrArg qob h
  rw [qde,qde] at e
  omega
def qjD (P:UInt8→Prop) (r:List UInt8):Prop:=∀b t,r=b::t→¬P b
theorem qim (P:UInt8→Prop):qjD P []:=fun _ _ h=>by cases h
theorem qi7 {P:UInt8→Prop} {b:UInt8} {t:List UInt8} (h:¬P b):qjD P (b::t):=fun _ _ e=>by cases e; exact h
theorem part {P:UInt8→Prop} :(a b:List UInt8)→ {r s:List UInt8} →(∀x∈a,P x)→(∀x∈b,P x)→qjD P r→qjD P s→a++r=b++s→a=b∧r=s
 |[],[],_,_,_,_,_,_,h=>⟨rfl,h⟩
 |[],y::b,r,s,_,hb,hr,_,h=>absurd (hb y List.mem_cons_self) (hr y (b++s) h)
 |x::a,[],r,s,ha,_,_,hs,h=>absurd (ha x List.mem_cons_self) (hs x (a++r) h.symm)
 |x::a,y::b,r,s,ha,hb,hr,hs,h=>by
  injection h with h1 h2
  obtain ⟨h3,h4⟩:=part a b (fun z hz=>ha z (List.mem_cons_of_mem _ hz)) (fun z hz=>hb z (List.mem_cons_of_mem _ hz)) hr hs h2
  exact ⟨by rw [h1,h3],h4⟩
theorem qm3 {a b:Int} {r s:List UInt8} (hr:qjD dig r) (hs:qjD dig s) (h:Lib.itoa a++r=Lib.itoa b++s):a=b∧r=s:=by
 obtain ⟨h1,h2⟩:=part _ _ (qo5 a) (qo5 b) hr hs h
 exact ⟨qsD h1,h2⟩
def qeu (s:List UInt8):List UInt8:=Lib.itoa (s.length:Int)++58::s
theorem qj2 {a b r s:List UInt8} (h:qeu a++r=qeu b++s):a=b∧r=s:=by
 unfold qeu at h
 rw [List.append_assoc,List.append_assoc] at h
 obtain ⟨h1,h2⟩:=qm3 (qi7 (by decide)) (qi7 (by decide)) h
 exact List.append_inj (List.cons.inj h2).2 (by omega)
def qhi (l:List Int):List UInt8:=(l.map fun i=>44::Lib.itoa i).flatten
theorem qjg (i:Int) (l:List Int):qhi (i::l)=44::(Lib.itoa i++qhi l):=rfl
theorem qj1 (l:List Int) {r:List UInt8} (hr:qjD dig r):qjD dig (qhi l++r):=by
 cases l with
 |nil=>exact hr
 |cons i l=>rw [qjg]; exact qi7 (by decide)
theorem qlB:(a b:List Int)→ {r s:List UInt8} →qjD dig r→qjD dig s→qjD (· =44) r→qjD (· =44) s→qhi a++r=qhi b++s→a=b∧r=s
 |[],[],_,_,_,_,_,_,h=>⟨rfl,h⟩
 |[],j::b,r,s,_,_,hr,_,h=>absurd rfl (hr 44 (Lib.itoa j++qhi b++s) h)
 |i::a,[],r,s,_,_,_,hs,h=>absurd rfl (hs 44 (Lib.itoa i++qhi a++r) h.symm)
 |i::a,j::b,r,s,hr,hs,hr',hs',h=>by
  simp only [qjg,List.cons_append,List.append_assoc] at h
  injection h with _ h
  obtain ⟨h1,h2⟩:=qm3 (qj1 a hr) (qj1 b hs) h
  obtain ⟨h3,h4⟩:=qlB a b hr hs hr' hs' h2
  exact ⟨by rw [h1,h3],h4⟩
abbrev DFk:Type:=List UInt8×(List Int×(List UInt8×Unit))
def fkC (f:DFk):List UInt8:=qeu f.1++(qeu f.2.2.1++qhi f.2.1)
theorem qth {a b:DFk} (h:fkC a=fkC b):a=b:=by
 obtain ⟨a1,a2,a3,⟨⟩⟩:=a
 obtain ⟨b1,b2,b3,⟨⟩⟩:=b
 unfold fkC at h
 obtain ⟨h1,h2⟩:=qj2 h
 obtain ⟨h3,h4⟩:=qj2 h2
 obtain ⟨h5,_⟩:=qlB a2 b2 (r:=[]) (s:=[]) (qim _) (qim _) (qim _) (qim _) (by rw [List.append_nil,List.append_nil]; exact h4)
 simp only at h1 h3
 rw [h1,h3,h5]
abbrev DCol:Type:=List UInt8×(Int×(Bool×Unit))
abbrev DTab:Type:=List UInt8×(List DCol×(List Int×Unit))
abbrev qrK:Type:=Int×(Int×(List UInt8×Unit))
abbrev DCon:Type:=List UInt8×(Int×(List UInt8×(Int×(qrK×Unit))))
theorem qmV {α:Type} [DecidableEq α] {ne:α→α→Bool} (hne:∀a b,ne a b= !decide (a=b)) (xs ys:List α) (d:α) (hl:xs.length=ys.length) (hb:xs.length≤1099511627776) {N:Nat} (hN:xs.length<N):
  qaI (S:=Int×Unit) (R:=(Bool×Unit)×Unit) N (fun ih0=>fun p1=>(bif (ltI p1.1 (qk xs)) then (bif ((inB p1.1 (qk xs))&&(inB p1.1 (qk ys))) then (bif (ne (qn xs p1.1 d) (qn ys p1.1 d)) then (some ((false,()),())) else (ih0 ((qcq .i64 p1.1 1),()))) else none) else (some ((true,()),())))) (0,())=some ((decide (xs=ys),()),()):=by
 refine qeo (S:=Int×Unit) (R:=(Bool×Unit)×Unit) (fun p=>xs.length - p.1.toNat) (fun p=>∃i:Nat,p.1=(i:Int)∧i≤xs.length∧xs.take i=ys.take i) (fun _=>((decide (xs=ys),()),())) ?_ N _ ⟨0,rfl,Nat.zero_le _,by simp⟩ (by simp; omega)
 rintro ih ⟨_,_⟩ ⟨i,rfl,h2,h3⟩ hih
 simp only [Int.toNat_natCast] at hih⊢
 by_cases hi:i<xs.length
 ·have hj:i<ys.length:=by omega
  rw [qw (qaE hi),qC hi,qC hj,qH d hi,qH d hj,hne]
  simp only [Bool.and_self,cond_true]
  by_cases e:xs[i]=ys[i]
  ·rw [qF (by simp [e]),qO (by omega),hih _ ⟨i+1,rfl,by omega,by rw [qbj hi,qbj hj,h3,e]⟩ (by simp only [Int.toNat_natCast]; omega)]
  ·rw [qw (by simp [e])]
   have:xs≠ys:=fun h=>e (by subst h; rfl)
   simp [this]
 ·rw [qF (qal hi)]
  have e1:i=xs.length:=by omega
  subst e1
  have:xs=ys:=by
   have:=h3
   rwa [List.take_length,hl,List.take_length] at this
  simp [this]
theorem qqy {α:Type} (xs:List α) (b:Nat) (h:xs.length * b≤140737488355328):
  (bif (eqI (qk xs) 0) then (qqe (some ((([]:List α),()),())) (bif (qcP (qk ([]:List α)) (qk xs) b) then (some (((qdI ([]:List α) xs),()),())) else none)) else (bif (qcP (qk ([]:List α)) (qk xs) b) then (some (((qdI ([]:List α) xs),()),())) else none))=some ((xs,()),()):=by
 have e:qcP (qk ([]:List α)) (qk xs) b=true:=qek (by simpa using h)
 rw [e,cond_true,qbI,List.nil_append]
 cases xs with
 |nil=>rw [qw (by rw [qbE,qe]; rfl),qnB,if_pos rfl]
 |cons x xs=>rw [qF (by rw [qbE,qe]; simp; omega)]
theorem qqB {a b:List UInt8} (ha:a.length≤4398046511104) (hb:b.length≤4398046511104):qcP (qk a) (qk b) 1=true:=qek (by omega)
theorem ql7 {n:Int} (h:IntKind.i64.has n):(Lib.itoa n).length≤21:=by
 have h': -9223372036854775808≤n∧n≤9223372036854775807:=by simpa [IntKind.has,IntKind.min,IntKind.max,IntKind.signed,IntKind.bits] using h
 exact Lib.itoa_length_le n h'.1 h'.2
theorem qgT {n:Nat} (h:n≤maxLen):(Lib.itoa (n:Int)).length≤21:=by
 unfold maxLen at h
 exact Lib.itoa_length_le _ (by omega) (by omega)
theorem qlK {s:List UInt8} (h:s.length≤maxLen):(qeu s).length≤s.length+22:=by
 have:=qgT h
 unfold qeu
 simp only [List.length_append,List.length_cons]
 omega
theorem qr3 {v:qrK} (h:IntKind.i64.has v.1∧IntKind.i64.has v.2.1∧v.2.2.1.length≤maxLen):(encV v).length≤v.2.2.1.length+67:=by
 have h1:=ql7 h.1
 have h2:=ql7 h.2.1
 have h3:=qgT h.2.2
 unfold encV
 simp only [List.length_append,List.length_cons]
 omega
theorem qnF: {l:List Int} →(∀i∈l,IntKind.i64.has i)→(qhi l).length≤22 * l.length
 |[],_=>Nat.zero_le _
 |i::l,h=>by
  have h1:=ql7 (h i List.mem_cons_self)
  have h2:=qnF (l:=l) fun j hj=>h j (List.mem_cons_of_mem _ hj)
  rw [qjg]
  simp only [List.length_append,List.length_cons] at h2⊢
  omega
abbrev TCol:Ty:= .pair .str (.pair (.int .i64) (.pair .bool .unit))
theorem qit:(l:List Int)→(l.map (Ty.bulk (.int .i64))).sum=l.length
 |[]=>rfl
 |i::l=>by
  have:Ty.bulk (.int .i64) i=1:=rfl
  rw [List.map_cons,List.sum_cons,qit l,this,List.length_cons]; omega
abbrev qiO:Ty:= .pair (.int .i64) (.pair (.int .i64) (.pair .str .unit))
abbrev qtq:Ty:= .pair .str (.pair (.slice TCol) (.pair (.slice (.int .i64)) .unit))
abbrev TFk:Ty:= .pair .str (.pair (.slice (.int .i64)) (.pair .str .unit))
abbrev TCon:Ty:= .pair .str (.pair (.int .i64) (.pair .str (.pair (.int .i64) (.pair qiO .unit))))
theorem qtB {f:DFk} (h:TFk.good f):(fkC f).length≤50 * TFk.bulk f:=by
 obtain ⟨f1,f2,f3,⟨⟩⟩:=f
 have h1:=qlK (s:=f1) h.1
 have h2:=qlK (s:=f3) h.2.2.1
 have h3:=qnF (l:=f2) h.2.1.2
 have h5:TFk.bulk (f1,f2,f3,PUnit.unit)=f1.length+1+((f2.map (Ty.bulk (.int .i64))).sum+1+(f3.length+1+1)):=rfl
 rw [qit] at h5
 simp only [fkC,List.length_append]
 omega
abbrev TSch:Ty:= .pair (.slice qtq) (.pair (.slice TFk) (.pair (.slice TCon) .unit))
theorem qpb (a:List DTab) (b:List DFk) (c:List DCon):TSch.bulk (a,b,c,PUnit.unit)=(a.map qtq.bulk).sum+1+((b.map TFk.bulk).sum+1+((c.map TCon.bulk).sum+1+1)):=rfl
theorem qo7 (a b:List UInt8):Lib.compareBytes a b= -1∨Lib.compareBytes a b=0∨Lib.compareBytes a b=1:=by
 induction a generalizing b with
 |nil=>cases b <;> simp [Lib.compareBytes]
 |cons x a ih=>cases b with
  |nil=>simp [Lib.compareBytes]
  |cons y b=>
   simp only [Lib.compareBytes]
   split
   ·simp
   ·split
    ·simp
    ·exact ih b
theorem qrt (a b:List UInt8):Lib.compareBytes b a= - Lib.compareBytes a b:=by
 induction a generalizing b with
 |nil=>cases b <;> simp [Lib.compareBytes]
 |cons x a ih=>cases b with
  |nil=>simp [Lib.compareBytes]
  |cons y b=>
   simp only [Lib.compareBytes]
   by_cases h1:x<y
   ·have h2:¬y<x:=fun h=>by have:=UInt8.lt_iff_toNat_lt.1 h; have:=UInt8.lt_iff_toNat_lt.1 h1; omega
    simp [h1,h2]
   ·by_cases h2:y<x
    ·simp [h1,h2]
    ·simp [h1,h2,ih b]
theorem qmr (a b:List UInt8):Lib.compareBytes a b=0↔a=b:=by
 induction a generalizing b with
 |nil=>cases b <;> simp [Lib.compareBytes]
 |cons x a ih=>cases b with
  |nil=>simp [Lib.compareBytes]
  |cons y b=>
   simp only [Lib.compareBytes]
   by_cases h1:x<y
   ·have:x≠y:=fun e=>by subst e; have:=UInt8.lt_iff_toNat_lt.1 h1; omega
    simp [h1,this]
   ·by_cases h2:y<x
    ·have:x≠y:=fun e=>by subst e; have:=UInt8.lt_iff_toNat_lt.1 h2; omega
     simp [h1,h2,this]
    ·have:x=y:=UInt8.toNat_inj.1 (by
      have h1:¬x.toNat<y.toNat:=fun h=>h1 (UInt8.lt_iff_toNat_lt.2 h)
      have h2:¬y.toNat<x.toNat:=fun h=>h2 (UInt8.lt_iff_toNat_lt.2 h)
      omega)
     simp [h1,h2,ih b,this]
theorem qhd (a b:List UInt8):qdg a b=decide (Lib.compareBytes a b<0):=by
 rw [qmN]
 induction a generalizing b with
 |nil=>cases b <;> simp [Lib.compareBytes,Op.bytesLess]
 |cons x a ih=>cases b with
  |nil=>simp [Lib.compareBytes,Op.bytesLess]
  |cons y b=>
   simp only [Lib.compareBytes,Op.bytesLess]
   by_cases h1:x<y
   ·simp [h1]
   ·by_cases h2:y<x
    ·have:x≠y:=fun e=>by subst e; have:=UInt8.lt_iff_toNat_lt.1 h2; omega
     simp [h1,h2,this]
    ·have:x=y:=UInt8.toNat_inj.1 (by
      have h1:¬x.toNat<y.toNat:=fun h=>h1 (UInt8.lt_iff_toNat_lt.2 h)
      have h2:¬y.toNat<x.toNat:=fun h=>h2 (UInt8.lt_iff_toNat_lt.2 h)
      omega)
     simp [h1,h2,ih b,this]
theorem qn8 (a b:List UInt8):(qdg a b||eqS a b)= !qdg b a:=by
 rw [qhd,qhd,qrt a b,qbw]
 rcases qo7 a b with h|h|h
 ·simp [h]
 ·rw [h]; simp [(qmr a b).1 h]
 ·have:a≠b:=fun e=>by rw [(qmr a b).2 e] at h; omega
  simp [h,this]
end Go.Vi
namespace Go.Vi
noncomputable section
def ic (x y:Int):Int:=if x<y then -1 else if y<x then 1 else 0
def vc (a b:qrK):Int:=if ic a.1 b.1≠0 then ic a.1 b.1 else if ic a.2.1 b.2.1≠0 then ic a.2.1 b.2.1 else Lib.compareBytes a.2.2.1 b.2.2.1
theorem qbD (x y:Int):(x<y∧ic x y= -1)∨(x=y∧ic x y=0)∨(y<x∧ic x y=1):=by
 unfold ic
 split
 ·simp [*]
 ·split
  ·simp [*]
  ·have:x=y:=by omega
   simp [this]
theorem qoL (a b:qrK):vc a b= -1∨vc a b=0∨vc a b=1:=by
 unfold vc
 have h1:=qbD a.1 b.1
 have h2:=qbD a.2.1 b.2.1
 have h3:=qo7 a.2.2.1 b.2.2.1
 split
 ·omega
 ·split
  ·omega
  ·exact h3
theorem qtn (a b:qrK):vc b a= - vc a b:=by
 have s:∀x y,ic y x= - ic x y:=fun x y=>by
  have h1:=qbD x y
  have h2:=qbD y x
  omega
 unfold vc
 rw [s a.1 b.1,s a.2.1 b.2.1,qrt]
 split <;> split <;> first|omega|(split <;> split <;> omega)
theorem qrg (a b:qrK):vc a b=0↔a=b:=by
 obtain ⟨k,n,s,_⟩:=a
 obtain ⟨k',n',s',_⟩:=b
 have h1:=qbD k k'
 have h2:=qbD n n'
 have h3:=qmr s s'
 simp only [vc,Prod.mk.injEq,and_true]
 split
 ·rename_i h
  constructor
  ·intro h0; exact absurd h0 h
  ·rintro ⟨rfl,_⟩; omega
 ·split
  ·rename_i h
   constructor
   ·intro h0; exact absurd h0 h
   ·rintro ⟨_,rfl,_⟩; omega
  ·rw [h3]
   constructor
   ·intro h; exact ⟨by omega,by omega,h⟩
   ·exact fun h=>h.2.2
abbrev qcr:Type:=List qrK
def qbm:qcr→qcr→Int
 |[],ys=>ic 0 (ys.length:Int)
 |_::xs,[]=>ic ((xs.length:Int)+1) 0
 |x::xs,y::ys=>if vc x y≠0 then vc x y else qbm xs ys
theorem qsR (a b k:Int):ic (a+k) (b+k)=ic a b:=by
 unfold ic
 by_cases h1:a<b
 ·rw [if_pos h1,if_pos (by omega)]
 ·rw [if_neg h1,if_neg (by omega)]
  by_cases h2:b<a
  ·rw [if_pos h2,if_pos (by omega)]
  ·rw [if_neg h2,if_neg (by omega)]
theorem qlF (xs ys:qcr) (i:Nat) (h:¬(i<xs.length∧i<ys.length)) (hx:i≤xs.length) (hy:i≤ys.length):qbm (xs.drop i) (ys.drop i)=ic (xs.length:Int) (ys.length:Int):=by
 by_cases h1:i<xs.length
 ·have h2:¬i<ys.length:=fun h2=>h ⟨h1,h2⟩
  rw [List.drop_eq_getElem_cons h1,List.drop_of_length_le (l:=ys) (by omega),qbm]
  have e1:((xs.drop (i+1)).length:Int)+1=(xs.length:Int)+(-(i:Int)):=by rw [List.length_drop]; omega
  have e2:(0:Int)=(ys.length:Int)+(-(i:Int)):=by omega
  rw [e1,show ic ((xs.length:Int)+ -(i:Int)) 0=ic ((xs.length:Int)+ -(i:Int)) ((ys.length:Int)+ -(i:Int)) by rw [←e2],qsR]
 ·rw [List.drop_of_length_le (l:=xs) (by omega)]
  rw [qbm.eq_def]
  simp only
  have e1:((ys.drop i).length:Int)=(ys.length:Int)+(-(i:Int)):=by rw [List.length_drop]; omega
  have e2:(0:Int)=(xs.length:Int)+(-(i:Int)):=by omega
  rw [e1,show ic 0 ((ys.length:Int)+ -(i:Int))=ic ((xs.length:Int)+ -(i:Int)) ((ys.length:Int)+ -(i:Int)) by rw [←e2],qsR]
abbrev zV:qrK:=(0,(0,(([]:List UInt8),())))
def qse (row:qcr) (i:Int):qrK:=if h:0≤i∧i<(row.length:Int) then row[i.toNat]'(by omega) else zV
def qdb (pk:List Int) (row:qcr):qcr:=pk.map (qse row)
theorem qhc (pk:List Int) (row:qcr):(qdb pk row).length=pk.length:=by simp [qdb]
theorem qlU:(a b c:List UInt8)→Lib.compareBytes a b<0→Lib.compareBytes b c<0→Lib.compareBytes a c<0
 |[],[],_,h,_=>by simp [Lib.compareBytes] at h
 |[],_::_,[],_,h=>by simp [Lib.compareBytes] at h
 |[],_::_,_::_,_,_=>by simp [Lib.compareBytes]
 |_::_,[],_,h,_=>by simp [Lib.compareBytes] at h
 |_::_,_::_,[],_,h=>by simp [Lib.compareBytes] at h
 |x::a,y::b,z::c,h1,h2=>by
  simp only [Lib.compareBytes,UInt8.lt_iff_toNat_lt] at h1 h2⊢
  have ih:=qlU a b c
  by_cases e1:x.toNat<y.toNat
  ·by_cases e2:y.toNat<z.toNat
   ·rw [if_pos (by omega)]; omega
   ·by_cases e3:z.toNat<y.toNat
    ·rw [if_neg e2,if_pos e3] at h2; omega
    ·rw [if_pos (by omega)]; omega
  ·by_cases e4:y.toNat<x.toNat
   ·rw [if_neg e1,if_pos e4] at h1; omega
   ·rw [if_neg e1,if_neg e4] at h1
    by_cases e2:y.toNat<z.toNat
    ·rw [if_pos (by omega)]; omega
    ·by_cases e3:z.toNat<y.toNat
     ·rw [if_neg e2,if_pos e3] at h2; omega
     ·rw [if_neg e2,if_neg e3] at h2
      rw [if_neg (by omega),if_neg (by omega)]
      exact ih h1 h2
theorem qrX {a b c:qrK} (h1:vc a b<0) (h2:vc b c<0):vc a c<0:=by
 unfold vc at *
 have a1:=qbD a.1 b.1
 have a2:=qbD b.1 c.1
 have a3:=qbD a.1 c.1
 have b1:=qbD a.2.1 b.2.1
 have b2:=qbD b.2.1 c.2.1
 have b3:=qbD a.2.1 c.2.1
 have tr:=qlU a.2.2.1 b.2.2.1 c.2.2.1
 generalize Lib.compareBytes a.2.2.1 b.2.2.1=s1 at *
 generalize Lib.compareBytes b.2.2.1 c.2.2.1=s2 at *
 generalize Lib.compareBytes a.2.2.1 c.2.2.1=s3 at *
 generalize ic a.1 b.1=i1 at *
 generalize ic b.1 c.1=i2 at *
 generalize ic a.1 c.1=i3 at *
 generalize ic a.2.1 b.2.1=j1 at *
 generalize ic b.2.1 c.2.1=j2 at *
 generalize ic a.2.1 c.2.1=j3 at *
 have k1:i1= -1∨(i1=0∧(j1= -1∨(j1=0∧s1<0))):=by
  split at h1
  ·omega
  ·split at h1 <;> omega
 have k2:i2= -1∨(i2=0∧(j2= -1∨(j2=0∧s2<0))):=by
  split at h2
  ·omega
  ·split at h2 <;> omega
 have k3:i3= -1∨(i3=0∧(j3= -1∨(j3=0∧s3<0))):=by
  rcases k1 with k1|⟨k1,k1'|⟨k1',k1''⟩⟩ <;> rcases k2 with k2|⟨k2,k2'|⟨k2',k2''⟩⟩ <;> first|omega|exact .inr ⟨by omega,.inr ⟨by omega,tr k1'' k2''⟩⟩
 split
 ·omega
 ·split <;> omega
theorem qnz:(a b c:qcr)→qbm a b<0→qbm b c<0→qbm a c<0
 |[],[],_,h,_=>by simp [qbm,ic] at h
 |[],y::ys,[],_,h=>by
  have:=qbD ((ys.length:Int)+1) 0
  simp only [qbm] at h
  omega
 |[],_::_,z::zs,_,_=>by
  have:=qbD 0 (((z::zs).length:Nat):Int)
  simp only [qbm,List.length_cons] at this⊢
  omega
 |x::xs,[],_,h,_=>by
  have:=qbD ((xs.length:Int)+1) 0
  simp only [qbm] at h
  omega
 |_::_,y::ys,[],_,h=>by
  have:=qbD ((ys.length:Int)+1) 0
  simp only [qbm] at h
  omega
 |x::xs,y::ys,z::zs,h1,h2=>by
  simp only [qbm] at h1 h2⊢
  have ih:=qnz xs ys zs
  by_cases e1:vc x y=0
  ·have e1':=(qrg x y).1 e1
   subst e1'
   simp only [e1,ne_eq,not_true_eq_false,if_false] at h1
   by_cases e2:vc x z=0
   ·simp only [e2,ne_eq,not_true_eq_false,if_false] at h2⊢
    exact ih h1 h2
   ·simp only [e2,ne_eq,not_false_eq_true,if_true] at h2⊢
    exact h2
  ·simp only [e1,ne_eq,not_false_eq_true,if_true] at h1
   by_cases e2:vc y z=0
   ·have e2':=(qrg y z).1 e2
    subst e2'
    simp only [e1,ne_eq,not_false_eq_true,if_true]
    exact h1
   ·simp only [e2,ne_eq,not_false_eq_true,if_true] at h2
    have:=qrX h1 h2
    have e3:¬vc x z=0:=by omega
    simp only [e3,ne_eq,not_false_eq_true,if_true]
    exact this
theorem qqw {α:Type} (R:α→α→Prop) (tr:∀a b c,R a b→R b c→R a c) (l:List α) (h:∀i (hi:i+1<l.length),R (l[i]'(by omega)) l[i+1]):∀(k i:Nat) (hk:i+1+k<l.length),R (l[i]'(by omega)) (l[i+1+k]'hk)
 |0,i,hk=>h i hk
 |k+1,i,hk=>tr _ _ _ (qqw R tr l h k i (by omega)) (h (i+1+k) (by omega))
theorem qk0 {α:Type} (R:α→α→Prop) (tr:∀a b c,R a b→R b c→R a c) (l:List α) (h:∀i (hi:i+1<l.length),R (l[i]'(by omega)) l[i+1]):l.Pairwise R:=
 List.pairwise_iff_getElem.2 fun i j hi hj hij=>by
  have:=qqw R tr l h (j - (i+1)) i (by omega)
  have e:i+1+(j - (i+1))=j:=by omega
  simpa only [e] using this
end
end Go.Vi
set_option linter.unusedSimpArgs false
set_option maxRecDepth 100000
namespace Go.Vi
noncomputable section
structure Ck {α:Type} (P:α→Prop) (n:Nat) (ys:List α):Prop where
 len:ys.length=n
 all:∀x∈ys,P x
theorem Ck.inB {α:Type} {P:α→Prop} {n:Nat} {ys:List α} (h:Ck P n ys) {i:Int} (h0:0≤i) (h1:i<(n:Int)):inB i (qk ys)=true:=by
 rw [qg1,qe,h.len]; simp; omega
theorem Ck.get {α:Type} {P:α→Prop} {n:Nat} {ys:List α} (h:Ck P n ys) (d:α) {i:Int} (h0:0≤i) (h1:i<(n:Int)):P (qn ys i d):=by
 obtain ⟨k,rfl⟩:∃k:Nat,i=(k:Int):=⟨i.toNat,by omega⟩
 have hk:k<ys.length:=by rw [h.len]; omega
 rw [qH _ hk]
 exact h.all _ (List.getElem_mem hk)
theorem Ck.set {α:Type} {P:α→Prop} {n:Nat} {ys:List α} (h:Ck P n ys) (i:Int) {v:α} (hv:P v):Ck P n (qjr ys i v):=by
 rw [qbL]
 refine ⟨by rw [List.length_set]; exact h.len,fun x hx=> ?_⟩
 rcases List.mem_or_eq_of_mem_set hx with hx|rfl
 ·exact h.all x hx
 ·exact hv
theorem ltF {x y:Int} (h:¬x<y):ltI x y=false:=by rw [qbF]; exact decide_eq_false h
theorem eqT {x y:Int} (h:x=y):eqI x y=true:=by rw [qbE]; exact decide_eq_true h
theorem eqF {x y:Int} (h:¬x=y):eqI x y=false:=by rw [qbE]; exact decide_eq_false h
theorem neT {x y:Int} (h:¬x=y):neI x y=true:=by rw [qaF]; simp [h]
theorem neF {x y:Int} (h:x=y):neI x y=false:=by rw [qaF]; simp [h]
section
variable {α:Type} {P:α→Prop} {n:Nat} (d:α) {φ ψ:(α×(α×Unit))→Option (Int×Unit)} {N:Nat}
end
end
end Go.Vi
set_option linter.unusedSimpArgs false
set_option linter.unusedVariables false
set_option maxRecDepth 100000
namespace Go.Vi
noncomputable section
theorem qiv {S R:Type} {st:(S→Option R)→S→Option R} (μ:S→Nat) (I:S→Prop) (Q:Option R→Prop)
  (hs:∀ih p,I p→(∀q,I q→μ q<μ p→Q (ih q))→Q (st ih p)):∀(N:Nat) (p:S),I p→μ p<N→Q (qaI N st p)
 |0,p,_,h=>by omega
 |N+1,p,hI,h=>by
  rw [qdB]
  exact hs _ p hI fun q hq hm=>qiv μ I Q hs N q hq (by omega)
structure Cmp {α:Type} (P:α→Prop) (φ:(α×(α×Unit))→Option (Int×Unit)) (le:α→α→Prop):Prop where
 ans:∀a b,P a→P b→∃c,φ (a,(b,()))=some (c,())∧(c<0↔¬le b a)
 tot:∀a b,P a→P b→le a b∨le b a
 trans:∀a b c,P a→P b→P c→le a b→le b c→le a c
section
variable {α:Type} {P:α→Prop} {n:Nat} (d:α) {φ:(α×(α×Unit))→Option (Int×Unit)} {le:α→α→Prop} {N:Nat}
theorem Cmp.refl (h:Cmp P φ le) {a:α} (ha:P a):le a a:=(h.tot a a ha ha).elim id id
structure Seg (d:α) (n:Nat) (a b:Int) (xs ys:List α):Prop where
 perm:ys.Perm xs
 out:∀k:Int,0≤k→k<(n:Int)→(k<a∨b≤k)→qn ys k d=qn xs k d
 inn:∀k:Int,a≤k→k<b→∃m,a≤m∧m<b∧qn ys k d=qn xs m d
theorem Seg.refl (a b:Int) (xs:List α):Seg d n a b xs xs:=⟨.refl _,fun _ _ _ _=>rfl,fun k h1 h2=>⟨k,h1,h2,rfl⟩⟩
theorem Seg.trans {a b:Int} {xs ys zs:List α} (h1:Seg d n a b xs ys) (h2:Seg d n a b ys zs):Seg d n a b xs zs:=
 ⟨h2.perm.trans h1.perm,fun k q1 q2 q3=>(h2.out k q1 q2 q3).trans (h1.out k q1 q2 q3),fun k q1 q2=>by
  obtain ⟨m,m1,m2,m3⟩:=h2.inn k q1 q2
  obtain ⟨l,l1,l2,l3⟩:=h1.inn m m1 m2
  exact ⟨l,l1,l2,m3.trans l3⟩⟩
theorem Seg.mono {a b a' b':Int} {xs ys:List α} (h:Seg d n a b xs ys) (h0:0≤a') (hn:b'≤(n:Int)) (ha:a'≤a) (hb:b≤b'):Seg d n a' b' xs ys:=
 ⟨h.perm,fun k q1 q2 q3=>h.out k q1 q2 (by omega),fun k q1 q2=>by
  by_cases hk:a≤k∧k<b
  ·obtain ⟨m,m1,m2,m3⟩:=h.inn k hk.1 hk.2
   exact ⟨m,by omega,by omega,m3⟩
  ·exact ⟨k,q1,q2,h.out k (by omega) (by omega) (by omega)⟩⟩
theorem Seg.ck {a b:Int} {xs ys:List α} (h:Seg d n a b xs ys) (hx:Ck P n xs):Ck P n ys:=
 ⟨by rw [h.perm.length_eq]; exact hx.len,fun x q=>hx.all x (h.perm.mem_iff.1 q)⟩
theorem qmR {xs:List α} (hl:xs.length=n) {i k:Int} (h0:0≤i) (h1:i<(n:Int)) (h2:0≤k) (v:α):qn (qjr xs i v) k d=if k=i then v else qn xs k d:=by
 rw [qdH,qdH,qbL]
 by_cases h:k=i
 ·subst h
  rw [if_pos rfl,List.getD_eq_getElem?_getD,List.getElem?_set_self (by omega)]
  rfl
 ·rw [if_neg h,List.getD_eq_getElem?_getD,List.getD_eq_getElem?_getD,List.getElem?_set_ne (by omega)]
def swp (xs:List α) (i j:Int):List α:=qjr (qjr xs i (qn xs j d)) j (qn xs i d)
theorem qmk {xs:List α} (hl:xs.length=n) {i j:Int} (i0:0≤i) (i1:i<(n:Int)) (j0:0≤j) (j1:j<(n:Int)) (k:Int) (h2:0≤k):qn (swp d xs i j) k d=if k=j then qn xs i d else if k=i then qn xs j d else qn xs k d:=by
 unfold swp
 rw [qmR d (n:=n) (by rw [qbL,List.length_set]; exact hl) j0 j1 h2,qmR d hl i0 i1 h2]
theorem qqu {xs:List α} (hl:xs.length=n) {a b i j:Int} (a0:0≤a) (bn:b≤(n:Int)) (i0:a≤i) (i1:i<b) (j0:a≤j) (j1:j<b):Seg d n a b xs (swp d xs i j):=by
 have g:=qmk d hl (i:=i) (j:=j) (by omega) (by omega) (by omega) (by omega)
 refine ⟨?_,fun k q1 q2 q3=> ?_,fun k q1 q2=> ?_⟩
 ·unfold swp
  have hi:i.toNat<xs.length:=by omega
  have hj:j.toNat<xs.length:=by omega
  have e1:qn xs i d=xs[i.toNat]:=by rw [qdH,List.getD_eq_getElem?_getD,List.getElem?_eq_getElem hi]; rfl
  have e2:qn xs j d=xs[j.toNat]:=by rw [qdH,List.getD_eq_getElem?_getD,List.getElem?_eq_getElem hj]; rfl
  rw [e1,e2,qbL,qbL]
  exact List.set_set_perm hi hj
 ·rw [g k q1,if_neg (by omega),if_neg (by omega)]
 ·rw [g k (by omega)]
  by_cases h1:k=j
  ·exact ⟨i,i0,i1,by rw [if_pos h1]⟩
  ·by_cases h2:k=i
   ·exact ⟨j,j0,j1,by rw [if_neg h1,if_pos h2]⟩
   ·exact ⟨k,q1,q2,by rw [if_neg h1,if_neg h2]⟩
def Srt (d:α) (le:α→α→Prop) (a b:Int) (xs:List α):Prop:=∀i j,a≤i→i≤j→j<b→le (qn xs i d) (qn xs j d)
def SRes (P:α→Prop) (d:α) (n:Nat) (le:α→α→Prop) (a b:Int) (xs:List α) (r:Option (Unit×(List α×Unit))):Prop:=∃out,r=some ((),(out,()))∧Seg d n a b xs out∧Srt d le a b out
def HpAt (d:α) (le:α→α→Prop) (f hi:Int) (ys:List α) (k:Int):Prop:=(2 * k+1<hi→le (qn ys (f+(2 * k+1)) d) (qn ys (f+k) d))∧(2 * k+2<hi→le (qn ys (f+(2 * k+2)) d) (qn ys (f+k) d))
structure Sft (d:α) (le:α→α→Prop) (f lo hi:Int) (ys:List α) (r:Int):Prop where
 rest:∀k,lo≤k→k<hi→k≠r→HpAt d le f hi ys k
 up:∀p,lo≤p→(2 * p+1=r∨2 * p+2=r)→(2 * r+1<hi→le (qn ys (f+(2 * r+1)) d) (qn ys (f+p) d))∧(2 * r+2<hi→le (qn ys (f+(2 * r+2)) d) (qn ys (f+p) d))
theorem Sft.done {f lo hi:Int} {ys:List α} {r:Int} (h:Sft d le f lo hi ys r) (hr:HpAt d le f hi ys r):∀k,lo≤k→k<hi→HpAt d le f hi ys k:=fun k h1 h2=>by
 by_cases hk:k=r
 ·rw [hk]; exact hr
 ·exact h.rest k h1 h2 hk
theorem Sft.step (hφ:Cmp P φ le) {ys:List α} (hc:Ck P n ys) {f lo hi:Int} (f0:0≤f) (fn:f+hi≤(n:Int)) (l0:0≤lo) {r c:Int} (h:Sft d le f lo hi ys r) (hr:lo≤r) (hcr:c=2 * r+1∨c=2 * r+2) (hch:c<hi)
  (hle:le (qn ys (f+r) d) (qn ys (f+c) d)) (hmax:∀o,(o=2 * r+1∨o=2 * r+2)→o<hi→le (qn ys (f+o) d) (qn ys (f+c) d)):Sft d le f lo hi (swp d ys (f+r) (f+c)) c:=by
 have g:=qmk d hc.len (i:=f+r) (j:=f+c) (by omega) (by omega) (by omega) (by omega)
 have gc:qn (swp d ys (f+r) (f+c)) (f+c) d=qn ys (f+r) d:=by rw [g _ (by omega),if_pos rfl]
 have gr:qn (swp d ys (f+r) (f+c)) (f+r) d=qn ys (f+c) d:=by rw [g _ (by omega),if_neg (by omega),if_pos rfl]
 have go:∀k,0≤k→k≠r→k≠c→qn (swp d ys (f+r) (f+c)) (f+k) d=qn ys (f+k) d:=fun k h0 h1 h2=>by rw [g _ (by omega),if_neg (by omega),if_neg (by omega)]
 have key:∀k,lo≤k→k<hi→k≠c→∀o,(o=2 * k+1∨o=2 * k+2)→o<hi→le (qn (swp d ys (f+r) (f+c)) (f+o) d) (qn (swp d ys (f+r) (f+c)) (f+k) d):=fun k k1 k2 k3 o ho oh=>by
  by_cases hk:k=r
  ·subst hk
   rw [gr]
   by_cases hoc:o=c
   ·rw [hoc,gc]; exact hle
   ·rw [go o (by omega) (by omega) hoc]; exact hmax o ho oh
  ·have hold:=h.rest k k1 k2 hk
   by_cases hor:o=r
   ·rw [hor,gr,go k (by omega) hk k3]
    have hu:=h.up k k1 (by omega)
    rcases hcr with q|q
    ·rw [q]; exact hu.1 (by omega)
    ·rw [q]; exact hu.2 (by omega)
   ·rw [go o (by omega) hor (by omega),go k (by omega) hk k3]
    rcases ho with q|q
    ·rw [q]; exact hold.1 (by omega)
    ·rw [q]; exact hold.2 (by omega)
 refine ⟨fun k k1 k2 k3=>⟨fun q=>key k k1 k2 k3 _ (.inl rfl) q,fun q=>key k k1 k2 k3 _ (.inr rfl) q⟩,fun p p1 p2=> ?_⟩
 have hp:p=r:=by omega
 subst hp
 have hold:=h.rest c (by omega) hch (by omega)
 rw [gr]
 exact ⟨fun q=>by rw [go _ (by omega) (by omega) (by omega)]; exact hold.1 q,fun q=>by rw [go _ (by omega) (by omega) (by omega)]; exact hold.2 q⟩
structure PInv (d:α) (n:Nat) (le:α→α→Prop) (a b:Int) (xs:List α) (p:α) (ys:List α) (i j:Int):Prop where
 seg:Seg d n a b xs ys
 ai:a<i
 ij:i≤j+1
 jb:j<b
 at_:qn ys a d=p
 lo:∀k,a<k→k<i→le (qn ys k d) p
 hi:∀k,j<k→k<b→le p (qn ys k d)
def PPost (d:α) (n:Nat) (le:α→α→Prop) (a b:Int) (xs:List α) (r:Option ((Int×(Bool×Unit))×(List α×Unit))):Prop:=∃out mid fl,r=some ((mid,(fl,())),(out,()))∧Seg d n a b xs out∧a≤mid∧mid<b∧(∀k,a≤k→k<mid→le (qn out k d) (qn out mid d))∧∀k,mid<k→k<b→le (qn out mid d) (qn out k d)
theorem PInv.fin {a b:Int} {xs ys:List α} {p:α} {i j:Int} (h:PInv d n le a b xs p ys i j) (hc:Ck P n ys) (ha:0≤a) (hb:b≤(n:Int)) (hij:j<i) (fl:Bool):PPost d n le a b xs (some ((j,(fl,())),(swp d ys j a,()))):=by
 have h1:=h.ai; have h2:=h.ij; have h3:=h.jb
 have g:=qmk d hc.len (i:=j) (j:=a) (by omega) (by omega) (by omega) (by omega)
 have gj:qn (swp d ys j a) j d=p:=by
  rw [g j (by omega)]
  by_cases q:j=a
  ·rw [if_pos q,q]; exact h.at_
  ·rw [if_neg q,if_pos rfl]; exact h.at_
 refine ⟨_,j,fl,rfl,h.seg.trans d (qqu d hc.len ha hb (by omega) (by omega) (by omega) (by omega)),by omega,by omega,fun k k1 k2=> ?_,fun k k1 k2=> ?_⟩
 ·rw [gj,g k (by omega)]
  by_cases q:k=a
  ·rw [if_pos q]; exact h.lo j (by omega) (by omega)
  ·rw [if_neg q,if_neg (by omega)]; exact h.lo k (by omega) (by omega)
 ·rw [gj,g k (by omega),if_neg (by omega),if_neg (by omega)]; exact h.hi k k1 k2
theorem PInv.swap {a b:Int} {xs ys:List α} {p:α} {i j:Int} (h:PInv d n le a b xs p ys i j) (hc:Ck P n ys) (ha:0≤a) (hb:b≤(n:Int)) (hij:i<j) (hj:le (qn ys j d) p) (hi:le p (qn ys i d)):PInv d n le a b xs p (swp d ys i j) (i+1) (j - 1):=by
 have h1:=h.ai; have h2:=h.ij; have h3:=h.jb
 have g:=qmk d hc.len (i:=i) (j:=j) (by omega) (by omega) (by omega) (by omega)
 refine ⟨h.seg.trans d (qqu d hc.len ha hb (by omega) (by omega) (by omega) (by omega)),by omega,by omega,by omega,?_,fun k k1 k2=> ?_,fun k k1 k2=> ?_⟩
 ·rw [g a ha,if_neg (by omega),if_neg (by omega)]; exact h.at_
 ·rw [g k (by omega),if_neg (by omega)]
  by_cases q:k=i
  ·rw [if_pos q]; exact hj
  ·rw [if_neg q]; exact h.lo k k1 (by omega)
 ·rw [g k (by omega)]
  by_cases q:k=j
  ·rw [if_pos q]; exact hi
  ·rw [if_neg q,if_neg (by omega)]; exact h.hi k (by omega) k2
def Pre (d:α) (le:α→α→Prop) (a b:Int) (xs:List α):Prop:=0<a→∀k,a≤k→k<b→le (qn xs (a - 1) d) (qn xs k d)
theorem Seg.pre {a b:Int} {xs ys:List α} (h:Seg d n a b xs ys) (hb:b≤(n:Int)) (hp:Pre d le a b xs):Pre d le a b ys:=fun a0 k k1 k2=>by
 obtain ⟨m,m1,m2,m3⟩:=h.inn k k1 k2
 rw [h.out (a - 1) (by omega) (by omega) (by omega),m3]
 exact hp a0 m m1 m2
structure qtk (d:α) (n:Nat) (le:α→α→Prop) (a0 b0:Int) (xs ys:List α) (a b:Int):Prop where
 seg:Seg d n a0 b0 xs ys
 la:a0≤a
 ab:a≤b
 rb:b≤b0
 pre:Pre d le a b ys
 lo:∀i j,a0≤i→i<a→i≤j→j<b0→le (qn ys i d) (qn ys j d)
 hi:∀i j,a0≤i→i≤j→b≤j→j<b0→le (qn ys i d) (qn ys j d)
theorem qtk.move {a0 b0 a b:Int} {xs ys zs:List α} (h:qtk d n le a0 b0 xs ys a b) (h0:0≤a0) (hn:b0≤(n:Int)) (hs:Seg d n a b ys zs):qtk d n le a0 b0 xs zs a b:=by
 have h1:=h.la; have h2:=h.rb; have h3:=h.ab
 refine ⟨h.seg.trans d (hs.mono d h0 hn h1 h2),h1,h3,h2,hs.pre d (by omega) h.pre,fun i j q1 q2 q3 q4=> ?_,fun i j q1 q2 q3 q4=> ?_⟩
 ·rw [hs.out i (by omega) (by omega) (by omega)]
  by_cases w:a≤j∧j<b
  ·obtain ⟨m,m1,m2,m3⟩:=hs.inn j w.1 w.2
   rw [m3]; exact h.lo i m q1 q2 (by omega) (by omega)
  ·rw [hs.out j (by omega) (by omega) (by omega)]; exact h.lo i j q1 q2 q3 q4
 ·rw [hs.out j (by omega) (by omega) (by omega)]
  by_cases w:a≤i∧i<b
  ·obtain ⟨m,m1,m2,m3⟩:=hs.inn i w.1 w.2
   rw [m3]; exact h.hi m j (by omega) (by omega) q3 q4
  ·rw [hs.out i (by omega) (by omega) (by omega)]; exact h.hi i j q1 q2 q3 q4
theorem qtk.fin {a0 b0 a b:Int} {xs ys:List α} (h:qtk d n le a0 b0 xs ys a b) (hs:Srt d le a b ys):Srt d le a0 b0 ys:=fun i j q1 q2 q3=>by
 by_cases w1:i<a
 ·exact h.lo i j q1 w1 q2 q3
 ·by_cases w2:b≤j
  ·exact h.hi i j q1 q2 w2 q3
  ·exact hs i j (by omega) q2 (by omega)
theorem qtk.ends {a0 b0 a b:Int} {xs ys zs:List α} (h:qtk d n le a0 b0 xs ys a b) (h0:0≤a0) (hn:b0≤(n:Int)) (hs:Seg d n a b ys zs) (hz:Srt d le a b zs):SRes P d n le a0 b0 xs (some ((),(zs,()))):=
 ⟨zs,rfl,(h.move d h0 hn hs).seg,(h.move d h0 hn hs).fin d hz⟩
end
end
end Go.Vi
