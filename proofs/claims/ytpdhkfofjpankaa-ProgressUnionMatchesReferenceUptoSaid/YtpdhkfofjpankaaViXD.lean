import Derived.Test.YtpdhkfofjpankaaViXC
import Derived.Orders
import Derived.Test.YtpdhkfofjpankaaViXB
import Derived.Test.YtpdhkfofjpankaaViXA
import Derived.Carry
import Derived.OpenShut
import Derived.ChangeSame
import Derived.WideShapes
import Derived.Lib.Bytealg
import Derived.Lib.LaidTab
import Derived.Lib.ItoaNum
import Derived.Lib.ItoaLen
import Derived.Lib.AtoiAllCases
import Derived.Lib.ParseIntBTie
import Derived.Lib.AtoiErrMem
import Derived.Lib.AppendIntMem
set_option linter.unusedVariables false
set_option linter.unusedSimpArgs false
set_option linter.unnecessarySimpa false
set_option linter.unusedSectionVars false
namespace Go.Vi
open Go.RowKit
def qbI (S:Nat→Bool):Nat→List qdA→St→St
 |_,[],σ=>σ
 |i,f::r,σ=>qbI S (i+1) r (if S i then qf σ f.us else σ)
def qdt (l:List qdA) (σ:St):St:=l.foldl (fun σ f=>qf σ f.us) σ
theorem qbb (S:Nat→Bool):(l:List qdA)→(i:Nat)→(σ:St)→(qbI S i l σ).length=σ.length
 |[],_,_=>rfl
 |f::r,i,σ=>by
  simp only [qbI]
  rw [qbb S r]
  split
  ·rw [qz]
  ·rfl
theorem qlo {σ τ:St} {u:U} {s:Nat} (hl:σ.length=τ.length) (h:qh σ s=qh τ s):qh (qC σ u) s=qh (qC τ u) s:=by
 by_cases hs:s=u.s
 ·subst hs
  by_cases hlt:u.s<σ.length
  ·rw [qB σ u hlt,qB τ u (by omega),h]
  ·have e1:qC σ u=σ:=by simp only [qC]; exact List.set_eq_of_length_le (by omega)
   have e2:qC τ u=τ:=by simp only [qC]; exact List.set_eq_of_length_le (by omega)
   rw [e1,e2,h]
 ·rw [qk _ _ hs,qk _ _ hs,h]
theorem qe8:(us:List U)→ {σ τ:St} → {s:Nat} →σ.length=τ.length→qh σ s=qh τ s→qh (qf σ us) s=qh (qf τ us) s
 |[],_,_,_,_,h=>h
 |u::us,σ,τ,s,hl,h=>qe8 us (σ:=qC σ u) (τ:=qC τ u) (by rw [qN,qN,hl]) (qlo hl h)
theorem qfe:(us:List U)→ {σ:St} → {s:Nat} →s∉us.map (·.s)→qh (qf σ us) s=qh σ s
 |[],_,_,_=>rfl
 |u::us,σ,s,h=>by
  simp only [List.map_cons,List.mem_cons,not_or] at h
  exact (qfe us (σ:=qC σ u) h.2).trans (qk _ _ h.1)
theorem qcF {S S':Nat→Bool} {s:Nat} :(l:List qdA)→(i:Nat)→ {σ τ:St} →σ.length=τ.length→qh σ s=qh τ s→(∀k f,l[k]? =some f→s∈f.wr→S (i+k)=S' (i+k))→qh (qbI S i l σ) s=qh (qbI S' i l τ) s
 |[],_,_,_,_,h,_=>h
 |f::r,i,σ,τ,hl,h,hS=>by
  simp only [qbI]
  refine qcF r (i+1) ?_ ?_ fun k f' hk hs=>by
   have:=hS (k+1) f' (by simpa using hk) hs
   rwa [show i+(k+1)=i+1+k by omega] at this
  ·split <;> split <;> simp only [qz,hl]
  ·by_cases hs:s∈f.wr
   ·have:=hS 0 f rfl hs
    rw [Nat.add_zero] at this
    rw [←this]
    split
    ·exact qe8 _ hl h
    ·exact h
   ·have n1:∀ρ:St,qh (qf ρ f.us) s=qh ρ s:=fun ρ=>qfe f.us hs
    split <;> split <;> simp only [n1,h]
theorem qkD {σ τ:St} (hl:σ.length=τ.length) (h:∀s,qh σ s=qh τ s):σ=τ:=by
 apply List.ext_getElem?
 intro s
 by_cases hs:s<σ.length
 ·have:=h s
  simp only [qh,List.getD_eq_getElem?_getD,List.getElem?_eq_getElem hs,List.getElem?_eq_getElem (show s<τ.length by omega),Option.getD_some] at this
  rw [List.getElem?_eq_getElem hs,List.getElem?_eq_getElem (by omega),this]
 ·rw [List.getElem?_eq_none (by omega),List.getElem?_eq_none (by omega)]
theorem qgz:(l:List qdA)→(i:Nat)→(σ:St)→qbI (fun _=>false) i l σ=σ
 |[],_,_=>rfl
 |f::r,i,σ=>by simp only [qbI,Bool.false_eq_true,if_false]; exact qgz r (i+1) σ
theorem qcc:(l:List qdA)→(i m:Nat)→(σ:St)→qbI (fun k=>decide (k<i+m)) i l σ=qdt (l.take m) σ
 |[],i,m,σ=>by simp [qbI,qdt]
 |f::r,i,0,σ=>by
  have:qbI (fun k=>decide (k<i+0)) i (f::r) σ=qbI (fun _=>false) i (f::r) σ:=by
   apply qkD
   ·rw [qbb,qbb]
   ·intro s
    exact qcF _ _ rfl rfl fun k f _ _=>by simp
  rw [this,qgz]
  rfl
 |f::r,i,m+1,σ=>by
  simp only [qbI]
  rw [if_pos (by simp)]
  have:=qcc r (i+1) m (qf σ f.us)
  rw [show i+1+m=i+(m+1) by omega] at this
  rw [this]
  rfl
theorem Q.run_congr {α:Type} {lk lk':Nat→Ent} :(q:Q α)→(∀s∈q.log lk,lk' s=lk s)→q.run lk'=q.run lk
 | .ret _,_=>rfl
 | .fail,_=>rfl
 | .get s k,h=>by
  have h0:=h s List.mem_cons_self
  simp only [Q.run,h0]
  exact Q.run_congr (k (lk s)) fun s' hs'=>h s' (List.mem_cons_of_mem _ hs')
def qpj (E:Env) (ops:Array Oper) (σ:St) (l:List Oper) (fl:List qdA) (c:List Bool):Prop:=
 fl.length=l.length∧∀k o ft,l[k]? =some o→fl[k]? =some ft→∃g f,qeN ops o=some g∧(qeC E g o).run (qh (qdt (fl.take k) σ))=some f∧ft= { rd:=(qeC E g o).log (qh (qdt (fl.take k) σ)),us:=f.upd } ∧(∀u∈f.upd,u.s<σ.length)∧∀b∈f.chk,b∈c
theorem qif {E:Env} {wr:List Nat} {ops:Array Oper} :(l:List Oper)→ {σ σ':St} → {c c':List Bool} → {fs fs':List qdA} →qcX E wr ops l σ c fs=some (σ',c',fs')→
  ∃fl,fs'=fl.reverse++fs∧qpj E ops σ l fl c'∧σ'=qdt fl σ∧∀b∈c,b∈c'
 |[],σ,σ',c,c',fs,fs',he=>by
  simp only [qcX,Option.some.injEq,Prod.mk.injEq] at he
  obtain ⟨rfl,rfl,rfl⟩:=he
  exact ⟨[],rfl,⟨rfl,fun k o ft h=>by simp at h⟩,rfl,fun b h=>h⟩
 |o::r,σ,σ',c,c',fs,fs',he=>by
  simp only [qcX] at he
  split at he
  ·cases he
  rename_i g hg
  split at he
  ·cases he
  rename_i f hf
  split at he
  case isFalse=>cases he
  rename_i hu
  obtain ⟨fl,h1,⟨h2,h3⟩,h4,h5⟩:=qif r he
  refine ⟨{ rd:=(qeC E g o).log (qh σ),us:=f.upd } ::fl,by rw [h1]; simp,⟨by simp [h2],fun k o' ft hk hft=> ?_⟩,by rw [h4]; rfl,fun b hb=>h5 b (List.mem_append_left _ hb)⟩
  cases k with
  |zero=>
   simp at hk hft
   subst hk; subst hft
   refine ⟨g,f,hg,hf,rfl,fun u hm=> ?_,fun b hb=>h5 b (List.mem_append_right _ hb)⟩
   have:=List.all_eq_true.1 hu u hm
   simp at this
   exact this.2
  |succ k=>
   obtain ⟨g',f',k1,k2,k3,k4,k5⟩:=h3 k o' ft (by simpa using hk) (by simpa using hft)
   exact ⟨g',f',k1,k2,k3,fun u hm=>by have:=k4 u hm; rwa [qz] at this,k5⟩
theorem qh4 {ms:List Nat} {j:Nat} :(es:List Nat)→(m:Nat)→(es.foldl (fun m j=>m|||(1 <<< j)|||ms.getD j 0) m).testBit j=true→m.testBit j=true∨j∈es∨∃k∈es,(ms.getD k 0).testBit j=true
 |[],m,h=> .inl h
 |e::es,m,h=>by
  rcases qh4 es _ h with h|h|⟨k,hk,h⟩
  ·simp only [Nat.testBit_or,Bool.or_eq_true] at h
   rcases h with (h|h)|h
   ·exact .inl h
   ·refine .inr (.inl ?_)
    rw [Nat.one_shiftLeft,Nat.testBit_two_pow] at h
    have:e=j:=by simpa using h
    rw [this]
    exact List.mem_cons_self
   ·exact .inr (.inr ⟨e,List.mem_cons_self,h⟩)
  ·exact .inr (.inl (List.mem_cons_of_mem _ h))
  ·exact .inr (.inr ⟨k,List.mem_cons_of_mem _ hk,h⟩)
theorem qj9 {m:Nat} {f:qdA} :(l:List qdA)→(j:Nat)→qkK m f j l=true→∀k g,l[k]? =some g→m.testBit (j+k)=true∨qdY f g=true
 |[],_,_,k,g,h=>by simp at h
 |x::r,j,hp,k,g,h=>by
  simp only [qkK,Bool.and_eq_true,Bool.or_eq_true] at hp
  cases k with
  |zero=>simp at h; subst h; exact hp.1
  |succ k=>
   have:=qj9 r (j+1) hp.2 k g (by simpa using h)
   rwa [show j+1+k=j+(k+1) by omega] at this
theorem qlF:(os:List Oper)→(fs:List qdA)→(ms:List Nat)→(done:List qdA)→ms.length=done.length→qgu os fs ms done=true→
  ∃M:List Nat,M.length=os.length∧fs.length=os.length∧∀k o f,os[k]? =some o→fs[k]? =some f→(∀j∈qbp o,j<ms.length+k)∧(ms++M).getD (ms.length+k) 0=qfG ((ms++M).take (ms.length+k)) (qbp o)∧
   ∀j g,j<ms.length+k→(done++fs)[j]? =some g→((ms++M).getD (ms.length+k) 0).testBit j=true∨qdY f g=true
 |[],[],_,_,_,_=>⟨[],rfl,rfl,fun k o f h=>by simp at h⟩
 |o::os,f::fs,ms,done,hl,h=>by
  simp only [qgu,Bool.and_eq_true] at h
  obtain ⟨h1,h2,h3⟩:=h
  obtain ⟨M,k1,k2,k3⟩:=qlF os fs _ _ (by simp [hl]) h3
  refine ⟨qfG ms (qbp o)::M,by simp [k1],by simp [k2],fun k o' f' ho hf=> ?_⟩
  have e1:ms++qfG ms (qbp o)::M=(ms++[qfG ms (qbp o)])++M:=by simp
  have e2:done++f::fs=(done++[f])++fs:=by simp
  cases k with
  |zero=>
   simp at ho hf
   subst ho; subst hf
   refine ⟨fun j hj=>by have:=List.all_eq_true.1 h1 j hj; simpa using this,?_,fun j g hj hg=> ?_⟩
   ·rw [Nat.add_zero,List.take_left' rfl]
    simp [List.getD]
   ·rw [Nat.add_zero] at hj⊢
    have hg':done[j]? =some g:=by rwa [List.getElem?_append_left (by omega)] at hg
    have:=qj9 done 0 h2 j g hg'
    rw [Nat.zero_add] at this
    have e:(ms++qfG ms (qbp o)::M).getD ms.length 0=qfG ms (qbp o):=by simp [List.getD]
    rw [e]
    exact this
  |succ k=>
   obtain ⟨q1,q2,q3⟩:=k3 k o' f' (by simpa using ho) (by simpa using hf)
   have e3:(ms++[qfG ms (qbp o)]).length+k=ms.length+(k+1):=by simp; omega
   rw [e3] at q1 q2 q3
   rw [e1,e2]
   exact ⟨q1,q2,q3⟩
 |[],_::_,_,_,_,h=>by cases h
 |_::_,[],_,_,_,h=>by cases h
def qiV (ops:Array Oper) (S:Nat→Bool):Prop:=∀i o,ops[i]? =some o→S i=true→∀j∈qbp o,S j=true
theorem qjX {ops:Array Oper} {fl:List qdA} (h:qgu ops.toList fl [] []=true):fl.length=ops.size∧∃M:List Nat,∀k o f,ops[k]? =some o→fl[k]? =some f→(∀j∈qbp o,j<k)∧M.getD k 0=qfG (M.take k) (qbp o)∧∀j g,j<k→fl[j]? =some g→(M.getD k 0).testBit j=true∨qdY f g=true:=by
 obtain ⟨M,h1,h2,h3⟩:=qlF ops.toList fl [] [] rfl h
 refine ⟨by simpa using h2,M,fun k o f ho hf=> ?_⟩
 have:=h3 k o f (by simpa using ho) hf
 simpa using this
theorem qgC {ops:Array Oper} {fl:List qdA} {M:List Nat} (hlen:fl.length=ops.size) (hM:∀k o f,ops[k]? =some o→fl[k]? =some f→(∀j∈qbp o,j<k)∧M.getD k 0=qfG (M.take k) (qbp o)∧∀j g,j<k→fl[j]? =some g→(M.getD k 0).testBit j=true∨qdY f g=true)
  {S:Nat→Bool} (hS:qiV ops S):∀(n k:Nat) (o:Oper),k<n→ops[k]? =some o→(∀j∈qbp o,S j=true)→∀j,(M.getD k 0).testBit j=true→S j=true
 |0,k,o,h,_,_,_,_=>by omega
 |n+1,k,o,hk,ho,he,j,hj=>by
  have hks:k<ops.size:=(Array.getElem?_eq_some_iff.1 ho).1
  obtain ⟨q1,q2,_⟩:=hM k o _ ho (List.getElem?_eq_getElem (by omega))
  rw [q2] at hj
  rcases qh4 _ _ hj with h|h|⟨k',hk',h⟩
  ·simp at h
  ·exact he j h
  ·have hlt:=q1 k' hk'
   have ho':ops[k']? =some ops[k']:=Array.getElem?_eq_getElem (by omega)
   have e:(M.take k).getD k' 0=M.getD k' 0:=by
    simp only [List.getD_eq_getElem?_getD,List.getElem?_take,if_pos hlt]
   rw [e] at h
   exact qgC hlen hM hS n k' _ (by omega) ho' (hS k' _ ho' (he k' hk')) j h
theorem qmU {f g:qdA} (h:qdY f g=true) {s:Nat} :(s∈f.wr→s∉g.rd∧s∉g.wr)∧(s∈g.wr→s∉f.rd):=by
 simp only [qdY,Bool.and_eq_true] at h
 have h1:=qeh h.1
 have h2:=qeh h.2
 exact ⟨fun hs=>⟨fun hr=>h1 s hs (List.mem_append_left _ hr),fun hw=>h1 s hs (List.mem_append_right _ hw)⟩,fun hs=>h2 s hs⟩
theorem qlT {ops:Array Oper} {fl:List qdA} (h:qgu ops.toList fl [] []=true) {S:Nat→Bool} (hS:qiV ops S) {i:Nat} {o:Oper} {f:qdA} (ho:ops[i]? =some o) (hf:fl[i]? =some f) (hn:S i=false) (he:∀j∈qbp o,S j=true)
  {s:Nat} (hs:s∈f.rd∨s∈f.wr):∀j g,fl[j]? =some g→s∈g.wr→S j=decide (j<i):=by
 obtain ⟨hlen,M,hM⟩:=qjX h
 intro j g hg hw
 have hjs:j<ops.size:=by
  have:=(List.getElem?_eq_some_iff.1 hg).1
  omega
 have hoj:ops[j]? =some ops[j]:=Array.getElem?_eq_getElem hjs
 rcases Nat.lt_trichotomy j i with hlt|heq|hgt
 ·rw [decide_eq_true hlt]
  cases hSj:S j with
  |true=>rfl
  |false=>
   rcases (hM i o f ho hf).2.2 j g hlt hg with hb|hb
   ·have:=qgC hlen hM hS (i+1) i o (by omega) ho he j hb
    rw [hSj] at this
    cases this
   ·obtain ⟨n1,n2⟩:=qmU hb (s:=s)
    rcases hs with hs|hs
    ·exact absurd hs (n2 hw)
    ·exact absurd hw (n1 hs).2
 ·subst heq
  rw [hn]
  simp
 ·rw [decide_eq_false (by omega)]
  cases hSj:S j with
  |false=>rfl
  |true=>
   rcases (hM j _ g hoj hg).2.2 i f hgt hf with hb|hb
   ·have:=qgC hlen hM hS (j+1) j _ (by omega) hoj (hS j _ hoj hSj) i hb
    rw [hn] at this
    cases this
   ·obtain ⟨n1,n2⟩:=qmU hb (s:=s)
    rcases hs with hs|hs
    ·exact absurd hs (n1 hw).1
    ·exact absurd hs (n1 hw).2
theorem qjY {ops:Array Oper} {fl:List qdA} {σ:St} (h:qgu ops.toList fl [] []=true) {S:Nat→Bool} (hS:qiV ops S) {i:Nat} {o:Oper} {f:qdA} (ho:ops[i]? =some o) (hf:fl[i]? =some f) (hn:S i=false) (he:∀j∈qbp o,S j=true)
  {s:Nat} (hs:s∈f.rd∨s∈f.wr):qh (qbI S 0 fl σ) s=qh (qdt (fl.take i) σ) s:=by
 have hb:=qcc fl 0 i σ
 rw [Nat.zero_add] at hb
 rw [←hb]
 exact qcF fl 0 rfl rfl fun k g hg hw=>by
  rw [Nat.zero_add]
  exact qlT h hS ho hf hn he hs k g hg hw
theorem ql9 {fl:List qdA} {i:Nat} {f:qdA} (hf:fl[i]? =some f) (σ:St):qdt (fl.take (i+1)) σ=qf (qdt (fl.take i) σ) f.us:=by
 rw [List.take_add_one,hf]
 simp [qdt,List.foldl_append]
theorem qmh {ops:Array Oper} {fl:List qdA} {σ:St} (h:qgu ops.toList fl [] []=true) {S S':Nat→Bool} (hS:qiV ops S) {i:Nat} {o:Oper} {f:qdA} (ho:ops[i]? =some o) (hf:fl[i]? =some f) (hn:S i=false) (he:∀j∈qbp o,S j=true)
  (hS1:S' i=true) (hS2:∀j,j≠i→S' j=S j):qbI S' 0 fl σ=qf (qbI S 0 fl σ) f.us:=by
 apply qkD
 ·rw [qz,qbb,qbb]
 ·intro s
  by_cases hs:s∈f.wr
  ·have h1:qh (qbI S' 0 fl σ) s=qh (qdt (fl.take (i+1)) σ) s:=by
    have hb:=qcc fl 0 (i+1) σ
    rw [Nat.zero_add] at hb
    rw [←hb]
    refine qcF fl 0 rfl rfl fun k g hg hw=> ?_
    rw [Nat.zero_add]
    by_cases hk:k=i
    ·subst hk
     rw [hS1]
     simp
    ·rw [hS2 k hk,qlT h hS ho hf hn he (.inr hs) k g hg hw]
     by_cases hlt:k<i
     ·rw [decide_eq_true hlt,decide_eq_true (by omega)]
     ·rw [decide_eq_false hlt,decide_eq_false (by omega)]
   rw [h1,ql9 hf]
   refine (qe8 _ ?_ (qjY h hS ho hf hn he (.inr hs))).symm
   rw [qbb]
   have hb:=qcc fl 0 i σ
   rw [←hb,qbb]
  ·rw [qfe _ hs]
   refine qcF fl 0 rfl rfl fun k g hg hw=> ?_
   rw [Nat.zero_add]
   refine hS2 k fun e=> ?_
   subst e
   rw [hf] at hg
   injection hg with hg
   subst hg
   exact hs hw
theorem qgt {ops:Array Oper} {listed:Array Bool} {i:Nat} (h:i∈Region.ready .any ops listed):i<ops.size∧listed.getD i true=false∧∃o,ops[i]? =some o∧∀j∈qbp o,listed.getD j false=true:=by
 simp only [Region.ready,List.mem_filter,List.mem_range,Bool.and_eq_true,Bool.not_eq_true'] at h
 obtain ⟨h1,h2,h3⟩:=h
 have ho:ops[i]? =some ops[i]:=Array.getElem?_eq_getElem h1
 refine ⟨h1,h2,_,ho,fun j hj=> ?_⟩
 rw [ho] at h3
 simp only [Option.map_some,Option.getD_some] at h3
 rw [←Array.all_toList,List.all_eq_true] at h3
 simp only [qbp,List.mem_map,List.mem_filter] at hj
 obtain ⟨e,⟨he,hb⟩,rfl⟩:=hj
 have:=h3 e he
 rw [hb] at this
 simpa using this
theorem qjI {ops:Array Oper} {listed:Array Bool} {i:Nat} {o:Oper} (ho:ops[i]? =some o) (hl:listed.getD i true=false) (he:∀j∈qbp o,listed.getD j false=true):i∈Region.ready .any ops listed:=by
 simp only [Region.ready,List.mem_filter,List.mem_range,Bool.and_eq_true,Bool.not_eq_true']
 refine ⟨(Array.getElem?_eq_some_iff.1 ho).1,hl,?_⟩
 rw [ho]
 simp only [Option.map_some,Option.getD_some]
 rw [←Array.all_toList,List.all_eq_true]
 intro e hm
 by_cases hb:Region.binds .any e=true
 ·rw [he e.on (List.mem_map.2 ⟨e,List.mem_filter.2 ⟨hm,hb⟩,rfl⟩)]
  simp
 ·simp [hb]
theorem qi8 (S:Nat→Bool):(l l':List qdA)→l.map (·.us)=l'.map (·.us)→∀i σ,qbI S i l σ=qbI S i l' σ
 |[],[],_,_,_=>rfl
 |[],_::_,h,_,_=>by cases h
 |_::_,[],h,_,_=>by cases h
 |f::l,f'::l',h,i,σ=>by
  simp only [List.map_cons,List.cons.injEq] at h
  simp only [qbI,h.1]
  exact qi8 S l l' h.2 _ _
theorem qjC:(l l':List qdA)→l.map (·.us)=l'.map (·.us)→∀σ,qdt l σ=qdt l' σ
 |[],[],_,_=>rfl
 |[],_::_,h,_=>by cases h
 |_::_,[],h,_=>by cases h
 |f::l,f'::l',h,σ=>by
  simp only [List.map_cons,List.cons.injEq] at h
  simp only [qdt,List.foldl_cons,h.1]
  exact qjC l l' h.2 _
theorem qlH (pins:List Nat) (σ:St) (fl:List qdA):(os:List Oper)→(fs:List qdA)→fs.length=os.length→(qhd pins σ fl os fs).map (·.us)=fs.map (·.us)
 |[],[],_=>rfl
 |[],_::_,h=>by cases h
 |_::_,[],h=>by cases h
 |o::os,f::fs,h=>by
  simp only [qhd,List.map_cons,qlH pins σ fl os fs (by simpa using h)]
  congr 1
  split
  ·split <;> rfl
  ·rfl
theorem qlG (pins:List Nat) (σ:St) (fl:List qdA):(os:List Oper)→(fs:List qdA)→fs.length=os.length→∀(i:Nat) (o:Oper) (f f':qdA),os[i]? =some o→fs[i]? =some f→(qhd pins σ fl os fs)[i]? =some f'→f'.rd=f.rd∨∃s,qeY o=some s∧(qm0 σ fl s||qk2 pins σ fl s)=true
 |[],_,_,i,o,f,f',h,_,_=>by simp at h
 |_::_,[],h,_,_,_,_,_,_,_=>by cases h
 |o'::os,f0::fs,h,i,o,f,f',h1,h2,h3=>by
  cases i with
  |zero=>
   simp only [qhd,List.getElem?_cons_zero,Option.some.injEq] at h1 h2 h3
   subst h1; subst h2; subst h3
   split
   ·rename_i s hs
    split
    ·rename_i hq
     exact .inr ⟨s,hs,hq⟩
    ·exact .inl rfl
   ·exact .inl rfl
  |succ i=>
   simp only [qhd,List.getElem?_cons_succ] at h1 h2 h3
   exact qlG pins σ fl os fs (by simpa using h) i o f f' h1 h2 h3
theorem qh3 {s:Nat} :(us:List U)→ {σ:St} →qeE (qh σ s).2=true→us.all (fun u=>u.s != s||(!u.bump&&qeE u.a))=true→(qh (qf σ us) s).1=(qh σ s).1∧qeE (qh (qf σ us) s).2=true
 |[],_,h,_=>⟨rfl,h⟩
 |u::us,σ,h,hu=>by
  simp only [List.all_cons,Bool.and_eq_true] at hu
  have key:(qh (qC σ u) s).1=(qh σ s).1∧qeE (qh (qC σ u) s).2=true:=by
   by_cases hs:s=u.s
   ·by_cases hlt:u.s<σ.length
    ·have h1:=hu.1
     simp only [hs,bne_self_eq_false,Bool.false_or,Bool.and_eq_true,Bool.not_eq_true'] at h1
     rw [hs,qB σ u hlt,h1.1]
     exact ⟨rfl,h1.2⟩
    ·have e1:qC σ u=σ:=by simp only [qC]; exact List.set_eq_of_length_le (by omega)
     rw [e1]
     exact ⟨rfl,h⟩
   ·rw [qk _ _ hs]
    exact ⟨rfl,h⟩
  obtain ⟨k1,k2⟩:=qh3 us (σ:=qC σ u) key.2 hu.2
  exact ⟨k1.trans key.1,k2⟩
theorem qfb {S:Nat→Bool} {s:Nat} :(l:List qdA)→(i:Nat)→ {σ:St} →qeE (qh σ s).2=true→l.all (fun f=>f.us.all (fun u=>u.s != s||(!u.bump&&qeE u.a)))=true→(qh (qbI S i l σ) s).1=(qh σ s).1∧qeE (qh (qbI S i l σ) s).2=true
 |[],_,_,h,_=>⟨rfl,h⟩
 |f::l,i,σ,h,hl=>by
  simp only [List.all_cons,Bool.and_eq_true] at hl
  simp only [qbI]
  split
  ·obtain ⟨k1,k2⟩:=qh3 f.us h hl.1
   obtain ⟨k3,k4⟩:=qfb l (i+1) k2 hl.2
   exact ⟨k3.trans k1,k4⟩
  ·exact qfb l (i+1) h hl.2
theorem qol {E:Env} {o:Oper} {s:Nat} (ho:qeY o=some s) {lk lk':Nat→Ent} (h1:qeE (lk s).2=true) (h2:qeE (lk' s).2=true) (h3:(lk' s).1=(lk s).1):(qeC E none o).run lk'=(qeC E none o).run lk:=by
 unfold qeY at ho
 split at ho
 case h_2=>cases ho
 rename_i s' hg hop
 injection ho with ho
 subst ho
 cases ha:lk s' with
 |mk v a=>
  cases ha':lk' s' with
  |mk v' a'=>
   rw [ha] at h1 h3
   rw [ha'] at h2 h3
   simp only at h1 h2 h3
   subst h3
   have ev:∀ {b:AV} {lk0:Nat→Ent},lk0 s'=(v',b)→qeE b=true→(qc5 E [] o).run lk0=some ⟨qbj o (.ref s' v'),[]⟩:=fun {b lk0} hb h0=>by
    unfold qeE at h0
    split at h0
    ·simp only [qc5,hop,opd,Q.bind,Q.run,hb,qa1,qmg,Bool.false_eq_true,if_false,okE]
    ·simp only [qc5,hop,opd,Q.bind,Q.run,hb,qa1,qmg,Bool.false_eq_true,if_false,okE]
    ·cases h0
   simp only [qeC,Q.run_bind,ev ha h1,ev ha' h2,Option.bind_some]
   unfold qjq
   split
   ·rfl
   ·have e:∀d,((qbj o (.ref s' v')).any (qkn d))=false:=fun d=>by unfold qbj; split <;> simp [qkn]
    simp only [e,Bool.false_eq_true,if_false,Q.run]
theorem qje {s:Nat} :(us:List U)→ {σ:St} →qfj (qh σ s).2=true→us.all (fun u=>u.s != s||qfj u.a)=true→qfj (qh (qf σ us) s).2=true
 |[],_,h,_=>h
 |u::us,σ,h,hu=>by
  simp only [List.all_cons,Bool.and_eq_true] at hu
  refine qje us (σ:=qC σ u) ?_ hu.2
  by_cases hs:s=u.s
  ·by_cases hlt:u.s<σ.length
   ·have h1:=hu.1
    simp only [hs,bne_self_eq_false,Bool.false_or] at h1
    rw [hs,qB σ u hlt]
    exact h1
   ·have e1:qC σ u=σ:=by simp only [qC]; exact List.set_eq_of_length_le (by omega)
    rw [e1]
    exact h
  ·rw [qk _ _ hs]
   exact h
theorem qgc {S:Nat→Bool} {s:Nat} :(l:List qdA)→(i:Nat)→ {σ:St} →qfj (qh σ s).2=true→l.all (fun f=>f.us.all (fun u=>u.s != s||qfj u.a))=true→qfj (qh (qbI S i l σ) s).2=true
 |[],_,_,h,_=>h
 |f::l,i,σ,h,hl=>by
  simp only [List.all_cons,Bool.and_eq_true] at hl
  simp only [qbI]
  split
  ·exact qgc l (i+1) (qje f.us h hl.1) hl.2
  ·exact qgc l (i+1) h hl.2
theorem qqe {E:Env} {o:Oper} {s:Nat} (ho:qeY o=some s) (hp:E.pins.contains s=true) {lk lk':Nat→Ent} (h1:qfj (lk s).2=true) (h2:qfj (lk' s).2=true):(qeC E none o).run lk'=(qeC E none o).run lk:=by
 unfold qeY at ho
 split at ho
 case h_2=>cases ho
 rename_i s' hg hop
 injection ho with ho
 subst ho
 cases ha:lk s' with
 |mk v a=>
  cases ha':lk' s' with
  |mk v' a'=>
   rw [ha] at h1
   rw [ha'] at h2
   simp only at h1 h2
   cases a <;> simp only [qfj,Bool.false_eq_true] at h1
   cases a' <;> simp only [qfj,Bool.false_eq_true] at h2
   simp only [qeC,qc5,hop,opd,Q.bind,Q.run,ha,ha',qa1,qmg,hp,if_true,okE]
   unfold qjq
   split
   ·rfl
   ·have e:∀d,((qbj o (.pip s' 0)).any (qkn d))=false:=fun d=>by unfold qbj; split <;> simp [qkn]
    simp only [e,Bool.false_eq_true,if_false,Q.run]
theorem qpe {ops:Array Oper} {o:Oper} {s:Nat} {g:Option (Nat×Bool)} (ho:qeY o=some s) (hg:qeN ops o=some g):g=none:=by
 unfold qeY at ho
 split at ho
 case h_2=>cases ho
 rename_i s' hgd hop
 unfold qeN at hg
 rw [hgd] at hg
 injection hg with hg
 exact hg.symm
theorem qI.drew {C:Ctx} {σ:St} {tm:Array Value} {w:World} {own:Nat→List Nat} (h:qI C σ tm w own):qI C σ tm w.drew own:=
 ⟨h.size,h.kept.drew,h.mine,h.nodup,h.apart,h.outside,fun s hs=>qY.keep (X:= { P:=C.P,ver:=fun s=>(qh σ s).1,tm:=fun s=>tm.getD s undef,w,F:=C.free w own,own,pn:=C.pn }) (X':= { P:=C.P,ver:=fun s=>(qh σ s).1,tm:=fun s=>tm.getD s undef,w:=w.drew,F:=C.free w.drew own,own,pn:=C.pn }) ⟨rfl,rfl⟩ (fun b hb hlt=>⟨hb,hlt,rfl⟩) (fun _ _ _=>rfl) (fun m hm hv=>⟨hv,rfl,fun b hb hp=>⟨hb,rfl⟩⟩) (h.rep s hs),h.wf⟩
end Go.Vi
namespace Go.Vi
open Go.RowKit
section
variable {C:Ctx} {E:Env} {σ τ:St} {tm:Array Value} {a:Act} {w w':World} {own:Nat→List Nat} {o:Oper} {p:qfw} [Tabbed E C]
theorem qiy: {c:List Bool} →qrw c=true→qcy c
 |[],_=>fun b hb=>by cases hb
 |[x],h=>fun b hb=>by simp at hb; rw [hb]; exact h
 |x::y::r,h=>fun b hb=>by
  simp only [qrw,Bool.and_eq_true] at h
  rcases List.mem_cons.1 hb with rfl|hb
  ·exact h.1
  ·exact qiy h.2 b hb
theorem qc9 {wr:List Nat} :(us:List U)→ {σ:St} →(∀u∈us,u.s∈wr)→Fr wr σ (qf σ us)
 |[],σ,_=>⟨rfl,fun _ _=>rfl⟩
 |u::us,σ,h=>by
  obtain ⟨h1,h2⟩:=qc9 us (σ:=qC σ u) (fun v hv=>h v (List.mem_cons_of_mem _ hv))
  refine ⟨by rw [show qf σ (u::us)=qf (qC σ u) us from rfl,h1,qN],fun s hs=> ?_⟩
  show qh (qf (qC σ u) us) s=_
  rw [h2 s hs]
  exact qk σ u fun e=>hs (e ▸ h u List.mem_cons_self)
theorem Fr.trans {wr:List Nat} {a b c:St} (h:Fr wr a b) (k:Fr wr b c):Fr wr a c:=⟨k.1.trans h.1,fun s hs=>(k.2 s hs).trans (h.2 s hs)⟩
theorem Fr.refl (wr:List Nat) (a:St):Fr wr a a:=⟨rfl,fun _ _=>rfl⟩
theorem Fr.mono {wr wr':List Nat} {a b:St} (h:Fr wr a b) (hs:∀s∈wr,s∈wr'):Fr wr' a b:=⟨h.1,fun s hn=>h.2 s fun hm=>hn (hs s hm)⟩
def qqF (σ σ':St):Prop:=∀s,(qh σ s).1≤(qh σ' s).1
theorem ql6 (σ:St) (u:U):qqF σ (qC σ u):=fun s=>by
 by_cases h:s=u.s
 ·subst h
  by_cases hl:u.s<σ.length
  ·rw [qB σ u hl]
   simp only
   split
   ·exact Nat.le_succ _
   ·exact Nat.le_refl _
  ·have:qC σ u=σ:=by simp only [qC]; exact List.set_eq_of_length_le (by omega)
   rw [this]
   exact Nat.le_refl _
 ·rw [qk _ _ h]; exact Nat.le_refl _
theorem qqF.trans {a b c:St} (h:qqF a b) (k:qqF b c):qqF a c:=fun s=>Nat.le_trans (h s) (k s)
theorem qic:(us:List U)→(σ:St)→qqF σ (qf σ us)
 |[],_=>fun _=>Nat.le_refl _
 |u::us,σ=>(ql6 σ u).trans (qic us (qC σ u))
theorem qhQ {wr:List Nat} {ops:Array Oper} :(l:List Oper)→ {σ σ':St} → {c c':List Bool} → {fs fs':List qdA} →qcX E wr ops l σ c fs=some (σ',c',fs')→
  Fr wr σ σ'∧qqF σ σ'∧(∀b∈c,b∈c')∧(∀f∈fs,f∈fs')∧Fr (fs'.flatMap (·.wr)) σ σ'
 |[],σ,σ',c,c',fs,fs',he=>by
  simp only [qcX,Option.some.injEq,Prod.mk.injEq] at he
  obtain ⟨rfl,rfl,rfl⟩:=he
  exact ⟨Fr.refl _ _,fun _=>Nat.le_refl _,fun _ h=>h,fun _ h=>h,Fr.refl _ _⟩
 |o::r,σ,σ',c,c',fs,fs',he=>by
  simp only [qcX] at he
  split at he
  ·cases he
  rename_i g hg
  split at he
  ·cases he
  rename_i f hf
  split at he
  case isFalse=>cases he
  rename_i hu
  obtain ⟨h1,h2,h3,h4,h5⟩:=qhQ r he
  have hu':∀u∈f.upd,u.s∈wr:=fun u hm=>by
   have:=List.all_eq_true.1 hu u hm
   simp at this
   exact this.1
  refine ⟨(qc9 f.upd hu').trans h1,(qic _ _).trans h2,fun b hb=>h3 b (List.mem_append_left _ hb),fun x hx=>h4 x (List.mem_cons_of_mem _ hx),(qc9 f.upd fun u hm=> ?_).trans h5⟩
  exact List.mem_flatMap.2 ⟨_,h4 _ List.mem_cons_self,List.mem_map_of_mem hm⟩
def qcT (pin:List Nat) (a a':Act):Prop:=a'.defers=a.defers∧∀s∈pin,a'.tmps.getD s undef=a.tmps.getD s undef
theorem qcT.refl (pin:List Nat) (a:Act):qcT pin a a:=⟨rfl,fun _ _=>rfl⟩
theorem qcT.trans {pin:List Nat} {a b c:Act} (h:qcT pin b c) (k:qcT pin a b):qcT pin a c:=⟨h.1.trans k.1,fun s hs=>(h.2 s hs).trans (k.2 s hs)⟩
theorem qcT.pinC {pin:List Nat} {a a':Act} (hF:qlk E C pin) (hpc:qps C a.tmps) (h:qcT pin a a'):qps C a'.tmps:=fun k b hb=>(h.2 k (hF.sub k b hb)).trans (hpc k b hb)
theorem qj7 (hE:qbg E C.P) {pin wr:List Nat} (hF:qlk E C pin) {ops:Array Oper} {Q:Exit→Act→World→Prop} :(l:List Oper)→qjZ pin l=true→ {σ σ':St} → {a:Act} → {w:World} → {own:Nat→List Nat} → {c c':List Bool} → {fs fs':List qdA} →
  qcX E wr ops l σ c fs=some (σ',c',fs')→qcy c'→qps C a.tmps→qI C σ a.tmps w own→(∀a' w' own',qcT pin a a'→qI C σ' a'.tmps w' own'→Q .normal a' w')→wpList C.P ops Q l a w
 |[],_,σ,σ',a,w,own,c,c',fs,fs',he,_,_,h,hQ=>by
  simp only [qcX,Option.some.injEq,Prod.mk.injEq] at he
  obtain ⟨rfl,_,_⟩:=he
  exact hQ a w own (qcT.refl _ _) h
 |o::r,hp,σ,σ',a,w,own,c,c',fs,fs',he,hc,hpc,h,hQ=>by
  simp only [qjZ,List.all_cons,Bool.and_eq_true] at hp
  simp only [qcX] at he
  split at he
  ·cases he
  rename_i g hg
  split at he
  ·cases he
  rename_i f hf
  split at he
  case isFalse=>cases he
  rename_i hu
  have hu':∀u∈f.upd,u.s<σ.length:=fun u hm=>by
   have:=List.all_eq_true.1 hu u hm
   simp at this
   exact this.2
  obtain ⟨_,_,h3,_,_⟩:=qhQ r he
  have hcf:qcy f.chk:=fun b hb=>hc b (h3 b (List.mem_append_right _ hb))
  have hok:=qlp hE hF hpc h hg hf hu' hcf (wpList C.P ops Q r) Q fun a' w' own' hd hst=>by
   have hk:qcT pin a a':=⟨hd.1,fun s hs=>hd.2 s fun e=>qeh hp.1 s (by simp [e]) hs⟩
   exact qj7 hE hF r hp.2 he hc (hk.pinC hF hpc) hst fun a2 w2 own2 hd2 hst2=>hQ a2 w2 own2 (hd2.trans hk) hst2
  unfold wpList
  split at hok
  ·rename_i hw
   rw [if_pos hw]
   exact .inl hok
  ·rename_i hw
   rw [if_neg hw]
   exact hok
theorem qnF {listed:Array Bool} (h:listed.toList.countP (fun b=> !b)=0) {i:Nat} (hi:i<listed.size):listed.getD i false=true:=by
 have:=List.countP_eq_zero.1 h listed[i] (by simp)
 rw [Array.getD_eq_getD_getElem?,Array.getElem?_eq_getElem hi]
 simpa using this
theorem qqd (hE:qbg E C.P) {pin:List Nat} (hF:qlk E C pin) {ops:Array Oper} {Q:Exit→Act→World→Prop} {fl0 fl:List qdA} {c:List Bool} {a0:Act} (hp:qjZ pin ops.toList=true) (hd:qpj E ops σ ops.toList fl0 c) (hus:fl.map (·.us)=fl0.map (·.us)) (hsoft:∀(i:Nat) (o:Oper) (f f':qdA),ops.toList[i]? =some o→fl0[i]? =some f→fl[i]? =some f'→f'.rd=f.rd∨∃s,qeY o=some s∧(qm0 σ fl0 s||qk2 E.pins σ fl0 s)=true) (hg:qgu ops.toList fl [] []=true) (hc:qcy c) (hpc:qps C a0.tmps)
  (hQ:∀a' w' own',qcT pin a0 a'→qI C (qdt fl σ) a'.tmps w' own'→Q .normal a' w'):∀(fuel:Nat) (listed:Array Bool) (a:Act) (w:World) (own:Nat→List Nat),listed.size=ops.size→listed.toList.countP (fun b=> !b)=fuel→qiV ops (fun i=>listed.getD i false)→qcT pin a0 a→
   qI C (qbI (fun i=>listed.getD i false) 0 fl σ) a.tmps w own→wpAny C.P .any ops Q fuel listed a w:=by
 have hlen0:fl0.length=ops.size:=by have:=hd.1; simpa using this
 have hlen:fl.length=ops.size:=by have:=congrArg List.length hus; simp only [List.length_map] at this; omega
 have full:∀ {listed:Array Bool},(∀i,i<ops.size→listed.getD i false=true)→qbI (fun i=>listed.getD i false) 0 fl σ=qdt fl σ:=by
  intro listed hall
  have hb:=qcc fl 0 fl.length σ
  rw [List.take_length] at hb
  rw [←hb]
  apply qkD
  ·rw [qbb,qbb]
  ·intro s
   refine qcF fl 0 rfl rfl fun k g hg _=> ?_
   have:=(List.getElem?_eq_some_iff.1 hg).1
   rw [hall (0+k) (by omega),decide_eq_true (by omega)]
 intro fuel
 induction fuel with
 |zero=>
  intro listed a w own hs hcnt hcl hk hst
  have hall:∀i,i<ops.size→listed.getD i false=true:=fun i hi=>qnF hcnt (by omega)
  refine ⟨?_,hQ a w own hk (by rw [full hall] at hst; exact hst)⟩
  cases hr:Region.ready .any ops listed with
  |nil=>rfl
  |cons i r=>
   obtain ⟨h1,h2,_⟩:=qgt (ops:=ops) (listed:=listed) (i:=i) (by rw [hr]; exact List.mem_cons_self)
   have h3:=hall i h1
   rw [Array.getD_eq_getD_getElem?,Array.getElem?_eq_getElem (by omega)] at h2 h3
   simp only [Option.getD_some] at h2 h3
   rw [h2] at h3
   cases h3
 |succ fuel ih=>
  intro listed a w own hs hcnt hcl hk hst
  refine ⟨fun hr=> ?_,fun i hi=> ?_⟩
  ·have hall:∀i,i<ops.size→listed.getD i false=true:=by
    intro i
    induction i using Nat.strongRecOn with
    |ind i ihi=>
     intro hi
     cases hb:listed.getD i false with
     |true=>rfl
     |false=>
      have ho:ops[i]? =some ops[i]:=Array.getElem?_eq_getElem hi
      obtain ⟨_,M,hM⟩:=qjX hg
      obtain ⟨q1,_,_⟩:=hM i _ _ ho (List.getElem?_eq_getElem (by omega))
      have hb':listed.getD i true=false:=by
       rw [Array.getD_eq_getD_getElem?,Array.getElem?_eq_getElem (by omega)] at hb⊢
       exact hb
      have:=qjI ho hb' fun j hj=>ihi j (q1 j hj) (by have:=q1 j hj; omega)
      rw [hr] at this
      cases this
   exact hQ a w own hk (by rw [full hall] at hst; exact hst)
  ·obtain ⟨h1,h2,o,ho,he⟩:=qgt hi
   have hf:fl[i]? =some fl[i]:=List.getElem?_eq_getElem (by omega)
   have hn:listed.getD i false=false:=by
    rw [Array.getD_eq_getD_getElem?,Array.getElem?_eq_getElem (by omega)] at h2⊢
    exact h2
   have hf0:fl0[i]? =some fl0[i]:=List.getElem?_eq_getElem (by omega)
   obtain ⟨g,f,k1,k2,k3,k4,k5⟩:=hd.2 i o _ (by simpa using ho) hf0
   have hui:(fl[i]).us=f.upd:=by
    have h1:(fl.map (·.us))[i]? =(fl0.map (·.us))[i]? :=by rw [hus]
    simp only [List.getElem?_map,hf,hf0,Option.map_some,Option.some.injEq] at h1
    rw [h1,k3]
   have hta:qdt (fl0.take i) σ=qdt (fl.take i) σ:=qjC _ _ (by rw [List.map_take,List.map_take,hus]) σ
   have hrun:(qeC E g o).run (qh (qbI (fun i=>listed.getD i false) 0 fl σ))=some f:=by
    rw [←k2]
    rcases hsoft i o _ _ (by simpa using ho) hf0 hf with hrd|⟨s,hs1,hs2⟩
    ·rw [hta]
     rw [hta] at k3
     refine Go.Vi.Q.run_congr _ fun s hs=>qjY hg hcl ho hf hn he (.inl ?_)
     rw [hrd,k3]
     exact hs
    ·have hgn:=qpe hs1 k1
     subst hgn
     rcases Bool.or_eq_true_iff.1 hs2 with hs2|hs2
     ·simp only [qm0,Bool.and_eq_true] at hs2
      obtain ⟨a1,a2⟩:=qfb (S:=fun i=>listed.getD i false) fl0 0 hs2.1 hs2.2
      obtain ⟨b1,b2⟩:=qfb (S:=fun k=>decide (k<0+i)) fl0 0 hs2.1 hs2.2
      rw [qi8 _ fl0 fl hus.symm] at a1 a2
      rw [qcc fl0 0 i σ] at b1 b2
      exact qol hs1 b2 a2 (a1.trans b1.symm)
     ·simp only [qk2,Bool.and_eq_true] at hs2
      have a2:=qgc (S:=fun i=>listed.getD i false) fl0 0 hs2.2.1 hs2.2.2
      have b2:=qgc (S:=fun k=>decide (k<0+i)) fl0 0 hs2.2.1 hs2.2.2
      rw [qi8 _ fl0 fl hus.symm] at a2
      rw [qcc fl0 0 i σ] at b2
      exact qqe hs1 hs2.1 b2 a2
   have hok:=qlp hE hF (hk.pinC hF hpc) hst k1 hrun (fun u hu=>by rw [qbb]; exact k4 u hu) (fun b hb=>hc b (k5 b hb)) (wpAny C.P .any ops Q fuel (listed.setIfInBounds i true)) Q fun a' w' own' hkd hst'=> ?_
   ·unfold wpOp
    rw [ho]
    simp only
    split at hok
    ·rename_i hw
     rw [if_pos hw]
     exact .inl hok
    ·rename_i hw
     rw [if_neg hw]
     exact hok
   ·have hset:∀j,(listed.setIfInBounds i true).getD j false=if j=i then true else listed.getD j false:=by
     intro j
     simp only [Array.getD_eq_getD_getElem?,Array.getElem?_setIfInBounds]
     by_cases hj:j=i
     ·subst hj
      simp [hs,h1]
     ·rw [if_neg (fun e=>hj e.symm),if_neg hj]
    refine ih _ a' w' own' (by simpa using hs) ?_ ?_ ?_ ?_
    ·rw [Array.toList_setIfInBounds,List.countP_set (by simp; omega),hcnt]
     have hb:listed.toList[i]'(by simp; omega)=false:=by
      rw [Array.getD_eq_getD_getElem?,Array.getElem?_eq_getElem (by omega)] at hn
      simpa using hn
     rw [hb]
     simp
    ·intro j oj hoj hSj k hkk
     simp only [hset] at hSj⊢
     split
     ·rfl
     ·by_cases hji:j=i
      ·subst hji
       rw [ho] at hoj
       injection hoj with hoj
       subst hoj
       exact he k hkk
      ·rw [if_neg hji] at hSj
       exact hcl j oj hoj hSj k hkk
    ·refine qcT.trans ⟨hkd.1,fun s hs=>hkd.2 s fun e=> ?_⟩ hk
     have:=List.all_eq_true.1 hp o (by have:=Array.mem_of_getElem? ho; simpa using this)
     exact qeh this s (by simp [e]) hs
    ·have e:=qmh (σ:=σ) hg (S':=fun j=>(listed.setIfInBounds i true).getD j false) hcl ho hf hn he (by simp [hset]) (fun j hj=>by simp [hset,hj])
     rw [e]
     rw [hui]
     exact hst'
theorem qg3 (hE:qbg E C.P) {pin wr:List Nat} (hF:qlk E C pin) {id:Nat} {ops:Array Oper} {d:Bool} {Q:Exit→Act→World→Prop} {σ':St} {c:List Bool} {ds:List Nat} (hp:qjZ pin ops.toList=true) (he:qcH E wr ops d σ=some (σ',c,ds)) (hc:qcy c) (hpc:qps C a.tmps) (h:qI C σ a.tmps w own)
  (hQ:∀a' w' own',qcT pin a a'→qI C σ' a'.tmps w' own'→Q .normal a' w'):(Code.region id ops d).wp C.P Q a w:=by
 unfold qcH at he
 split at he
 case h_2=>cases he
 rename_i σ1 c1 fs h1
 split at he
 case isFalse=>cases he
 rename_i hd
 injection he with he
 simp only [Prod.mk.injEq] at he
 obtain ⟨rfl,rfl,rfl⟩:=he
 cases d with
 |false=>exact wp_region_list (qj7 hE hF ops.toList hp h1 hc hpc h hQ)
 |true=>
  obtain ⟨fl,g1,g2,g3,_⟩:=qif ops.toList h1
  have hfs:fs.reverse=fl:=by rw [g1]; simp
  rw [hfs] at hd
  have hd:qgu ops.toList (qhd E.pins σ fl ops.toList fl) [] []=true:=by simpa using hd
  have hsu:=qlH E.pins σ fl ops.toList fl g2.1
  refine wp_region_any hE.mixed (qqd hE hF (a0:=a) hp g2 hsu (qlG E.pins σ fl ops.toList fl g2.1) hd hc hpc (by rw [qjC _ _ hsu,←g3]; exact hQ) _ _ _ _ own (by simp) (by simp [List.countP_replicate]) (fun i o ho hS=> ?_) (qcT.refl _ _) ?_)
  ·simp [Array.getD_eq_getD_getElem?,Array.getElem?_replicate] at hS
   split at hS <;> simp at hS
  ·have e:qbI (fun i=>(Array.replicate ops.size false).getD i false) 0 (qhd E.pins σ fl ops.toList fl) σ=σ:=by
    have:(fun i=>(Array.replicate ops.size false).getD i false)=fun _=>false:=by
     funext i
     simp only [Array.getD_eq_getD_getElem?,Array.getElem?_replicate]
     split <;> rfl
    rw [this,qgz]
   rw [e]
   exact h.drew
theorem qhk {wr:List Nat} {ops:Array Oper} {d:Bool} {σ':St} {c:List Bool} {ds:List Nat} (he:qcH E wr ops d σ=some (σ',c,ds)):Fr wr σ σ'∧qqF σ σ'∧Fr ds σ σ':=by
 unfold qcH at he
 split at he
 case h_2=>cases he
 rename_i σ1 c1 fs h1
 split at he
 case isFalse=>cases he
 injection he with he
 simp only [Prod.mk.injEq] at he
 obtain ⟨rfl,rfl,rfl⟩:=he
 obtain ⟨k1,k2,_,_,k5⟩:=qhQ ops.toList h1
 exact ⟨k1,k2,k5⟩
theorem qjw (b:Bool) (σ1 σ2:St):(ds:List Nat)→(σ:St)→(qie b ds σ σ1 σ2).length=σ.length∧∀s,(s∈ds∧s<σ.length→qh (qie b ds σ σ1 σ2) s=(max (qh σ1 s).1 (qh σ2 s).1+1,qeQ b (qh σ1 s).2 (qh σ2 s).2))∧(¬(s∈ds∧s<σ.length)→qh (qie b ds σ σ1 σ2) s=qh σ s)
 |[],σ=>⟨rfl,fun s=>⟨fun h=>(by cases h.1),fun _=>rfl⟩⟩
 |d::ds,σ=>by
  obtain ⟨h1,h2⟩:=qjw b σ1 σ2 ds (σ.set d (max (qh σ1 d).1 (qh σ2 d).1+1,qeQ b (qh σ1 d).2 (qh σ2 d).2))
  have e:qie b (d::ds) σ σ1 σ2=qie b ds (σ.set d (max (qh σ1 d).1 (qh σ2 d).1+1,qeQ b (qh σ1 d).2 (qh σ2 d).2)) σ1 σ2:=rfl
  rw [e]
  refine ⟨by rw [h1]; simp,fun s=> ?_⟩
  obtain ⟨k1,k2⟩:=h2 s
  rw [List.length_set] at k1 k2
  by_cases hs:s∈ds∧s<σ.length
  ·exact ⟨fun _=>k1 hs,fun hn=>absurd ⟨List.mem_cons_of_mem _ hs.1,hs.2⟩ hn⟩
  ·rw [k2 hs,qf8]
   by_cases hd:s=d∧d<σ.length
   ·rw [if_pos hd]
    obtain ⟨rfl,hd⟩:=hd
    exact ⟨fun _=>rfl,fun hn=>absurd ⟨List.mem_cons_self,hd⟩ hn⟩
   ·rw [if_neg hd]
    refine ⟨fun hn=> ?_,fun _=>rfl⟩
    rcases List.mem_cons.1 hn.1 with rfl|hm
    ·exact absurd ⟨rfl,hn.2⟩ hd
    ·exact absurd ⟨hm,hn.2⟩ hs
theorem qI.join {b:Bool} {ds:List Nat} {σ1 σ2:St} (h:qI C (bif b then σ1 else σ2) tm w own) (h1:Fr ds σ σ1) (h2:Fr ds σ σ2):qI C (qie b ds σ σ1 σ2) tm w own:=by
 obtain ⟨j1,j2⟩:=qjw b σ1 σ2 ds σ
 have hf:Fr ds σ (bif b then σ1 else σ2):=by cases b <;> assumption
 have zero:∀ {ρ:St} {s:Nat},ρ.length=σ.length→¬s<σ.length→qh ρ s=(0,.undef):=fun {ρ s} hl hs=>by simp [qh,List.getD,List.getElem?_eq_none (show ρ.length≤s by omega)]
 refine h.retag (j1.trans hf.1.symm) (fun s=>s∈ds∧s<σ.length) (fun s hs=> ?_) (fun s hs=> ?_) (fun s m _ hm hb=> ?_)
 ·rw [(j2 s).2 hs]
  by_cases hd:s∈ds
  ·have hl:¬s<σ.length:=fun hl=>hs ⟨hd,hl⟩
   rw [zero rfl hl,zero hf.1 hl]
  ·exact (hf.2 s hd).symm
 ·rw [(j2 s).1 hs]
  have e:(qh (bif b then σ1 else σ2) s).2=bif b then (qh σ1 s).2 else (qh σ2 s).2:=by cases b <;> rfl
  refine ⟨?_,fun v hv=> ?_⟩
  ·exact (qkf (X:=sit C (bif b then σ1 else σ2) tm w own) b (by rw [←e]; exact h.at_ s)).2
  ·rw [e] at hv
   exact (qkf b hv).1
 ·rw [(j2 m.1).1 hb]
  have:=h.wf s m hm
  have:m.2≤max (qh σ1 m.1).1 (qh σ2 m.1).1:=by
   cases b
   ·exact Nat.le_trans this (Nat.le_max_right _ _)
   ·exact Nat.le_trans this (Nat.le_max_left _ _)
  show m.2<_+1
  omega
theorem qln {b:Bool} {ds wr:List Nat} {σ1 σ2:St} (h:∀s∈ds,s∈wr):Fr wr σ (qie b ds σ σ1 σ2):=by
 obtain ⟨j1,j2⟩:=qjw b σ1 σ2 ds σ
 exact ⟨j1,fun s hs=>(j2 s).2 fun hn=>hs (h s hn.1)⟩
end
end Go.Vi
namespace Go.Vi
open Go.RowKit
theorem qI.refillB {C:Ctx} {σ:St} {tm:Array Value} {w:World} {own:Nat→List Nat} (h:qI C σ tm w own) {s t1:Nat} {c c':BC} {o v0 v1 et:Nat} {e:Ty} {xs:List e.den} (hs:(qh σ s).2= .bhl c o t1 v0) (hgt:qh σ t1=(v1,.own et e xs)) (hv:v1=v0) (hne:t1≠s)
  (hsw:c.swap o (.own et e xs)=some c'):∃own',qI C (qf σ [⟨s,false,.box c'⟩,⟨t1,true,.undef⟩]) tm w own':=by
 subst hv
 have hat:=h.at_ s
 rw [hs] at hat
 obtain ⟨b,cs,te,b1,b3,hv,h1,h2,h3,h4,h5,h6⟩:=hat
 have hrt:=h.at_ t1
 rw [hgt] at hrt
 have hrt:qL w (C.free w own) et e xs (tm.getD t1 undef) (own t1):=hrt
 have h6:tm.getD t1 undef=hv:=h6 (show (qh σ t1).1=v1 by rw [hgt])
 have h1:tm.getD s undef=ptr b 0:=h1
 have h5:own s=b::(b1++b3):=h5
 have lt:∀ {x:Nat},(qh σ x).2≠ .undef→x<σ.length:=fun {x} hx=>by
  by_cases hlt:x<σ.length
  ·exact hlt
  ·exact absurd (by simp [qh,List.getD,List.getElem?_eq_none (Nat.le_of_not_lt hlt)]) hx
 have hsl:s<σ.length:=lt (by rw [hs]; simp)
 have htl:t1<σ.length:=lt (by rw [hgt]; simp)
 let nbS:List Nat:=b::(b1++(own t1++b3))
 have hperm:nbS.Perm (own s++own t1):=by
  rw [h5]
  refine List.perm_iff_count.2 fun x=> ?_
  simp only [nbS,List.count_append,List.count_cons]
  omega
 have hnn:(own s++own t1).Nodup:=List.nodup_append.2 ⟨h.nodup s,h.nodup t1,fun b hb b' hb' e=>by subst e; exact hne (h.apart t1 s b hb' hb)⟩
 let nb:Nat→List Nat:=fun x=>if x=s then nbS else []
 have nS:nb s=nbS:=by simp [nb]
 have nX:nb t1=[]:=by simp [nb,hne]
 have mem:∀u:U,u∈([⟨s,false,.box c'⟩,⟨t1,true,.undef⟩]:List U)→u=⟨s,false,.box c'⟩∨u=⟨t1,true,.undef⟩:=fun u hu=>by simpa using hu
 refine Exists.elim (h.multi (tm':=tm) (w':=w) [⟨s,false,.box c'⟩,⟨t1,true,.undef⟩] nb (by simp [Ne.symm hne]) (fun u hu=> ?_) rfl (fun _ _=>rfl) (fun u hu=> ?_) (qcl.refl _ _) (fun u hu=> ?_) (fun u hu u' hu' b hb hb'=> ?_) (fun X' hP hpn hw hF hF2 hver htm u hu=> ?_) (fun u hu m hm=> ?_)) fun own' hfin=>⟨own',hfin.1⟩
 ·rcases mem u hu with rfl|rfl
  ·exact hsl
  ·exact htl
 ·rcases mem u hu with rfl|rfl
  ·refine .inr ⟨rfl,fun b hb hp=>⟨?_,rfl⟩⟩
   show b∈nb s
   rw [nS]
   exact hperm.mem_iff.2 (List.mem_append_left _ hb)
  ·exact .inl rfl
 ·rcases mem u hu with rfl|rfl
  ·simp only [nS]
   refine ⟨fun b hb=> ?_,hperm.nodup_iff.2 hnn⟩
   rcases List.mem_append.1 (hperm.mem_iff.1 hb) with hb|hb
   ·exact .inr ⟨⟨s,false,.box c'⟩,by simp,hb⟩
   ·exact .inr ⟨⟨t1,true,.undef⟩,by simp,hb⟩
  ·simp only [nX]
   exact ⟨(fun b hb=>by cases hb),List.nodup_nil⟩
 ·rcases mem u hu with rfl|rfl <;> rcases mem u' hu' with rfl|rfl
  ·rfl
  ·simp only [nX] at hb'; cases hb'
  ·simp only [nX] at hb; cases hb
  ·rfl
 ·rcases mem u hu with rfl|rfl
  ·simp only [nS]
   refine ⟨b,cs,b1++(own t1++b3),te,h1,by rw [hw]; exact h2,?_,rfl⟩
   rw [hw]
   refine h4 (.own et e xs) c' (own t1) (fun x hx hlt=>⟨hF x hx,hlt,rfl⟩) (fun _ _ _=>rfl) hsw ⟨hv,rfl,?_⟩
   rw [←h6]
   exact hrt.keep (fun b hb hlt=>⟨hF b hb,hlt,rfl⟩) (fun _ _ _=>rfl)
  ·trivial
 ·rcases mem u hu with rfl|rfl <;> cases hm
theorem qI.refill {C:Ctx} {σ:St} {tm:Array Value} {w:World} {own:Nat→List Nat} (h:qI C σ tm w own) {s t:Nat} {a':AV} (hr:qmd σ s=some (a',t)):∃own',qI C (qf σ [⟨s,false,a'⟩,⟨t,true,.undef⟩]) tm w own':=by
 unfold qmd at hr
 split at hr
 case h_3=>cases hr
 case h_2=>
  rename_i c o t1 v0 hs
  split at hr
  case h_2=>cases hr
  rename_i v1 et e xs hgt
  split at hr
  case isFalse=>cases hr
  rename_i hcond
  split at hr
  case h_2=>cases hr
  rename_i c' hsw
  injection hr with hr
  simp only [Prod.mk.injEq] at hr
  obtain ⟨rfl,rfl⟩:=hr
  exact h.refillB hs hgt hcond.1 hcond.2 hsw
 rename_i av fo i o1 t1 v0 hs
 split at hr
 case h_2=>cases hr
 rename_i et e xs v1 et' e' ys hrow hgt
 split at hr
 case isFalse=>cases hr
 rename_i hcond
 obtain ⟨hv,hne,hna,hat,hmk,hsub⟩:=hcond
 subst hv
 obtain ⟨y0,hsub⟩:=Option.isSome_iff_exists.1 hsub
 split at hr
 case h_2=>cases hr
 rename_i y hy
 split at hr
 case h_2=>cases hr
 rename_i a2 hsw
 injection hr with hr
 simp only [Prod.mk.injEq] at hr
 obtain ⟨rfl,rfl⟩:=hr
 obtain ⟨g,n,cap,b1,b2,b3,j1,j2,j3,j4,j5,j6,j7,j8⟩:=h.holRow hs hrow
 have hcell:=j5 (by rw [hgt])
 have hrt:=h.at_ t1
 rw [hgt] at hrt
 have hrt:qab w (C.free w own) et' e' ys (tm.getD t1 undef) (own t1):=qL.to0 hmk hrt
 obtain ⟨p,q,w3,w4⟩:=qfo.refill j3 j1 j2 hna hsub hat hy hcell hrt
 have lt:∀ {x:Nat},(qh σ x).2≠ .undef→x<σ.length:=fun {x} hx=>by
  by_cases hlt:x<σ.length
  ·exact hlt
  ·exact absurd (by simp [qh,List.getD,List.getElem?_eq_none (Nat.le_of_not_lt hlt)]) hx
 have hsl:s<σ.length:=lt (by rw [hs]; simp)
 have htl:t1<σ.length:=lt (by rw [hgt]; simp)
 let nbS:List Nat:=b1++((g::(p++(own t1++q)))++b3)
 have hperm:nbS.Perm (own s++own t1):=by
  rw [j6,w3]
  refine List.perm_iff_count.2 fun x=> ?_
  simp only [nbS,List.count_append,List.count_cons]
  omega
 have hnn:(own s++own t1).Nodup:=List.nodup_append.2 ⟨h.nodup s,h.nodup t1,fun b hb b' hb' e=>by subst e; exact hne (h.apart t1 s b hb' hb)⟩
 let nb:Nat→List Nat:=fun x=>if x=s then nbS else []
 have nS:nb s=nbS:=by simp [nb]
 have nX:nb t1=[]:=by simp [nb,hne]
 have mem:∀u:U,u∈([⟨s,false,a2⟩,⟨t1,true,.undef⟩]:List U)→u=⟨s,false,a2⟩∨u=⟨t1,true,.undef⟩:=fun u hu=>by simpa using hu
 refine Exists.elim (h.multi (tm':=tm) (w':=w) [⟨s,false,a2⟩,⟨t1,true,.undef⟩] nb (by simp [Ne.symm hne]) (fun u hu=> ?_) rfl (fun _ _=>rfl) (fun u hu=> ?_) (qcl.refl _ _) (fun u hu=> ?_) (fun u hu u' hu' b hb hb'=> ?_) (fun X' hP hpn hw hF hF2 hver htm u hu=> ?_) (fun u hu m hm=> ?_)) fun own' hfin=>⟨own',hfin.1⟩
 ·rcases mem u hu with rfl|rfl
  ·exact hsl
  ·exact htl
 ·rcases mem u hu with rfl|rfl
  ·refine .inr ⟨rfl,fun b hb hp=>⟨?_,rfl⟩⟩
   show b∈nb s
   rw [nS]
   exact hperm.mem_iff.2 (List.mem_append_left _ hb)
  ·exact .inl rfl
 ·rcases mem u hu with rfl|rfl
  ·simp only [nS]
   refine ⟨fun b hb=> ?_,hperm.nodup_iff.2 hnn⟩
   rcases List.mem_append.1 (hperm.mem_iff.1 hb) with hb|hb
   ·exact .inr ⟨⟨s,false,a2⟩,by simp,hb⟩
   ·exact .inr ⟨⟨t1,true,.undef⟩,by simp,hb⟩
  ·simp only [nX]
   exact ⟨(fun b hb=>by cases hb),List.nodup_nil⟩
 ·rcases mem u hu with rfl|rfl <;> rcases mem u' hu' with rfl|rfl
  ·rfl
  ·simp only [nX] at hb'; cases hb'
  ·simp only [nX] at hb; cases hb
  ·rfl
 ·rcases mem u hu with rfl|rfl
  ·simp only [nS]
   refine (j8 X' (.own et e (qdS xs i y)) (g::(p++(own t1++q))) a2 ?_ hF ⟨_,rfl,?_⟩ hsw).1
   ·rw [hw]; exact qcl.refl _ _
   ·rw [hw]
    exact qfo.keep (fun b hb hlt=>⟨hF b hb,hlt,rfl⟩) (fun _ _ _=>rfl) w4
  ·trivial
 ·rcases mem u hu with rfl|rfl
  ·rw [qfh hsw] at hm; cases hm
  ·cases hm
end Go.Vi
namespace Go.Vi
open Go.RowKit
section
variable {C:Ctx} {E:Env} {σ τ:St} {tm:Array Value} {a:Act} {w w':World} {own:Nat→List Nat} {o:Oper} {p:qfw} [Tabbed E C]
theorem qjV {wr:List Nat} {ops:Array Oper} :(l:List Oper)→ {σ σ':St} → {c c':List Bool} → {fs fs':List qdA} →qcX E wr ops l σ c fs=some (σ',c',fs')→(∀f∈fs,∀s∈f.wr,s∈wr)→∀f∈fs',∀s∈f.wr,s∈wr
 |[],σ,σ',c,c',fs,fs',he,h=>by
  simp only [qcX,Option.some.injEq,Prod.mk.injEq] at he
  obtain ⟨rfl,rfl,rfl⟩:=he
  exact h
 |o::r,σ,σ',c,c',fs,fs',he,h=>by
  simp only [qcX] at he
  split at he
  ·cases he
  rename_i g hg
  split at he
  ·cases he
  rename_i f hf
  split at he
  case isFalse=>cases he
  rename_i hu
  refine qjV r he fun f' hf' s hs=> ?_
  rcases List.mem_cons.1 hf' with rfl|hf'
  ·obtain ⟨u,hm,rfl⟩:=List.mem_map.1 hs
   have:=List.all_eq_true.1 hu u hm
   simp at this
   exact this.1
  ·exact h f' hf' s hs
theorem qhx {wr:List Nat} {ops:Array Oper} {d:Bool} {σ':St} {c:List Bool} {ds:List Nat} (he:qcH E wr ops d σ=some (σ',c,ds)):∀s∈ds,s∈wr:=by
 unfold qcH at he
 split at he
 case h_2=>cases he
 rename_i σ1 c1 fs h1
 split at he
 case isFalse=>cases he
 injection he with he
 simp only [Prod.mk.injEq] at he
 obtain ⟨rfl,rfl,rfl⟩:=he
 intro s hs
 obtain ⟨f,hf,hs⟩:=List.mem_flatMap.1 hs
 exact qjV ops.toList h1 (fun f hf=>by cases hf) f hf s hs
theorem qpo (hpc:qps C a.tmps) (h:qI C σ a.tmps w own) {c:Operand} {x:Bool} {ow:List Nat} (he:Q.run (qh σ) ((opd E [] 0 c).bind qjD)=some ⟨.bool,x,ow⟩):a.eval c= .bool x:=by
 obtain ⟨o1,h1,h2⟩:=Q.bind_some he
 exact qal.bool (qcB h (qaj h ⟨hpc,fun q hq=>by cases hq⟩ h1) h2)
theorem qoi {σ:St} {own:Nat→List Nat} (l:List Nat) (s:Nat) (h:qI C σ tm w own):∃own',qI C (qoJ l σ s) tm w own':=by
 unfold qoJ
 split
 ·rename_i av t hr
  split
  ·exact h.refill hr
  ·exact ⟨own,h⟩
 ·exact ⟨own,h⟩
theorem qoA {wr l:List Nat} {σ:St} {s:Nat} (hl:∀t∈l,t∈wr) (hs:s∈wr):Fr wr σ (qoJ l σ s):=by
 unfold qoJ
 split
 ·rename_i av t hr
  split
  ·rename_i ht
   refine qc9 _ fun u hu=> ?_
   rcases List.mem_cons.1 hu with rfl|hu
   ·exact hs
   ·rw [List.mem_singleton.1 hu]
    exact hl t (by simpa using ht)
  ·exact Fr.refl _ _
 ·exact Fr.refl _ _
theorem qn2 (l0:List Nat):(l:List Nat)→ {σ:St} → {own:Nat→List Nat} →qI C σ tm w own→∃own',qI C (l.foldl (qoJ l0) σ) tm w own'
 |[],_,own,h=>⟨own,h⟩
 |s::l,σ,own,h=>by
  obtain ⟨own1,h1⟩:=qoi l0 s h
  exact qn2 l0 l h1
theorem qpL (l:List Nat) {σ:St} {own:Nat→List Nat} (h:qI C σ tm w own):∃own',qI C (qqb l σ) tm w own':=qn2 l l h
theorem qos {wr l0:List Nat} (hl:∀t∈l0,t∈wr):(l:List Nat)→ {σ:St} →(∀s∈l,s∈wr)→Fr wr σ (l.foldl (qoJ l0) σ)
 |[],σ,_=>Fr.refl _ _
 |s::l,σ,h=>(qoA hl (h s List.mem_cons_self)).trans (qos hl l fun s' hs=>h s' (List.mem_cons_of_mem _ hs))
theorem qpZ {wr:List Nat} (l:List Nat) {σ:St} (h:∀s∈l,s∈wr):Fr wr σ (qqb l σ):=qos h l h
theorem qe0:(l:List Nat)→ {σ:St} → {own:Nat→List Nat} →qI C σ tm w own→∃own',qI C (qf6 l σ) tm w own'
 |[],_,own,h=>⟨own,h⟩
 |s::l,σ,own,h=>by
  obtain ⟨own1,h1,_⟩:=h.freeze s
  exact qe0 l h1
theorem qfa {wr:List Nat} :(l:List Nat)→ {σ:St} →(∀s∈l,s∈wr)→Fr wr σ (qf6 l σ)
 |[],σ,_=>Fr.refl _ _
 |s::l,σ,h=>by
  have h1:Fr wr σ (qf σ [⟨s,false,(qh σ s).2.freeze⟩]):=qc9 _ fun u hu=>by
   rw [List.mem_singleton.1 hu]
   exact h s List.mem_cons_self
  exact h1.trans (qfa l fun s' hs=>h s' (List.mem_cons_of_mem _ hs))
theorem qnt {σ:St} {own:Nat→List Nat} (s:Nat) (h:qI C σ tm w own):∃own',qI C (qiL σ s) tm w own':=by
 unfold qiL
 split
 ·rename_i t x hs
  obtain ⟨own',h1,_⟩:=h.expose (u:=t) (x:=x) (f:=false) hs rfl (by simp [BC.get,Ty.sub_self])
  exact ⟨own',h1⟩
 ·exact ⟨own,h⟩
theorem qi0:(l:List Nat)→ {σ:St} → {own:Nat→List Nat} →qI C σ tm w own→∃own',qI C (qiu l σ) tm w own'
 |[],_,own,h=>⟨own,h⟩
 |s::l,σ,own,h=>by
  obtain ⟨own1,h1⟩:=qnt s h
  exact qi0 l h1
theorem qiZ {wr:List Nat} :(l:List Nat)→ {σ:St} →(∀s∈l,s∈wr)→Fr wr σ (qiu l σ)
 |[],σ,_=>Fr.refl _ _
 |s::l,σ,h=>by
  have h1:Fr wr σ (qiL σ s):=by
   unfold qiL
   split
   ·rename_i t x _
    exact qc9 [⟨s,true,.view t x 0⟩] fun u hu=>by
     rw [List.mem_singleton.1 hu]
     exact h s List.mem_cons_self
   ·exact Fr.refl _ _
  exact h1.trans (qiZ l fun s' hs=>h s' (List.mem_cons_of_mem _ hs))
theorem qhp {σ1 σ2:St} :(l:List Nat)→∀s∈qjQ σ1 σ2 l,s∈l
 |[],s,h=>h
 |x::l,s,h=>by
  simp only [qjQ] at h
  split at h
  ·rcases List.mem_cons.1 h with rfl|h
   ·exact List.mem_cons_self
   ·exact List.mem_cons_of_mem _ (qhp l s h)
  ·exact List.mem_cons_of_mem _ (qhp l s h)
theorem qq4 (p:Nat×qc7) {σ:St} {own:Nat→List Nat} (h:qI C σ tm w own):∃own',qI C (fix1 p σ) tm w own':=by
 unfold fix1
 split
 ·exact h.refit p.2 p.1
 ·exact ⟨own,h⟩
theorem qmc (wr:List Nat):(l:List (Nat×qc7))→ {σ:St} → {own:Nat→List Nat} →qI C σ tm w own→∃own',qI C (qqJ wr l σ) tm w own'
 |[],_,own,h=>⟨own,h⟩
 |p::l,σ,own,h=>by
  obtain ⟨own1,h1⟩:=qoi wr p.1 h
  obtain ⟨own2,h2⟩:=qq4 p h1
  exact qmc wr l h2
theorem qmr {wr:List Nat} : {l:List (Nat×qc7)} → {σ:St} →(h:∀q∈l,q.1∈wr)→Fr wr σ (qqJ wr l σ)
 |[],σ,_=>Fr.refl _ _
 |p::l,σ,h=>by
  have h1:Fr wr σ (qoJ wr σ p.1):=qoA (fun t ht=>ht) (h p List.mem_cons_self)
  have h2:Fr wr (qoJ wr σ p.1) (fix1 p (qoJ wr σ p.1)):=by
   unfold fix1
   split
   ·exact qc9 [⟨p.1,false,_⟩] fun u hu=>by
     rw [List.mem_singleton.1 hu]
     exact h p List.mem_cons_self
   ·exact Fr.refl _ _
  exact (h1.trans h2).trans (qmr fun q hq=>h q (List.mem_cons_of_mem _ hq))
theorem qph {frz:List (Nat×List Nat)} {wr:List Nat} {id:Nat} {ops:Array Oper} {d:Bool} {σ':St} {c:List Bool} {ds:List Nat} (he:regE E frz wr id ops d σ=some (σ',c,ds)):Fr wr σ σ'∧Fr ds σ σ'∧∀s∈ds,s∈wr:=by
 unfold regE at he
 split at he
 ·obtain ⟨h1,_,h3⟩:=qhk he
  exact ⟨h1,h3,qhx he⟩
 ·rename_i fz _
  split at he
  case isFalse=>cases he
  rename_i hall
  split at he
  case h_2=>cases he
  rename_i σ1 c1 d1 h1
  injection he with he
  simp only [Prod.mk.injEq] at he
  obtain ⟨rfl,rfl,rfl⟩:=he
  obtain ⟨g1,_,g3⟩:=qhk h1
  simp only [Bool.and_eq_true] at hall
  have hsub:∀s∈qbS frz (some (id+3000000000))++qbS frz (some id),s∈wr:=fun s hs=>by
   have:=List.all_eq_true.1 hall.1 s hs
   simpa using this
  have hex:∀s∈qbS frz (some (id+2000000000)),s∈qbS frz (some (id+3000000000))++qbS frz (some id):=fun s hs=>by
   have:=List.all_eq_true.1 hall.2 s hs
   simpa using this
  have fz:∀W:List Nat,(∀s∈qbS frz (some (id+3000000000))++qbS frz (some id),s∈W)→Fr W σ (qiu (qbS frz (some (id+2000000000))) (qf6 (qbS frz (some id)) (qqb (qbS frz (some (id+3000000000))) σ))):=fun W hW=>
   ((qpZ _ fun s hs=>hW s (List.mem_append_left _ hs)).trans (qfa _ fun s hs=>hW s (List.mem_append_right _ hs))).trans (qiZ _ fun s hs=>hW s (hex s hs))
  refine ⟨(fz wr hsub).trans g1,(fz _ fun s hs=>List.mem_append_left _ hs).trans (g3.mono fun s hs=>List.mem_append_right _ hs),fun s hs=> ?_⟩
  rcases List.mem_append.1 hs with hs|hs
  ·exact hsub s hs
  ·exact qhx h1 s hs
theorem qox (hE:qbg E C.P) {pin:List Nat} (hF:qlk E C pin) {frz:List (Nat×List Nat)} {wr:List Nat} {id:Nat} {ops:Array Oper} {d:Bool} {Q:Exit→Act→World→Prop} {σ':St} {c:List Bool} {ds:List Nat} (hp:qjZ pin ops.toList=true) (he:regE E frz wr id ops d σ=some (σ',c,ds)) (hc:qcy c) (hpc:qps C a.tmps) (h:qI C σ a.tmps w own)
  (hQ:∀a' w' own',qcT pin a a'→qI C σ' a'.tmps w' own'→Q .normal a' w'):(Code.region id ops d).wp C.P Q a w:=by
 unfold regE at he
 split at he
 ·exact qg3 hE hF hp he hc hpc h hQ
 ·split at he
  case isFalse=>cases he
  split at he
  case h_2=>cases he
  rename_i σ1 c1 d1 h1
  injection he with he
  simp only [Prod.mk.injEq] at he
  obtain ⟨rfl,rfl,rfl⟩:=he
  obtain ⟨own0,hst0⟩:=qpL (qbS frz (some (id+3000000000))) h
  obtain ⟨own1,hst⟩:=qe0 (qbS frz (some id)) hst0
  obtain ⟨own2,hst2⟩:=qi0 (qbS frz (some (id+2000000000))) hst
  exact qg3 hE hF hp h1 hc hpc hst2 hQ
theorem qgD {frz:List (Nat×List Nat)} {wr:List Nat} :(c:Code)→ {σ σ':St} → {ch:List Bool} → {ds:List Nat} →qnR E frz wr c σ=some (σ',ch,ds)→Fr wr σ σ'∧Fr ds σ σ'∧∀s∈ds,s∈wr
 | .skip,σ,σ',ch,ds,he=>by
  simp only [qnR,Option.some.injEq,Prod.mk.injEq] at he
  obtain ⟨rfl,rfl,rfl⟩:=he
  exact ⟨Fr.refl _ _,Fr.refl _ _,fun s hs=>by cases hs⟩
 | .region _ ops d,σ,σ',ch,ds,he=>by
  exact qph he
 | .seq x y,σ,σ',ch,ds,he=>by
  simp only [qnR] at he
  split at he
  case h_2=>cases he
  rename_i σ1 c1 d1 h1
  split at he
  case h_2=>cases he
  rename_i σ2 c2 d2 h2
  injection he with he
  simp only [Prod.mk.injEq] at he
  obtain ⟨rfl,rfl,rfl⟩:=he
  obtain ⟨g1,g2,g3⟩:=qgD x h1
  obtain ⟨k1,k2,k3⟩:=qgD y h2
  refine ⟨g1.trans k1,(g2.mono fun s hs=>List.mem_append_left _ hs).trans (k2.mono fun s hs=>List.mem_append_right _ hs),fun s hs=> ?_⟩
  rcases List.mem_append.1 hs with hs|hs
  ·exact g3 s hs
  ·exact k3 s hs
 | .cond c x y,σ,σ',ch,ds,he=>by
  simp only [qnR] at he
  split at he
  case h_2=>cases he
  split at he
  case h_2=>cases he
  rename_i σ1 c1 d1 σ2 c2 d2 h1 h2
  injection he with he
  simp only [Prod.mk.injEq] at he
  obtain ⟨rfl,rfl,rfl⟩:=he
  obtain ⟨g1,g2,g3⟩:=qgD x h1
  obtain ⟨k1,k2,k3⟩:=qgD y h2
  have hsub:∀s∈d1++d2,s∈wr:=fun s hs=>by
   rcases List.mem_append.1 hs with hs|hs
   ·exact g3 s hs
   ·exact k3 s hs
  exact ⟨qln hsub,qln fun s hs=>hs,hsub⟩
 | .label _,_,_,_,_,he=>by cases he
 | .block _ _,_,_,_,_,he=>by cases he
 | .loop _,_,_,_,_,he=>by cases he
 | .exit _,_,_,_,_,he=>by cases he
 | .goto _,_,_,_,_,he=>by cases he
 | .ret,_,_,_,_,he=>by cases he
theorem qmy {b:Bool} {c d:List Bool} (h:qcy (qml b c d)):qcy (bif b then c else d):=by
 unfold qml at h
 split at h
 ·cases b <;> exact fun x hx=>by cases hx
 ·have:=h _ (List.mem_singleton.2 rfl)
  cases b
  ·exact qiy this
  ·exact qiy this
theorem qjg (hE:qbg E C.P) {frz:List (Nat×List Nat)} {pin wr:List Nat} (hF:qlk E C pin):(c:Code)→qg5 pin c=true→ {σ σ':St} → {ch:List Bool} → {ds:List Nat} → {Q1:Exit→Act→World→Prop} → {a:Act} → {w:World} → {own:Nat→List Nat} →qnR E frz wr c σ=some (σ',ch,ds)→qcy ch→qps C a.tmps→qI C σ a.tmps w own→
  (∀a' w' own',qcT pin a a'→qI C σ' a'.tmps w' own'→Q1 .normal a' w')→c.wp C.P Q1 a w
 | .skip,hp,σ,σ',ch,ds,Q1,a,w,own,he,_,hpc,h,hQ=>by
  simp only [qnR,Option.some.injEq,Prod.mk.injEq] at he
  obtain ⟨rfl,rfl,rfl⟩:=he
  exact wp_skip (hQ a w own (qcT.refl _ _) h)
 | .region _ ops d,hp,σ,σ',ch,ds,Q1,a,w,own,he,hc,hpc,h,hQ=>qox hE hF hp he hc hpc h hQ
 | .seq x y,hp,σ,σ',ch,ds,Q1,a,w,own,he,hc,hpc,h,hQ=>by
  simp only [qnR] at he
  split at he
  case h_2=>cases he
  rename_i σ1 c1 d1 h1
  split at he
  case h_2=>cases he
  rename_i σ2 c2 d2 h2
  injection he with he
  simp only [Prod.mk.injEq] at he
  obtain ⟨rfl,rfl,rfl⟩:=he
  simp only [qg5,Bool.and_eq_true] at hp
  refine wp_seq (qjg hE hF x hp.1 h1 (fun b hb=>hc b (List.mem_append_left _ hb)) hpc h fun a1 w1 own1 hd1 hst1=> ?_)
  exact qjg hE hF y hp.2 h2 (fun b hb=>hc b (List.mem_append_right _ hb)) (hd1.pinC hF hpc) hst1 fun a2 w2 own2 hd2 hst2=>hQ a2 w2 own2 (hd2.trans hd1) hst2
 | .cond c x y,hp,σ,σ',ch,ds,Q1,a,w,own,he,hc,hpc,h,hQ=>by
  simp only [qnR] at he
  split at he
  case h_2=>cases he
  rename_i b ow hb
  split at he
  case h_2=>cases he
  rename_i σ1 c1 d1 σ2 c2 d2 h1 h2
  injection he with he
  simp only [Prod.mk.injEq] at he
  obtain ⟨rfl,rfl,rfl⟩:=he
  have hch:=qmy hc
  simp only [qg5,Bool.and_eq_true] at hp
  have f1:=(qgD x h1).2.1.mono (wr':=d1++d2) fun s hs=>List.mem_append_left _ hs
  have f2:=(qgD y h2).2.1.mono (wr':=d1++d2) fun s hs=>List.mem_append_right _ hs
  refine wp_cond (qpo hpc h hb) ?_
  have z1:=f1.trans (qfa (qjQ σ1 σ2 (d1++d2)) (qhp _))
  have z2:=f2.trans (qfa (qjQ σ2 σ1 (d1++d2)) (qhp _))
  cases b with
  |true=>
   refine qjg hE hF x hp.1 h1 hch hpc h fun a1 w1 own1 hd1 hst1=> ?_
   obtain ⟨own2,hst2⟩:=qe0 (qjQ σ1 σ2 (d1++d2)) hst1
   exact hQ a1 w1 own2 hd1 (qI.join (b:=true) hst2 z1 z2)
  |false=>
   refine qjg hE hF y hp.2 h2 hch hpc h fun a1 w1 own1 hd1 hst1=> ?_
   obtain ⟨own2,hst2⟩:=qe0 (qjQ σ2 σ1 (d1++d2)) hst1
   exact hQ a1 w1 own2 hd1 (qI.join (b:=false) hst2 z1 z2)
 | .label _,_,_,_,_,_,_,_,_,_,he,_,_,_,_=>by cases he
 | .block _ _,_,_,_,_,_,_,_,_,_,he,_,_,_,_=>by cases he
 | .loop _,_,_,_,_,_,_,_,_,_,he,_,_,_,_=>by cases he
 | .exit _,_,_,_,_,_,_,_,_,_,he,_,_,_,_=>by cases he
 | .goto _,_,_,_,_,_,_,_,_,_,he,_,_,_,_=>by cases he
 | .ret,_,_,_,_,_,_,_,_,_,he,_,_,_,_=>by cases he
theorem qfS {R:Type} {c:List Bool} {r:Option R} {x:R} (h:andThen c r=some x):qcy c∧r=some x:=by
 unfold andThen at h
 split at h
 ·refine ⟨fun b hb=> ?_,h⟩
  cases hb
 ·cases hc:qrw c with
  |true=>rw [hc] at h; exact ⟨qiy hc,h⟩
  |false=>rw [hc] at h; cases h
structure KOk {R:Type} (C:Ctx) (pin:List Nat) (k:K R) (r:R) (wr:List Nat) (σ:St) (ds:Act) (Q1:Exit→Act→World→Prop):Prop where
 n:∀σ' a' w' own',Fr wr σ σ'→qcT pin ds a'→qI C σ' a'.tmps w' own'→k.n σ'=some r→Q1 .normal a' w'
 e:∀i σ' a' w' own',Fr wr σ σ'→qcT pin ds a'→qI C σ' a'.tmps w' own'→k.e i σ'=some r→Q1 (.exit i) a' w'
 r:∀σ' a' w' own',Fr wr σ σ'→qcT pin ds a'→qI C σ' a'.tmps w' own'→k.r σ'=some r→Q1 .ret a' w'
theorem KOk.fr {R:Type} {pin:List Nat} {k:K R} {r:R} {wr wr':List Nat} {ds ds':Act} {Q1:Exit→Act→World→Prop} (h:KOk C pin k r wr σ ds Q1) (hd:qcT pin ds ds') (hs:∀s∈wr',s∈wr) (hf:Fr wr σ τ):KOk C pin k r wr' τ ds' Q1:=
 ⟨fun σ' a' w' own' f g=>h.n σ' a' w' own' (hf.trans (f.mono hs)) (g.trans hd),fun i σ' a' w' own' f g=>h.e i σ' a' w' own' (hf.trans (f.mono hs)) (g.trans hd),fun σ' a' w' own' f g=>h.r σ' a' w' own' (hf.trans (f.mono hs)) (g.trans hd)⟩
theorem qkv {σ:St} {s v:Nat} {a:AV} (h:qh σ s=(v,a)) (ha:a≠ .undef):σ.set s (v,a)=σ:=by
 have hl:s<σ.length:=qe4 (by rw [h]; exact ha)
 rw [←h]
 simp only [qh,List.getD_eq_getElem?_getD,List.getElem?_eq_getElem hl,Option.getD_some]
 exact List.set_getElem_self hl
theorem qcz {R:Type} :(l:List Nat)→(σ:St)→(k:St→Option R)→qel l σ k=k σ
 |[],_,_=>rfl
 |s::r,σ,k=>by
  unfold qel
  split
  ·rename_i v t x h
   rw [qO,qkv h (fun h=>by cases h)]
   exact qcz r σ k
  ·rename_i v et e xs h
   rw [qO,qkv h (fun h=>by cases h)]
   exact qcz r σ k
  ·rename_i v t x h
   rw [qO,qkv h (fun h=>by cases h)]
   exact qcz r σ k
  ·exact qcz r σ k
theorem qqW (hE:qbg E C.P) {N:Nat} {anns:qqM} {R:Type} {pin:List Nat} {r:R} (hF:qlk E C pin) (c:Code):qg5 pin c=true→∀ {wr:List Nat} {σ:St} {k:K R} {Q1:Exit→Act→World→Prop} {a:Act} {w:World} {own:Nat→List Nat},
  qlZ E N anns c wr σ k=some r→qps C a.tmps→qI C σ a.tmps w own→KOk C pin k r wr σ a Q1→c.wp C.P Q1 a w:=by
 induction c with
 |skip=>intro hp wr σ k Q1 a w own he hpc h hk; exact wp_skip (hk.n σ a w own (Fr.refl _ _) (qcT.refl _ _) h he)
 |region id ops d=>
  intro hp wr σ k Q1 a w own he hpc h hk
  simp only [qlZ,qcz] at he
  split at he
  case h_2=>cases he
  rename_i σ1 c1 d1 h1
  obtain ⟨hc,he⟩:=qfS he
  exact qox hE hF hp h1 hc hpc h fun a1 w1 own1 hd1 hst1=>hk.n _ a1 w1 own1 (qph h1).1 hd1 hst1 he
 |seq x y ihx ihy=>
  intro hp wr σ k Q1 a w own he hpc h hk
  simp only [qg5,Bool.and_eq_true] at hp
  refine wp_seq (ihx hp.1 he hpc h ⟨fun σ' a' w' own' f hd hst he'=> ?_,fun i σ' a' w' own' f hd hst he'=>hk.e i σ' a' w' own' f hd hst he',fun σ' a' w' own' f hd hst he'=>hk.r σ' a' w' own' f hd hst he'⟩)
  exact ihy hp.2 he' (hd.pinC hF hpc) hst (hk.fr hd (fun s hs=>hs) f)
 |cond c x y ihx ihy=>
  intro hp wr σ k Q1 a w own he hpc h hk
  simp only [qlZ,qcz] at he
  cases hamb:qrk c σ with
  |some wm=>
   obtain ⟨w0,m⟩:=wm
   simp only [qg5,Bool.and_eq_true] at hp
   obtain ⟨b,hev,hbm⟩:∃b,a.eval c= .bool b∧(b=w0→m=true):=by
    unfold qrk at hamb
    split at hamb
    case h_2=>cases hamb
    rename_i t
    split at hamb
    case h_2=>cases hamb
    rename_i w1 m1 hat
    injection hamb with hamb
    injection hamb with e1 e2
    subst e1; subst e2
    have:=h.at_ t
    rw [hat] at this
    obtain ⟨_,b,h1,h2⟩:=this
    exact ⟨b,h1,h2⟩
   simp only [hamb] at he
   refine wp_cond hev ?_
   cases m with
   |true=>
    simp only [cond_true,qla] at he
    split at he
    case isFalse=>cases he
    rename_i hag
    cases b with
    |true=>exact ihx hp.1 he hpc h hk
    |false=>exact ihy hp.2 (hag ▸ he) hpc h hk
   |false=>
    simp only [cond_false] at he
    have hne:b≠w0:=fun e=>by cases hbm e
    cases b <;> cases w0 <;> simp only at he <;> first|exact absurd rfl hne|exact ihx hp.1 he hpc h hk|exact ihy hp.2 he hpc h hk
  |none=>
  simp only [hamb] at he
  split at he
  case h_2=>cases he
  rename_i b ow hb
  split at he
  ·split at he
   case h_2=>cases he
   rename_i σ1 c1 d1 h1
   obtain ⟨hc,he⟩:=qfS he
   exact qjg hE hF (.cond c x y) hp h1 hc hpc h fun a1 w1 own1 hd1 hst1=>hk.n _ a1 w1 own1 (qgD _ h1).1 hd1 hst1 he
  ·simp only [qg5,Bool.and_eq_true] at hp
   refine wp_cond (qpo hpc h hb) ?_
   cases b with
   |true=>exact ihx hp.1 he hpc h hk
   |false=>exact ihy hp.2 he hpc h hk
 |block id x ih=>
  intro hp wr σ k Q1 a w own he hpc h hk
  refine wp_block (ih hp he hpc h ⟨fun σ' a' w' own' f hd hst he'=>hk.n σ' a' w' own' f hd hst he',fun i σ' a' w' own' f hd hst he'=> ?_,fun σ' a' w' own' f hd hst he'=>hk.r σ' a' w' own' f hd hst he'⟩)
  simp only at he'
  by_cases hi:i=id
  ·rw [if_pos hi] at he'
   subst hi
   simpa [Exit.inBlock] using hk.n σ' a' w' own' f hd hst he'
  ·rw [if_neg hi] at he'
   simpa [Exit.inBlock,hi] using hk.e i σ' a' w' own' f hd hst he'
 |exit id=>intro hp wr σ k Q1 a w own he hpc h hk; exact wp_exit (hk.e id σ a w own (Fr.refl _ _) (qcT.refl _ _) h he)
 |ret=>intro hp wr σ k Q1 a w own he hpc h hk; exact wp_ret (hk.r σ a w own (Fr.refl _ _) (qcT.refl _ _) h he)
 |loop x ih=>
  intro hp wr σ k Q1 a w own he hpc h hk
  simp only [qlZ,qcz] at he
  split at he
  case h_2=>cases he
  rename_i A hA
  split at he
  case isFalse=>cases he
  rename_i hcond
  simp only [Bool.and_eq_true] at hcond
  obtain ⟨⟨c1,c2⟩,c3⟩:=hcond
  split at he
  case h_2=>cases he
  rename_i p0 hp0
  have hsub:∀s∈A.wr,s∈wr:=fun s hs=>by
   have:=List.all_eq_true.1 c1 s hs
   simpa using this
  have hlive:∀q∈A.live,q.1∈A.wr:=fun q hq=>by
   have:=List.all_eq_true.1 c2 q hq
   simpa using this
  have hn:=qdc c3
  obtain ⟨own0,h0⟩:=qmc A.wr A.live h
  refine wp_loop_ghost (fun n a' w'=>∃q own',qI C (qeT A σ q) a'.tmps w' own'∧qcT pin a a'∧qay n (fun ih p=>qlZ E N anns x A.wr (qeT A σ p) { k with n:=fun σ'=>match qmA A.live (qqJ A.wr A.live σ') with
     |some q=>ih q
     |none=>none }) q=some r) N ⟨p0,own0,qI.head (τ:=qqJ A.wr A.live σ) h0 hlive hn h.wf (qmr hlive) hp0,qcT.refl _ _,he⟩ ?_
  rintro n a1 w1 ⟨q,own1,hst,hd1,hit⟩
  cases n with
  |zero=>cases hit
  |succ n=>
   have hfr:=qk9 (σ:=σ) hlive hn q
   refine ih hp hit (hd1.pinC hF hpc) hst ⟨fun σ' a' w' own' f hd hst' he'=> ?_,fun i σ' a' w' own' f hd hst' he'=> ?_,fun σ' a' w' own' f hd hst' he'=> ?_⟩
   ·simp only at he'
    split at he'
    case h_2=>cases he'
    rename_i q' hq'
    obtain ⟨own2,hst2⟩:=qmc A.wr A.live hst'
    exact ⟨n,Nat.lt_succ_self n,q',own2,qI.head (τ:=qqJ A.wr A.live σ') hst2 hlive hn h.wf ((hfr.trans f).trans (qmr hlive)) hq',hd.trans hd1,he'⟩
   ·exact hk.e i σ' a' w' own' ((hfr.trans f).mono hsub) (hd.trans hd1) hst' he'
   ·exact hk.r σ' a' w' own' ((hfr.trans f).mono hsub) (hd.trans hd1) hst' he'
 |_=>intro hp wr σ k Q1 a w own he hpc h hk; cases he
end
end Go.Vi
namespace Go.Vi
open Go.RowKit
section
variable {C:Ctx} {E:Env} {σ τ:St} {tm:Array Value} {a:Act} {w w':World} {own:Nat→List Nat} {o:Oper} {p:qfw} [Tabbed E C]
theorem qd3: {l:List (List Nat)} →l.flatten.Nodup→(∀i,(l.getD i []).Nodup)∧∀i j b,b∈l.getD i []→b∈l.getD j []→i=j
 |[],_=>⟨fun i=>by simp,fun i j b h=>by simp at h⟩
 |x::l,h=>by
  rw [List.flatten_cons] at h
  obtain ⟨h1,h2,h3⟩:=List.nodup_append.1 h
  obtain ⟨k1,k2⟩:=qd3 h2
  have mem:∀i b,b∈l.getD i []→b∈l.flatten:=fun i b hb=>by
   rw [List.getD_eq_getElem?_getD] at hb
   cases hi:l[i]? with
   |none=>rw [hi] at hb; simp at hb
   |some y=>
    rw [hi] at hb
    exact List.mem_flatten.2 ⟨y,List.mem_of_getElem? hi,by simpa using hb⟩
  refine ⟨fun i=> ?_,fun i j b hi hj=> ?_⟩
  ·cases i with
   |zero=>simpa using h1
   |succ i=>simpa using k1 i
  ·cases i with
   |zero=>
    cases j with
    |zero=>rfl
    |succ j=>exact (h3 b (by simpa using hi) b (mem j b (by simpa using hj)) rfl).elim
   |succ i=>
    cases j with
    |zero=>exact (h3 b (by simpa using hj) b (mem i b (by simpa using hi)) rfl).elim
    |succ j=>rw [k2 i j b (by simpa using hi) (by simpa using hj)]
theorem qcY {X:Sit} {F:Nat→Prop} (hF:∀b,F b→b<X.w.heap.size→X.F b):(ps:List PM)→ {x:PMs.den ps} → {vs:List Value} → {g i:List Nat} →qZ X.P X.w F ps x vs g i→(g++i).Nodup→
  ∃owns:List (List Nat),owns.length=ps.length∧vs.length=ps.length∧(qbl ps x).length=ps.length∧owns.flatten.Nodup∧(∀b∈owns.flatten,b∈g++i)∧
   ∀k,k<ps.length→qY X (qh (qbl ps x) k).2 (vs.getD k undef) (owns.getD k [])∧(qh (qbl ps x) k).2.mentions=[]
 |[],x,vs,g,i,⟨h1,h2,h3⟩,_=>⟨[],rfl,by rw [h1]; rfl,rfl,by simp,fun b hb=>by simp at hb,fun k hk=>by cases hk⟩
 | .val t::ps,x,vs,g,i,⟨v,r,h1,h2,h3⟩,hn=>by
  obtain ⟨owns,k1,k2,k3,k4,k5,k6⟩:=qcY hF ps h3 hn
  refine ⟨[]::owns,by simp [k1],by rw [h1]; simp [k2],by simp [qbl,k3],by simpa using k4,by simpa using k5,fun k hk=> ?_⟩
  cases k with
  |zero=>exact ⟨⟨rfl,by rw [h1]; exact h2.mono hF⟩,rfl⟩
  |succ k=>rw [h1]; exact k6 k (by simpa using hk)
 | .nil et e::ps,x,vs,g,i,⟨r,h1,h3⟩,hn=>by
  obtain ⟨owns,k1,k2,k3,k4,k5,k6⟩:=qcY hF ps h3 hn
  refine ⟨[]::owns,by simp [k1],by rw [h1]; simp [k2],by simp [qbl,k3],by simpa using k4,by simpa using k5,fun k hk=> ?_⟩
  cases k with
  |zero=>exact ⟨⟨rfl,by rw [h1]; rfl⟩,rfl⟩
  |succ k=>rw [h1]; exact k6 k (by simpa using hk)
 | .rd t::ps,x,vs,g,i,⟨ad,cs,r,h1,h2,h3,h4,h5,h6⟩,hn=>by
  obtain ⟨owns,k1,k2,k3,k4,k5,k6⟩:=qcY hF ps h6 hn
  refine ⟨[]::owns,by simp [k1],by rw [h1]; simp [k2],by simp [qbl,k3],by simpa using k4,by simpa using k5,fun k hk=> ?_⟩
  cases k with
  |zero=>exact ⟨⟨rfl,ad,cs,by rw [h1]; simp [Addr.add],hF _ h2 h3,h3,h4,h5.keep fun b hb hlt=>⟨hF b hb hlt,hlt,rfl⟩⟩,rfl⟩
  |succ k=>rw [h1]; exact k6 k (by simpa using hk)
 | .ior et e::ps,x,vs,g,i,⟨v,r,i1,i2,h1,h2,h3,h4⟩,hn=>by
  rw [h2] at hn
  have hn':=List.nodup_append.1 hn
  have hni:=List.nodup_append.1 hn'.2.1
  have hn2:(g++i2).Nodup:=List.nodup_append.2 ⟨hn'.1,hni.2.1,fun b hb b' hb'=>hn'.2.2 b hb b' (List.mem_append_right _ hb')⟩
  obtain ⟨owns,k1,k2,k3,k4,k5,k6⟩:=qcY hF ps h4 hn2
  refine ⟨i1::owns,by simp [k1],by rw [h1]; simp [k2],by simp [qbl,k3],?_,?_,fun k hk=> ?_⟩
  ·rw [List.flatten_cons]
   refine List.nodup_append.2 ⟨hni.1,k4,fun b hb b' hb' e=> ?_⟩
   subst e
   rcases List.mem_append.1 (k5 b hb') with hm|hm
   ·exact hn'.2.2 b hm b (List.mem_append_left _ hb) rfl
   ·exact hni.2.2 b hb b hm rfl
  ·intro b hb
   rw [List.flatten_cons] at hb
   rw [h2]
   rcases List.mem_append.1 hb with hb|hb
   ·exact List.mem_append_right _ (List.mem_append_left _ hb)
   ·rcases List.mem_append.1 (k5 b hb) with hm|hm
    ·exact List.mem_append_left _ hm
    ·exact List.mem_append_right _ (List.mem_append_right _ hm)
  ·cases k with
   |zero=>exact ⟨by rw [h1]; exact h3.own.keep (fun b hb hlt=>⟨hF b hb hlt,hlt,rfl⟩) (fun _ _ _=>rfl),rfl⟩
   |succ k=>rw [h1]; exact k6 k (by simpa using hk)
 | .fn ts us::ps,x,vs,g,i,⟨v,r,h1,h2,h3⟩,hn=>by
  obtain ⟨owns,k1,k2,k3,k4,k5,k6⟩:=qcY hF ps h3 hn
  refine ⟨[]::owns,by simp [k1],by rw [h1]; simp [k2],by simp [qbl,k3],by simpa using k4,by simpa using k5,fun k hk=> ?_⟩
  cases k with
  |zero=>exact ⟨⟨rfl,by rw [h1]; exact h2.keep fun b hb hlt=>⟨hF b hb hlt,hlt,rfl⟩⟩,rfl⟩
  |succ k=>rw [h1]; exact k6 k (by simpa using hk)
 | .own et e::ps,x,vs,g,i,⟨v,r,g1,g2,h1,h2,h3,h4⟩,hn=>by
  rw [h2,List.append_assoc] at hn
  obtain ⟨n1,n2,n3⟩:=List.nodup_append.1 hn
  obtain ⟨owns,k1,k2,k3,k4,k5,k6⟩:=qcY hF ps h4 n2
  refine ⟨g1::owns,by simp [k1],by rw [h1]; simp [k2],by simp [qbl,k3],?_,?_,fun k hk=> ?_⟩
  ·rw [List.flatten_cons]
   exact List.nodup_append.2 ⟨n1,k4,fun b hb b' hb'=>n3 b hb b' (k5 b' hb')⟩
  ·intro b hb
   rw [List.flatten_cons] at hb
   rw [h2,List.append_assoc]
   rcases List.mem_append.1 hb with hb|hb
   ·exact List.mem_append_left _ hb
   ·exact List.mem_append_right _ (k5 b hb)
  ·cases k with
   |zero=>exact ⟨by rw [h1]; exact h3.keep (fun b hb hlt=>⟨hF b hb hlt,hlt,rfl⟩) (fun _ _ _=>rfl),rfl⟩
   |succ k=>rw [h1]; exact k6 k (by simpa using hk)
 | .io t::ps,x,vs,g,i,⟨b0,r,i2,cs,te,h1,h2,h3,h4,h5⟩,hn=>by
  rw [h2] at hn
  have hn':=List.nodup_append.1 hn
  have hni:=List.nodup_cons.1 hn'.2.1
  have hn2:(g++i2).Nodup:=List.nodup_append.2 ⟨hn'.1,hni.2,fun b hb b' hb'=>hn'.2.2 b hb b' (List.mem_cons_of_mem _ hb')⟩
  obtain ⟨owns,k1,k2,k3,k4,k5,k6⟩:=qcY hF ps h5 hn2
  refine ⟨[b0]::owns,by simp [k1],by rw [h1]; simp [k2],by simp [qbl,k3],?_,?_,fun k hk=> ?_⟩
  ·rw [List.flatten_cons]
   refine List.nodup_append.2 ⟨by simp,k4,fun b hb b' hb' e=> ?_⟩
   simp at hb
   subst hb; subst e
   rcases List.mem_append.1 (k5 b hb') with hm|hm
   ·exact hn'.2.2 b hm b List.mem_cons_self rfl
   ·exact hni.1 hm
  ·intro b hb
   rw [List.flatten_cons] at hb
   rw [h2]
   rcases List.mem_append.1 hb with hb|hb
   ·simp at hb; subst hb; simp
   ·rcases List.mem_append.1 (k5 b hb) with hm|hm
    ·exact List.mem_append_left _ hm
    ·exact List.mem_append_right _ (List.mem_cons_of_mem _ hm)
  ·cases k with
   |zero=>exact ⟨⟨b0,cs,[],te,by rw [h1]; rfl,h3,⟨rfl,h4.keep fun b hb hlt=>⟨hF b hb hlt,hlt,rfl⟩⟩,rfl⟩,rfl⟩
   |succ k=>rw [h1]; exact k6 k (by simpa using hk)
 | .iob t::ps,x,vs,g,i,⟨b0,r,g1,g2,i2,cs,te,h1,h0,h2,h3,h4,h5⟩,hn=>by
  subst h0; subst h2
  have hp:((g1++g2)++b0::i2).Perm ((b0::g1)++(g2++i2)):=List.perm_iff_count.2 fun a=>by simp only [List.count_append,List.count_cons]; omega
  have hn':=List.nodup_append.1 (hp.nodup_iff.1 hn)
  obtain ⟨owns,k1,k2,k3,k4,k5,k6⟩:=qcY hF ps h5 hn'.2.1
  refine ⟨(b0::g1)::owns,by simp [k1],by rw [h1]; simp [k2],by simp [qbl,k3],?_,?_,fun k hk=> ?_⟩
  ·rw [List.flatten_cons]
   exact List.nodup_append.2 ⟨hn'.1,k4,fun b hb b' hb'=>hn'.2.2 b hb b' (k5 b' hb')⟩
  ·intro b hb
   rw [List.flatten_cons] at hb
   refine hp.mem_iff.2 ?_
   rcases List.mem_append.1 hb with hb|hb
   ·exact List.mem_append_left _ hb
   ·exact List.mem_append_right _ (k5 b hb)
  ·cases k with
   |zero=>exact ⟨⟨b0,cs,g1,te,by rw [h1]; rfl,h3,h4.keep (fun b hb hlt=>⟨hF b hb hlt,hlt,rfl⟩) (fun _ _ _=>rfl),rfl⟩,rfl⟩
   |succ k=>rw [h1]; exact k6 k (by simpa using hk)
theorem qfE {fn:Func} {ps:List PM} {x:PMs.den ps} {k:Nat} (hl:(qbl ps x).length=ps.length) (hk:k<ps.length):qh (qec fn ps x) k=qh (qbl ps x) k:=by
 simp [qh,qec,List.getD_eq_getElem?_getD,List.getElem?_append_left (show k<(qbl ps x).length by omega)]
theorem qfk {fn:Func} {ps:List PM} {x:PMs.den ps} {k:Nat} (hl:(qbl ps x).length=ps.length) (hk:¬k<ps.length):qh (qec fn ps x) k=(0,.undef):=by
 simp only [qh,qec,List.getD_eq_getElem?_getD]
 rw [List.getElem?_append_right (by omega),List.getElem?_replicate]
 split <;> rfl
theorem qpD {pn:Nat→Option Nat} {P:Program} {F:Nat→Prop} {fn:Func} {ps:List PM} {x:PMs.den ps} {vs:List Value} {g i:List Nat} {T:qqm} (hT:qdM T w fun b=>F b∧¬b∈g++i) (hlen:ps.length≤fn.ntmps) (hp:qZ P w F ps x vs g i) (hpre:∀b∈g++i,¬F b∧b<w.heap.size) (hn:(g++i).Nodup):
  ∃own,qI { P,w0:=w,O:=fun b=>b∈g++i,G:=F,pn,T,hT } (qec fn ps x) (vs.toArray++Array.replicate (fn.ntmps - vs.toArray.size) undef) w own:=by
 have base:∃owns:List (List Nat),owns.length=ps.length∧vs.length=ps.length∧(qbl ps x).length=ps.length∧owns.flatten.Nodup∧(∀b∈owns.flatten,b∈g++i)∧
   ∀k,k<ps.length→qY { P,ver:=fun s=>(qh (qec fn ps x) s).1,tm:=fun s=>(vs.toArray++Array.replicate (fn.ntmps - vs.toArray.size) undef).getD s undef,w,F:=fun b=>F b,own:=fun _=>[],pn } (qh (qbl ps x) k).2 (vs.getD k undef) (owns.getD k [])∧(qh (qbl ps x) k).2.mentions=[]:=
  qcY (X:= { P,ver:=_,tm:=_,w,F:=fun b=>F b,own:=fun _=>[],pn }) (fun b hb _=>hb) ps hp hn
 obtain ⟨owns,k1,k2,k3,k4,k5,k6⟩:=base
 obtain ⟨n1,n2⟩:=qd3 k4
 have mem:∀s b,b∈owns.getD s []→b∈g++i:=fun s b hb=>by
  refine k5 b ?_
  rw [List.getD_eq_getElem?_getD] at hb
  cases hi:owns[s]? with
  |none=>rw [hi] at hb; simp at hb
  |some y=>
   rw [hi] at hb
   exact List.mem_flatten.2 ⟨y,List.mem_of_getElem? hi,by simpa using hb⟩
 have hsl:(qec fn ps x).length=fn.ntmps:=by simp [qec,k3]; omega
 have hz:∀k,¬k<ps.length→owns.getD k []=[]:=fun k hk=>by
  rw [List.getD_eq_getElem?_getD,List.getElem?_eq_none (by omega)]; rfl
 refine ⟨fun s=>owns.getD s [],⟨?_,qcl.refl _ _,fun s b hb=>⟨.inl (mem s b hb),(hpre b (mem s b hb)).2⟩,n1,n2,fun s hs=>hz s (by omega),fun s hs=> ?_,fun s m hm=> ?_⟩⟩
 ·simp [hsl,k2]; omega
 ·by_cases hk:s<ps.length
  ·rw [qfE k3 hk]
   obtain ⟨h1,h2⟩:=k6 s hk
   have e:(vs.toArray++Array.replicate (fn.ntmps - vs.toArray.size) undef).getD s undef=vs.getD s undef:=by
    rw [Array.getD_eq_getD_getElem?,Array.getElem?_append_left (by simp [k2]; exact hk),List.getD_eq_getElem?_getD]
    simp
   rw [e]
   refine qY.keep (X:= { P,ver:=fun s=>(qh (qec fn ps x) s).1,tm:=fun s=>(vs.toArray++Array.replicate (fn.ntmps - vs.toArray.size) undef).getD s undef,w,F:=fun b=>F b,own:=fun _=>[],pn }) (X':=sit { P,w0:=w,O:=fun b=>b∈g++i,G:=F,pn,T,hT } (qec fn ps x) (vs.toArray++Array.replicate (fn.ntmps - vs.toArray.size) undef) w (fun s=>owns.getD s [])) ⟨rfl,rfl⟩ (fun b hb hlt=>⟨⟨.inl hb,hlt,fun s' hs'=>(hpre b (mem s' b hs')).1 hb⟩,hlt,rfl⟩) (fun _ _ _=>rfl) (fun m hm=>by rw [h2] at hm; cases hm) h1
  ·rw [qfk k3 hk]
   trivial
 ·by_cases hk:s<ps.length
  ·rw [qfE k3 hk,(k6 s hk).2] at hm
   cases hm
  ·rw [qfk k3 hk] at hm
   cases hm
def qoz (tmps:Array Value):ResultVar→Sem Value
 | .tmp t=>pure (tmps.getD t undef)
 | .cell a t=>do loadVar t (←asAddr (tmps.getD a undef))
theorem qmp {P:Program} {t:Nat} {u:Ty} (h:TyB P t u) {ad:Addr} {cs:List Value} (hc:qeH w ad cs) (hl:cs.length=u.size):(loadVar t ad).run P w= .ok (mkV u cs) w:=by
 have:=qcI (w:=w) h hc hl
 simpa only [Instr.loadAt,Instr.sureAddr,Sem.run_bind,Sem.run_pure,Result.andThen_ok] using this
theorem qiM (hE:qbg E C.P) (h:qI C σ tm w own):(r:RM)→ {v:ResultVar} → {x:r.den×List Nat} →(qkl E r v).run (qh σ)=some x→∃z,(qoz tm v).run C.P w= .ok z w∧
  (match r,x with
   | .val t,x=>qal w (FW (sit C σ tm w own) x.2) t x.1 z
   | .nz e,x=>qal w (C.free w own) (.slice e) x.1 z∧(∀c,(nzC [.nz e] [v]).run (qh σ)=some c→qcy c→x.1=[]→z= .slice none 0 0)
   | .own et e,x=>∃s',x.2=[s']∧qL w (C.free w own) et e x.1 z (own s')∧∃ys,(qh σ s').2= .own et e ys)
 | .val t,.tmp s,x,he=>by
  simp only [qkl,Q.run_get] at he
  exact ⟨tm.getD s undef,rfl,qci h (o:=⟨some s,(qh σ s).1,(qh σ s).2⟩) ⟨rfl,rfl,h.at_ s⟩ he⟩
 | .val u,.cell s t,x,he=>by
  simp only [qkl,Q.run_get] at he
  have hat:=h.at_ s
  split at he
  case h_2=>cases he
  rename_i c hc
  split at he
  case isFalse=>cases he
  rename_i hcond
  split at he
  case h_2=>cases he
  rename_i y f hg
  have:=Q.ret_some he
  subst this
  obtain ⟨b0,cs,bs',te,b1,b2,b3,b4⟩:=h.box (a:= { tmps:=tm,defers:=[] }) hc
  obtain ⟨q1,q2,q3⟩:=b3.get hg
  have hcl:=b3.length
  rw [List.drop_zero,List.take_of_length_le (by omega)] at q2
  rw [List.drop_zero,List.take_of_length_le (by omega)] at q3
  refine ⟨mkV u cs,?_,qal.ofCells ?_⟩
  ·have hcs:qeH w ⟨b0,0,none⟩ cs:=by
    intro j u hj
    rw [qX,qf4 b2,Nat.zero_add]
    exact hj
   have hl:=qmp (hE.ty t u hcond.1) hcs (by omega)
   have b1:tm.getD s undef=ptr b0 0:=b1
   simp only [qoz,b1,ptr,asAddr,Sem.run_bind,Sem.run_pure,Result.andThen_ok]
   exact hl
  ·cases f with
   |false=>exact (q3 rfl).keep fun b hb hlt=>⟨.inl hb,hlt,rfl⟩
   |true=>
    refine q2.keep fun b hb hlt=>⟨?_,hlt,rfl⟩
    rcases hb with hb|hb
    ·exact .inl hb
    ·refine .inr ⟨s,List.mem_singleton.2 rfl,by show b∈own s; rw [b4]; exact List.mem_cons_of_mem _ hb,fun e=> ?_⟩
     have e:tm.getD s undef=ptr b 0:=e
     have b1:tm.getD s undef=ptr b0 0:=b1
     rw [b1] at e
     have e:=(qcq e).1
     subst e
     have hn:=h.nodup s
     rw [b4] at hn
     exact (List.nodup_cons.1 hn).1 hb
 | .own et e,.tmp s,x,he=>by
  simp only [qkl,Q.run_get] at he
  have hat:=h.at_ s
  split at he
  ·rename_i et' e' xs' h3
   rw [h3] at hat
   split at he
   ·rename_i het
    subst het
    split at he
    ·rename_i xs has
     have:=Q.ret_some he
     subst this
     obtain ⟨e1,e2⟩:=Ty.as_some has
     injection e1 with e1
     subst e1
     have e2:xs'=xs:=e2
     subst e2
     exact ⟨_,rfl,s,rfl,hat,_,h3⟩
    ·cases he
   ·cases he
  ·rename_i s' v0 h3
   rw [h3] at hat
   simp only [Q.run_get] at he
   split at he
   ·rename_i hv
    have hu:tm.getD s' undef=tm.getD s undef:=hat.2 hv
    have hat':=h.at_ s'
    rw [hu] at hat'
    split at he
    ·rename_i et' e' xs' h4
     rw [h4] at hat'
     split at he
     ·rename_i het
      subst het
      split at he
      ·rename_i xs has
       have:=Q.ret_some he
       subst this
       obtain ⟨e1,e2⟩:=Ty.as_some has
       injection e1 with e1
       subst e1
       have e2:xs'=xs:=e2
       subst e2
       exact ⟨_,rfl,s',rfl,hat',_,h4⟩
      ·cases he
     ·cases he
    ·cases he
   ·cases he
  ·cases he
 | .own _ _,.cell _ _,x,he=>by cases he
 | .nz _,.cell _ _,x,he=>by cases he
 | .nz e,.tmp s,x,he=>by
  simp only [qkl,Q.run_get] at he
  have hat:=h.at_ s
  split at he
  ·rename_i et e' h3
   rw [h3] at hat
   have:=Q.ret_some he
   subst this
   have hat:_∧_:=hat
   refine ⟨_,rfl,?_,fun c _ _ _=>hat.2⟩
   rw [hat.2]
   exact qal.ofSlice (.inl ⟨rfl,rfl⟩)
  ·rename_i e' xs h3
   rw [h3] at hat
   split at he
   case h_2=>cases he
   rename_i ys has
   have:=Q.ret_some he
   subst this
   obtain ⟨e1,e2⟩:=Ty.as_some has
   injection e1 with e1
   subst e1
   have e2:xs=ys:=e2
   subst e2
   exact ⟨_,rfl,hat.2.1,fun c _ _ h0=>hat.2.2 h0⟩
  ·rename_i e' xs h3
   rw [h3] at hat
   split at he
   case h_2=>cases he
   rename_i ys has
   have:=Q.ret_some he
   subst this
   obtain ⟨e1,e2⟩:=Ty.as_some has
   injection e1 with e1
   subst e1
   have e2:xs=ys:=e2
   subst e2
   refine ⟨_,rfl,hat.2,fun c hc hb h0=> ?_⟩
   simp only [nzC,Q.run_get,h3] at hc
   have:=Q.ret_some hc
   subst this
   have h0:xs=[]:=h0
   subst h0
   have:=hb _ (List.mem_singleton.2 rfl)
   rw [qju,qg] at this
   simp at this
  ·cases he
theorem qk0 (r:RM) (v:ResultVar) (rs:List RM) (vs:List ResultVar) {c:List Bool} (hc:(nzC (r::rs) (v::vs)).run (qh σ)=some c) (hb:qcy c):(∀c,(nzC [r] [v]).run (qh σ)=some c→qcy c)∧∃c2,(nzC rs vs).run (qh σ)=some c2∧qcy c2:=by
 have none:(nzC (r::rs) (v::vs)=nzC rs vs)→nzC [r] [v]= .ret []→(∀c,(nzC [r] [v]).run (qh σ)=some c→qcy c)∧∃c2,(nzC rs vs).run (qh σ)=some c2∧qcy c2:=fun e1 e2=>by
  rw [e1] at hc
  refine ⟨fun c h=> ?_,c,hc,hb⟩
  rw [e2] at h
  have:=Q.ret_some h
  subst this
  intro b hb
  cases hb
 cases r with
 |val t=>exact none rfl rfl
 |own et e=>exact none rfl rfl
 |nz e=>
  cases v with
  |cell a t=>exact none rfl rfl
  |tmp s=>
   simp only [nzC,Q.run_get] at hc⊢
   split at hc
   ·rename_i e' xs h3
    obtain ⟨c2,h1,h2⟩:=Q.bind_some hc
    have:=Q.ret_some h2
    subst this
    refine ⟨fun c h=> ?_,c2,h1,fun b hm=>hb b (List.mem_cons_of_mem _ hm)⟩
    have:=Q.ret_some (show (Q.ret [neI (qr xs) 0]).run (qh σ)=some c from h)
    subst this
    intro b hm
    exact hb b (by rw [List.mem_singleton.1 hm]; exact List.mem_cons_self)
   ·rename_i h3
    refine ⟨fun c h=> ?_,c,hc,hb⟩
    have:=Q.ret_some h
    subst this
    intro b hb
    cases hb
theorem qga (hE:qbg E C.P) (h:qI C σ tm w own):(rs:List RM)→ {vars:List ResultVar} → {q:RMs.den rs×List Nat×List Nat} →(qhT E rs vars).run (qh σ)=some q→(∃c,(nzC rs vars).run (qh σ)=some c∧qcy c)→∃(vs:List Value) (bs:List Nat),(vars.mapM (qoz tm)).run C.P w= .ok vs w∧
  qas w (FW (sit C σ tm w own) q.2.2) (qcr rs q.1) vs bs∧(∀b∈bs,∃s∈q.2.1,b∈own s)∧(q.2.1.Nodup→bs.Nodup)∧∀s∈q.2.1,∃et e ys,(qh σ s).2= .own et e ys
 |[],[],q,he,_=>by
  have:=Q.ret_some he
  subst this
  exact ⟨[],[],rfl,⟨rfl,rfl⟩,fun b hb=>(by cases hb),fun _=>List.nodup_nil,fun s hs=>(by cases hs)⟩
 | .nz e::rs,v::vars,q,he,⟨c,hc,hb⟩=>by
  simp only [qhT] at he
  obtain ⟨x,h1,he⟩:=Q.bind_some he
  obtain ⟨q',h2,he⟩:=Q.bind_some he
  have:=Q.ret_some he
  subst this
  obtain ⟨n1,n2⟩:=qk0 _ _ _ _ hc hb
  obtain ⟨z,hz,hr,hr2⟩:=qiM hE h (.nz e) h1
  obtain ⟨vs,bs,k1,k2,k3,k4,k5⟩:=qga hE h rs h2 n2
  have hnz:∃c,(nzC [.nz e] [v]).run (qh σ)=some c:=by
   cases v with
   |cell a t=>exact ⟨[],rfl⟩
   |tmp s=>
    simp only [nzC,Q.run_get]
    split
    ·exact ⟨_,rfl⟩
    ·exact ⟨_,rfl⟩
  obtain ⟨c0,hc0⟩:=hnz
  refine ⟨z::vs,bs,by simp only [List.mapM_cons,Sem.run_bind,hz,Result.andThen_ok,k1,Sem.run_pure],⟨_,_,[],bs,rfl,rfl,⟨rfl,hr.mono fun b hb _=> .inl hb,hr2 c0 hc0 (n1 c0 hc0)⟩,k2⟩,k3,k4,k5⟩
 | .val t::rs,v::vars,q,he,⟨c,hc,hb⟩=>by
  simp only [qhT] at he
  obtain ⟨x,h1,he⟩:=Q.bind_some he
  obtain ⟨q',h2,he⟩:=Q.bind_some he
  have:=Q.ret_some he
  subst this
  obtain ⟨z,hz,hr⟩:=qiM hE h (.val t) h1
  obtain ⟨vs,bs,k1,k2,k3,k4,k5⟩:=qga hE h rs h2 (qk0 _ _ _ _ hc hb).2
  refine ⟨z::vs,bs,by simp only [List.mapM_cons,Sem.run_bind,hz,Result.andThen_ok,k1,Sem.run_pure],⟨_,_,[],bs,rfl,rfl,⟨rfl,hr.mono fun b hb _=>FW.mono (fun s hs=>List.mem_append_left _ hs) hb⟩,qas.turn rs (.inr fun b hb _=>FW.mono (fun s hs=>List.mem_append_right _ hs) hb) k2⟩,k3,k4,k5⟩
 | .own et e::rs,v::vars,q,he,⟨c,hc,hb⟩=>by
  simp only [qhT] at he
  obtain ⟨x,h1,he⟩:=Q.bind_some he
  obtain ⟨q',h2,he⟩:=Q.bind_some he
  have:=Q.ret_some he
  subst this
  obtain ⟨z,hz,s',hx,hr,ys,hys⟩:=qiM hE h (.own et e) h1
  obtain ⟨vs,bs,k1,k2,k3,k4,k5⟩:=qga hE h rs h2 (qk0 _ _ _ _ hc hb).2
  refine ⟨z::vs,own s'++bs,by simp only [List.mapM_cons,Sem.run_bind,hz,Result.andThen_ok,k1,Sem.run_pure],⟨_,_,own s',bs,rfl,rfl,hr.keep (fun b hb hlt=>⟨.inl hb,hlt,rfl⟩) (fun _ _ _=>rfl),k2⟩,fun b hb=> ?_,fun hn=> ?_,fun s2 hs2=> ?_⟩
  ·rcases List.mem_append.1 hb with hb|hb
   ·exact ⟨s',by simp [hx],hb⟩
   ·obtain ⟨s2,g1,g2⟩:=k3 b hb
    exact ⟨s2,List.mem_append_right _ g1,g2⟩
  ·simp only [hx] at hn
   have hn':=List.nodup_cons.1 hn
   refine List.nodup_append.2 ⟨h.nodup s',k4 hn'.2,fun b hb b' hb' e=> ?_⟩
   subst e
   obtain ⟨s2,g1,g2⟩:=k3 b hb'
   have:=h.apart s' s2 b hb g2
   subst this
   exact hn'.1 g1
  ·simp only [hx] at hs2
   rcases List.mem_cons.1 hs2 with rfl|hs2
   ·exact ⟨et,e,ys,hys⟩
   ·exact k5 s2 hs2
 |[],_::_,_,he,_=>by cases he
 | .val _::_,[],_,he,_=>by cases he
 | .own _ _::_,[],_,he,_=>by cases he
 | .nz _::_,[],_,he,_=>by cases he
def qbU (tm:Nat→Value):List PM→Nat→List Value→List Nat→Prop
 |[],_,_,i=>i=[]
 | .io _::ps,k,as,i=>∃b i2,i=b::i2∧tm k=ptr b 0∧qbU tm ps (k+1) as.tail i2
 | .iob _::ps,k,as,i=>∃b i2,i=b::i2∧tm k=ptr b 0∧qbU tm ps (k+1) as.tail i2
 | .ior _ _::ps,k,as,i=>∃i1 i2,i=i1++i2∧tm k=as.headD undef∧i1=(as.headD undef).ownBlock.toList∧qbU tm ps (k+1) as.tail i2
 | .val _::ps,k,as,i=>qbU tm ps (k+1) as.tail i
 | .own _ _::ps,k,as,i=>qbU tm ps (k+1) as.tail i
 | .fn _ _::ps,k,as,i=>qbU tm ps (k+1) as.tail i
 | .nil _ _::ps,k,as,i=>qbU tm ps (k+1) as.tail i
 | .rd _::ps,k,as,i=>qbU tm ps (k+1) as.tail i
theorem qbU.congr {tm tm':Nat→Value} :(ps:List PM)→(k:Nat)→ {as:List Value} → {i:List Nat} →(∀s∈qca ps k,tm' s=tm s)→qbU tm ps k as i→qbU tm' ps k as i
 |[],_,_,_,_,h=>h
 | .io _::ps,k,_,_,he,⟨b,i2,h1,h2,h3⟩=>⟨b,i2,h1,by rw [he k (by simp [qca])]; exact h2,h3.congr ps (k+1) fun s hs=>he s (by simp [qca,hs])⟩
 | .iob _::ps,k,_,_,he,⟨b,i2,h1,h2,h3⟩=>⟨b,i2,h1,by rw [he k (by simp [qca])]; exact h2,h3.congr ps (k+1) fun s hs=>he s (by simp [qca,hs])⟩
 | .ior _ _::ps,k,_,_,he,⟨i1,i2,h1,h2,h3,h4⟩=>⟨i1,i2,h1,by rw [he k (by simp [qca])]; exact h2,h3,h4.congr ps (k+1) fun s hs=>he s (by simp [qca,hs])⟩
 | .val _::ps,k,_,_,he,h=>qbU.congr ps (k+1) he h
 | .own _ _::ps,k,_,_,he,h=>qbU.congr ps (k+1) he h
 | .fn _ _::ps,k,_,_,he,h=>qbU.congr ps (k+1) he h
 | .nil _ _::ps,k,_,_,he,h=>qbU.congr ps (k+1) he h
 | .rd _::ps,k,_,_,he,h=>qbU.congr ps (k+1) he h
theorem qbU.boxes {tm:Nat→Value} :(ps:List PM)→(k:Nat)→ {as:List Value} → {i:List Nat} →qbU tm ps k as i→∃ib:List Nat,(qb1 ps k).map tm=ib.map (fun b=>ptr b 0)
 |[],_,_,_,_=>⟨[],rfl⟩
 | .io _::ps,k,_,_,⟨b,i2,h1,h2,h3⟩=>by
  obtain ⟨ib,hib⟩:=h3.boxes ps (k+1)
  exact ⟨b::ib,by simp [qb1,h2,hib]⟩
 | .iob _::ps,k,_,_,⟨b,i2,h1,h2,h3⟩=>by
  obtain ⟨ib,hib⟩:=h3.boxes ps (k+1)
  exact ⟨b::ib,by simp [qb1,h2,hib]⟩
 | .ior _ _::ps,k,_,_,⟨i1,i2,h1,h2,h3,h4⟩=>by
  obtain ⟨ib,hib⟩:=h4.boxes ps (k+1)
  exact ⟨ib,by simp [qb1,hib]⟩
 | .val _::ps,k,_,_,h=>qbU.boxes ps (k+1) h
 | .own _ _::ps,k,_,_,h=>qbU.boxes ps (k+1) h
 | .fn _ _::ps,k,_,_,h=>qbU.boxes ps (k+1) h
 | .nil _ _::ps,k,_,_,h=>qbU.boxes ps (k+1) h
 | .rd _::ps,k,_,_,h=>qbU.boxes ps (k+1) h
theorem qbZ:(ps:List PM)→(k:Nat)→∀s∈qb1 ps k,s∈qca ps k
 |[],_,_,h=>h
 | .io _::ps,k,s,h=>by
  rcases List.mem_cons.1 h with rfl|h
  ·simp [qca]
  ·simp [qca,qbZ ps (k+1) s h]
 | .iob _::ps,k,s,h=>by
  rcases List.mem_cons.1 h with rfl|h
  ·simp [qca]
  ·simp [qca,qbZ ps (k+1) s h]
 | .ior _ _::ps,k,s,h=>by simp [qca,qbZ ps (k+1) s h]
 | .val _::ps,k,s,h=>qbZ ps (k+1) s h
 | .own _ _::ps,k,s,h=>qbZ ps (k+1) s h
 | .fn _ _::ps,k,s,h=>qbZ ps (k+1) s h
 | .nil _ _::ps,k,s,h=>qbZ ps (k+1) s h
 | .rd _::ps,k,s,h=>qbZ ps (k+1) s h
theorem qcV (h:qI C σ a.tmps w own):(ps:List PM)→(k:Nat)→ {z:PMs.ioDen ps} → {as:List Value} → {i:List Nat} →(qeG ps k).run (qh σ)=some z→
  qbU (fun s=>a.tmps.getD s undef) ps k as i→∃js:List Nat,js.Nodup∧(∀F:Nat→Prop,(∀b s c,k≤s→(qh σ s).2= .box c→b∈(own s).tail→b∉js→F b)→(∀b,C.free w own b→F b)→qcd w F ps z as i js)∧
   (∀b∈i,∃s,b∈own s∧((a.tmps.getD s undef=ptr b 0∧∃c,(qh σ s).2= .box c)∨(s∈qb7 ps k∧∃et e ys,(qh σ s).2= .own et e ys)))∧
   ∀b∈js,∃s,k≤s∧b∈own s∧s∈qb7 ps k∧(∃c,(qh σ s).2= .box c)∧a.tmps.getD s undef≠ptr b 0
 |[],k,z,as,i,_,hi=>by
  have hi:i=[]:=hi
  subst hi
  exact ⟨[],List.nodup_nil,fun _ _ _=>⟨rfl,rfl⟩,fun b hb=>(by cases hb),fun b hb=>(by cases hb)⟩
 | .val _::ps,k,z,as,i,he,hi=>by
  obtain ⟨js,n,g0,g1,g2⟩:=qcV h ps (k+1) (z:=z) he hi
  exact ⟨js,n,fun F hF hF0=>g0 F (fun b s c hk=>hF b s c (by omega)) hF0,g1,fun b hb=>by
   obtain ⟨s,q1,q2⟩:=g2 b hb
   exact ⟨s,by omega,q2⟩⟩
 | .own _ _::ps,k,z,as,i,he,hi=>by
  obtain ⟨js,n,g0,g1,g2⟩:=qcV h ps (k+1) (z:=z) he hi
  exact ⟨js,n,fun F hF hF0=>g0 F (fun b s c hk=>hF b s c (by omega)) hF0,g1,fun b hb=>by
   obtain ⟨s,q1,q2⟩:=g2 b hb
   exact ⟨s,by omega,q2⟩⟩
 | .fn _ _::ps,k,z,as,i,he,hi=>by
  obtain ⟨js,n,g0,g1,g2⟩:=qcV h ps (k+1) (z:=z) he hi
  exact ⟨js,n,fun F hF hF0=>g0 F (fun b s c hk=>hF b s c (by omega)) hF0,g1,fun b hb=>by
   obtain ⟨s,q1,q2⟩:=g2 b hb
   exact ⟨s,by omega,q2⟩⟩
 | .nil _ _::ps,k,z,as,i,he,hi=>by
  obtain ⟨js,n,g0,g1,g2⟩:=qcV h ps (k+1) (z:=z) he hi
  exact ⟨js,n,fun F hF hF0=>g0 F (fun b s c hk=>hF b s c (by omega)) hF0,g1,fun b hb=>by
   obtain ⟨s,q1,q2⟩:=g2 b hb
   exact ⟨s,by omega,q2⟩⟩
 | .rd _::ps,k,z,as,i,he,hi=>by
  obtain ⟨js,n,g0,g1,g2⟩:=qcV h ps (k+1) (z:=z) he hi
  exact ⟨js,n,fun F hF hF0=>g0 F (fun b s c hk=>hF b s c (by omega)) hF0,g1,fun b hb=>by
   obtain ⟨s,q1,q2⟩:=g2 b hb
   exact ⟨s,by omega,q2⟩⟩
 | .ior et e::ps,k,z,as,i,he,⟨i1,i2,p1,p2,p3,p4⟩=>by
  simp only [qeG,Q.run_get] at he
  split at he
  case h_2=>cases he
  rename_i et' e' xs hx
  split at he
  case isFalse=>cases he
  rename_i hty
  obtain ⟨hty,hmk⟩:=hty
  subst hty
  split at he
  case h_2=>cases he
  rename_i x hs
  obtain ⟨r,h1,he⟩:=Q.bind_some he
  have:=Q.ret_some he
  subst this
  obtain ⟨e1,e2⟩:=Ty.as_some hs
  injection e1 with e1
  subst e1
  have e2:xs=x:=e2
  subst e2
  obtain ⟨js,hjn,g1,g2,g3⟩:=qcV h ps (k+1) h1 p4
  have hat:=h.at_ k
  rw [hx,show a.tmps.getD k undef=as.headD undef from p2] at hat
  have hown:qeB w (C.free w own) et e' xs (as.headD undef) (own k):=qL.toRow hmk hat
  have hb:own k=i1:=by
   obtain ⟨_,cells,_,hb,_⟩:=hown
   rw [hb,p3]
  refine ⟨js,hjn,fun F hF hF0=>⟨i1,i2,p1,?_,g1 F (fun b s c hk=>hF b s c (by omega)) hF0⟩,fun b hbm=> ?_,fun b hb=> ?_⟩
  ·rw [hb] at hown
   exact hown.keep (fun b hb hlt=>⟨hF0 b hb,hlt,rfl⟩) (fun _ _ _=>rfl)
  ·rw [p1] at hbm
   rcases List.mem_append.1 hbm with hbm|hbm
   ·exact ⟨k,by rw [hb]; exact hbm,.inr ⟨by simp [qb7],et,e',xs,hx⟩⟩
   ·obtain ⟨s,q1,q2⟩:=g2 b hbm
    refine ⟨s,q1,q2.imp id fun ⟨q3,q4⟩=>⟨by simp [qb7,q3],q4⟩⟩
  ·obtain ⟨s,q0,q1,q2,q3⟩:=g3 b hb
   exact ⟨s,by omega,q1,by simp [qb7,q2],q3⟩
 | .io t::ps,k,z,as,i,he,⟨b,i2,p1,p2,p3⟩=>by
  subst p1
  simp only [qeG,Q.run_get] at he
  split at he
  case h_2=>cases he
  rename_i c hc
  split at he
  case h_2=>cases he
  rename_i x fl hg
  split at hg
  case isFalse=>cases hg
  rename_i hsz
  obtain ⟨r,h1,he⟩:=Q.bind_some he
  have:=Q.ret_some he
  subst this
  obtain ⟨b0,cs,bs',te,b1,b2,b3,b4⟩:=h.box hc
  have hb:b0=b:=(qcq (b1.symm.trans p2)).1
  subst hb
  obtain ⟨js,hjn,g1,g2,g3⟩:=qcV h ps (k+1) h1 p3
  obtain ⟨q1,q2,_⟩:=b3.get hg
  have hcl:=b3.length
  rw [List.drop_zero,List.take_of_length_le (by omega)] at q2
  refine ⟨js,hjn,fun F hF hF0=>⟨b0,i2,cs,te,rfl,b2,q2.keep fun b hb hlt=>⟨?_,hlt,rfl⟩,g1 F (fun b s c hk=>hF b s c (by omega)) hF0⟩,fun b hb=> ?_,fun b hb=> ?_⟩
  ·rcases hb with hb|hb
   ·exact hF0 b hb
   ·refine hF b k c (Nat.le_refl _) hc (by rw [b4]; exact hb) fun hj=> ?_
    obtain ⟨s,r0,r1,_⟩:=g3 b hj
    have:=h.apart s k b r1 (by rw [b4]; exact List.mem_cons_of_mem _ hb)
    omega
  ·rcases List.mem_cons.1 hb with rfl|hb
   ·exact ⟨k,by rw [b4]; exact List.mem_cons_self,.inl ⟨b1,c,hc⟩⟩
   ·exact g2 b hb
  ·obtain ⟨s,q0,q1,q2,q3⟩:=g3 b hb
   exact ⟨s,by omega,q1,by simpa [qb7] using q2,q3⟩
 | .iob t::ps,k,z,as,i,he,⟨b,i2,p1,p2,p3⟩=>by
  subst p1
  simp only [qeG,Q.run_get] at he
  split at he
  case h_2=>cases he
  rename_i c hc
  split at he
  case h_2=>cases he
  rename_i x hg
  obtain ⟨r,h1,he⟩:=Q.bind_some he
  have:=Q.ret_some he
  subst this
  obtain ⟨b0,cs,bs',te,b1,b2,b3,b4⟩:=h.box hc
  have hb:b0=b:=(qcq (b1.symm.trans p2)).1
  subst hb
  obtain ⟨js,hjn,g1,g2,g3⟩:=qcV h ps (k+1) h1 p3
  have hnd:=h.nodup k
  rw [b4] at hnd
  have hnd:=List.nodup_cons.1 hnd
  obtain ⟨j1,q1,q2⟩:=b3.fit t hnd.2 hg
  have hk:∀b∈j1,b∈own k:=fun b hb=>by rw [b4]; exact List.mem_cons_of_mem _ (q1.subset hb)
  have hjk:∀b∈own k,b∉js:=fun b hb hj=>by
   obtain ⟨s,r0,r1,_⟩:=g3 b hj
   have:=h.apart s k b r1 hb
   omega
  refine ⟨j1++js,List.nodup_append.2 ⟨hnd.2.sublist q1,hjn,fun b hb b' hb' e=>hjk b (hk b hb) (e ▸ hb')⟩,fun F hF hF0=>⟨b0,i2,j1,js,cs,te,rfl,rfl,b2,q2 F hF0 fun k' hk' hkn=> ?_,g1 F (fun b s c' hks hc' hb hnj=> ?_) hF0⟩,fun b hb=> ?_,fun b hb=> ?_⟩
  ·refine hF k' k c (Nat.le_refl _) hc (by rw [b4]; exact hk') fun hm=> ?_
   rcases List.mem_append.1 hm with hm|hm
   ·exact hkn hm
   ·exact hjk k' (by rw [b4]; exact List.mem_cons_of_mem _ hk') hm
  ·by_cases hj:b∈j1
   ·have:=h.apart s k b (List.mem_of_mem_tail hb) (hk b hj)
    omega
   ·exact hF b s c' (by omega) hc' hb fun hm=>(List.mem_append.1 hm).elim hj hnj
  ·rcases List.mem_cons.1 hb with rfl|hb
   ·exact ⟨k,by rw [b4]; exact List.mem_cons_self,.inl ⟨b1,c,hc⟩⟩
   ·obtain ⟨s,r1,r2⟩:=g2 b hb
    exact ⟨s,r1,r2.imp id fun ⟨q3,q4⟩=>⟨by simp [qb7,q3],q4⟩⟩
  ·rcases List.mem_append.1 hb with hb|hb
   ·refine ⟨k,Nat.le_refl _,hk b hb,by simp [qb7],⟨c,hc⟩,fun e=> ?_⟩
    have e2:a.tmps.getD k undef=ptr b0 0:=b1
    have:=(qcq (e2.symm.trans e)).1
    subst this
    exact hnd.1 (q1.subset hb)
   ·obtain ⟨s,r0,r1,r2,r3⟩:=g3 b hb
    exact ⟨s,by omega,r1,by simp [qb7,r2],r3⟩
end
end Go.Vi
namespace Go.Vi
open Go.RowKit
theorem qmu {P:Program} {w:World} {fn:Func} {tmps:Array Value} {vs:List Value} (h:(fn.results.toList.mapM (qoz tmps)).run P w= .ok vs w):(results fn tmps).run P w=Result.ok (qd5 vs) w:=by
 have e:results fn tmps=(do
   let vs ←fn.results.mapM (qoz tmps)
   pure (if h:vs.size=1 then vs[0] else .tuple vs)):=rfl
 rw [e,Array.mapM_eq_mapM_toList]
 simp only [Sem.run_bind,Sem.run_map,h,Result.andThen_ok,Sem.run_pure]
 congr 1
 match vs with
 |[]=>rfl
 |[v]=>rfl
 |v::u::r=>simp [qd5]
theorem qcn {P:Program} {w:World} {F:Nat→Prop} (tm:Nat→Value):(ps:List PM)→(k:Nat)→ {x:PMs.den ps} → {vs:List Value} → {g i:List Nat} →qZ P w F ps x vs g i→(∀j,j<ps.length→tm (k+j)=vs.getD j undef)→qbU tm ps k vs i
 |[],k,x,vs,g,i,⟨_,_,h3⟩,_=>h3
 | .val t::ps,k,x,vs,g,i,⟨v,r,h1,h2,h3⟩,ht=>by
  subst h1
  exact qcn tm ps (k+1) h3 fun j hj=>by
   have:=ht (j+1) (by simpa using hj)
   rw [show k+1+j=k+(j+1) from by omega]
   simpa using this
 | .nil _ _::ps,k,x,vs,g,i,⟨r,h1,h3⟩,ht=>by
  subst h1
  exact qcn tm ps (k+1) h3 fun j hj=>by
   have:=ht (j+1) (by simpa using hj)
   rw [show k+1+j=k+(j+1) from by omega]
   simpa using this
 | .rd _::ps,k,x,vs,g,i,⟨_,_,r,h1,_,_,_,_,h3⟩,ht=>by
  subst h1
  exact qcn tm ps (k+1) h3 fun j hj=>by
   have:=ht (j+1) (by simpa using hj)
   rw [show k+1+j=k+(j+1) from by omega]
   simpa using this
 | .fn _ _::ps,k,x,vs,g,i,⟨v,r,h1,h2,h3⟩,ht=>by
  subst h1
  exact qcn tm ps (k+1) h3 fun j hj=>by
   have:=ht (j+1) (by simpa using hj)
   rw [show k+1+j=k+(j+1) from by omega]
   simpa using this
 | .own _ _::ps,k,x,vs,g,i,⟨v,r,g1,g2,h1,h2,h3,h4⟩,ht=>by
  subst h1
  exact qcn tm ps (k+1) h4 fun j hj=>by
   have:=ht (j+1) (by simpa using hj)
   rw [show k+1+j=k+(j+1) from by omega]
   simpa using this
 | .ior _ _::ps,k,x,vs,g,i,⟨v,r,i1,i2,h1,h2,h3,h4⟩,ht=>by
  subst h1
  have h0:tm k=v:=by simpa using ht 0 (by simp)
  refine ⟨i1,i2,h2,h0,?_,qcn tm ps (k+1) h4 fun j hj=> ?_⟩
  ·obtain ⟨_,cells,_,hb,_⟩:=h3
   exact hb
  ·have:=ht (j+1) (by simpa using hj)
   rw [show k+1+j=k+(j+1) from by omega]
   simpa using this
 | .iob t::ps,k,x,vs,g,i,⟨b,r,g1,g2,i2,cs,te,h1,h0,h2,h3,h4,h5⟩,ht=>by
  subst h1
  have h0:tm k=ptr b 0:=by simpa using ht 0 (by simp)
  refine ⟨b,i2,h2,h0,qcn tm ps (k+1) h5 fun j hj=> ?_⟩
  have:=ht (j+1) (by simpa using hj)
  rw [show k+1+j=k+(j+1) from by omega]
  simpa using this
 | .io t::ps,k,x,vs,g,i,⟨b,r,i2,cs,te,h1,h2,h3,h4,h5⟩,ht=>by
  subst h1
  have h0:tm k=ptr b 0:=by simpa using ht 0 (by simp)
  refine ⟨b,i2,h2,h0,qcn tm ps (k+1) h5 fun j hj=> ?_⟩
  have:=ht (j+1) (by simpa using hj)
  rw [show k+1+j=k+(j+1) from by omega]
  simpa using this
end Go.Vi
namespace Go.Vi
open Go.RowKit
theorem qoh (vs:List Value) (n:Nat) (j:Nat):(vs.toArray++Array.replicate n undef).getD j undef=vs.getD j undef:=by
 rw [Array.getD_eq_getD_getElem?,List.getD_eq_getElem?_getD]
 by_cases h:j<vs.length
 ·rw [Array.getElem?_append_left (by simpa using h)]
  simp
 ·rw [Array.getElem?_append_right (by simpa using h),List.getElem?_eq_none (by omega),Array.getElem?_replicate]
  split <;> rfl
theorem qop {P:Program} {E:Env} (hE:qbg E P) {w w':World} {F:Nat→Prop} {fn:Func} {ps:List PM} {rs:List RM} {g i:List Nat} {σ:St} {a:Act} {own:Nat→List Nat} {y:RMs.den rs×PMs.ioDen ps}
  (hpre:∀b∈g++i,¬F b∧b<w.heap.size) (hn:(g++i).Nodup)
  {pn:Nat→Option Nat} {hT:qdM E.tabs w fun b=>F b∧¬b∈g++i} (h:qI { P,w0:=w,O:=fun b=>b∈g++i,G:=F,pn,T:=E.tabs,hT } σ a.tmps w' own) {as:List Value} (hpin:qbU (fun s=>a.tmps.getD s undef) ps 0 as i) (he:qlP E fn ps rs σ=some y):
  ∃vs bs js,(results fn a.tmps).run P w'=Result.ok (qd5 vs) w'∧(bs++js).Nodup∧(∀b∈bs++js,(b∈g∨w.heap.size≤b)∧b<w'.heap.size)∧qas w' (qhS w F g i (bs++js)) (qcr rs y.1) vs bs∧qcd w' (qhS w F g i (bs++js)) ps y.2 as i js∧qcl (fun b=>b∈g++i) w w':=by
 haveI:Tabbed E { P,w0:=w,O:=fun b=>b∈g++i,G:=F,pn,T:=E.tabs,hT } :=⟨rfl⟩
 unfold qlP at he
 split at he
 case h_2=>cases he
 rename_i y1 gone ow z cc hr hz hcc
 split at he
 case isFalse=>cases he
 rename_i hc
 obtain ⟨hca,he⟩:=qfS he
 injection he with he
 subst he
 simp only [Bool.and_eq_true] at hc
 have hgn:=qdc hc.1.1
 have hap:=qeh hc.1.2
 have hrow:=qeh hc.2
 obtain ⟨vs0,bs,k1,k2,k3,k4,k5⟩:=qga hE h rs hr ⟨cc,hcc,hca⟩
 obtain ⟨js,hjn,hios,hio,hj⟩:=qcV h ps 0 hz hpin
 have hbi:∀b∈bs,b∉i:=fun b hb hi=>by
  obtain ⟨s,hs,hbs⟩:=k3 b hb
  obtain ⟨et,e,ys,hys⟩:=k5 s hs
  obtain ⟨s',h1,h2⟩:=hio b hi
  have:=h.apart s s' b hbs h1
  subst this
  rcases h2 with ⟨_,c,h3⟩|⟨h3,_⟩
  ·rw [h3] at hys
   cases hys
  ·exact hrow s (List.mem_append_left _ hs) h3
 have hbj:∀b∈bs,b∉js:=fun b hb hjb=>by
  obtain ⟨s,hs,hbs⟩:=k3 b hb
  obtain ⟨et,e,ys,hys⟩:=k5 s hs
  obtain ⟨s',_,h1,_,⟨c,h2⟩,_⟩:=hj b hjb
  have:=h.apart s s' b hbs h1
  subst this
  rw [h2] at hys
  cases hys
 have hji:∀b∈js,b∉i:=fun b hb hi=>by
  obtain ⟨s,_,h1,_,⟨c,h2⟩,h3⟩:=hj b hb
  obtain ⟨s',h4,h5⟩:=hio b hi
  have:=h.apart s s' b h1 h4
  subst this
  rcases h5 with ⟨h5,_⟩|⟨_,et,e,ys,h5⟩
  ·exact h3 h5
  ·rw [h2] at h5; cases h5
 have hfree:∀b,Ctx.free { P,w0:=w,O:=fun b=>b∈g++i,G:=F,pn,T:=E.tabs,hT } w' own b→qhS w F g i (bs++js) b:=fun b hb=>by
  have hni:b∉i:=fun hi=>by
   obtain ⟨s',h1,_⟩:=hio b hi
   exact hb.2.2 s' h1
  refine ⟨?_,fun hbb=> ?_,hni⟩
  ·rcases hb.1 with hb|hb|hb
   ·exact .inl hb
   ·rcases List.mem_append.1 hb with hb|hb
    ·exact .inr (.inl hb)
    ·exact absurd hb hni
   ·exact .inr (.inr hb)
  ·rcases List.mem_append.1 hbb with hbb|hbb
   ·obtain ⟨s,_,hbs⟩:=k3 b hbb
    exact hb.2.2 s hbs
   ·obtain ⟨s,_,hbs,_⟩:=hj b hbb
    exact hb.2.2 s hbs
 have hmine:∀s b,b∈own s→b∉i→F b∨b∈g∨w.heap.size≤b:=fun s b hb hni=>by
  rcases (h.mine s b hb).1 with hb|hb
  ·rcases List.mem_append.1 hb with hb|hb
   ·exact .inr (.inl hb)
   ·exact absurd hb hni
  ·exact .inr (.inr hb)
 refine ⟨_,bs,js,qmu k1,List.nodup_append.2 ⟨k4 hgn,hjn,fun b hb b' hb' e=>hbj b hb (e ▸ hb')⟩,fun b hb=> ?_,qas.turn rs (.inr fun b hb _=> ?_) k2,hios _ (fun b s c _ hc hb hnj=> ?_) hfree,h.kept⟩
 ·have hni:b∉i:=(List.mem_append.1 hb).elim (hbi b) (hji b)
  obtain ⟨s,hbs⟩:∃s,b∈own s:=by
   rcases List.mem_append.1 hb with hb|hb
   ·obtain ⟨s,_,hbs⟩:=k3 b hb
    exact ⟨s,hbs⟩
   ·obtain ⟨s,_,hbs,_⟩:=hj b hb
    exact ⟨s,hbs⟩
  obtain ⟨h1,h2⟩:=h.mine s b hbs
  refine ⟨?_,h2⟩
  rcases h1 with h1|h1
  ·rcases List.mem_append.1 h1 with h1|h1
   ·exact .inl h1
   ·exact absurd h1 hni
  ·exact .inr h1
 ·rcases hb with hb|⟨s,hs,hbs,hne⟩
  ·exact hfree b hb
  ·have hni:b∉i:=fun hi=>by
    obtain ⟨s',h1,h2⟩:=hio b hi
    have:=h.apart s s' b hbs h1
    subst this
    rcases h2 with ⟨h2,_⟩|⟨h2,_⟩
    ·exact hne h2
    ·exact hrow s (List.mem_append_right _ hs) h2
   refine ⟨hmine s b hbs hni,fun hbb=> ?_,hni⟩
   rcases List.mem_append.1 hbb with hbb|hbb
   ·obtain ⟨s',hs',hbs'⟩:=k3 b hbb
    have:=h.apart s s' b hbs hbs'
    subst this
    exact hap s hs hs'
   ·obtain ⟨s',_,hbs',hr',_⟩:=hj b hbb
    have:=h.apart s s' b hbs hbs'
    subst this
    exact hrow s (List.mem_append_right _ hs) hr'
 ·obtain ⟨b0,cs,bs',te,b1,b2,b3,b4⟩:=h.box hc
  have hb0:=hb
  rw [b4] at hb
  have hb:b∈bs':=hb
  have hbs:b∈own s:=by rw [b4]; exact List.mem_cons_of_mem _ hb
  have hni:b∉i:=fun hi=>by
   obtain ⟨s',h1,h2⟩:=hio b hi
   have:=h.apart s s' b hbs h1
   subst this
   rcases h2 with ⟨h2,_⟩|⟨_,et,e,ys,h2⟩
   ·rw [b1] at h2
    have:=(qcq h2).1
    subst this
    have hnd:=h.nodup s
    rw [b4] at hnd
    exact (List.nodup_cons.1 hnd).1 hb
   ·rw [hc] at h2
    cases h2
  refine ⟨hmine s b hbs hni,fun hbb=> ?_,hni⟩
  rcases List.mem_append.1 hbb with hbb|hbb
  case inr=>exact hnj hbb
  obtain ⟨s',hs',hbs'⟩:=k3 b hbb
  have:=h.apart s s' b hbs hbs'
  subst this
  obtain ⟨et,e,ys,hys⟩:=k5 s hs'
  rw [hc] at hys
  cases hys
def qk4:List Nat→List Nat→Nat→Option Nat
 |k::l,b::i,j=>if k=j then some b else qk4 l i j
 |_,_,_=>none
theorem qnd {tm:Nat→Value} :(l i:List Nat)→l.map tm=i.map (fun b=>ptr b 0)→(∀k b,qk4 l i k=some b→tm k=ptr b 0∧k∈l)∧∀k∈l,∃b,qk4 l i k=some b
 |[],_,_=>⟨fun k b h=>(by cases h),fun k h=>(by cases h)⟩
 |k::l,[],h=>by simp at h
 |k::l,b::i,h=>by
  simp only [List.map_cons,List.cons.injEq] at h
  obtain ⟨h1,h2⟩:=qnd l i h.2
  refine ⟨fun j c hj=> ?_,fun j hj=> ?_⟩
  ·simp only [qk4] at hj
   split at hj
   ·rename_i e
    injection hj with hj
    subst e; subst hj
    exact ⟨h.1,List.mem_cons_self⟩
   ·obtain ⟨q1,q2⟩:=h1 j c hj
    exact ⟨q1,List.mem_cons_of_mem _ q2⟩
  ·simp only [qk4]
   by_cases e:k=j
   ·exact ⟨b,by rw [if_pos e]⟩
   ·rw [if_neg e]
    rcases List.mem_cons.1 hj with hj|hj
    ·exact absurd hj.symm e
    ·exact h2 j hj
theorem qbg.pinned {E:Env} {P:Program} (h:qbg E P) (anns:qqM) (ps:List PM) (rs:List RM):qbg (E.at anns ps rs) P:=
 ⟨h.ty,fun t e he=>⟨(h.elem t e he).under,(h.elem t e he).info,(h.elem t e he).notInt⟩,h.dflt,h.size,h.arr,h.struct,h.str,h.int,h.bool,h.err,h.opt,h.map,h.off,fun t c hc=>by
  have hc:(E.zero t).map (BC.remask (qbS anns.frz (some 1000000008)))=some c:=hc
  rw [Option.map_eq_some_iff] at hc
  obtain ⟨c0,h0,rfl⟩:=hc
  obtain ⟨i,z,h1,h2,h3⟩:=h.zero t c0 h0
  exact ⟨i,z,h1,h2,fun w F=>(h3 w F).remask _⟩,h.eq,h.mixed⟩
theorem qfY {P:Program} {f:Nat} {fn:Func} {c:Code} (hf:P.funcs[f]? =some fn) (hb:fn.body=some c) (hname:(fn.name == "runtime.NumGoroutine")=false) (as:Array Value) (w:World):(callFunc f as).run P w= .ok (.enter f as) w:=by
 have hn:¬fn.name= "runtime.NumGoroutine" :=by simpa using hname
 simp [callFunc,hf,hn,hb]
theorem qq9 {P:Program} {E:Env} (hE:qbg E P) (hF:qfM E P) {N:Nat} {anns:qqM} {f:Nat} {fn:Func} {c:Code} (hf:P.funcs[f]? =some fn) (hb:fn.body=some c) (hname:(fn.name == "runtime.NumGoroutine")=false) (D:ql)
  (hrun:∀x y,D.sem x=some y→runF E N anns fn D.ps D.rs x=some y):D.okT P E.tabs f:=by
 refine ⟨fun as w=>qfY hf hb hname as w,fun w F x y as g i hT hp hpre hn hy=> ?_⟩
 have hT':qdM E.tabs w fun b=>F b∧¬b∈g++i:=hT.keep fun b hb hlt=>⟨⟨hb,fun hm=>(hpre b hm).1 hb⟩,hlt,rfl⟩
 have he:=hrun x y hy
 unfold runF at he
 rw [hb] at he
 simp only at he
 split at he
 case isFalse=>cases he
 rename_i hcond
 simp only [Bool.and_eq_true] at hcond
 obtain ⟨c1,c2⟩:=hcond
 have hlen:D.ps.length≤fn.ntmps:=of_decide_eq_true c2
 have hpin0:=qcn (fun s=>(as.toArray++Array.replicate (fn.ntmps - as.toArray.size) undef).getD s undef) D.ps 0 hp fun j _=>by
  rw [Nat.zero_add]; exact qoh as _ j
 obtain ⟨ib,hib⟩:=hpin0.boxes D.ps 0
 obtain ⟨p1,p2⟩:=qnd (qb1 D.ps 0) ib hib
 obtain ⟨own,hst⟩:=qpD (pn:=qk4 (qb1 D.ps 0) ib) (fn:=fn) hT' hlen hp hpre hn
 have fin:∀(σ':St) (a':Act) (w':World) (own':Nat→List Nat),qcT (qca D.ps 0) { tmps:=as.toArray++Array.replicate (fn.ntmps - as.toArray.size) undef,defers:=[] } a'→qI { P,w0:=w,O:=fun b=>b∈g++i,G:=F,pn:=qk4 (qb1 D.ps 0) ib,T:=E.tabs,hT:=hT' } σ' a'.tmps w' own'→qlP E fn D.ps D.rs σ'=some y→
   a'.defers=[]∧∃v,(results fn a'.tmps).run P w'= .ok v w'∧∃v',Ending.returned v= .returned v'∧D.Post w F as g i y v' w':=by
  intro σ' a' w' own' hk hs hfin
  have hpin:qbU (fun s=>a'.tmps.getD s undef) D.ps 0 as i:=hpin0.congr D.ps 0 fun s hs=>hk.2 s hs
  obtain ⟨vs,bs,js,h1,h2,h3,h4,h5,h6⟩:=qop hE hpre hn hs hpin hfin
  exact ⟨hk.1,qd5 vs,h1,qd5 vs,rfl,vs,bs,js,rfl,h2,h3,h4,h5,h6⟩
 haveI:Tabbed (E.at anns D.ps D.rs) { P,w0:=w,O:=fun b=>b∈g++i,G:=F,pn:=qk4 (qb1 D.ps 0) ib,T:=E.tabs,hT:=hT' } :=⟨rfl⟩
 refine calls_of_wp hf hb (qqW (E:=E.at anns D.ps D.rs) (C:= { P,w0:=w,O:=fun b=>b∈g++i,G:=F,pn:=qk4 (qb1 D.ps 0) ib,T:=E.tabs,hT:=hT' }) (pin:=qca D.ps 0) (hE.pinned anns D.ps D.rs) ⟨fun f C h=>hF f C h,fun k hk=>p2 k hk,fun k b h=>qbZ D.ps 0 k (p1 k b h).2⟩ c c1 he (fun k b h=>(p1 k b h).1) hst ⟨fun σ' a' w' own' hfr hk hs hfin=>fin σ' a' w' own' hk hs hfin,fun i σ' a' w' own' hfr hk hs hfin=>(by cases hfin),fun σ' a' w' own' hfr hk hs hfin=>fin σ' a' w' own' hk hs hfin⟩)
theorem qpJ {P:Program} {T:qqm} {f:Nat} {fn:Func} (hf:P.funcs[f]? =some fn) (hb:fn.body.isSome=true) (hname:(fn.name == "runtime.NumGoroutine")=false) {ps:List PM} {rs:List RM} :ql.okT P T f ⟨ps,rs,fun _=>none⟩:=by
 obtain ⟨c,hc⟩:=Option.isSome_iff_exists.1 hb
 exact ⟨fun as w=>qfY hf hc hname as w,fun w F x y as g i _ _ _ _ hy=>by cases hy⟩
theorem keeps {P:Program} {E:Env} (hE:qbg E P) (hF:qfM E P) {N:Nat} {anns:qqM} {f:Nat} {fn:Func} (hf:P.funcs[f]? =some fn) (hb:fn.body.isSome=true) (hname:(fn.name == "runtime.NumGoroutine")=false) {ps:List PM} {rs:List RM} {sem:PMs.den ps→Option (RMs.den rs×PMs.ioDen ps)}
  (hrun:∀x,runF E N anns fn ps rs x=sem x):ql.okT P E.tabs f ⟨ps,rs,sem⟩:=by
 obtain ⟨c,hc⟩:=Option.isSome_iff_exists.1 hb
 exact qq9 hE hF (N:=N) (anns:=anns) hf hc hname ⟨ps,rs,sem⟩ fun x y h=>(hrun x).trans h
end Go.Vi
namespace Go.Vi
noncomputable section
structure TI where
 t:Nat
 ty:Ty
 et:Nat
 fs:List (Nat×Nat)
 z:qbT
 bytes:Nat
 eq:Bool
def qg4:List TI→Nat→Option TI
 |[],_=>none
 |x::r,t=>match decEq x.t t with
  |isTrue _=>some x
  |isFalse _=>qg4 r t
def qbT.zero:qbT→BC
 | .val t=> .val t t.dflt
 | .own et e=> .own et e []
 | .pair a b=> .pair a.zero b.zero
 | .hole n=> .hole n
def qqR {α:Type} :List (Nat×α)→Nat→Option α
 |[],_=>none
 |(a,x)::r,k=>match decEq a k with
  |isTrue _=>some x
  |isFalse _=>qqR r k
def Env.tab (T:List TI) (fns:List (Nat×ql)):Env where
 ty t:=(qg4 T t).map (·.ty)
 etid t:=((qg4 T t).map (·.et)).getD 0
 off t f:=(qg4 T t).bind fun x=>(x.fs[f]?).map (·.1)
 fty t f:=(((qg4 T t).bind fun x=>(x.fs[f]?).map (·.2))).getD 0
 zero t:=(qg4 T t).map (·.z.zero)
 bytes t:=((qg4 T t).map (·.bytes)).getD 0
 eqok t:=((qg4 T t).map (·.eq)).getD false
 fn:=qqR fns
 pins:=[]
 ownz:=false
 tabs:=fun _=>none
 rf:=[]
end
end Go.Vi
namespace Go.Vi
def Ty.zeroOk:Ty→List Value→Bool
 | .int k,cs=>match cs with
  |[.int k' n]=>decide (k'=k)&&decide (n=0)
  |_=>false
 | .bool,cs=>match cs with
  |[.bool b]=> !b
  |_=>false
 | .str,cs=>match cs with
  |[.string s]=>s.data.toList.isEmpty
  |_=>false
 | .unit,cs=>cs.isEmpty
 | .err,cs=>match cs with
  |[.nilIface]=>true
  |_=>false
 | .opt _,cs=>match cs with
  |[.pointer none]=>true
  |_=>false
 | .map _ _,_=>false
 | .pair a b,cs=>a.zeroOk (cs.take a.size)&&b.zeroOk (cs.drop a.size)
 | .slice _,cs=>match cs with
  |[.slice none 0 0]=>true
  |_=>false
 | .arr n e,cs=>decide (cs.length=n * e.size)&&(List.range n).all fun i=>e.zeroOk ((cs.drop (i * e.size)).take e.size)
def qbT.zeroOk:qbT→List Value→Bool
 | .val t,cs=>t.zeroOk cs
 | .own _ _,cs=>match cs with
  |[.slice none 0 0]=>true
  |_=>false
 | .pair a b,cs=>a.zeroOk (cs.take a.zero.size)&&b.zeroOk (cs.drop a.zero.size)
 | .hole n,cs=>decide (cs.length=n)
def qoL (P:Program):List Field→Ty→Nat→Bool
 |[],.unit,_=>true
 |f::fs,.pair a b,off=>decide (f.offset=off)&&(match P.info? f.type with
  |some i=>decide (i.size=a.size)
  |none=>false)&&qoL P fs b (off+a.size)
 |_,_,_=>false
def fsOk (P:Program):List Field→List (Nat×Nat)→Bool
 |_,[]=>true
 |f::fs,(off,ft)::r=>decide (f.offset=off)&&decide (f.type=ft)&&(match P.info? ft with
  |some i=>decide (i.size≠0)
  |none=>false)&&fsOk P fs r
 |[],_::_=>false
def qmW (P:Program) (T:List TI) (et:Nat) (e:Ty):Bool:=
 match P.info? et with
 |some i=>decide (i.size=e.size)&&(match i.zero with
  |some z=>e.zeroOk z.cells.toList&&decide (z.cells.size=e.size)&&(match z with
   | .agg _=>e.agg
   |_=>true)
  |none=>false)&&decide (i.bytes=((qg4 T et).map (·.bytes)).getD 0)
 |none=>false
def qdH (P:Program) (T:List TI) (x:TI) (d:TypeDesc):Ty→Bool
 | .int k=>match d with
  | .int k'=>decide (k'=k)
  |_=>false
 | .bool=>match d with
  | .bool=>true
  |_=>false
 | .str=>match d with
  | .string=>true
  |_=>false
 | .slice e=>match d with
  | .slice et=>decide (et=x.et)&&qmW P T et e
  |_=>false
 | .arr n e=>match d with
  | .array m et=>decide (m=n)&&decide (et=x.et)&&(match P.info? et with
   |some i=>decide (i.size=e.size)
   |none=>false)
  |_=>false
 | .err=>match d with
  | .interface _=>true
  |_=>false
 | .opt _=>match d with
  | .pointer _=>true
  |_=>false
 | .map k v=>match d with
  | .map kn vn=>decide (vn=x.et)&&(match P.underlying kn with
   |some kd=>qhH k kd
   |none=>false)&&(match P.info? vn with
   |some i=>(match i.zero with
    |some z=>v.zeroOk z.cells.toList&&(match z with
     | .agg _=>v.agg
     |_=> !v.agg)
    |none=>false)
   |none=>false)
  |_=>false
 | .unit=>match d with
  | .struct fs=>qoL P fs.toList .unit 0&&fsOk P fs.toList x.fs
  |_=>false
 | .pair a b=>match d with
  | .struct fs=>qoL P fs.toList (.pair a b) 0&&fsOk P fs.toList x.fs
  |_=>false
def tiOk (P:Program) (T:List TI) (x:TI):Bool:=
 match P.info? x.t,P.underlying x.t with
 |some i,some d=>decide (i.size=x.ty.size)&&(match i.zero with
  |some z=>(if x.ty.struct then x.ty.zeroOk z.cells.toList else true)&&x.z.zeroOk z.cells.toList
  |none=>false)&&qdH P T x d x.ty&&(match d with
  | .struct _=>true
  |_=>x.fs.isEmpty)&&(!x.eq||qq6 P x.ty x.t)
 |_,_=>false
def qrE (P:Program) (T:List TI):Bool:=P.follows .mixedOrders&&T.all (tiOk P T)
theorem qke: {T:List TI} → {t:Nat} → {x:TI} →qg4 T t=some x→x∈T∧x.t=t
 |y::r,t,x,h=>by
  simp only [qg4] at h
  split at h
  ·injection h with h
   subst h
   exact ⟨List.mem_cons_self,by assumption⟩
  ·obtain ⟨h1,h2⟩:=qke h
   exact ⟨List.mem_cons_of_mem _ h1,h2⟩
theorem Ty.zeroOk_rep {w:World} {F:Nat→Prop} :(t:Ty)→ {cs:List Value} →t.zeroOk cs=true→Rep w F t t.dflt cs
 | .int k,cs,h=>by
  simp only [Ty.zeroOk] at h
  split at h
  ·simp only [Bool.and_eq_true,decide_eq_true_eq] at h
   obtain ⟨rfl,rfl⟩:=h
   refine ⟨rfl,?_⟩
   rename_i k
   cases k <;> exact ⟨by decide,by decide⟩
  ·cases h
 | .bool,cs,h=>by
  simp only [Ty.zeroOk] at h
  split at h
  ·simp at h; subst h; rfl
  ·cases h
 | .err,cs,h=>by
  simp only [Ty.zeroOk] at h
  split at h
  ·exact ⟨_,rfl,.inl ⟨rfl,rfl⟩⟩
  ·cases h
 | .opt _,cs,h=>by
  simp only [Ty.zeroOk] at h
  split at h
  ·exact ⟨_,rfl,.inl ⟨rfl,rfl⟩⟩
  ·cases h
 | .map _ _,cs,h=>by cases h
 | .str,cs,h=>by
  simp only [Ty.zeroOk] at h
  split at h
  ·rename_i s
   refine ⟨?_,by simp [Ty.dflt]⟩
   have h1:s.data.toList=[]:=by simpa using h
   have h2:s.data= #[]:=by
    apply Array.toList_inj.1
    rw [h1]
   cases s
   simp only at h2
   subst h2
   rfl
  ·cases h
 | .unit,cs,h=>by
  have:cs=[]:=by simpa [Ty.zeroOk] using h
  exact this
 | .pair a b,cs,h=>by
  simp only [Ty.zeroOk,Bool.and_eq_true] at h
  exact ⟨_,_,(List.take_append_drop a.size cs).symm,a.zeroOk_rep h.1,b.zeroOk_rep h.2⟩
 | .slice e,cs,h=>by
  simp only [Ty.zeroOk] at h
  split at h
  ·exact ⟨_,rfl,.inl ⟨rfl,rfl⟩⟩
  ·cases h
 | .arr n e,cs,h=>by
  simp only [Ty.zeroOk,Bool.and_eq_true,decide_eq_true_eq,List.all_eq_true,List.mem_range] at h
  obtain ⟨h1,h2⟩:=h
  refine ⟨by simp [Ty.dflt],(List.range n).map (fun i=>(cs.drop (i * e.size)).take e.size),by simp,?_,fun i x c hi hc=> ?_⟩
  ·clear h2
   induction n generalizing cs with
   |zero=>simp at h1; subst h1; rfl
   |succ n ih=>
    have:=ih (cs:=cs.drop e.size) (by rw [List.length_drop,h1,Nat.add_mul]; omega)
    rw [List.range_succ_eq_map,List.map_cons,List.flatten_cons,List.map_map]
    rw [Nat.zero_mul,List.drop_zero]
    have e2:((fun i=>List.take e.size (List.drop (i * e.size) cs)) ∘ Nat.succ)=fun i=>List.take e.size (List.drop (i * e.size) (cs.drop e.size)):=by
     funext i
     simp only [Function.comp,List.drop_drop]
     rw [Nat.succ_mul,Nat.add_comm]
    rw [e2,←this,List.take_append_drop]
  ·have hx:x=e.dflt:=by
    simp only [Ty.dflt] at hi
    rw [List.getElem?_replicate] at hi
    split at hi
    ·injection hi with hi; exact hi.symm
    ·cases hi
   rw [List.getElem?_map] at hc
   by_cases hin:i<n
   ·rw [List.getElem?_range hin] at hc
    simp only [Option.map_some,Option.some.injEq] at hc
    rw [hx,←hc]
    exact e.zeroOk_rep (h2 i hin)
   ·rw [List.getElem?_eq_none (by simpa using hin)] at hc
    cases hc
theorem qbT.zeroOk_rep {w:World} {F:Nat→Prop} :(b:qbT)→ {cs:List Value} →b.zeroOk cs=true→qad w F b.zero cs []
 | .val t,cs,h=>⟨rfl,t.zeroOk_rep h⟩
 | .own et e,cs,h=>by
  simp only [qbT.zeroOk] at h
  split at h
  ·exact ⟨_,rfl,qL.nil_ _ _ _ _⟩
  ·cases h
 | .pair a b,cs,h=>by
  simp only [qbT.zeroOk,Bool.and_eq_true] at h
  exact ⟨_,_,[],[],(List.take_append_drop a.zero.size cs).symm,rfl,a.zeroOk_rep h.1,b.zeroOk_rep h.2⟩
 | .hole n,cs,h=>⟨rfl,by simpa [qbT.zeroOk] using h⟩
theorem qdZ {P:Program} {w:World} {t:Nat} {i:TypeInfo} (h:P.info? t=some i):(sizeOf t).run P w= .ok i.size w:=by
 simp [sizeOf,typeInfo,h]
theorem qlC {P:Program} : {fs:List Field} → {T:Ty} → {off:Nat} →qoL P fs T off=true→Lay P fs T off
 |[],.unit,_,_=>trivial
 |f::fs,.pair a b,off,h=>by
  simp only [qoL,Bool.and_eq_true,decide_eq_true_eq] at h
  obtain ⟨⟨h1,h2⟩,h3⟩:=h
  split at h2
  ·rename_i i hi
   simp only [decide_eq_true_eq] at h2
   exact ⟨h1,fun w=>by rw [qdZ hi,h2],qlC h3⟩
  ·cases h2
theorem qoI {P:Program} : {fs:List Field} → {l:List (Nat×Nat)} → {f:Nat} → {q:Nat×Nat} →fsOk P fs l=true→l[f]? =some q→∃fl,fs[f]? =some fl∧fl.offset=q.1∧fl.type=q.2∧∃i,P.info? fl.type=some i∧i.size≠0
 |fl::fs,(off,ft)::r,f,q,h,hq=>by
  simp only [fsOk,Bool.and_eq_true,decide_eq_true_eq] at h
  obtain ⟨⟨⟨h1,h2⟩,h3⟩,h4⟩:=h
  cases f with
  |zero=>
   simp at hq
   subst hq
   refine ⟨fl,rfl,h1,h2,?_⟩
   subst h2
   split at h3
   ·rename_i i hi
    exact ⟨i,hi,of_decide_eq_true h3⟩
   ·cases h3
  |succ f=>
   simp only [List.getElem?_cons_succ] at hq⊢
   exact qoI h4 hq
 |_,[],f,q,_,hq=>by simp at hq
 |[],_::_,_,_,h,_=>by cases h
theorem qn0 {P:Program} {T:List TI} (h:qrE P T=true) (fns:List (Nat×ql)):qbg (Env.tab T fns) P:=by
 simp only [qrE,Bool.and_eq_true] at h
 have one:∀ {t:Nat} {x:TI},qg4 T t=some x→x.t=t∧∃i d z,P.info? t=some i∧P.underlying t=some d∧i.zero=some z∧i.size=x.ty.size∧(x.ty.struct=true→x.ty.zeroOk z.cells.toList=true)∧x.z.zeroOk z.cells.toList=true∧qdH P T x d x.ty=true∧((∃fs,d= .struct fs)∨x.fs=[])∧(x.eq=true→EqB P t x.ty):=by
  intro t x hx
  obtain ⟨h1,h2⟩:=qke hx
  have:=List.all_eq_true.1 h.2 x h1
  unfold tiOk at this
  split at this
  ·rename_i i d hi hd
   simp only [Bool.and_eq_true,decide_eq_true_eq] at this
   obtain ⟨⟨⟨⟨g1,g2⟩,g3⟩,g4⟩,g5⟩:=this
   split at g2
   ·rename_i z hz
    simp only [Bool.and_eq_true] at g2
    refine ⟨h2,i,d,z,h2 ▸ hi,h2 ▸ hd,hz,g1,fun hs=> ?_,g2.2,g3,?_⟩
    ·have:=g2.1
     rw [if_pos hs] at this
     exact this
    ·refine ⟨?_,fun he=> ?_⟩
     ·split at g4
      ·exact .inl ⟨_,rfl⟩
      ·exact .inr (by simpa using g4)
     ·rw [he] at g5
      exact h2 ▸ qqc g5
   ·cases g2
  ·cases this
 have ent:∀ {t:Nat} {u:Ty},(Env.tab T fns).ty t=some u→∃x,qg4 T t=some x∧x.ty=u:=by
  intro t u hu
  simp only [Env.tab,Option.map_eq_some_iff] at hu
  exact hu
 have etid:∀ {t:Nat} {x:TI},qg4 T t=some x→(Env.tab T fns).etid t=x.et:=by
  intro t x hx
  simp [Env.tab,hx]
 refine ⟨?_,?_,?_,?_,?_,?_,?_,?_,?_,?_,?_,?_,?_,?_,?_,h.1⟩
 ·intro t u hu
  obtain ⟨x,hx,rfl⟩:=ent hu
  obtain ⟨_,i,d,z,h1,h2,h3,h4,h5,h6,h7,h8,h9⟩:=one hx
  refine ⟨⟨i,h1,h4⟩,d,h2,?_⟩
  cases hty:x.ty <;> rw [hty] at h7 <;> simp only [qdH] at h7 <;> split at h7 <;> first|rfl|cases h7
 ·intro t e hu
  obtain ⟨x,hx,hty⟩:=ent hu
  obtain ⟨_,i,d,z,h1,h2,h3,h4,h5,h6,h7,h8,h9⟩:=one hx
  rw [hty] at h7
  simp only [qdH] at h7
  split at h7
  ·rename_i et
   simp only [Bool.and_eq_true,decide_eq_true_eq] at h7
   obtain ⟨rfl,h7⟩:=h7
   unfold qmW at h7
   split at h7
   ·rename_i ie hie
    simp only [Bool.and_eq_true,decide_eq_true_eq] at h7
    obtain ⟨⟨k1,k2⟩,k3⟩:=h7
    split at k2
    ·rename_i ze hze
     simp only [Bool.and_eq_true,decide_eq_true_eq] at k2
     refine ⟨by rw [etid hx]; exact h2,⟨ie,ze,by rw [etid hx]; exact hie,k1,hze,k2.1.2,?_⟩,fun k hk=>by rw [h2] at hk; cases hk⟩
     rw [etid hx]
     exact k3
    ·cases k2
   ·cases h7
  ·cases h7
 ·intro t e hu
  obtain ⟨x,hx,hty⟩:=ent hu
  obtain ⟨_,i,d,z,h1,h2,h3,h4,h5,h6,h7,h8,h9⟩:=one hx
  rw [hty] at h7
  simp only [qdH] at h7
  split at h7
  ·rename_i et
   simp only [Bool.and_eq_true,decide_eq_true_eq] at h7
   obtain ⟨rfl,h7⟩:=h7
   unfold qmW at h7
   split at h7
   ·rename_i ie hie
    simp only [Bool.and_eq_true,decide_eq_true_eq] at h7
    obtain ⟨⟨k1,k2⟩,k3⟩:=h7
    split at k2
    ·rename_i ze hze
     simp only [Bool.and_eq_true,decide_eq_true_eq] at k2
     refine ⟨ie,ze,by rw [etid hx]; exact hie,hze,fun ha cs hcs=> ?_,fun w F=>e.zeroOk_rep k2.1.1⟩
     have:=k2.2
     rw [hcs] at this
     simp only at this
     rw [ha] at this
     cases this
    ·cases k2
   ·cases h7
  ·cases h7
 ·intro t e hu
  rcases hu with hu|⟨n,hu⟩
  ·obtain ⟨x,hx,hty⟩:=ent hu
   obtain ⟨_,i,d,z,h1,h2,h3,h4,h5,h6,h7,h8,h9⟩:=one hx
   rw [hty] at h7
   simp only [qdH] at h7
   split at h7
   ·rename_i et
    simp only [Bool.and_eq_true,decide_eq_true_eq] at h7
    obtain ⟨rfl,h7⟩:=h7
    unfold qmW at h7
    split at h7
    ·rename_i ie hie
     simp only [Bool.and_eq_true,decide_eq_true_eq] at h7
     funext w
     rw [etid hx,qdZ hie,h7.1.1]
    ·cases h7
   ·cases h7
  ·obtain ⟨x,hx,hty⟩:=ent hu
   obtain ⟨_,i,d,z,h1,h2,h3,h4,h5,h6,h7,h8,h9⟩:=one hx
   rw [hty] at h7
   simp only [qdH] at h7
   split at h7
   ·rename_i m et
    simp only [Bool.and_eq_true,decide_eq_true_eq] at h7
    obtain ⟨⟨rfl,rfl⟩,h7⟩:=h7
    split at h7
    ·rename_i ie hie
     simp only [decide_eq_true_eq] at h7
     funext w
     rw [etid hx,qdZ hie,h7]
    ·cases h7
   ·cases h7
 ·intro t n e hu
  obtain ⟨x,hx,hty⟩:=ent hu
  obtain ⟨_,i,d,z,h1,h2,h3,h4,h5,h6,h7,h8,h9⟩:=one hx
  rw [hty] at h7
  simp only [qdH] at h7
  split at h7
  ·rename_i m et
   simp only [Bool.and_eq_true,decide_eq_true_eq] at h7
   obtain ⟨⟨rfl,rfl⟩,h7⟩:=h7
   rw [etid hx]
   exact h2
  ·cases h7
 ·intro t u hu hs
  obtain ⟨x,hx,hty⟩:=ent hu
  obtain ⟨_,i,d,z,h1,h2,h3,h4,h5,h6,h7,h8,h9⟩:=one hx
  rw [hty] at h7 h5
  have h5:=h5 hs
  cases u <;> simp only [Ty.struct] at hs <;> first|cases hs|skip
  all_goals
   simp only [qdH] at h7
   split at h7
   ·rename_i fs
    simp only [Bool.and_eq_true] at h7
    exact ⟨fs,z,i,h2,h1,h3,fun w F=>Ty.zeroOk_rep _ h5,qlC h7.1⟩
   ·cases h7
 ·intro t hu
  obtain ⟨x,hx,hty⟩:=ent hu
  obtain ⟨_,i,d,z,h1,h2,h3,h4,h5,h6,h7,h8,h9⟩:=one hx
  rw [hty] at h7
  simp only [qdH] at h7
  split at h7
  ·exact h2
  ·cases h7
 ·intro t k hu
  obtain ⟨x,hx,hty⟩:=ent hu
  obtain ⟨_,i,d,z,h1,h2,h3,h4,h5,h6,h7,h8,h9⟩:=one hx
  rw [hty] at h7
  simp only [qdH] at h7
  split at h7
  ·simp only [decide_eq_true_eq] at h7
   subst h7
   exact h2
  ·cases h7
 ·intro t hu
  obtain ⟨x,hx,hty⟩:=ent hu
  obtain ⟨_,i,d,z,h1,h2,h3,h4,h5,h6,h7,h8,h9⟩:=one hx
  rw [hty] at h7
  simp only [qdH] at h7
  split at h7
  ·exact h2
  ·cases h7
 ·intro t hu
  obtain ⟨x,hx,hty⟩:=ent hu
  obtain ⟨_,i,d,z,h1,h2,h3,h4,h5,h6,h7,h8,h9⟩:=one hx
  rw [hty] at h7
  simp only [qdH] at h7
  split at h7
  ·exact ⟨_,h2⟩
  ·cases h7
 ·intro t e hu
  obtain ⟨x,hx,hty⟩:=ent hu
  obtain ⟨_,i,d,z,h1,h2,h3,h4,h5,h6,h7,h8,h9⟩:=one hx
  rw [hty] at h7
  simp only [qdH] at h7
  split at h7
  ·exact ⟨_,h2⟩
  ·cases h7
 ·intro t k v hu
  obtain ⟨x,hx,hty⟩:=ent hu
  obtain ⟨_,i,d,z,h1,h2,h3,h4,h5,h6,h7,h8,h9⟩:=one hx
  rw [hty] at h7
  simp only [qdH] at h7
  split at h7
  ·rename_i kn vn
   simp only [Bool.and_eq_true] at h7
   obtain ⟨⟨k1,k2⟩,k3⟩:=h7
   split at k2
   case h_2=>cases k2
   rename_i kd hkd
   split at k3
   case h_2=>cases k3
   rename_i iv hiv
   split at k3
   case h_2=>cases k3
   rename_i zv hzv
   simp only [Bool.and_eq_true] at k3
   refine ⟨kn,vn,kd,iv,zv,h2,hkd,k2,hiv,hzv,fun w F=>⟨v.zeroOk_rep k3.1,fun ha=> ?_,fun ha cs he=> ?_⟩⟩
   ·have k4:=k3.2
    split at k4
    ·exact ⟨_,rfl⟩
    ·rw [ha] at k4
     cases k4
   ·have k4:=k3.2
    rw [he] at k4
    simp only at k4
    rw [ha] at k4
    cases k4
  ·cases h7
 ·intro t f n ho
  simp only [Env.tab,Option.bind_eq_some_iff,Option.map_eq_some_iff] at ho
  obtain ⟨x,hx,q,hq,rfl⟩:=ho
  obtain ⟨_,i,d,z,h1,h2,h3,h4,h5,h6,h7,h8,h9⟩:=one hx
  rcases h8 with ⟨fs,rfl⟩|h8
  ·have hfs:fsOk P fs.toList x.fs=true:=by
    cases hty:x.ty <;> rw [hty] at h7 <;> simp only [qdH] at h7 <;> first|(simp only [Bool.and_eq_true] at h7; exact h7.2)|cases h7
   obtain ⟨fl,g1,g2,g3,g4⟩:=qoI hfs hq
   refine ⟨fs,fl,h2,by simpa using g1,g2,?_,g4⟩
   simp [Env.tab,hx,hq,g3]
  ·rw [h8] at hq
   simp at hq
 ·intro t c hc
  simp only [Env.tab,Option.map_eq_some_iff] at hc
  obtain ⟨x,hx,rfl⟩:=hc
  obtain ⟨_,i,d,z,h1,h2,h3,h4,h5,h6,h7,h8,h9⟩:=one hx
  exact ⟨i,z,h1,h3,fun w F=>x.z.zeroOk_rep h6⟩
 ·intro t u he hu
  obtain ⟨x,hx,rfl⟩:=ent hu
  obtain ⟨_,i,d,z,h1,h2,h3,h4,h5,h6,h7,h8,h9⟩:=one hx
  exact h9 (by simpa [Env.tab,hx] using he)
theorem qog {P:Program} {T:List TI} :qfM (Env.tab T []) P:=fun f C h=>by cases h
theorem qnC {P:Program} {T:List TI} {fns:List (Nat×ql)} {f:Nat} {C:ql} (h:C.ok P f) (hF:qfM (Env.tab T fns) P):qfM (Env.tab T ((f,C)::fns)) P:=fun f' C' h'=>by
 simp only [Env.tab,qqR] at h'
 split at h'
 ·rename_i e _
  injection h' with h'
  subst h'
  subst e
  exact h
 ·exact hF f' C' h'
end Go.Vi
namespace Go.Vi
open Go.RowKit Go.WideShapes Go.ChangeShapes
def qkN (P:Program) (a:Nat→Bool) (sa:Nat) (b:List Field→Nat→Bool):List Field→Nat→Bool
 |f::r,off=>decide (f.offset=off)&&(decide (P.cellsOf f.type=sa)&&(a f.type&&b r (off+sa)))
 |[],_=>false
def qhG (P:Program):Ty→(Nat→Bool)×(List Field→Nat→Bool)
 | .int k=>(fun t=>match P.underlying t with
  |some (.int k')=>decide (k'=k)
  |_=>false,fun _ _=>false)
 | .bool=>(fun t=>match P.underlying t with
  |some .bool=>true
  |_=>false,fun _ _=>false)
 | .str=>(fun t=>match P.underlying t with
  |some .string=>true
  |_=>false,fun _ _=>false)
 | .err=>(fun _=>false,fun _ _=>false)
 | .opt _=>(fun _=>false,fun _ _=>false)
 | .map _ _=>(fun _=>false,fun _ _=>false)
 | .unit=>(fun t=>match P.underlying t with
  |some (.struct fs)=>fs.toList.isEmpty&&decide (P.cellsOf t=0)
  |_=>false,fun fs _=>fs.isEmpty)
 | .pair a b=>(fun t=>match P.underlying t with
  |some (.struct fs)=>qkN P (qhG P a).1 a.size (qhG P b).2 fs.toList 0&&decide (P.cellsOf t=a.size+b.size)
  |_=>false,qkN P (qhG P a).1 a.size (qhG P b).2)
 | .slice e=>(fun t=>match P.underlying t with
  |some (.slice et)=>decide (P.cellsOf et=e.size)&&(decide (e.size≠0)&&(qhG P e).1 et)
  |_=>false,fun _ _=>false)
 | .arr n e=>(fun t=>match P.underlying t with
  |some (.array m et)=>decide (m=n)&&(decide (P.cellsOf et=e.size)&&(decide (P.cellsOf t=n * e.size)&&(qhG P e).1 et))
  |_=>false,fun _ _=>false)
def Ty.bulk:(t:Ty)→t.den→Nat
 | .int _,_=>1
 | .bool,_=>1
 | .str,s=>List.length (α:=UInt8) s+1
 | .unit,_=>1
 | .err,_=>1
 | .opt _,_=>1
 | .map _ _,_=>1
 | .pair a b,x=>a.bulk x.1+b.bulk x.2
 | .slice e,xs=>(List.map e.bulk xs).sum+1
 | .arr _ e,xs=>(List.map e.bulk xs).sum+1
def Ty.good:(t:Ty)→t.den→Prop
 | .int k,n=>k.has n
 | .bool,_=>True
 | .str,s=>List.length (α:=UInt8) s≤maxLen
 | .unit,_=>True
 | .err,_=>True
 | .opt e,x=>match x with
  |some y=>e.good y
  |none=>True
 | .map _ _,_=>True
 | .pair a b,x=>a.good x.1∧b.good x.2
 | .slice e,xs=>List.length (xs:List e.den)≤maxLen∧∀y∈(xs:List e.den),e.good y
 | .arr _ e,xs=>∀y∈(xs:List e.den),e.good y
theorem Rep.good {w:World} {F:Nat→Prop} : {t:Ty} → {x:t.den} → {cs:List Value} →Rep w F t x cs→t.good x
 | .int _,_,_,h=>h.2
 | .bool,_,_,_=>trivial
 | .str,_,_,h=>h.2
 | .unit,_,_,_=>trivial
 | .err,_,_,_=>trivial
 | .map _ _,_,_,_=>trivial
 | .opt e,x,_,⟨v,_,h⟩=>by
  rcases h with ⟨rfl,_⟩|⟨y,a,cs,rfl,_,_,_,_,h⟩
  ·trivial
  ·exact h.good
 | .pair _ _,_,_,⟨_,_,_,h1,h2⟩=>⟨h1.good,h2.good⟩
 | .slice e,xs,_,⟨v,_,h⟩=>by
  refine ⟨?_,?_⟩
  ·rcases h with ⟨_,h⟩|⟨a,cap,_,h1,h2,_⟩
   ·have h:xs=[]:=h
    subst h
    exact Nat.zero_le _
   ·exact Nat.le_trans h1 h2
  intro y hy
  rcases h with ⟨_,h⟩|⟨a,cap,_,_,_,hx⟩
  ·have h:xs=[]:=h
   subst h
   cases hy
  ·obtain ⟨i,hi,rfl⟩:=List.getElem_of_mem hy
   obtain ⟨_,_,cs,_,h4⟩:=hx i _ (List.getElem?_eq_getElem hi)
   exact h4.good
 | .arr n e,xs,_,⟨hl,css,hcl,hc,hx⟩=>by
  intro y hy
  obtain ⟨i,hi,rfl⟩:=List.getElem_of_mem hy
  exact (hx i _ _ (List.getElem?_eq_getElem hi) (List.getElem?_eq_getElem (by have hi:i<List.length xs:=hi; omega))).good
def qji:(us:List Ty)→PMs.den (us.map .val)→Prop
 |[],_=>True
 |u::us,x=>u.good x.1∧qji us x.2
theorem qZ.good {P:Program} {w:World} {F:Nat→Prop} :(us:List Ty)→ {x:PMs.den (us.map .val)} → {vs:List Value} → {g i:List Nat} →qZ P w F (us.map .val) x vs g i→qji us x
 |[],_,_,_,_,_=>trivial
 |_::us,_,_,_,_,⟨_,_,_,h2,h3⟩=>⟨h2.1.good,qZ.good us h3⟩
structure qnj {H:Type} (bk:DataW H→Nat) (bkA:List (DataW H)→Nat):Prop where
 int:∀k n,1≤bk (.lit (.int k n))
 bool:∀b,1≤bk (.lit (.bool b))
 str:∀s,s.length+1≤bk (.lit (.string s))
 nil:1≤bk .nil
 slice:∀es sp,bkA es+1≤bk (.slice es sp)
 agg:∀ps,bkA ps+1≤bk (.agg ps)
 cons:∀d r,bk d+bkA r≤bkA (d::r)
section
variable {H:Type} {enc:TypeId×Value→H} {P:Program} {w:World} {bk:DataW H→Nat} {bkA:List (DataW H)→Nat}
theorem qky {a:Addr} {n:Nat} {cs:List Value} (h:w.cells? 0 a n=some cs):cs.length=n∧qeH w a cs∧(n≠0→a.block<w.heap.size):=by
 obtain ⟨_,h1,h2⟩:=World.cells?_some h
 refine ⟨h1,fun j u hj=> ?_,fun hn=> ?_⟩
 ·have hlt:j<n:=by
   have:=(List.getElem?_eq_some_iff.1 hj).1
   omega
  rw [h2 j hlt]
  exact hj
 ·have h0:=h2 0 (by omega)
  have:∃v,cs[0]? =some v:=⟨_,List.getElem?_eq_getElem (by omega)⟩
  obtain ⟨v,hv⟩:=this
  rw [hv] at h0
  have e:a.add 0=a:=by simp [Addr.add]
  rw [e] at h0
  unfold World.cell? at h0
  split at h0
  ·rename_i c t hh
   exact (Array.getElem?_eq_some_iff.1 hh).1
  ·cases h0
theorem qk5 {α β:Type} {R:Nat→α→β→Prop} :(n:Nat)→(ys:List β)→ys.length=n→(∀i y,ys[i]? =some y→∃x,R i x y)→∃xs:List α,xs.length=n∧∀(i:Nat) (x:α) (y:β),xs[i]? =some x→ys[i]? =some y→R i x y
 |0,ys,_,_=>⟨[],rfl,fun i x y h=>by simp at h⟩
 |n+1,[],h,_=>by simp at h
 |n+1,y::ys,h,hr=>by
  obtain ⟨x,hx⟩:=hr 0 y rfl
  obtain ⟨xs,h1,h2⟩:=qk5 (R:=fun i=>R (i+1)) n ys (by simpa using h) fun i y hy=>hr (i+1) y (by simpa using hy)
  refine ⟨x::xs,by simp [h1],fun i x' y' hx' hy'=> ?_⟩
  cases i with
  |zero=>simp at hx' hy'; subst hx'; subst hy'; exact hx
  |succ i=>exact h2 i x' y' (by simpa using hx') (by simpa using hy')
theorem qkM (hb:qnj bk bkA) {e:Ty} :(xs:List e.den)→(ys:List (DataW H×List MemPlace))→xs.length=ys.length→(∀(i:Nat) (x:e.den) (y:DataW H×List MemPlace),xs[i]? =some x→ys[i]? =some y→e.bulk x≤bk y.1)→(List.map e.bulk xs).sum≤bkA (ys.map (·.1))
 |[],_,_,_=>by simp
 |x::xs,[],h,_=>by simp at h
 |x::xs,y::ys,h,hr=>by
  have h0:=hr 0 x y rfl rfl
  have h1:=qkM hb xs ys (by simpa using h) fun i x y hx hy=>hr (i+1) x y (by simpa using hx) (by simpa using hy)
  have:=hb.cons y.1 (ys.map (·.1))
  simp only [List.map_cons,List.sum_cons]
  omega
theorem qn8 {t:Nat} (h:(qhG P .unit).1 t=true):∃fs,P.underlying t=some (.struct fs)∧fs.toList=[]∧P.cellsOf t=0:=by
 simp only [qhG] at h
 split at h
 ·rename_i fs hu
  simp only [Bool.and_eq_true,decide_eq_true_eq] at h
  exact ⟨fs,hu,by simpa using h.1,h.2⟩
 ·cases h
theorem qfR (hb:qnj bk bkA):(u:Ty)→
  (∀(fuel t:Nat) (cs:List Value) (y:DataW H×List MemPlace),(qhG P u).1 t=true→DataW.trod enc P w 0 (fun _=>true) true fuel t cs=some y→∃x:u.den,Rep w (fun b=>b<w.heap.size) u x cs∧u.bulk x≤bk y.1)∧
  (∀(m:Nat) (fs:List Field) (off:Nat) (cs:List Value) (ys:List (DataW H×List MemPlace)),(qhG P u).2 fs off=true→ys.length=fs.length→(∀(i:Nat) (f:Field),fs[i]? =some f→DataW.trod enc P w 0 (fun _=>true) true m f.type ((cs.drop f.offset).take (P.cellsOf f.type))=ys[i]?)→cs.length=off+u.size→
   ∃x:u.den,Rep w (fun b=>b<w.heap.size) u x (cs.drop off)∧u.bulk x≤bkA (ys.map (·.1))+1)
 | .int k=>by
  refine ⟨fun fuel t cs y hd h=> ?_,fun m fs off cs ys hd=>by cases hd⟩
  simp only [qhG] at hd
  split at hd
  ·rename_i k' hu
   simp only [decide_eq_true_eq] at hd
   subst hd
   obtain ⟨n,rfl,rfl,hw⟩:=DataW.trod_int hu h
   refine ⟨n,⟨rfl,?_⟩,hb.int k' n⟩
   simpa [Lit.wf,IntKind.has] using hw
  ·cases hd
 | .bool=>by
  refine ⟨fun fuel t cs y hd h=> ?_,fun m fs off cs ys hd=>by cases hd⟩
  simp only [qhG] at hd
  split at hd
  ·rename_i hu
   obtain ⟨b,rfl,rfl⟩:=DataW.trod_bool hu h
   exact ⟨b,rfl,hb.bool b⟩
  ·cases hd
 | .err=>⟨fun fuel t cs y hd h=>(by cases hd),fun m fs off cs ys hd=>by cases hd⟩
 | .opt _=>⟨fun fuel t cs y hd h=>(by cases hd),fun m fs off cs ys hd=>by cases hd⟩
 | .map _ _=>⟨fun fuel t cs y hd h=>(by cases hd),fun m fs off cs ys hd=>by cases hd⟩
 | .str=>by
  refine ⟨fun fuel t cs y hd h=> ?_,fun m fs off cs ys hd=>by cases hd⟩
  simp only [qhG] at hd
  split at hd
  ·rename_i hu
   obtain ⟨s,rfl,rfl,hl⟩:=DataW.trod_string hu h
   refine ⟨s.data.toList,⟨by simp,?_⟩,hb.str _⟩
   rw [Array.length_toList]
   exact hl
  ·cases hd
 | .unit=>by
  refine ⟨fun fuel t cs y hd h=> ?_,fun m fs off cs ys hd hl _ hcl=> ?_⟩
  ·obtain ⟨fs,hu,hf,hc⟩:=qn8 hd
   obtain ⟨xs,n,rfl,rfl,hl,_⟩:=DataW.trod_struct hu h
   have:cs=[]:=List.eq_nil_of_length_eq_zero (by omega)
   subst this
   have:=hb.agg (xs.map (·.1))
   exact ⟨(),rfl,by show 1≤_; simp only; omega⟩
  ·have:cs.drop off=[]:=List.drop_of_length_le (by rw [hcl]; exact Nat.le_refl _)
   exact ⟨(),this,by show 1≤_; omega⟩
 | .pair a b=>by
  obtain ⟨ha,_⟩:=qfR hb a
  obtain ⟨_,hb2⟩:=qfR hb b
  have fld:∀(m:Nat) (fs:List Field) (off:Nat) (cs:List Value) (ys:List (DataW H×List MemPlace)),qkN P (qhG P a).1 a.size (qhG P b).2 fs off=true→ys.length=fs.length→(∀(i:Nat) (f:Field),fs[i]? =some f→DataW.trod enc P w 0 (fun _=>true) true m f.type ((cs.drop f.offset).take (P.cellsOf f.type))=ys[i]?)→cs.length=off+(a.size+b.size)→
   ∃x:(Ty.pair a b).den,Rep w (fun b=>b<w.heap.size) (.pair a b) x (cs.drop off)∧(Ty.pair a b).bulk x≤bkA (ys.map (·.1))+1:=by
   intro m fs off cs ys hd hl hi hcl
   cases fs with
   |nil=>cases hd
   |cons f r=>
    simp only [qkN,Bool.and_eq_true,decide_eq_true_eq] at hd
    obtain ⟨h1,h2,h3,h4⟩:=hd
    cases ys with
    |nil=>simp at hl
    |cons y ys=>
     have h0:=hi 0 f rfl
     rw [h1,h2] at h0
     obtain ⟨xa,k1,k2⟩:=ha m f.type _ y h3 h0
     obtain ⟨xb,k3,k4⟩:=hb2 m r (off+a.size) cs ys h4 (by simpa using hl) (fun i f' hf'=>by have:=hi (i+1) f' (by simpa using hf'); simpa using this) (by omega)
     refine ⟨(xa,xb),⟨_,_,?_,k1,k3⟩,?_⟩
     ·rw [←List.drop_drop,List.take_append_drop]
     ·have:=hb.cons y.1 (ys.map (·.1))
      show a.bulk xa+b.bulk xb≤_
      simp only [List.map_cons]
      omega
  refine ⟨fun fuel t cs y hd h=> ?_,fld⟩
  simp only [qhG] at hd
  split at hd
  ·rename_i fs hu
   simp only [Bool.and_eq_true,decide_eq_true_eq] at hd
   obtain ⟨xs,n,rfl,rfl,hl,hxl,hxi⟩:=DataW.trod_struct hu h
   obtain ⟨x,k1,k2⟩:=fld n fs.toList 0 cs xs hd.1 (by simpa using hxl) (fun i f hf=>hxi i f (by simpa using hf)) (by omega)
   have:=hb.agg (xs.map (·.1))
   exact ⟨x,by simpa using k1,by simp only; omega⟩
  ·cases hd
 | .slice e=>by
  obtain ⟨he,_⟩:=qfR hb e
  refine ⟨fun fuel t cs y hd h=> ?_,fun m fs off cs ys hd=>by cases hd⟩
  simp only [qhG] at hd
  split at hd
  ·rename_i et hu
   simp only [Bool.and_eq_true,decide_eq_true_eq] at hd
   obtain ⟨h1,h2,h3⟩:=hd
   rcases DataW.trod_slice hu h with ⟨rfl,rfl⟩|⟨a,len,cap,elems,rest,n,rfl,rfl,rfl,_,g1,g2,g3,g4,_⟩
   ·exact ⟨[],⟨_,rfl,.inl ⟨rfl,rfl⟩⟩,by show 0+1≤_; exact hb.nil⟩
   ·obtain ⟨xs,k1,k2⟩:=qk5 (α:=e.den) (R:=fun i x y=>a.block<w.heap.size∧(∃cs,qeH w (a.add (i * e.size)) cs∧Rep w (fun b=>b<w.heap.size) e x cs)∧e.bulk x≤bk y.1) len elems g3 (fun i y hy=>by
     have hlt:i<len:=by
      have:=(List.getElem?_eq_some_iff.1 hy).1
      omega
     have:=g4 i hlt
     rw [hy,h1] at this
     obtain ⟨cs,hc1,hc2⟩:=Option.bind_eq_some_iff.1 this
     obtain ⟨q1,q2,q3⟩:=qky hc1
     obtain ⟨x,r1,r2⟩:=he n et cs y h3 hc2
     exact ⟨x,by simpa [qP] using q3 h2,⟨cs,q2,r1⟩,r2⟩)
    have idx:∀(i:Nat) (x:e.den),xs[i]? =some x→∃y,elems[i]? =some y:=fun i x hx=>⟨_,List.getElem?_eq_getElem (by have:=(List.getElem?_eq_some_iff.1 hx).1; omega)⟩
    refine ⟨xs,⟨_,rfl,.inr ⟨a,cap,by rw [k1],by omega,g2,fun i x hx=> ?_⟩⟩,?_⟩
    ·obtain ⟨y,hy⟩:=idx i x hx
     obtain ⟨q1,q2,_⟩:=k2 i x y hx hy
     exact ⟨q1,q1,q2⟩
    ·have:=qkM hb xs elems (by omega) fun i x y hx hy=>(k2 i x y hx hy).2.2
     have:=hb.slice (elems.map (·.1)) (rest.map (·.1))
     show (List.map e.bulk xs).sum+1≤_
     simp only
     omega
  ·cases hd
 | .arr n e=>by
  obtain ⟨he,_⟩:=qfR hb e
  refine ⟨fun fuel t cs y hd h=> ?_,fun m fs off cs ys hd=>by cases hd⟩
  simp only [qhG] at hd
  split at hd
  ·rename_i m et hu
   simp only [Bool.and_eq_true,decide_eq_true_eq] at hd
   obtain ⟨rfl,h1,h2,h3⟩:=hd
   obtain ⟨ys,k,rfl,rfl,g1,g2,g3⟩:=DataW.trod_array hu h
   obtain ⟨xs,k1,k2⟩:=qk5 (α:=e.den) (R:=fun i x y=>Rep w (fun b=>b<w.heap.size) e x ((cs.drop (i * e.size)).take e.size)∧e.bulk x≤bk y.1) m ys g2 (fun i y hy=>by
    have hlt:i<m:=by
     have:=(List.getElem?_eq_some_iff.1 hy).1
     omega
    have:=g3 i hlt
    rw [hy,h1] at this
    exact he k et _ y h3 this)
   refine ⟨xs,⟨k1,(List.range m).map (fun i=>(cs.drop (i * e.size)).take e.size),by simp,?_,fun i x c hi hc=> ?_⟩,?_⟩
   ·rw [h2] at g1
    clear g3 k2 k1 g2 h hu h2
    induction m generalizing cs with
    |zero=>simp at g1; subst g1; rfl
    |succ m ih=>
     have:=ih (cs:=cs.drop e.size) (by rw [List.length_drop,g1,Nat.add_mul]; omega)
     rw [List.range_succ_eq_map,List.map_cons,List.flatten_cons,List.map_map]
     rw [Nat.zero_mul,List.drop_zero]
     have e2:((fun i=>List.take e.size (List.drop (i * e.size) cs)) ∘ Nat.succ)=fun i=>List.take e.size (List.drop (i * e.size) (cs.drop e.size)):=by
      funext i
      simp only [Function.comp,List.drop_drop]
      rw [Nat.succ_mul,Nat.add_comm]
     rw [e2,←this,List.take_append_drop]
   ·have hlt:i<m:=by
     have:=(List.getElem?_eq_some_iff.1 hi).1
     omega
    have hy:ys[i]? =some (ys[i]'(by omega)):=List.getElem?_eq_getElem (by omega)
    rw [List.getElem?_map,List.getElem?_range hlt] at hc
    simp only [Option.map_some,Option.some.injEq] at hc
    rw [←hc]
    exact (k2 i x _ hi hy).1
   ·have:=qkM hb xs ys (by omega) fun i x y hx hy=>(k2 i x y hx hy).2
    have:=hb.agg (ys.map (·.1))
    show (List.map e.bulk xs).sum+1≤_
    simp only
    omega
  ·cases hd
theorem qo2 {u:Ty} {t:Nat} {v:Value} {r:Reach} {b0:Nat} (hd:(qhG P u).1 t=true) (hv:Value.okWide P w r b0 t v):(u.agg=true→∃cs,v= .agg cs)∧(u.agg=false→∀cs,v≠ .agg cs):=by
 cases u with
 |err=>cases hd
 |opt _=>cases hd
 |map _ _=>cases hd
 |int k=>
  simp only [qhG] at hd
  split at hd
  ·rename_i hu
   obtain ⟨n,rfl⟩:=okWide_int hu hv
   exact ⟨fun h=>(by cases h),fun _ cs h=>(by cases h)⟩
  ·cases hd
 |bool=>
  simp only [qhG] at hd
  split at hd
  ·rename_i hu
   obtain ⟨n,rfl⟩:=okWide_bool hu hv
   exact ⟨fun h=>(by cases h),fun _ cs h=>(by cases h)⟩
  ·cases hd
 |str=>
  simp only [qhG] at hd
  split at hd
  ·rename_i hu
   obtain ⟨n,rfl⟩:=okWide_string hu hv
   exact ⟨fun h=>(by cases h),fun _ cs h=>(by cases h)⟩
  ·cases hd
 |slice e=>
  simp only [qhG] at hd
  split at hd
  ·rename_i hu
   obtain ⟨a,n,c,rfl⟩:=okWide_slice hu hv
   exact ⟨fun h=>(by cases h),fun _ cs h=>(by cases h)⟩
  ·cases hd
 |unit=>
  simp only [qhG] at hd
  split at hd
  ·rename_i hu
   obtain ⟨cs,h,_⟩:=okWide_struct hu hv
   exact ⟨fun _=>⟨cs,h⟩,fun h=>(by cases h)⟩
  ·cases hd
 |pair a b=>
  simp only [qhG] at hd
  split at hd
  ·rename_i hu
   obtain ⟨cs,h,_⟩:=okWide_struct hu hv
   exact ⟨fun _=>⟨cs,h⟩,fun h=>(by cases h)⟩
  ·cases hd
 |arr n e=>
  simp only [qhG] at hd
  split at hd
  ·rename_i hu
   unfold Value.okWide at hv
   rw [hu] at hv
   obtain ⟨cs,h,_⟩:=hv
   exact ⟨fun _=>⟨cs,h⟩,fun h=>(by cases h)⟩
  ·cases hd
def qhD:(us:List Ty)→PMs.den (us.map .val)→Nat
 |[],_=>0
 |u::us,x=>u.bulk x.1+qhD us x.2
def qgR (P:Program):List Ty→List Nat→Bool
 |[],[]=>true
 |u::us,t::ts=>(qhG P u).1 t&&qgR P us ts
 |_,_=>false
theorem qli (hb:qnj bk bkA) {r:Reach} {b0:Nat} :(us:List Ty)→ {ts:List Nat} → {vs:List Value} → {ds:List (DataW H)} → {ps:List MemPlace} →qgR P us ts=true→(∀(j:Nat) t v,ts[j]? =some t→vs[j]? =some v→Value.okWide P w r b0 t v)→
  DataW.TrodAll enc P w 0 (fun _=>true) true ts vs ds ps→∃x:PMs.den (us.map .val),qZ P w (fun b=>b<w.heap.size) (us.map .val) x vs [] []∧qhD us x≤bkA ds
 |[],[],vs,ds,ps,_,_,h=>by
  obtain ⟨rfl,rfl,rfl⟩:=trodAll_nil h
  exact ⟨(),⟨rfl,rfl,rfl⟩,Nat.zero_le _⟩
 |u::us,t::ts,vs,ds,ps,hd,hv,h=>by
  simp only [qgR,Bool.and_eq_true] at hd
  obtain ⟨v,vs',d,ds',p,q,rfl,rfl,rfl,h0,hr⟩:=trodAll_cons h
  obtain ⟨fuel,h0⟩:=h0
  obtain ⟨x,k1,k2⟩:=(qfR hb u).1 fuel t _ _ hd.1 h0
  obtain ⟨xs,k3,k4⟩:=qli hb us hd.2 (fun j t' v' ht hv'=>hv (j+1) t' v' (by simpa using ht) (by simpa using hv')) hr
  have:=hb.cons d ds'
  exact ⟨(x,xs),⟨v,vs',rfl,⟨k1,qo2 hd.1 (hv 0 t v rfl rfl)⟩,k3⟩,by show u.bulk x+qhD us xs≤_; simp only at k2; omega⟩
theorem qld {W W':World} {sp:Nat→Bool} (hl:laidOutB P=true): {ts:List Nat} → {vs:List Value} → {ds:List (DataW H)} → {ps:List MemPlace} →(∀t∈ts,P.readableRec t=true∧t<P.types.size)→DataW.TrodAll enc P W 0 (fun _=>true) true ts vs ds ps→Below W.heap.size W W'→(∀x∈ps,x.block<W.heap.size)→(∀x∈ps,sp x.block=true)→
  DataW.TrodAll enc P W' 0 sp true ts vs ds ps
 |[],_,_,_,_,h,_,_,_=>by
  obtain ⟨rfl,rfl,rfl⟩:=trodAll_nil h
  rfl
 |t::ts,_,_,_,ht,h,hb,hlt,hs=>by
  obtain ⟨v,vs',d,ds',p,q,rfl,rfl,rfl,h0,hr⟩:=trodAll_cons h
  exact trodAll_cons_mk (WideElems.Trod_stays hl (ht t List.mem_cons_self).1 (ht t List.mem_cons_self).2 h0 (fun x hx=>hb.same (hlt x (List.mem_append_left _ hx))) fun x hx=>hs x (List.mem_append_left _ hx)) (qld hl (fun t' h'=>ht t' (List.mem_cons_of_mem _ h')) hr hb (fun x hx=>hlt x (List.mem_append_right _ hx)) fun x hx=>hs x (List.mem_append_right _ hx))
end
end Go.Vi
namespace Go.Vi
open Go.RowKit Go.WideShapes Go.ChangeShapes
section
variable {H:Type} {enc:TypeId×Value→H} {P:Program}
theorem qnr {f:Func} {s:ChangeSpec} {apart fresh handsOn again:Bool} {W W':World} {args:Array Value} {v:Value} {ds gs:List (DataW H)} {before pa pv:List MemPlace}
  (hW:DataW.Whole enc P f.params.toList s.vars apart W args.toList ds gs before)
  (hres:∀(b:Nat) (sp:Nat→Bool) (hd:Bool),DataW.TrodAll enc P W' b sp hd f.resultTypes.toList (v.resultList f.resultTypes.size) (s.fn H (ds++gs)).results [])
  (hargs:∀sp:Nat→Bool,(∀p∈before,sp p.block=true)→DataW.TrodAll enc P W' 0 sp true f.params.toList args.toList (s.fn H (ds++gs)).args pa)
  (hvars:∀sp:Nat→Bool,(∀p∈before,sp p.block=true)→DataW.TrodVars enc P W' sp s.vars (s.fn H (ds++gs)).vars pv)
  (hps:before=pa++pv) (hb:Below W.heap.size W W')
  (hok:∀(j:Nat) (t:TypeId) (r:Value),f.resultTypes[j]? =some t→(v.resultList f.resultTypes.size)[j]? =some r→Value.okWide P W' .any 0 t r):
  s.post enc P f apart fresh handsOn again W args v W':=by
 have hlt:∀p∈before,p.block<W.heap.size:=fun p hp=>hW.lt p hp
 have hold:∀p∈before,(fun b=>decide (b<W.heap.size)) p.block=true:=fun p hp=>by simpa using hlt p hp
 refine ⟨ds,gs,before,[],pa,pv,hW,hres _ _ _,hargs _ hold,hvars _ hold,World.keptBut_mono (fun p hp=>⟨hp,?_⟩) (hb.frame (· ∈before)),fun _=> ?_⟩
 ·rw [hps,List.mem_append] at hp
  exact Or.inr hp
 ·obtain ⟨_,_,_,_,_,hz,hn⟩:=hW
  refine ⟨hok,_,_,([]++pa)++pv,⟨[]++pa,pv,trodAll_append (hargs _ (fun _ _=>rfl)) (hres _ _ _),hvars _ (fun _ _=>rfl),rfl,?_,?_⟩,?_⟩
  ·intro b off hp
   have hin:MemPlace.cell b off∈before:=by rw [hps]; simpa using hp
   rw [hb.frozen (hlt _ hin)]
   exact hz b off hin
  ·intro ha
   have:=hn ha
   rw [hps] at this
   simpa using this
  ·intro p hp _
   rw [hps]
   simpa using hp
theorem qkE {T:qqm} {bk:DataW H→Nat} {bkA:List (DataW H)→Nat} (hb:qnj bk bkA) {B:Nat} {fi:Nat} {fn:Func} {s:ChangeSpec} {apart fresh handsOn again:Bool} {us:List Ty} {ts:List Nat} {tb:Nat} {sem:Nat→PMs.den (us.map .val)→Option (RMs.den [.val .bool]×PMs.ioDen (us.map .val))}
  (hp:fn.params.toList=ts) (hr:fn.resultTypes= #[tb]) (htb:P.underlying tb=some .bool) (hdeep:qgR P us ts=true) (hl:laidOutB P=true) (hread:ts.all (fun t=>P.readableRec t&&decide (t<P.types.size))=true) (hvars:s.vars=[])
  (hfn:∀ds:List (DataW H),ds.length=us.length→s.fn H ds= { results:=[.lit (.bool true)],args:=ds })
  (hC:∀N,ql.okT P T fi ⟨us.map .val,[.val .bool],sem N⟩) (hsem:∀x,qji us x→qhD us x≤B→∃N z,sem N x=some ((true,()),z))
  {W:World} {args:Array Value} {ds gs:List (DataW H)} {before:List MemPlace} {r:Reach} {base:Nat}
  (hT:qdM T W fun b=>b<W.heap.size)
  (hval:∀(j:Nat) t v,fn.params[j]? =some t→args[j]? =some v→Value.okWide P W r base t v)
  (hW:DataW.Whole enc P fn.params.toList s.vars apart W args.toList ds gs before) (hk:bkA (ds++gs)≤B):
  Calls P fi args W fun e W'=>∃v,e= .returned v∧s.post enc P fn apart fresh handsOn again W args v W':=by
 have hW':=hW
 obtain ⟨p,q,hA,hV,rfl,hfz,hnd⟩:=hW
 rw [hvars] at hV
 obtain ⟨rfl,rfl⟩:=trodVars_none hV
 rw [hp] at hA
 have hrd:∀t∈ts,P.readableRec t=true∧t<P.types.size:=fun t ht=>by
  have:=List.all_eq_true.1 hread t ht
  simpa using this
 have hlen:∀ {ts:List Nat} {us:List Ty} {vs:List Value} {ds:List (DataW H)} {p:List MemPlace},qgR P us ts=true→DataW.TrodAll enc P W 0 (fun _=>true) true ts vs ds p→ds.length=us.length:=by
  intro ts
  induction ts with
  |nil=>
   intro us vs ds p hd h
   obtain ⟨rfl,rfl,rfl⟩:=trodAll_nil h
   cases us with
   |nil=>rfl
   |cons u us=>cases hd
  |cons t ts ih=>
   intro us vs ds p hd h
   obtain ⟨v,vs',d,ds',p,q,rfl,rfl,rfl,h0,hr⟩:=trodAll_cons h
   cases us with
   |nil=>cases hd
   |cons u us=>
    simp only [qgR,Bool.and_eq_true] at hd
    simp only [List.length_cons]
    rw [ih hd.2 hr]
 have hdl:=hlen hdeep hA
 obtain ⟨x,k1,k2⟩:=qli hb us hdeep (fun j t v ht hv=>hval j t v (by rw [←Array.getElem?_toList,hp]; exact ht) (by rw [←Array.getElem?_toList]; exact hv)) hA
 rw [List.append_nil] at hk
 obtain ⟨N,z,hz⟩:=hsem x (qZ.good us k1) (by omega)
 have:=(hC N).2 W (fun b=>b<W.heap.size) x ((true,()),z) args.toList [] [] hT k1 (fun b hb=>by cases hb) List.nodup_nil hz
 rw [Array.toArray_toList] at this
 refine this.mono fun e W' ⟨v,he,vs,bs,js,hv,_,_,hcs,_,hkept⟩=>⟨v,he,?_⟩
 obtain ⟨v',r',b1,b2,rfl,rfl,⟨rfl,hrep,_,hna⟩,hnil,_⟩:=hcs
 subst hnil
 have hv':v'= .bool true:=by
  have:v'.cells.toList=[.bool true]:=hrep
  have hna:=hna rfl
  cases v' <;> simp_all [Value.cells]
 rw [hv'] at hv
 have hv:v= .bool true:=hv
 rw [hv]
 have hbelow:Below W.heap.size W W':=⟨hkept.os,hkept.tape,hkept.output,hkept.size,fun k hk=>hkept.block k hk fun h=>by cases h⟩
 have hlt:∀x∈p,x.block<W.heap.size:=fun x hx=>hW'.lt x (by simpa using hx)
 refine qnr (pa:=p) (pv:=[]) hW' (fun b sp hd=> ?_) (fun sp hsp=> ?_) (fun sp _=> ?_) rfl hbelow (ok_one hr rfl (okWide_bool_mk htb true))
 ·rw [List.append_nil,hfn ds hdl,hr]
  exact trodAll_cons_mk (p':=[]) (shut_bool htb true) trodAll_mk0
 ·rw [List.append_nil,hfn ds hdl,hp]
  exact qld hl hrd hA hbelow hlt fun x hx=>hsp x (by simpa using hx)
 ·rw [List.append_nil,hfn ds hdl,hvars]
  rfl
theorem qk7 {bk:DataW H→Nat} {bkA:List (DataW H)→Nat} (hb:qnj bk bkA) {B:Nat} {fi:Nat} {fn:Func} {s:ChangeSpec} {apart fresh handsOn again:Bool} {us:List Ty} {ts:List Nat} {tb:Nat} {sem:Nat→PMs.den (us.map .val)→Option (RMs.den [.val .bool]×PMs.ioDen (us.map .val))}
  (hp:fn.params.toList=ts) (hr:fn.resultTypes= #[tb]) (htb:P.underlying tb=some .bool) (hdeep:qgR P us ts=true) (hl:laidOutB P=true) (hread:ts.all (fun t=>P.readableRec t&&decide (t<P.types.size))=true) (hvars:s.vars=[])
  (hfn:∀ds:List (DataW H),ds.length=us.length→s.fn H ds= { results:=[.lit (.bool true)],args:=ds })
  (hC:∀N,ql.ok P fi ⟨us.map .val,[.val .bool],sem N⟩) (hsem:∀x,qji us x→qhD us x≤B→∃N z,sem N x=some ((true,()),z))
  {W:World} {args:Array Value} {ds gs:List (DataW H)} {before:List MemPlace} {r:Reach} {base:Nat}
  (hval:∀(j:Nat) t v,fn.params[j]? =some t→args[j]? =some v→Value.okWide P W r base t v)
  (hW:DataW.Whole enc P fn.params.toList s.vars apart W args.toList ds gs before) (hk:bkA (ds++gs)≤B):
  Calls P fi args W fun e W'=>∃v,e= .returned v∧s.post enc P fn apart fresh handsOn again W args v W':=by
 exact qkE hb hp hr htb hdeep hl hread hvars hfn hC hsem qdM.none hval hW hk
end
end Go.Vi
namespace Go.Vi
open Go.RowKit
theorem qnM {P:Program} {f:Nat} {fn:Func} (hf:P.funcs[f]? =some fn) (hb:fn.body.isSome=true) (hname:(fn.name == "runtime.NumGoroutine")=false) (φ:List UInt8→List UInt8→Int) (hφ:∀a b,IntKind.i64.has (φ a b))
  (h:∀(a b:ByteArray) (w:World),Calls P f #[.string a,.string b] w fun e w'=>e= .returned (.int .i64 (φ a.data.toList b.data.toList))∧w'=w):
  ql.ok P f ⟨[.val .str,.val .str],[.val (.int .i64)],fun x=>some ((φ x.1 x.2.1,()),())⟩:=by
 obtain ⟨c,hc⟩:=Option.isSome_iff_exists.1 hb
 refine ⟨fun as w=>qfY hf hc hname as w,fun w F x y as g i _ hp hpre hn hy=> ?_⟩
 obtain ⟨a,b,_⟩:=x
 obtain ⟨v1,r1,rfl,h1,v2,r2,rfl,h2,rfl,rfl,rfl⟩:=hp
 obtain ⟨e1,_⟩:=qal.str h1
 obtain ⟨e2,_⟩:=qal.str h2
 subst e1
 subst e2
 injection hy with hy
 subst hy
 refine (h ⟨List.toArray a⟩ ⟨List.toArray b⟩ w).mono fun e w' ⟨he,hw⟩=>⟨_,he,?_⟩
 subst hw
 refine ql.Post.mk0 [_] [] rfl List.nodup_nil (fun b hb=>(by cases hb)) ⟨_,_,[],[],rfl,rfl,⟨rfl,?_⟩,rfl,rfl⟩ ⟨rfl,rfl⟩ (qcl.refl _ _)
 exact qal.ofInt _ _ (hφ _ _)
theorem qit (a b:List UInt8):IntKind.i64.has (Lib.compareBytes a b):=by
 have:Lib.compareBytes a b= -1∨Lib.compareBytes a b=0∨Lib.compareBytes a b=1:=by
  induction a generalizing b with
  |nil=>cases b <;> simp [Lib.compareBytes]
  |cons x a ih=>cases b with
   |nil=>simp [Lib.compareBytes]
   |cons y b=>
    simp only [Lib.compareBytes]
    split
    ·simp
    ·split
     ·simp
     ·exact ih b
 rcases this with h|h|h <;> rw [h] <;> exact ⟨by decide,by decide⟩
end Go.Vi
namespace Go.Vi
theorem qa9 {S R:Type} (n:Nat) (step:(S→Option R)→S→Option R) (s:S):qay (n+1) step s=step (qay n step) s:=rfl
theorem qf9 {S R:Type} {step:(S→Option R)→S→Option R} (m:S→Nat) (I:S→Prop) (out:S→R) (h:∀(ih:S→Option R) (s:S),I s→(∀s',I s'→m s'<m s→ih s'=some (out s'))→step ih s=some (out s)):∀(n:Nat) (s:S),I s→m s<n→qay n step s=some (out s)
 |0,s,_,hm=>absurd hm (Nat.not_lt_zero _)
 |n+1,s,hI,hm=>h (qay n step) s hI fun s' hI' hm'=>qf9 m I out h n s' hI' (by omega)
theorem qi {α:Type} (x:α):qG (some x)=true:=by rw [qfV]; rfl
theorem qp {α:Type} (x d:α):qae (some x) d=x:=by rw [qiH]; rfl
theorem qj1 {z:Int} (h1: -9223372036854775808≤z) (h2:z<9223372036854775808):IntKind.wrap .i64 z=z:=by
 simp [IntKind.wrap,IntKind.signed,IntKind.bits]
 split <;> omega
theorem qJ {α:Type} {c:Bool} {a b:α} (h:c=true):(bif c then a else b)=a:=by rw [h]; rfl
theorem qK {α:Type} {c:Bool} {a b:α} (h:c=false):(bif c then a else b)=b:=by rw [h]; rfl
theorem qaC {α:Type} {p:Prop} [Decidable p] {a b:α} :(bif decide p then a else b)=if p then a else b:=by by_cases h:p <;> simp [h]
theorem qbJ (x y:Int):eqI x y=decide (x=y):=by rw [qgK]; rfl
theorem qaI (x y:Int):neI x y= !decide (x=y):=by rw [qju]; rfl
theorem qcA (x y:List UInt8):eqS x y=decide (x=y):=by rw [qmk]; by_cases h:x=y <;> simp [h]
theorem qrd (x y:Bool):eqB x y=decide (x=y):=by rw [qkW]; cases x <;> cases y <;> rfl
theorem qrr {α:Type} (c:Bool) (a b:α):(bif c then a else b)=if c=true then a else b:=by cases c <;> rfl
theorem condO {α:Type} (c:Bool) (a b:Option α):(bif c then a else b)=if c=true then a else b:=by cases c <;> rfl
theorem qgg {α:Type} {xs:List α} {i:Nat} {d x:α} (h:xs[i]? =some x):qn xs (i:Int) d=x:=by
 rw [qcW]
 simp [List.getD,h]
theorem qra {i n:Nat} (h:i<n):inB (i:Int) (n:Int)=true:=by
 rw [qd1]
 simp
 omega
theorem qeW:(t:Ty)→(x:t.den)→1≤t.bulk x
 | .int _,_=>Nat.le_refl _
 | .bool,_=>Nat.le_refl _
 | .str,_=>Nat.le_add_left _ _
 | .unit,_=>Nat.le_refl _
 | .err,_=>Nat.le_refl _
 | .opt _,_=>Nat.le_refl _
 | .map _ _,_=>Nat.le_refl _
 | .pair a b,x=>by have:=qeW a x.1; show 1≤a.bulk x.1+b.bulk x.2; omega
 | .slice e,xs=>Nat.le_add_left _ _
 | .arr _ e,xs=>Nat.le_add_left _ _
theorem qf7 (e:Ty):(xs:List e.den)→xs.length+1≤(Ty.slice e).bulk xs
 |[]=>Nat.le_refl _
 |x::xs=>by
  have:=qf7 e xs
  have h1:=qeW e x
  simp only [Ty.bulk,List.map_cons,List.sum_cons,List.length_cons] at this⊢
  omega
end Go.Vi
namespace Go.Vi
theorem qhn {S R:Type} {step:(S→Option R)→S→Option R} {s0:S} (st:Nat→S) (n:Nat) (r:R) (h0:st 0=s0) (hs:∀i,i<n→∀ih,step ih (st i)=ih (st (i+1))) (he:∀ih,step ih (st n)=some r) {N:Nat} (hN:n<N):qay N step s0=some r:=by
 rw [←h0]
 have:∀k i,i+k=n→∀M,k<M→qay M step (st i)=some r:=by
  intro k
  induction k with
  |zero=>
   intro i hi M hM
   obtain ⟨M,rfl⟩:∃m,M=m+1:=⟨M - 1,by omega⟩
   rw [qa9,show i=n by omega]; exact he _
  |succ k ih=>
   intro i hi M hM
   obtain ⟨M,rfl⟩:∃m,M=m+1:=⟨M - 1,by omega⟩
   rw [qa9,hs i (by omega)]
   exact ih (i+1) (by omega) M (by omega)
 exact this n 0 (by omega) N hN
theorem qdv {S R:Type} {step:(S→Option R)→S→Option R} {s0:S} (st:Nat→S) (n:Nat) (r:Option R) (h0:st 0=s0) (hs:∀i,i<n→∀ih,step ih (st i)=ih (st (i+1))) (he:∀ih,step ih (st n)=r) {N:Nat} (hN:n<N):qay N step s0=r:=by
 rw [←h0]
 have:∀k i,i+k=n→∀M,k<M→qay M step (st i)=r:=by
  intro k
  induction k with
  |zero=>
   intro i hi M hM
   obtain ⟨M,rfl⟩:∃m,M=m+1:=⟨M - 1,by omega⟩
   rw [qa9,show i=n by omega]; exact he _
  |succ k ih=>
   intro i hi M hM
   obtain ⟨M,rfl⟩:∃m,M=m+1:=⟨M - 1,by omega⟩
   rw [qa9,hs i (by omega)]
   exact ih (i+1) (by omega) M (by omega)
 exact this n 0 (by omega) N hN
theorem qbx (x y:Int):ltI x y=decide (x<y):=qa2 x y
theorem qf2 (x y:Int):leI x y=decide (x≤y):=qb2 x y
theorem qfX (i n:Int):inB i n=decide (0≤i∧i<n):=by rw [qd1]; simp
theorem qjr (l h n:Int):inS l h n=decide (0≤l∧l≤h∧h≤n):=by rw [qjl]; simp
theorem qdz {x y:Int} (h1: -9223372036854775808≤x+y) (h2:x+y<9223372036854775808):qbf .i64 x y=x+y:=by rw [qgd,qj1 h1 h2]
theorem qbW {x y:Int} (h1: -9223372036854775808≤x - y) (h2:x - y<9223372036854775808):qbr .i64 x y=x - y:=by rw [qiv,qj1 h1 h2]
theorem qrG {x:Int} (h1: -9223372036854775808≤x) (h2:x<9223372036854775808):qgF .i64 x=x:=by rw [qhu,qj1 h1 h2]
theorem q8 {i:Nat} (h:i<4611686018427387904):qbf .i64 (i:Int) 1=((i+1:Nat):Int):=by
 rw [qgd,qj1 (by omega) (by omega)]
 omega
theorem qbi {α:Type} {xs:List α} {i:Nat} (h:i<xs.length):ltI (i:Int) (qr xs)=true:=by rw [qa2,qg]; simp; omega
theorem qaK {α:Type} {xs:List α} {i:Nat} (h:¬i<xs.length):ltI (i:Int) (qr xs)=false:=by rw [qa2,qg]; simp; omega
theorem qF {α:Type} {xs:List α} {i:Nat} (h:i<xs.length):inB (i:Int) (qr xs)=true:=by rw [qg]; exact qra h
theorem qhR {α:Type} {xs:List α} {i:Nat} (h:i<xs.length):xs.drop i=xs[i]::xs.drop (i+1):=List.drop_eq_getElem_cons h
theorem qbw {α:Type} {xs:List α} {i:Nat} (h:i<xs.length):xs.take (i+1)=xs.take i++[xs[i]]:=by rw [List.take_succ_eq_append_getElem h]
theorem qM {α:Type} {xs:List α} {i:Nat} (d:α) (h:i<xs.length):qn xs (i:Int) d=xs[i]:=qgg (List.getElem?_eq_getElem h)
theorem qe5 {α β:Type} {xs:List α} {ys:List β} {b:Nat} (h:(xs.length+ys.length) * b≤140737488355328):qd8 (qr xs) (qr ys) b=true:=by
 rw [qf5,qg,qg]
 refine decide_eq_true ?_
 have:(((xs.length+ys.length) * b:Nat):Int)≤140737488355328:=by omega
 rwa [Int.natCast_mul,Int.natCast_add] at this
theorem qku {α:Type} (xs:List α) (i:Nat):qaO xs 0 (i:Int)=xs.take i:=by
 rw [qck]; simp
theorem qqk {α:Type} {xs:List α} {i:Nat} (h:i≤xs.length):inS (i:Int) (qr xs) (qr xs)=true:=by
 rw [qjl,qg]; simp; omega
theorem qqn (n:Int):IntKind.wrap .u64 n=n % 18446744073709551616:=by simp [IntKind.wrap,IntKind.signed,IntKind.bits]
def qag {E:Type} (g:Nat→Option E):Nat→Option E
 |0=>none
 |n+1=>match qag g n with
  |some e=>some e
  |none=>g n
theorem qbt {E:Type} {g:Nat→Option E} : {n:Nat} →qag g n=none→∀i,i<n→g i=none
 |0,_,i,hi=>by omega
 |n+1,h,i,hi=>by
  simp only [qag] at h
  split at h
  ·cases h
  ·rename_i h0
   by_cases e:i=n
   ·rw [e]; exact h
   ·exact qbt h0 i (by omega)
theorem qcC {E:Type} {g:Nat→Option E} {e:E} : {n:Nat} →qag g n=some e→∃i,i<n∧g i=some e∧qag g i=none
 |0,h=>by cases h
 |n+1,h=>by
  simp only [qag] at h
  split at h
  ·rename_i e' h0
   injection h with h
   subst h
   obtain ⟨i,h1,h2⟩:=qcC h0
   exact ⟨i,by omega,h2⟩
  ·rename_i h0
   exact ⟨n,by omega,h,h0⟩
theorem qaE {S R E:Type} {step:(S→Option R)→S→Option R} {s0:S} (st:Nat→S) (n:Nat) (g:Nat→Option E) (out:E→Option R) (fin:Option R) (h0:st 0=s0)
  (hs:∀i,i<n→qag g i=none→∀ih,step ih (st i)=match g i with
   |some e=>out e
   |none=>ih (st (i+1)))
  (he:qag g n=none→∀ih,step ih (st n)=fin) {N:Nat} (hN:n<N):qay N step s0=match qag g n with
   |some e=>out e
   |none=>fin:=by
 rw [←h0]
 have:∀k i,i+k=n→qag g i=none→∀M,k<M→qay M step (st i)=match qag g n with
   |some e=>out e
   |none=>fin:=by
  intro k
  induction k with
  |zero=>
   intro i hi hg M hM
   obtain ⟨M,rfl⟩:∃m,M=m+1:=⟨M - 1,by omega⟩
   have hin:i=n:=by omega
   subst hin
   rw [qa9,hg]
   exact he hg _
  |succ k ih=>
   intro i hi hg M hM
   obtain ⟨M,rfl⟩:∃m,M=m+1:=⟨M - 1,by omega⟩
   rw [qa9,hs i (by omega) hg]
   cases hgi:g i with
   |none=>exact ih (i+1) (by omega) (by simp only [qag,hg,hgi]) M (by omega)
   |some e=>
    have:∀m,qag g (i+1+m)=some e:=by
     intro m
     induction m with
     |zero=>simp only [Nat.add_zero,qag,hg,hgi]
     |succ m ihm=>rw [←Nat.add_assoc]; simp only [qag,ihm]
    have:=this k
    rw [show i+1+k=n by omega] at this
    rw [this]
 exact this n 0 (by omega) rfl N hN
end Go.Vi
set_option linter.unusedSimpArgs false
set_option maxRecDepth 100000
namespace Go.Vi
noncomputable section
def qh9 {α:Type} (d:α) (N:Nat) (x:((List α)×(Int×(Int×(((α×(α×Unit))→(Option (Int×Unit)))×Unit))))):(Option (Unit×((List α)×Unit))):=
 (qay (S:=((List α)×(Int×Unit))) (R:=(Unit×((List α)×Unit))) N (fun ih0=>(fun p1=>(bif (ltI p1.2.1 x.2.2.1) then (qay (S:=((List α)×(Int×Unit))) (R:=(Unit×((List α)×Unit))) N (fun ih2=>(fun p3=>(bif (((!(ltI x.2.1 p3.2.1))||(inB p3.2.1 (qr p3.1)))&&(((!(ltI x.2.1 p3.2.1))||(inB (qbr .i64 p3.2.1 1) (qr p3.1)))&&((!(ltI x.2.1 p3.2.1))||(qG (x.2.2.2.1 ((qn p3.1 p3.2.1 d),((qn p3.1 (qbr .i64 p3.2.1 1) d),()))))))) then (bif ((ltI x.2.1 p3.2.1)&&(ltI (qae (x.2.2.2.1 ((qn p3.1 p3.2.1 d),((qn p3.1 (qbr .i64 p3.2.1 1) d),()))) (0,())).1 0)) then (bif ((inB (qbr .i64 p3.2.1 1) (qr p3.1))&&((inB p3.2.1 (qr p3.1))&&((inB p3.2.1 (qr p3.1))&&(inB (qbr .i64 p3.2.1 1) (qr (qdS p3.1 p3.2.1 (qn p3.1 (qbr .i64 p3.2.1 1) d))))))) then (ih2 ((qdS (qdS p3.1 p3.2.1 (qn p3.1 (qbr .i64 p3.2.1 1) d)) (qbr .i64 p3.2.1 1) (qn p3.1 p3.2.1 d)),((qbr .i64 p3.2.1 1),()))) else none) else (ih0 (p3.1,((qbf .i64 p1.2.1 1),())))) else none))) (p1.1,(p1.2.1,()))) else (some ((),(p1.1,())))))) (x.1,((qbf .i64 x.2.1 1),())))
def qgs {α:Type} (d:α) (N:Nat) (x:((List α)×(Int×(Int×(Int×(((α×(α×Unit))→(Option (Int×Unit)))×Unit)))))):(Option (Unit×((List α)×Unit))):=
 (qay (S:=((List α)×(Int×Unit))) (R:=(Unit×((List α)×Unit))) N (fun ih0=>(fun p1=>(bif (ltI p1.2.1 x.2.2.2.1) then (bif ((inB (qbf .i64 x.2.2.1 p1.2.1) (qr p1.1))&&((inB (qbf .i64 x.2.1 p1.2.1) (qr p1.1))&&((inB (qbf .i64 x.2.1 p1.2.1) (qr p1.1))&&(inB (qbf .i64 x.2.2.1 p1.2.1) (qr (qdS p1.1 (qbf .i64 x.2.1 p1.2.1) (qn p1.1 (qbf .i64 x.2.2.1 p1.2.1) d))))))) then (ih0 ((qdS (qdS p1.1 (qbf .i64 x.2.1 p1.2.1) (qn p1.1 (qbf .i64 x.2.2.1 p1.2.1) d)) (qbf .i64 x.2.2.1 p1.2.1) (qn p1.1 (qbf .i64 x.2.1 p1.2.1) d)),((qbf .i64 p1.2.1 1),()))) else none) else (some ((),(p1.1,())))))) (x.1,(0,())))
def qdO {α:Type} (d:α) (N:Nat) (x:((List α)×(Int×(Int×(Int×(((α×(α×Unit))→(Option (Int×Unit)))×Unit)))))):(Option (Unit×((List α)×Unit))):=
 (qaR (qbr .i64 x.2.2.1 x.2.1) (fun y0=>(qay (S:=((List α)×(Int×(Int×Unit)))) (R:=(Unit×((List α)×Unit))) N (fun ih1=>(fun p2=>(bif (neI p2.2.1 p2.2.2.1) then (bif (bif (ltI p2.2.2.1 p2.2.1) then (qG (qgs d N (p2.1,((qbr .i64 x.2.2.1 p2.2.1),(x.2.2.1,(p2.2.2.1,(x.2.2.2.2.1,()))))))) else (qG (qgs d N (p2.1,((qbr .i64 x.2.2.1 p2.2.1),((qbr .i64 (qbf .i64 x.2.2.1 p2.2.2.1) p2.2.1),(p2.2.1,(x.2.2.2.2.1,())))))))) then (ih1 ((bif (ltI p2.2.2.1 p2.2.1) then (qae (qgs d N (p2.1,((qbr .i64 x.2.2.1 p2.2.1),(x.2.2.1,(p2.2.2.1,(x.2.2.2.2.1,())))))) ((),(([]:List α),()))).2.1 else (qae (qgs d N (p2.1,((qbr .i64 x.2.2.1 p2.2.1),((qbr .i64 (qbf .i64 x.2.2.1 p2.2.2.1) p2.2.1),(p2.2.1,(x.2.2.2.2.1,())))))) ((),(([]:List α),()))).2.1),((bif (ltI p2.2.2.1 p2.2.1) then (qbr .i64 p2.2.1 p2.2.2.1) else p2.2.1),((bif (ltI p2.2.2.1 p2.2.1) then p2.2.2.1 else (qbr .i64 p2.2.2.1 p2.2.1)),())))) else none) else (bif (qG (qgs d N (p2.1,((qbr .i64 x.2.2.1 p2.2.1),(x.2.2.1,(p2.2.1,(x.2.2.2.2.1,()))))))) then (some ((),((qae (qgs d N (p2.1,((qbr .i64 x.2.2.1 p2.2.1),(x.2.2.1,(p2.2.1,(x.2.2.2.2.1,())))))) ((),(([]:List α),()))).2.1,()))) else none)))) (x.1,(y0,((qbr .i64 x.2.2.2.1 x.2.2.1),()))))))
def qmw {α:Type} (d:α) (N:Nat) (Fs:((List α)×(Int×(Int×(Int×(((α×(α×Unit))→(Option (Int×Unit)))×Unit)))))→(Option (Unit×((List α)×Unit)))) (x:((List α)×(Int×(Int×(Int×(((α×(α×Unit))→(Option (Int×Unit)))×Unit)))))):(Option (Unit×((List α)×Unit))):=
 (bif (eqI (qbr .i64 x.2.2.1 x.2.1) 1) then (qay (S:=((List α)×(Int×(Int×Unit)))) (R:=(Unit×((List α)×Unit))) N (fun ih0=>(fun p1=>(bif (ltI p1.2.1 p1.2.2.1) then (bif (leI 0 1) then (qaR (qgF .i64 (qpz .u64 (qgF .u64 (qbf .i64 p1.2.1 p1.2.2.1)) 1)) (fun y2=>(bif ((inB y2 (qr p1.1))&&((inB x.2.1 (qr p1.1))&&(qG (x.2.2.2.2.1 ((qn p1.1 y2 d),((qn p1.1 x.2.1 d),())))))) then (ih0 (p1.1,((bif (ltI (qae (x.2.2.2.2.1 ((qn p1.1 y2 d),((qn p1.1 x.2.1 d),()))) (0,())).1 0) then (qbf .i64 y2 1) else p1.2.1),((bif (ltI (qae (x.2.2.2.2.1 ((qn p1.1 y2 d),((qn p1.1 x.2.1 d),()))) (0,())).1 0) then p1.2.2.1 else y2),())))) else none))) else none) else (qay (S:=((List α)×(Int×Unit))) (R:=(Unit×((List α)×Unit))) N (fun ih2=>(fun p3=>(bif (ltI p3.2.1 (qbr .i64 p1.2.1 1)) then (bif ((inB (qbf .i64 p3.2.1 1) (qr p3.1))&&((inB p3.2.1 (qr p3.1))&&((inB p3.2.1 (qr p3.1))&&(inB (qbf .i64 p3.2.1 1) (qr (qdS p3.1 p3.2.1 (qn p3.1 (qbf .i64 p3.2.1 1) d))))))) then (ih2 ((qdS (qdS p3.1 p3.2.1 (qn p3.1 (qbf .i64 p3.2.1 1) d)) (qbf .i64 p3.2.1 1) (qn p3.1 p3.2.1 d)),((qbf .i64 p3.2.1 1),()))) else none) else (some ((),(p3.1,())))))) (p1.1,(x.2.1,())))))) (x.1,(x.2.2.1,(x.2.2.2.1,())))) else (bif (eqI (qbr .i64 x.2.2.2.1 x.2.2.1) 1) then (qay (S:=((List α)×(Int×(Int×Unit)))) (R:=(Unit×((List α)×Unit))) N (fun ih0=>(fun p1=>(bif (ltI p1.2.1 p1.2.2.1) then (bif (leI 0 1) then (qaR (qgF .i64 (qpz .u64 (qgF .u64 (qbf .i64 p1.2.1 p1.2.2.1)) 1)) (fun y2=>(bif ((inB x.2.2.1 (qr p1.1))&&((inB y2 (qr p1.1))&&(qG (x.2.2.2.2.1 ((qn p1.1 x.2.2.1 d),((qn p1.1 y2 d),())))))) then (ih0 (p1.1,((bif (!(ltI (qae (x.2.2.2.2.1 ((qn p1.1 x.2.2.1 d),((qn p1.1 y2 d),()))) (0,())).1 0)) then (qbf .i64 y2 1) else p1.2.1),((bif (!(ltI (qae (x.2.2.2.2.1 ((qn p1.1 x.2.2.1 d),((qn p1.1 y2 d),()))) (0,())).1 0)) then p1.2.2.1 else y2),())))) else none))) else none) else (qay (S:=((List α)×(Int×Unit))) (R:=(Unit×((List α)×Unit))) N (fun ih2=>(fun p3=>(bif (ltI p1.2.1 p3.2.1) then (bif ((inB (qbr .i64 p3.2.1 1) (qr p3.1))&&((inB p3.2.1 (qr p3.1))&&((inB p3.2.1 (qr p3.1))&&(inB (qbr .i64 p3.2.1 1) (qr (qdS p3.1 p3.2.1 (qn p3.1 (qbr .i64 p3.2.1 1) d))))))) then (ih2 ((qdS (qdS p3.1 p3.2.1 (qn p3.1 (qbr .i64 p3.2.1 1) d)) (qbr .i64 p3.2.1 1) (qn p3.1 p3.2.1 d)),((qbr .i64 p3.2.1 1),()))) else none) else (some ((),(p3.1,())))))) (p1.1,(x.2.2.1,())))))) (x.1,(x.2.1,(x.2.2.1,())))) else (bif (leI 0 1) then (qaR (qgF .i64 (qpz .u64 (qgF .u64 (qbf .i64 x.2.1 x.2.2.2.1)) 1)) (fun y0=>(qaR (qbf .i64 y0 x.2.2.1) (fun y1=>(qaR (bif (ltI y0 x.2.2.1) then (qbr .i64 y1 x.2.2.2.1) else x.2.1) (fun y2=>(qaR (bif (ltI y0 x.2.2.1) then y0 else x.2.2.1) (fun y3=>(qay (S:=((List α)×(Int×(Int×Unit)))) (R:=(Unit×((List α)×Unit))) N (fun ih4=>(fun p5=>(bif (ltI p5.2.1 p5.2.2.1) then (bif (leI 0 1) then (qaR (qgF .i64 (qpz .u64 (qgF .u64 (qbf .i64 p5.2.1 p5.2.2.1)) 1)) (fun y6=>(bif ((inB (qbr .i64 (qbr .i64 y1 1) y6) (qr p5.1))&&((inB y6 (qr p5.1))&&(qG (x.2.2.2.2.1 ((qn p5.1 (qbr .i64 (qbr .i64 y1 1) y6) d),((qn p5.1 y6 d),())))))) then (ih4 (p5.1,((bif (!(ltI (qae (x.2.2.2.2.1 ((qn p5.1 (qbr .i64 (qbr .i64 y1 1) y6) d),((qn p5.1 y6 d),()))) (0,())).1 0)) then (qbf .i64 y6 1) else p5.2.1),((bif (!(ltI (qae (x.2.2.2.2.1 ((qn p5.1 (qbr .i64 (qbr .i64 y1 1) y6) d),((qn p5.1 y6 d),()))) (0,())).1 0)) then p5.2.2.1 else y6),())))) else none))) else none) else (qaR (qbr .i64 y1 p5.2.1) (fun y6=>(qaR ((ltI p5.2.1 x.2.2.1)&&(ltI x.2.2.1 y6)) (fun y7=>(bif (bif y7 then (qG (qdO d N (p5.1,(p5.2.1,(x.2.2.1,(y6,(x.2.2.2.2.1,()))))))) else true) then (qaR ((ltI x.2.1 p5.2.1)&&(ltI p5.2.1 y0)) (fun y8=>(bif (bif y8 then (qG (Fs ((bif y7 then (qae (qdO d N (p5.1,(p5.2.1,(x.2.2.1,(y6,(x.2.2.2.2.1,())))))) ((),(([]:List α),()))).2.1 else p5.1),(x.2.1,(p5.2.1,(y0,(x.2.2.2.2.1,()))))))) else true) then (qaR ((ltI y0 y6)&&(ltI y6 x.2.2.2.1)) (fun y9=>(bif (bif y9 then (qG (Fs ((bif y8 then (qae (Fs ((bif y7 then (qae (qdO d N (p5.1,(p5.2.1,(x.2.2.1,(y6,(x.2.2.2.2.1,())))))) ((),(([]:List α),()))).2.1 else p5.1),(x.2.1,(p5.2.1,(y0,(x.2.2.2.2.1,())))))) ((),(([]:List α),()))).2.1 else (bif y7 then (qae (qdO d N (p5.1,(p5.2.1,(x.2.2.1,(y6,(x.2.2.2.2.1,())))))) ((),(([]:List α),()))).2.1 else p5.1)),(y0,(y6,(x.2.2.2.1,(x.2.2.2.2.1,()))))))) else true) then (some ((),((bif y9 then (qae (Fs ((bif y8 then (qae (Fs ((bif y7 then (qae (qdO d N (p5.1,(p5.2.1,(x.2.2.1,(y6,(x.2.2.2.2.1,())))))) ((),(([]:List α),()))).2.1 else p5.1),(x.2.1,(p5.2.1,(y0,(x.2.2.2.2.1,())))))) ((),(([]:List α),()))).2.1 else (bif y7 then (qae (qdO d N (p5.1,(p5.2.1,(x.2.2.1,(y6,(x.2.2.2.2.1,())))))) ((),(([]:List α),()))).2.1 else p5.1)),(y0,(y6,(x.2.2.2.1,(x.2.2.2.2.1,())))))) ((),(([]:List α),()))).2.1 else (bif y8 then (qae (Fs ((bif y7 then (qae (qdO d N (p5.1,(p5.2.1,(x.2.2.1,(y6,(x.2.2.2.2.1,())))))) ((),(([]:List α),()))).2.1 else p5.1),(x.2.1,(p5.2.1,(y0,(x.2.2.2.2.1,())))))) ((),(([]:List α),()))).2.1 else (bif y7 then (qae (qdO d N (p5.1,(p5.2.1,(x.2.2.1,(y6,(x.2.2.2.2.1,())))))) ((),(([]:List α),()))).2.1 else p5.1))),()))) else none))) else none))) else none)))))))) (x.1,(y2,(y3,())))))))))))) else none)))
def qeq {α:Type} (d:α) (N:Nat) (M:Nat):((List α)×(Int×(Int×(Int×(((α×(α×Unit))→(Option (Int×Unit)))×Unit)))))→(Option (Unit×((List α)×Unit))):=
 Nat.rec (motive:=fun _=>((List α)×(Int×(Int×(Int×(((α×(α×Unit))→(Option (Int×Unit)))×Unit)))))→(Option (Unit×((List α)×Unit)))) (fun _=>none) (fun _ Fs=>qmw d N Fs) M
def qkj {α:Type} (d:α) (N:Nat):((List α)×(Int×(Int×(Int×(((α×(α×Unit))→(Option (Int×Unit)))×Unit)))))→(Option (Unit×((List α)×Unit))):=qeq d N N
def qj8 {α:Type} (d:α) (N:Nat) (x:((List α)×(Int×(((α×(α×Unit))→(Option (Int×Unit)))×Unit)))):(Option (Unit×((List α)×Unit))):=
 (qay (S:=((List α)×(Int×(Int×Unit)))) (R:=(Unit×((List α)×Unit))) N (fun ih0=>(fun p1=>(bif (leI p1.2.2.1 x.2.1) then (bif (qG (qh9 d N (p1.1,(p1.2.1,(p1.2.2.1,(x.2.2.1,())))))) then (qaR (qae (qh9 d N (p1.1,(p1.2.1,(p1.2.2.1,(x.2.2.1,()))))) ((),(([]:List α),()))).2.1 (fun ys2=>(qaR p1.2.2.1 (fun y3=>(ih0 (ys2,(y3,((qbf .i64 y3 20),())))))))) else none) else (bif (qG (qh9 d N (p1.1,(p1.2.1,(x.2.1,(x.2.2.1,())))))) then (qay (S:=((List α)×(Int×Unit))) (R:=(Unit×((List α)×Unit))) N (fun ih2=>(fun p3=>(bif (ltI p3.2.1 x.2.1) then (qay (S:=((List α)×(Int×(Int×Unit)))) (R:=(Unit×((List α)×Unit))) N (fun ih4=>(fun p5=>(bif (leI p5.2.2.1 x.2.1) then (bif (qG (qkj d N (p5.1,(p5.2.1,((qbf .i64 p5.2.1 p3.2.1),(p5.2.2.1,(x.2.2.1,()))))))) then (qaR (qae (qkj d N (p5.1,(p5.2.1,((qbf .i64 p5.2.1 p3.2.1),(p5.2.2.1,(x.2.2.1,())))))) ((),(([]:List α),()))).2.1 (fun ys6=>(qaR p5.2.2.1 (fun y7=>(ih4 (ys6,(y7,((qbf .i64 y7 (qpR .i64 2 p3.2.1)),())))))))) else none) else (qaR (qbf .i64 p5.2.1 p3.2.1) (fun y6=>(bif (bif (ltI y6 x.2.1) then (qG (qkj d N (p5.1,(p5.2.1,(y6,(x.2.1,(x.2.2.1,()))))))) else true) then (ih2 ((bif (ltI y6 x.2.1) then (qae (qkj d N (p5.1,(p5.2.1,(y6,(x.2.1,(x.2.2.1,())))))) ((),(([]:List α),()))).2.1 else p5.1),((qpR .i64 p3.2.1 2),()))) else none)))))) (p3.1,(0,((qpR .i64 2 p3.2.1),())))) else (some ((),(p3.1,())))))) ((qae (qh9 d N (p1.1,(p1.2.1,(x.2.1,(x.2.2.1,()))))) ((),(([]:List α),()))).2.1,(20,()))) else none)))) (x.1,(0,(20,()))))
def qlD {α:Type} (d:α) (N:Nat) (x:((List α)×(((α×(α×Unit))→(Option (Int×Unit)))×Unit))):(Option (Unit×((List α)×Unit))):=
 (bif (qG (qj8 d N (x.1,((qr x.1),(x.2.1,()))))) then (some ((),((qae (qj8 d N (x.1,((qr x.1),(x.2.1,())))) ((),(([]:List α),()))).2.1,()))) else none)
theorem qbM {S R:Type} {st1 st2:(S→Option R)→S→Option R} (μ:S→Nat) (I:S→Prop) (Q:Option R→Option R→Prop)
  (hs:∀ih1 ih2 p,I p→(∀q,I q→μ q<μ p→Q (ih1 q) (ih2 q))→Q (st1 ih1 p) (st2 ih2 p)):∀(N:Nat) (p:S),I p→μ p<N→Q (qay N st1 p) (qay N st2 p)
 |0,p,_,h=>by omega
 |N+1,p,hI,h=>by
  rw [qa9,qa9]
  exact hs _ _ p hI fun q hq hm=>qbM μ I Q hs N q hq (by omega)
structure Ck {α:Type} (P:α→Prop) (n:Nat) (ys:List α):Prop where
 len:ys.length=n
 all:∀x∈ys,P x
def Alike {α:Type} (P:α→Prop) (φ ψ:(α×(α×Unit))→Option (Int×Unit)):Prop:=∀a b,P a→P b→∃c e,φ (a,(b,()))=some (c,())∧ψ (a,(b,()))=some (e,())∧(c<0↔e<0)
def Res {α:Type} (P:α→Prop) (n:Nat) (r s:Option (Unit×(List α×Unit))):Prop:=∃out,Ck P n out∧r=some ((),(out,()))∧s=some ((),(out,()))
theorem Ck.inB {α:Type} {P:α→Prop} {n:Nat} {ys:List α} (h:Ck P n ys) {i:Int} (h0:0≤i) (h1:i<(n:Int)):inB i (qr ys)=true:=by
 rw [qfX,qg,h.len]; simp; omega
theorem Ck.get {α:Type} {P:α→Prop} {n:Nat} {ys:List α} (h:Ck P n ys) (d:α) {i:Int} (h0:0≤i) (h1:i<(n:Int)):P (qn ys i d):=by
 obtain ⟨k,rfl⟩:∃k:Nat,i=(k:Int):=⟨i.toNat,by omega⟩
 have hk:k<ys.length:=by rw [h.len]; omega
 rw [qM _ hk]
 exact h.all _ (List.getElem_mem hk)
theorem Ck.set {α:Type} {P:α→Prop} {n:Nat} {ys:List α} (h:Ck P n ys) (i:Int) {v:α} (hv:P v):Ck P n (qdS ys i v):=by
 rw [qbc]
 refine ⟨by rw [List.length_set]; exact h.len,fun x hx=> ?_⟩
 rcases List.mem_or_eq_of_mem_set hx with hx|rfl
 ·exact h.all x hx
 ·exact hv
theorem ltT {x y:Int} (h:x<y):ltI x y=true:=by rw [qbx]; exact decide_eq_true h
theorem ltF {x y:Int} (h:¬x<y):ltI x y=false:=by rw [qbx]; exact decide_eq_false h
theorem leT {x y:Int} (h:x≤y):leI x y=true:=by rw [qb2]; exact decide_eq_true h
theorem leF {x y:Int} (h:¬x≤y):leI x y=false:=by rw [qb2]; exact decide_eq_false h
theorem eqT {x y:Int} (h:x=y):eqI x y=true:=by rw [qbJ]; exact decide_eq_true h
theorem eqF {x y:Int} (h:¬x=y):eqI x y=false:=by rw [qbJ]; exact decide_eq_false h
theorem neT {x y:Int} (h:¬x=y):neI x y=true:=by rw [qaI]; simp [h]
theorem neF {x y:Int} (h:x=y):neI x y=false:=by rw [qaI]; simp [h]
theorem qm6 {x y:Int} (hx:0≤x) (hy:0≤y) (h:x+y≤4398046511104):qgF .i64 (qpz .u64 (qgF .u64 (qbf .i64 x y)) 1)=(x+y) / 2:=by
 have e1:qbf .i64 x y=x+y:=qdz (by omega) (by omega)
 have e2:qgF .u64 (x+y)=x+y:=by rw [qhu,qqn]; omega
 have e3:qpz .u64 (x+y) 1=(x+y) / 2:=by
  rw [qkJ]
  have:(2:Int)^ (min (1:Int).toNat IntKind.u64.bits)=2:=by decide
  rw [this,Int.fdiv_eq_ediv_of_nonneg _ (by omega)]
 rw [e1,e2,e3,qrG (by omega) (by omega)]
section
variable {α:Type} {P:α→Prop} {n:Nat} (d:α) {φ ψ:(α×(α×Unit))→Option (Int×Unit)} {N:Nat}
theorem qlL (hφ:Alike P φ ψ) (hn:n≤1099511627776) (hN:n+1<N) {ys:List α} (h:Ck P n ys) {a b:Int} (ha:0≤a) (ha2:a≤(n:Int)) (hb:b≤(n:Int)):Res P n (qh9 d N (ys,(a,(b,(φ,()))))) (qh9 d N (ys,(a,(b,(ψ,()))))):=by
 simp only [qh9]
 have ea:qbf .i64 a 1=a+1:=qdz (by omega) (by omega)
 rw [ea]
 refine qbM (S:=List α×(Int×Unit)) (fun p=>(b - p.2.1).toNat) (fun p=>Ck P n p.1∧a+1≤p.2.1∧p.2.1≤(n:Int)+1) (Res P n) ?_ N _ ⟨h,by simp only; omega,by simp only; omega⟩ (by simp only; omega)
 rintro ih1 ih2 ⟨ys,i,⟨⟩⟩ ⟨h,hi,hi2⟩ hih
 simp only at h hi hi2 hih⊢
 by_cases hc:i<b
 ·simp only [ltT hc,cond_true]
  refine qbM (S:=List α×(Int×Unit)) (fun p=>(p.2.1 - a).toNat) (fun p=>Ck P n p.1∧a≤p.2.1∧p.2.1≤i) (Res P n) ?_ N _ ⟨h,by simp only; omega,by simp only; omega⟩ (by simp only; omega)
  rintro jh1 jh2 ⟨zs,j,⟨⟩⟩ ⟨hz,hj1,hj2⟩ hjh
  simp only at hz hj1 hj2 hjh⊢
  have ei:qbf .i64 i 1=i+1:=qdz (by omega) (by omega)
  by_cases hja:a<j
  ·have s1:qbr .i64 j 1=j - 1:=qbW (by omega) (by omega)
   obtain ⟨c,e,e1,e2,e3⟩:=hφ _ _ (hz.get d (i:=j) (by omega) (by omega)) (hz.get d (i:=j - 1) (by omega) (by omega))
   have b1:=hz.inB (i:=j) (by omega) (by omega)
   have b2:=hz.inB (i:=j - 1) (by omega) (by omega)
   have k1:=hz.set j (hz.get d (i:=j - 1) (by omega) (by omega))
   have b3:=k1.inB (i:=j - 1) (by omega) (by omega)
   have k2:=k1.set (j - 1) (hz.get d (i:=j) (by omega) (by omega))
   simp only [ltT hja,s1,b1,b2,e1,e2,qi,qp,Bool.not_true,Bool.false_or,Bool.and_self,cond_true,Bool.true_and]
   by_cases hc0:c<0
   ·simp only [ltT hc0,ltT (e3.1 hc0),b3,cond_true]
    exact hjh _ ⟨k2,by simp only; omega,by simp only; omega⟩ (by simp only; omega)
   ·simp only [ltF hc0,ltF (fun q=>hc0 (e3.2 q)),cond_false,ei]
    exact hih _ ⟨hz,by simp only; omega,by simp only; omega⟩ (by simp only; omega)
  ·simp only [ltF hja,Bool.not_false,Bool.true_or,Bool.and_self,cond_true,Bool.false_and,cond_false,ei]
   exact hih _ ⟨hz,by simp only; omega,by simp only; omega⟩ (by simp only; omega)
 ·simp only [ltF hc,cond_false]
  exact ⟨ys,h,rfl,rfl⟩
theorem qjz (hn:n≤1099511627776) (hN:n+1<N) {ys:List α} (h:Ck P n ys) {a b m:Int} (ha:0≤a) (hb:0≤b) (hm:0≤m) (ha2:a+m≤(n:Int)) (hb2:b+m≤(n:Int)):Res P n (qgs d N (ys,(a,(b,(m,(φ,())))))) (qgs d N (ys,(a,(b,(m,(ψ,())))))):=by
 simp only [qgs]
 refine qbM (S:=List α×(Int×Unit)) (fun p=>(m - p.2.1).toNat) (fun p=>Ck P n p.1∧0≤p.2.1) (Res P n) ?_ N _ ⟨h,by simp only; omega⟩ (by simp only; omega)
 rintro ih1 ih2 ⟨ys,i,⟨⟩⟩ ⟨h,hi⟩ hih
 simp only at h hi hih⊢
 by_cases hc:i<m
 ·have e1:qbf .i64 a i=a+i:=qdz (by omega) (by omega)
  have e2:qbf .i64 b i=b+i:=qdz (by omega) (by omega)
  have e3:qbf .i64 i 1=i+1:=qdz (by omega) (by omega)
  have b1:=h.inB (i:=a+i) (by omega) (by omega)
  have b2:=h.inB (i:=b+i) (by omega) (by omega)
  have k1:=h.set (a+i) (h.get d (i:=b+i) (by omega) (by omega))
  have b3:=k1.inB (i:=b+i) (by omega) (by omega)
  have k2:=k1.set (b+i) (h.get d (i:=a+i) (by omega) (by omega))
  simp only [ltT hc,e1,e2,e3,b1,b2,b3,Bool.and_self,cond_true]
  exact hih _ ⟨k2,by simp only; omega⟩ (by simp only; omega)
 ·simp only [ltF hc,cond_false]
  exact ⟨ys,h,rfl,rfl⟩
theorem qoD (hn:n≤1099511627776) (hN:2 * n+1<N) {ys:List α} (h:Ck P n ys) {a m b:Int} (ha:0≤a) (h1:a<m) (h2:m<b) (hb:b≤(n:Int)):Res P n (qdO d N (ys,(a,(m,(b,(φ,())))))) (qdO d N (ys,(a,(m,(b,(ψ,())))))):=by
 have e1:qbr .i64 m a=m - a:=qbW (by omega) (by omega)
 have e2:qbr .i64 b m=b - m:=qbW (by omega) (by omega)
 simp only [qdO,qO,e1,e2]
 refine qbM (S:=List α×(Int×(Int×Unit))) (fun p=>(p.2.1+p.2.2.1).toNat) (fun p=>Ck P n p.1∧1≤p.2.1∧p.2.1≤m - a∧1≤p.2.2.1∧p.2.2.1≤b - m) (Res P n) ?_ N _ ⟨h,by simp only; omega,by simp only; omega,by simp only; omega,by simp only; omega⟩ (by simp only; omega)
 rintro ih1 ih2 ⟨ys,i,j,⟨⟩⟩ ⟨h,hi,hi2,hj,hj2⟩ hih
 simp only at h hi hi2 hj hj2 hih⊢
 have s1:qbr .i64 m i=m - i:=qbW (by omega) (by omega)
 by_cases hc:i=j
 ·obtain ⟨out,k1,k2,k3⟩:=qjz (φ:=φ) (ψ:=ψ) d hn (by omega:n+1<N) h (a:=m - i) (b:=m) (m:=i) (by omega) (by omega) (by omega) (by omega) (by omega)
  simp only [neF hc,cond_false,s1,k2,k3,qi,qp,cond_true]
  exact ⟨out,k1,rfl,rfl⟩
 ·have s2:qbf .i64 m j=m+j:=qdz (by omega) (by omega)
  have s3:qbr .i64 (m+j) i=m+j - i:=qbW (by omega) (by omega)
  have s4:qbr .i64 i j=i - j:=qbW (by omega) (by omega)
  have s5:qbr .i64 j i=j - i:=qbW (by omega) (by omega)
  by_cases hq:j<i
  ·obtain ⟨out,k1,k2,k3⟩:=qjz (φ:=φ) (ψ:=ψ) d hn (by omega:n+1<N) h (a:=m - i) (b:=m) (m:=j) (by omega) (by omega) (by omega) (by omega) (by omega)
   simp only [neT hc,ltT hq,cond_true,s1,s4,k2,k3,qi,qp]
   exact hih _ ⟨k1,by simp only; omega,by simp only; omega,by simp only; omega,by simp only; omega⟩ (by simp only; omega)
  ·obtain ⟨out,k1,k2,k3⟩:=qjz (φ:=φ) (ψ:=ψ) d hn (by omega:n+1<N) h (a:=m - i) (b:=m+j - i) (m:=i) (by omega) (by omega) (by omega) (by omega) (by omega)
   simp only [neT hc,ltF hq,cond_true,cond_false,s1,s2,s3,s5,k2,k3,qi,qp]
   exact hih _ ⟨k1,by simp only; omega,by simp only; omega,by simp only; omega,by simp only; omega⟩ (by simp only; omega)
theorem qka (hφ:Alike P φ ψ) (hn:n≤1099511627776) (hN:2 * n+1<N):∀(M:Nat) (ys:List α),Ck P n ys→∀(a m b:Int),0≤a→a<m→m<b→b≤(n:Int)→(b - a).toNat<M→Res P n (qeq d N M (ys,(a,(m,(b,(φ,())))))) (qeq d N M (ys,(a,(m,(b,(ψ,()))))))
 |0,_,_,_,_,_,_,_,_,_,h=>by omega
 |M+1,ys,h,a,m,b,ha,h1,h2,hb,hM=>by
  have ih:=qka hφ hn hN M
  have unf:∀χ,qeq d N (M+1) (ys,(a,(m,(b,(χ,())))))=qmw d N (qeq d N M) (ys,(a,(m,(b,(χ,()))))):=fun _=>rfl
  rw [unf,unf]
  have e1:qbr .i64 m a=m - a:=qbW (by omega) (by omega)
  have e2:qbr .i64 b m=b - m:=qbW (by omega) (by omega)
  have l01:leI 0 1=true:=leT (by omega)
  simp only [qmw,qO,e1,e2,l01,cond_true]
  by_cases q1:m - a=1
  ·simp only [eqT q1,cond_true]
   refine qbM (S:=List α×(Int×(Int×Unit))) (fun p=>(p.2.2.1 - p.2.1).toNat) (fun p=>Ck P n p.1∧m≤p.2.1∧p.2.1≤b∧p.2.2.1≤b) (Res P n) ?_ N _ ⟨h,by simp only; omega,by simp only; omega,by simp only; omega⟩ (by simp only; omega)
   rintro ih1 ih2 ⟨ys,i,j,⟨⟩⟩ ⟨h,hi,hi2,hj⟩ hih
   simp only at h hi hi2 hj hih⊢
   by_cases hc:i<j
   ·have em:=qm6 (x:=i) (y:=j) (by omega) (by omega) (by omega)
    have em1:qbf .i64 ((i+j) / 2) 1=(i+j) / 2+1:=qdz (by omega) (by omega)
    obtain ⟨c,e,e3,e4,e5⟩:=hφ _ _ (h.get d (i:=(i+j) / 2) (by omega) (by omega)) (h.get d (i:=a) (by omega) (by omega))
    simp only [ltT hc,cond_true,em,em1,h.inB (i:=(i+j) / 2) (by omega) (by omega),h.inB (i:=a) (by omega) (by omega),e3,e4,qi,qp,Bool.and_self]
    by_cases hc0:c<0
    ·simp only [ltT hc0,ltT (e5.1 hc0),cond_true]
     exact hih _ ⟨h,by simp only; omega,by simp only; omega,by simp only; omega⟩ (by simp only; omega)
    ·simp only [ltF hc0,ltF (fun q=>hc0 (e5.2 q)),cond_false]
     exact hih _ ⟨h,by simp only; omega,by simp only; omega,by simp only; omega⟩ (by simp only; omega)
   ·simp only [ltF hc,cond_false]
    have ei:qbr .i64 i 1=i - 1:=qbW (by omega) (by omega)
    rw [ei]
    refine qbM (S:=List α×(Int×Unit)) (fun p=>(i - p.2.1).toNat) (fun p=>Ck P n p.1∧a≤p.2.1) (Res P n) ?_ N _ ⟨h,by simp only; omega⟩ (by simp only; omega)
    rintro jh1 jh2 ⟨zs,k,⟨⟩⟩ ⟨hz,hk⟩ hjh
    simp only at hz hk hjh⊢
    by_cases hk2:k<i - 1
    ·have s1:qbf .i64 k 1=k+1:=qdz (by omega) (by omega)
     have k1:=hz.set k (hz.get d (i:=k+1) (by omega) (by omega))
     have k2:=k1.set (k+1) (hz.get d (i:=k) (by omega) (by omega))
     simp only [ltT hk2,s1,hz.inB (i:=k) (by omega) (by omega),hz.inB (i:=k+1) (by omega) (by omega),k1.inB (i:=k+1) (by omega) (by omega),Bool.and_self,cond_true]
     exact hjh _ ⟨k2,by simp only; omega⟩ (by simp only; omega)
    ·simp only [ltF hk2,cond_false]
     exact ⟨zs,hz,rfl,rfl⟩
  simp only [eqF q1,cond_false]
  by_cases q2:b - m=1
  ·simp only [eqT q2,cond_true]
   refine qbM (S:=List α×(Int×(Int×Unit))) (fun p=>(p.2.2.1 - p.2.1).toNat) (fun p=>Ck P n p.1∧a≤p.2.1∧p.2.1≤m∧p.2.2.1≤m) (Res P n) ?_ N _ ⟨h,by simp only; omega,by simp only; omega,by simp only; omega⟩ (by simp only; omega)
   rintro ih1 ih2 ⟨ys,i,j,⟨⟩⟩ ⟨h,hi,hi2,hj⟩ hih
   simp only at h hi hi2 hj hih⊢
   by_cases hc:i<j
   ·have em:=qm6 (x:=i) (y:=j) (by omega) (by omega) (by omega)
    have em1:qbf .i64 ((i+j) / 2) 1=(i+j) / 2+1:=qdz (by omega) (by omega)
    obtain ⟨c,e,e3,e4,e5⟩:=hφ _ _ (h.get d (i:=m) (by omega) (by omega)) (h.get d (i:=(i+j) / 2) (by omega) (by omega))
    simp only [ltT hc,cond_true,em,em1,h.inB (i:=(i+j) / 2) (by omega) (by omega),h.inB (i:=m) (by omega) (by omega),e3,e4,qi,qp,Bool.and_self]
    by_cases hc0:c<0
    ·simp only [ltT hc0,ltT (e5.1 hc0),Bool.not_true,cond_false]
     exact hih _ ⟨h,by simp only; omega,by simp only; omega,by simp only; omega⟩ (by simp only; omega)
    ·simp only [ltF hc0,ltF (fun q=>hc0 (e5.2 q)),Bool.not_false,cond_true]
     exact hih _ ⟨h,by simp only; omega,by simp only; omega,by simp only; omega⟩ (by simp only; omega)
   ·simp only [ltF hc,cond_false]
    refine qbM (S:=List α×(Int×Unit)) (fun p=>(p.2.1 - i).toNat) (fun p=>Ck P n p.1∧p.2.1≤m) (Res P n) ?_ N _ ⟨h,by simp only; omega⟩ (by simp only; omega)
    rintro jh1 jh2 ⟨zs,k,⟨⟩⟩ ⟨hz,hk⟩ hjh
    simp only at hz hk hjh⊢
    by_cases hk2:i<k
    ·have s1:qbr .i64 k 1=k - 1:=qbW (by omega) (by omega)
     have k1:=hz.set k (hz.get d (i:=k - 1) (by omega) (by omega))
     have k2:=k1.set (k - 1) (hz.get d (i:=k) (by omega) (by omega))
     simp only [ltT hk2,s1,hz.inB (i:=k) (by omega) (by omega),hz.inB (i:=k - 1) (by omega) (by omega),k1.inB (i:=k - 1) (by omega) (by omega),Bool.and_self,cond_true]
     exact hjh _ ⟨k2,by simp only; omega⟩ (by simp only; omega)
    ·simp only [ltF hk2,cond_false]
     exact ⟨zs,hz,rfl,rfl⟩
  simp only [eqF q2,cond_false]
  have em:=qm6 (x:=a) (y:=b) (by omega) (by omega) (by omega)
  rw [em]
  generalize hmid:(a+b) / 2=mid
  have hm1:a<mid:=by omega
  have hm2:mid<b:=by omega
  have en:qbf .i64 mid m=mid+m:=qdz (by omega) (by omega)
  have en2:qbr .i64 (mid+m) b=mid+m - b:=qbW (by omega) (by omega)
  have en3:qbr .i64 (mid+m) 1=mid+m - 1:=qbW (by omega) (by omega)
  simp only [en,en2,en3]
  obtain ⟨st,r,hst,hr,g1,g2,g3,g4⟩:∃st r:Int,(bif ltI mid m then mid+m - b else a)=st∧(bif ltI mid m then mid else m)=r∧a≤st∧st≤r∧r≤mid∧r≤m∧mid+m - st≤b:=by
   by_cases hq:mid<m
   ·exact ⟨_,_,rfl,rfl,by rw [ltT hq]; simp only [cond_true]; omega⟩
   ·exact ⟨_,_,rfl,rfl,by rw [ltF hq]; simp only [cond_false]; omega⟩
  obtain ⟨g4,g5⟩:=g4
  simp only [hst,hr]
  refine qbM (S:=List α×(Int×(Int×Unit))) (fun p=>(p.2.2.1 - p.2.1).toNat) (fun p=>Ck P n p.1∧st≤p.2.1∧p.2.1≤r∧p.2.2.1≤r) (Res P n) ?_ N _ ⟨h,by simp only; omega,by simp only; omega,by simp only; omega⟩ (by simp only; omega)
  rintro ih1 ih2 ⟨ys,i,j,⟨⟩⟩ ⟨h,hi,hi2,hj⟩ hih
  simp only at h hi hi2 hj hih⊢
  by_cases hc:i<j
  ·have em:=qm6 (x:=i) (y:=j) (by omega) (by omega) (by omega)
   have em1:qbf .i64 ((i+j) / 2) 1=(i+j) / 2+1:=qdz (by omega) (by omega)
   have em2:qbr .i64 (mid+m - 1) ((i+j) / 2)=mid+m - 1 - (i+j) / 2:=qbW (by omega) (by omega)
   obtain ⟨c,e,e3,e4,e5⟩:=hφ _ _ (h.get d (i:=mid+m - 1 - (i+j) / 2) (by omega) (by omega)) (h.get d (i:=(i+j) / 2) (by omega) (by omega))
   simp only [ltT hc,cond_true,em,em1,em2,h.inB (i:=mid+m - 1 - (i+j) / 2) (by omega) (by omega),h.inB (i:=(i+j) / 2) (by omega) (by omega),e3,e4,qi,qp,Bool.and_self]
   by_cases hc0:c<0
   ·simp only [ltT hc0,ltT (e5.1 hc0),Bool.not_true,cond_false]
    exact hih _ ⟨h,by simp only; omega,by simp only; omega,by simp only; omega⟩ (by simp only; omega)
   ·simp only [ltF hc0,ltF (fun q=>hc0 (e5.2 q)),Bool.not_false,cond_true]
    exact hih _ ⟨h,by simp only; omega,by simp only; omega,by simp only; omega⟩ (by simp only; omega)
  ·have ee:qbr .i64 (mid+m) i=mid+m - i:=qbW (by omega) (by omega)
   simp only [ltF hc,cond_false,ee]
   obtain ⟨zs,z1,z2,z3,z4⟩:∃zs,Ck P n zs∧(bif (ltI i m&&ltI m (mid+m - i)) then qG (qdO d N (ys,(i,(m,(mid+m - i,(φ,())))))) else true)=true∧(bif (ltI i m&&ltI m (mid+m - i)) then qG (qdO d N (ys,(i,(m,(mid+m - i,(ψ,())))))) else true)=true∧(bif (ltI i m&&ltI m (mid+m - i)) then (qae (qdO d N (ys,(i,(m,(mid+m - i,(φ,())))))) ((),(([]:List α),()))).2.1 else ys)=zs∧(bif (ltI i m&&ltI m (mid+m - i)) then (qae (qdO d N (ys,(i,(m,(mid+m - i,(ψ,())))))) ((),(([]:List α),()))).2.1 else ys)=zs:=by
    by_cases hq:i<m∧m<mid+m - i
    ·obtain ⟨out,k1,k2,k3⟩:=qoD (φ:=φ) (ψ:=ψ) d hn hN h (a:=i) (m:=m) (b:=mid+m - i) (by omega) hq.1 hq.2 (by omega)
     exact ⟨out,k1,by simp only [ltT hq.1,ltT hq.2,Bool.and_self,cond_true,k2,k3,qi,qp,and_self]⟩
    ·have e:(ltI i m&&ltI m (mid+m - i))=false:=by
      by_cases hq1:i<m
      ·rw [ltF (fun hq2=>hq ⟨hq1,hq2⟩),Bool.and_false]
      ·rw [ltF hq1,Bool.false_and]
     exact ⟨ys,h,by simp only [e,cond_false,and_self]⟩
   obtain ⟨z4,z5⟩:=z4
   simp only [z2,z3,z4,z5,cond_true]
   obtain ⟨ws,w1,w2,w3,w4,w5⟩:∃ws,Ck P n ws∧(bif (ltI a i&&ltI i mid) then qG (qeq d N M (zs,(a,(i,(mid,(φ,())))))) else true)=true∧(bif (ltI a i&&ltI i mid) then qG (qeq d N M (zs,(a,(i,(mid,(ψ,())))))) else true)=true∧(bif (ltI a i&&ltI i mid) then (qae (qeq d N M (zs,(a,(i,(mid,(φ,())))))) ((),(([]:List α),()))).2.1 else zs)=ws∧(bif (ltI a i&&ltI i mid) then (qae (qeq d N M (zs,(a,(i,(mid,(ψ,())))))) ((),(([]:List α),()))).2.1 else zs)=ws:=by
    by_cases hq:a<i∧i<mid
    ·obtain ⟨out,k1,k2,k3⟩:=ih zs z1 a i mid ha hq.1 hq.2 (by omega) (by omega)
     exact ⟨out,k1,by simp only [ltT hq.1,ltT hq.2,Bool.and_self,cond_true,k2,k3,qi,qp,and_self]⟩
    ·have e:(ltI a i&&ltI i mid)=false:=by
      by_cases hq1:a<i
      ·rw [ltF (fun hq2=>hq ⟨hq1,hq2⟩),Bool.and_false]
      ·rw [ltF hq1,Bool.false_and]
     exact ⟨zs,z1,by simp only [e,cond_false,and_self]⟩
   simp only [w2,w3,w4,w5,cond_true]
   by_cases hq:mid<mid+m - i∧mid+m - i<b
   ·obtain ⟨out,k1,k2,k3⟩:=ih ws w1 mid (mid+m - i) b (by omega) hq.1 hq.2 hb (by omega)
    simp only [ltT hq.1,ltT hq.2,Bool.and_self,cond_true,k2,k3,qi,qp]
    exact ⟨out,k1,rfl,rfl⟩
   ·have e:(ltI mid (mid+m - i)&&ltI (mid+m - i) b)=false:=by
     by_cases hq1:mid<mid+m - i
     ·rw [ltF (fun hq2=>hq ⟨hq1,hq2⟩),Bool.and_false]
     ·rw [ltF hq1,Bool.false_and]
    simp only [e,cond_false,cond_true]
    exact ⟨ws,w1,rfl,rfl⟩
theorem qls (hφ:Alike P φ ψ) (hn:n≤1099511627776) (hN:2 * n+1<N) {ys:List α} (h:Ck P n ys) {a m b:Int} (ha:0≤a) (h1:a<m) (h2:m<b) (hb:b≤(n:Int)):Res P n (qkj d N (ys,(a,(m,(b,(φ,())))))) (qkj d N (ys,(a,(m,(b,(ψ,())))))):=
 qka d hφ hn hN N ys h a m b ha h1 h2 hb (by omega)
theorem qpa (hφ:Alike P φ ψ) (hn:n≤1099511627776) (hN:2 * n+100<N) {ys:List α} (h:Ck P n ys):Res P n (qj8 d N (ys,((n:Int),(φ,())))) (qj8 d N (ys,((n:Int),(ψ,())))):=by
 simp only [qj8,qO]
 refine qbM (S:=List α×(Int×(Int×Unit))) (fun p=>((n:Int)+20 - p.2.2.1).toNat) (fun p=>Ck P n p.1∧0≤p.2.1∧p.2.1≤(n:Int)∧p.2.2.1=p.2.1+20) (Res P n) ?_ N _ ⟨h,by simp only; omega,by simp only; omega,by simp only; omega⟩ (by simp only; omega)
 rintro ih1 ih2 ⟨ys,a,b,⟨⟩⟩ ⟨h,ha,ha2,hb⟩ hih
 simp only at h ha ha2 hb hih⊢
 by_cases hc:b≤(n:Int)
 ·obtain ⟨out,k1,k2,k3⟩:=qlL d hφ hn (by omega:n+1<N) h ha ha2 hc
  have e1:qbf .i64 b 20=b+20:=qdz (by omega) (by omega)
  simp only [leT hc,cond_true,k2,k3,qi,qp,e1]
  exact hih _ ⟨k1,by simp only; omega,by simp only; omega,by simp only⟩ (by simp only; omega)
 ·obtain ⟨out,k1,k2,k3⟩:=qlL d hφ hn (by omega:n+1<N) h ha ha2 (Int.le_refl (n:Int))
  simp only [leF hc,cond_false,k2,k3,qi,qp,cond_true]
  refine qbM (S:=List α×(Int×Unit)) (fun p=>((n:Int) - p.2.1).toNat) (fun p=>Ck P n p.1∧1≤p.2.1∧p.2.1≤2 * (n:Int)+20) (Res P n) ?_ N _ ⟨k1,by simp only; omega,by simp only; omega⟩ (by simp only; omega)
  rintro jh1 jh2 ⟨ys,s,⟨⟩⟩ ⟨h,hs,hs2⟩ hjh
  simp only at h hs hs2 hjh⊢
  by_cases hsn:s<(n:Int)
  ·have e1:qpR .i64 2 s=2 * s:=by rw [qiA,qj1 (by omega) (by omega)]
   have e2:qpR .i64 s 2=2 * s:=by rw [qiA,qj1 (by omega) (by omega)]; omega
   simp only [ltT hsn,cond_true,e1,e2]
   refine qbM (S:=List α×(Int×(Int×Unit))) (fun p=>((n:Int)+2 * s - p.2.2.1).toNat) (fun p=>Ck P n p.1∧0≤p.2.1∧p.2.1≤(n:Int)∧p.2.2.1=p.2.1+2 * s) (Res P n) ?_ N _ ⟨h,by simp only; omega,by simp only; omega,by simp only; omega⟩ (by simp only; omega)
   rintro kh1 kh2 ⟨ys,a,b,⟨⟩⟩ ⟨h,ha,ha2,hb⟩ hkh
   simp only at h ha ha2 hb hkh⊢
   have e3:qbf .i64 a s=a+s:=qdz (by omega) (by omega)
   by_cases hc:b≤(n:Int)
   ·obtain ⟨out,k1,k2,k3⟩:=qls d hφ hn (by omega:2 * n+1<N) h (a:=a) (m:=a+s) (b:=b) ha (by omega) (by omega) hc
    have e4:qbf .i64 b (2 * s)=b+2 * s:=qdz (by omega) (by omega)
    simp only [leT hc,cond_true,e3,k2,k3,qi,qp,e4]
    exact hkh _ ⟨k1,by simp only; omega,by simp only; omega,by simp only⟩ (by simp only; omega)
   ·simp only [leF hc,cond_false,e3]
    by_cases hq:a+s<(n:Int)
    ·obtain ⟨out,k1,k2,k3⟩:=qls d hφ hn (by omega:2 * n+1<N) h (a:=a) (m:=a+s) (b:=(n:Int)) ha (by omega) hq (Int.le_refl _)
     simp only [ltT hq,cond_true,k2,k3,qi,qp]
     exact hjh _ ⟨k1,by simp only; omega,by simp only; omega⟩ (by simp only; omega)
    ·simp only [ltF hq,cond_false,cond_true]
     exact hjh _ ⟨h,by simp only; omega,by simp only; omega⟩ (by simp only; omega)
  ·simp only [ltF hsn,cond_false]
   exact ⟨ys,h,rfl,rfl⟩
theorem qn4 (hφ:Alike P φ ψ) {ys:List α} (hn:ys.length≤1099511627776) (hN:2 * ys.length+100<N) (h:∀x∈ys,P x):∃out:List α,qlD d N (ys,(φ,()))=some ((),(out,()))∧qlD d N (ys,(ψ,()))=some ((),(out,()))∧out.length=ys.length∧∀x∈out,P x:=by
 obtain ⟨out,k1,k2,k3⟩:=qpa d hφ hn hN ⟨rfl,h⟩
 refine ⟨out,?_,?_,k1.len,k1.all⟩
 ·simp only [qlD,qg,k2,qi,qp,cond_true]
 ·simp only [qlD,qg,k3,qi,qp,cond_true]
end
end
end Go.Vi
namespace Go.Vi
open Go.RowKit
def qqI (w:World) (g:Nat) (r:(t:Ty)×t.den):Prop:=g<w.heap.size∧∃(cs:List Value) (te:Nat) (fz:Nat×Nat),w.heap[g]? =some (.cells cs.toArray te fz)∧Rep w (fun b=>b<w.heap.size) r.1 r.2 cs
theorem qpc {P:Program} {w:World} {n:String} {g:Nat} {cs:Array Value} (hg:P.globalNamed n=some g) (h:w.var? P n=some cs):g<w.heap.size∧∃(te:Nat) (fz:Nat×Nat),w.heap[g]? =some (.cells cs te fz):=by
 rw [World.var?,hg] at h
 simp only [Option.bind_some] at h
 split at h
 ·rename_i c te fz e
  injection h with h
  subst h
  exact ⟨(Array.getElem?_eq_some_iff.1 e).1,te,fz,e⟩
 ·cases h
theorem qqI.err {P:Program} {w:World} {n:String} {g:Nat} {t:TypeId} {x:Value} (hg:P.globalNamed n=some g) (h:w.var? P n=some #[.iface t x]):qqI w g ⟨.err,false⟩:=by
 obtain ⟨h1,te,fz,h2⟩:=qpc hg h
 exact ⟨h1,[.iface t x],te,fz,h2,_,rfl,.inr ⟨rfl,t,x,rfl⟩⟩
def encV (v:Int×(Int×(List UInt8×Unit))):List UInt8:=124::(Lib.itoa v.1++44::(Lib.itoa v.2.1++44::(Lib.itoa (v.2.2.1.length:Int)++44::v.2.2.1)))
def encR (xs:List (Int×(Int×(List UInt8×Unit)))):List UInt8:=Lib.itoa (xs.length:Int)++(xs.map encV).flatten
end Go.Vi
namespace Go.Vi
def dig (b:UInt8):Prop:=b=45∨(48≤b.toNat∧b.toNat≤57)
instance (b:UInt8):Decidable (dig b):=by unfold dig; infer_instance
def stops (P:UInt8→Prop) (r:List UInt8):Prop:=∀b t,r=b::t→¬P b
theorem part {P:UInt8→Prop} :(a b:List UInt8)→ {r s:List UInt8} →(∀x∈a,P x)→(∀x∈b,P x)→stops P r→stops P s→a++r=b++s→a=b∧r=s
 |[],[],_,_,_,_,_,_,h=>⟨rfl,h⟩
 |[],y::b,r,s,_,hb,hr,_,h=>absurd (hb y List.mem_cons_self) (hr y (b++s) h)
 |x::a,[],r,s,ha,_,_,hs,h=>absurd (ha x List.mem_cons_self) (hs x (a++r) h.symm)
 |x::a,y::b,r,s,ha,hb,hr,hs,h=>by
  injection h with h1 h2
  obtain ⟨h3,h4⟩:=part a b (fun z hz=>ha z (List.mem_cons_of_mem _ hz)) (fun z hz=>hb z (List.mem_cons_of_mem _ hz)) hr hs h2
  exact ⟨by rw [h1,h3],h4⟩
abbrev DFk:Type:=List UInt8×(List Int×(List UInt8×Unit))
abbrev DCol:Type:=List UInt8×(Int×(Bool×Unit))
abbrev DTab:Type:=List UInt8×(List DCol×(List Int×Unit))
abbrev qpw:Type:=Int×(Int×(List UInt8×Unit))
abbrev DCon:Type:=List UInt8×(Int×(List UInt8×(Int×(qpw×Unit))))
theorem qlx {α:Type} [DecidableEq α] {ne:α→α→Bool} (hne:∀a b,ne a b= !decide (a=b)) (xs ys:List α) (d:α) (hl:xs.length=ys.length) (hb:xs.length≤1099511627776) {N:Nat} (hN:xs.length<N):
  qay (S:=Int×Unit) (R:=(Bool×Unit)×Unit) N (fun ih0=>fun p1=>(bif (ltI p1.1 (qr xs)) then (bif ((inB p1.1 (qr xs))&&(inB p1.1 (qr ys))) then (bif (ne (qn xs p1.1 d) (qn ys p1.1 d)) then (some ((false,()),())) else (ih0 ((qbf .i64 p1.1 1),()))) else none) else (some ((true,()),())))) (0,())=some ((decide (xs=ys),()),()):=by
 refine qf9 (S:=Int×Unit) (R:=(Bool×Unit)×Unit) (fun p=>xs.length - p.1.toNat) (fun p=>∃i:Nat,p.1=(i:Int)∧i≤xs.length∧xs.take i=ys.take i) (fun _=>((decide (xs=ys),()),())) ?_ N _ ⟨0,rfl,Nat.zero_le _,by simp⟩ (by simp; omega)
 rintro ih ⟨_,_⟩ ⟨i,rfl,h2,h3⟩ hih
 simp only [Int.toNat_natCast] at hih⊢
 by_cases hi:i<xs.length
 ·have hj:i<ys.length:=by omega
  rw [qJ (qbi hi),qF hi,qF hj,qM d hi,qM d hj,hne]
  simp only [Bool.and_self,cond_true]
  by_cases e:xs[i]=ys[i]
  ·rw [qK (by simp [e]),q8 (by omega),hih _ ⟨i+1,rfl,by omega,by rw [qbw hi,qbw hj,h3,e]⟩ (by simp only [Int.toNat_natCast]; omega)]
  ·rw [qJ (by simp [e])]
   have:xs≠ys:=fun h=>e (by subst h; rfl)
   simp [this]
 ·rw [qK (qaK hi)]
  have e1:i=xs.length:=by omega
  subst e1
  have:xs=ys:=by
   have:=h3
   rwa [List.take_length,hl,List.take_length] at this
  simp [this]
theorem qpg {α:Type} (xs:List α) (b:Nat) (h:xs.length * b≤140737488355328):
  (bif (eqI (qr xs) 0) then (qov (some ((([]:List α),()),())) (bif (qd8 (qr ([]:List α)) (qr xs) b) then (some (((qdF ([]:List α) xs),()),())) else none)) else (bif (qd8 (qr ([]:List α)) (qr xs) b) then (some (((qdF ([]:List α) xs),()),())) else none))=some ((xs,()),()):=by
 have e:qd8 (qr ([]:List α)) (qr xs) b=true:=qe5 (by simpa using h)
 rw [e,cond_true,qbA,List.nil_append]
 cases xs with
 |nil=>rw [qJ (by rw [qbJ,qg]; rfl),qla,if_pos rfl]
 |cons x xs=>rw [qK (by rw [qbJ,qg]; simp; omega)]
theorem qmO {n:Int} (h:IntKind.i64.has n):(Lib.itoa n).length≤21:=by
 have h': -9223372036854775808≤n∧n≤9223372036854775807:=by simpa [IntKind.has,IntKind.min,IntKind.max,IntKind.signed,IntKind.bits] using h
 exact Lib.itoa_length_le n h'.1 h'.2
theorem qib {n:Nat} (h:n≤maxLen):(Lib.itoa (n:Int)).length≤21:=by
 unfold maxLen at h
 exact Lib.itoa_length_le _ (by omega) (by omega)
theorem qp7 {v:qpw} (h:IntKind.i64.has v.1∧IntKind.i64.has v.2.1∧v.2.2.1.length≤maxLen):(encV v).length≤v.2.2.1.length+67:=by
 have h1:=qmO h.1
 have h2:=qmO h.2.1
 have h3:=qib h.2.2
 unfold encV
 simp only [List.length_append,List.length_cons]
 omega
abbrev TCol:Ty:= .pair .str (.pair (.int .i64) (.pair .bool .unit))
theorem qiY:(l:List Int)→(l.map (Ty.bulk (.int .i64))).sum=l.length
 |[]=>rfl
 |i::l=>by
  have:Ty.bulk (.int .i64) i=1:=rfl
  rw [List.map_cons,List.sum_cons,qiY l,this,List.length_cons]; omega
abbrev qjj:Ty:= .pair (.int .i64) (.pair (.int .i64) (.pair .str .unit))
abbrev qq8:Ty:= .pair .str (.pair (.slice TCol) (.pair (.slice (.int .i64)) .unit))
abbrev TFk:Ty:= .pair .str (.pair (.slice (.int .i64)) (.pair .str .unit))
abbrev TCon:Ty:= .pair .str (.pair (.int .i64) (.pair .str (.pair (.int .i64) (.pair qjj .unit))))
abbrev TSch:Ty:= .pair (.slice qq8) (.pair (.slice TFk) (.pair (.slice TCon) .unit))
theorem qpE (a:List DTab) (b:List DFk) (c:List DCon):TSch.bulk (a,b,c,PUnit.unit)=(a.map qq8.bulk).sum+1+((b.map TFk.bulk).sum+1+((c.map TCon.bulk).sum+1+1)):=rfl
theorem qng (a b:List UInt8):Lib.compareBytes a b= -1∨Lib.compareBytes a b=0∨Lib.compareBytes a b=1:=by
 induction a generalizing b with
 |nil=>cases b <;> simp [Lib.compareBytes]
 |cons x a ih=>cases b with
  |nil=>simp [Lib.compareBytes]
  |cons y b=>
   simp only [Lib.compareBytes]
   split
   ·simp
   ·split
    ·simp
    ·exact ih b
theorem qpd (a b:List UInt8):Lib.compareBytes b a= - Lib.compareBytes a b:=by
 induction a generalizing b with
 |nil=>cases b <;> simp [Lib.compareBytes]
 |cons x a ih=>cases b with
  |nil=>simp [Lib.compareBytes]
  |cons y b=>
   simp only [Lib.compareBytes]
   by_cases h1:x<y
   ·have h2:¬y<x:=fun h=>by have:=UInt8.lt_iff_toNat_lt.1 h; have:=UInt8.lt_iff_toNat_lt.1 h1; omega
    simp [h1,h2]
   ·by_cases h2:y<x
    ·simp [h1,h2]
    ·simp [h1,h2,ih b]
theorem qmI (a b:List UInt8):Lib.compareBytes a b=0↔a=b:=by
 induction a generalizing b with
 |nil=>cases b <;> simp [Lib.compareBytes]
 |cons x a ih=>cases b with
  |nil=>simp [Lib.compareBytes]
  |cons y b=>
   simp only [Lib.compareBytes]
   by_cases h1:x<y
   ·have:x≠y:=fun e=>by subst e; have:=UInt8.lt_iff_toNat_lt.1 h1; omega
    simp [h1,this]
   ·by_cases h2:y<x
    ·have:x≠y:=fun e=>by subst e; have:=UInt8.lt_iff_toNat_lt.1 h2; omega
     simp [h1,h2,this]
    ·have:x=y:=UInt8.toNat_inj.1 (by
      have h1:¬x.toNat<y.toNat:=fun h=>h1 (UInt8.lt_iff_toNat_lt.2 h)
      have h2:¬y.toNat<x.toNat:=fun h=>h2 (UInt8.lt_iff_toNat_lt.2 h)
      omega)
     simp [h1,h2,ih b,this]
theorem qiC (a b:List UInt8):qhI a b=decide (Lib.compareBytes a b<0):=by
 rw [qlb]
 induction a generalizing b with
 |nil=>cases b <;> simp [Lib.compareBytes,Op.bytesLess]
 |cons x a ih=>cases b with
  |nil=>simp [Lib.compareBytes,Op.bytesLess]
  |cons y b=>
   simp only [Lib.compareBytes,Op.bytesLess]
   by_cases h1:x<y
   ·simp [h1]
   ·by_cases h2:y<x
    ·have:x≠y:=fun e=>by subst e; have:=UInt8.lt_iff_toNat_lt.1 h2; omega
     simp [h1,h2,this]
    ·have:x=y:=UInt8.toNat_inj.1 (by
      have h1:¬x.toNat<y.toNat:=fun h=>h1 (UInt8.lt_iff_toNat_lt.2 h)
      have h2:¬y.toNat<x.toNat:=fun h=>h2 (UInt8.lt_iff_toNat_lt.2 h)
      omega)
     simp [h1,h2,ih b,this]
theorem qmt (a b:List UInt8):(qhI a b||eqS a b)= !qhI b a:=by
 rw [qiC,qiC,qpd a b,qcA]
 rcases qng a b with h|h|h
 ·simp [h]
 ·rw [h]; simp [(qmI a b).1 h]
 ·have:a≠b:=fun e=>by rw [(qmI a b).2 e] at h; omega
  simp [h,this]
end Go.Vi
namespace Go.Vi
noncomputable section
def ic (x y:Int):Int:=if x<y then -1 else if y<x then 1 else 0
def vc (a b:qpw):Int:=if ic a.1 b.1≠0 then ic a.1 b.1 else if ic a.2.1 b.2.1≠0 then ic a.2.1 b.2.1 else Lib.compareBytes a.2.2.1 b.2.2.1
theorem qbe (x y:Int):(x<y∧ic x y= -1)∨(x=y∧ic x y=0)∨(y<x∧ic x y=1):=by
 unfold ic
 split
 ·simp [*]
 ·split
  ·simp [*]
  ·have:x=y:=by omega
   simp [this]
theorem qm4 (a b:qpw):vc a b= -1∨vc a b=0∨vc a b=1:=by
 unfold vc
 have h1:=qbe a.1 b.1
 have h2:=qbe a.2.1 b.2.1
 have h3:=qng a.2.2.1 b.2.2.1
 split
 ·omega
 ·split
  ·omega
  ·exact h3
theorem qrl (a b:qpw):vc b a= - vc a b:=by
 have s:∀x y,ic y x= - ic x y:=fun x y=>by
  have h1:=qbe x y
  have h2:=qbe y x
  omega
 unfold vc
 rw [s a.1 b.1,s a.2.1 b.2.1,qpd]
 split <;> split <;> first|omega|(split <;> split <;> omega)
theorem qpb (a b:qpw):vc a b=0↔a=b:=by
 obtain ⟨k,n,s,_⟩:=a
 obtain ⟨k',n',s',_⟩:=b
 have h1:=qbe k k'
 have h2:=qbe n n'
 have h3:=qmI s s'
 simp only [vc,Prod.mk.injEq,and_true]
 split
 ·rename_i h
  constructor
  ·intro h0; exact absurd h0 h
  ·rintro ⟨rfl,_⟩; omega
 ·split
  ·rename_i h
   constructor
   ·intro h0; exact absurd h0 h
   ·rintro ⟨_,rfl,_⟩; omega
  ·rw [h3]
   constructor
   ·intro h; exact ⟨by omega,by omega,h⟩
   ·exact fun h=>h.2.2
abbrev qb3:Type:=List qpw
def qaX:qb3→qb3→Int
 |[],ys=>ic 0 (ys.length:Int)
 |_::xs,[]=>ic ((xs.length:Int)+1) 0
 |x::xs,y::ys=>if vc x y≠0 then vc x y else qaX xs ys
theorem qqE (a b k:Int):ic (a+k) (b+k)=ic a b:=by
 unfold ic
 by_cases h1:a<b
 ·rw [if_pos h1,if_pos (by omega)]
 ·rw [if_neg h1,if_neg (by omega)]
  by_cases h2:b<a
  ·rw [if_pos h2,if_pos (by omega)]
  ·rw [if_neg h2,if_neg (by omega)]
theorem qko (xs ys:qb3) (i:Nat) (h:¬(i<xs.length∧i<ys.length)) (hx:i≤xs.length) (hy:i≤ys.length):qaX (xs.drop i) (ys.drop i)=ic (xs.length:Int) (ys.length:Int):=by
 by_cases h1:i<xs.length
 ·have h2:¬i<ys.length:=fun h2=>h ⟨h1,h2⟩
  rw [List.drop_eq_getElem_cons h1,List.drop_of_length_le (l:=ys) (by omega),qaX]
  have e1:((xs.drop (i+1)).length:Int)+1=(xs.length:Int)+(-(i:Int)):=by rw [List.length_drop]; omega
  have e2:(0:Int)=(ys.length:Int)+(-(i:Int)):=by omega
  rw [e1,show ic ((xs.length:Int)+ -(i:Int)) 0=ic ((xs.length:Int)+ -(i:Int)) ((ys.length:Int)+ -(i:Int)) by rw [←e2],qqE]
 ·rw [List.drop_of_length_le (l:=xs) (by omega)]
  rw [qaX.eq_def]
  simp only
  have e1:((ys.drop i).length:Int)=(ys.length:Int)+(-(i:Int)):=by rw [List.length_drop]; omega
  have e2:(0:Int)=(xs.length:Int)+(-(i:Int)):=by omega
  rw [e1,show ic 0 ((ys.length:Int)+ -(i:Int))=ic ((xs.length:Int)+ -(i:Int)) ((ys.length:Int)+ -(i:Int)) by rw [←e2],qqE]
abbrev zV:qpw:=(0,(0,(([]:List UInt8),())))
def qpK (row:qb3) (i:Int):qpw:=if h:0≤i∧i<(row.length:Int) then row[i.toNat]'(by omega) else zV
def qdj (pk:List Int) (row:qb3):qb3:=pk.map (qpK row)
theorem qgb (pk:List Int) (row:qb3):(qdj pk row).length=pk.length:=by simp [qdj]
theorem qmY:(a b c:List UInt8)→Lib.compareBytes a b<0→Lib.compareBytes b c<0→Lib.compareBytes a c<0
 |[],[],_,h,_=>by simp [Lib.compareBytes] at h
 |[],_::_,[],_,h=>by simp [Lib.compareBytes] at h
 |[],_::_,_::_,_,_=>by simp [Lib.compareBytes]
 |_::_,[],_,h,_=>by simp [Lib.compareBytes] at h
 |_::_,_::_,[],_,h=>by simp [Lib.compareBytes] at h
 |x::a,y::b,z::c,h1,h2=>by
  simp only [Lib.compareBytes,UInt8.lt_iff_toNat_lt] at h1 h2⊢
  have ih:=qmY a b c
  by_cases e1:x.toNat<y.toNat
  ·by_cases e2:y.toNat<z.toNat
   ·rw [if_pos (by omega)]; omega
   ·by_cases e3:z.toNat<y.toNat
    ·rw [if_neg e2,if_pos e3] at h2; omega
    ·rw [if_pos (by omega)]; omega
  ·by_cases e4:y.toNat<x.toNat
   ·rw [if_neg e1,if_pos e4] at h1; omega
   ·rw [if_neg e1,if_neg e4] at h1
    by_cases e2:y.toNat<z.toNat
    ·rw [if_pos (by omega)]; omega
    ·by_cases e3:z.toNat<y.toNat
     ·rw [if_neg e2,if_pos e3] at h2; omega
     ·rw [if_neg e2,if_neg e3] at h2
      rw [if_neg (by omega),if_neg (by omega)]
      exact ih h1 h2
theorem qqw {a b c:qpw} (h1:vc a b<0) (h2:vc b c<0):vc a c<0:=by
 unfold vc at *
 have a1:=qbe a.1 b.1
 have a2:=qbe b.1 c.1
 have a3:=qbe a.1 c.1
 have b1:=qbe a.2.1 b.2.1
 have b2:=qbe b.2.1 c.2.1
 have b3:=qbe a.2.1 c.2.1
 have tr:=qmY a.2.2.1 b.2.2.1 c.2.2.1
 generalize Lib.compareBytes a.2.2.1 b.2.2.1=s1 at *
 generalize Lib.compareBytes b.2.2.1 c.2.2.1=s2 at *
 generalize Lib.compareBytes a.2.2.1 c.2.2.1=s3 at *
 generalize ic a.1 b.1=i1 at *
 generalize ic b.1 c.1=i2 at *
 generalize ic a.1 c.1=i3 at *
 generalize ic a.2.1 b.2.1=j1 at *
 generalize ic b.2.1 c.2.1=j2 at *
 generalize ic a.2.1 c.2.1=j3 at *
 have k1:i1= -1∨(i1=0∧(j1= -1∨(j1=0∧s1<0))):=by
  split at h1
  ·omega
  ·split at h1 <;> omega
 have k2:i2= -1∨(i2=0∧(j2= -1∨(j2=0∧s2<0))):=by
  split at h2
  ·omega
  ·split at h2 <;> omega
 have k3:i3= -1∨(i3=0∧(j3= -1∨(j3=0∧s3<0))):=by
  rcases k1 with k1|⟨k1,k1'|⟨k1',k1''⟩⟩ <;> rcases k2 with k2|⟨k2,k2'|⟨k2',k2''⟩⟩ <;> first|omega|exact .inr ⟨by omega,.inr ⟨by omega,tr k1'' k2''⟩⟩
 split
 ·omega
 ·split <;> omega
theorem qk6:(a b c:qb3)→qaX a b<0→qaX b c<0→qaX a c<0
 |[],[],_,h,_=>by simp [qaX,ic] at h
 |[],y::ys,[],_,h=>by
  have:=qbe ((ys.length:Int)+1) 0
  simp only [qaX] at h
  omega
 |[],_::_,z::zs,_,_=>by
  have:=qbe 0 (((z::zs).length:Nat):Int)
  simp only [qaX,List.length_cons] at this⊢
  omega
 |x::xs,[],_,h,_=>by
  have:=qbe ((xs.length:Int)+1) 0
  simp only [qaX] at h
  omega
 |_::_,y::ys,[],_,h=>by
  have:=qbe ((ys.length:Int)+1) 0
  simp only [qaX] at h
  omega
 |x::xs,y::ys,z::zs,h1,h2=>by
  simp only [qaX] at h1 h2⊢
  have ih:=qk6 xs ys zs
  by_cases e1:vc x y=0
  ·have e1':=(qpb x y).1 e1
   subst e1'
   simp only [e1,ne_eq,not_true_eq_false,if_false] at h1
   by_cases e2:vc x z=0
   ·simp only [e2,ne_eq,not_true_eq_false,if_false] at h2⊢
    exact ih h1 h2
   ·simp only [e2,ne_eq,not_false_eq_true,if_true] at h2⊢
    exact h2
  ·simp only [e1,ne_eq,not_false_eq_true,if_true] at h1
   by_cases e2:vc y z=0
   ·have e2':=(qpb y z).1 e2
    subst e2'
    simp only [e1,ne_eq,not_false_eq_true,if_true]
    exact h1
   ·simp only [e2,ne_eq,not_false_eq_true,if_true] at h2
    have:=qqw h1 h2
    have e3:¬vc x z=0:=by omega
    simp only [e3,ne_eq,not_false_eq_true,if_true]
    exact this
theorem qoZ {α:Type} (R:α→α→Prop) (tr:∀a b c,R a b→R b c→R a c) (l:List α) (h:∀i (hi:i+1<l.length),R (l[i]'(by omega)) l[i+1]):∀(k i:Nat) (hk:i+1+k<l.length),R (l[i]'(by omega)) (l[i+1+k]'hk)
 |0,i,hk=>h i hk
 |k+1,i,hk=>tr _ _ _ (qoZ R tr l h k i (by omega)) (h (i+1+k) (by omega))
theorem qmC {α:Type} (R:α→α→Prop) (tr:∀a b c,R a b→R b c→R a c) (l:List α) (h:∀i (hi:i+1<l.length),R (l[i]'(by omega)) l[i+1]):l.Pairwise R:=
 List.pairwise_iff_getElem.2 fun i j hi hj hij=>by
  have:=qoZ R tr l h (j - (i+1)) i (by omega)
  have e:i+1+(j - (i+1))=j:=by omega
  simpa only [e] using this
end
end Go.Vi
set_option linter.unusedSimpArgs false
set_option linter.unusedVariables false
set_option maxRecDepth 100000
namespace Go.Vi
noncomputable section
theorem qiW {S R:Type} {st:(S→Option R)→S→Option R} (μ:S→Nat) (I:S→Prop) (Q:Option R→Prop)
  (hs:∀ih p,I p→(∀q,I q→μ q<μ p→Q (ih q))→Q (st ih p)):∀(N:Nat) (p:S),I p→μ p<N→Q (qay N st p)
 |0,p,_,h=>by omega
 |N+1,p,hI,h=>by
  rw [qa9]
  exact hs _ p hI fun q hq hm=>qiW μ I Q hs N q hq (by omega)
structure Cmp {α:Type} (P:α→Prop) (φ:(α×(α×Unit))→Option (Int×Unit)) (le:α→α→Prop):Prop where
 ans:∀a b,P a→P b→∃c,φ (a,(b,()))=some (c,())∧(c<0↔¬le b a)
 tot:∀a b,P a→P b→le a b∨le b a
 trans:∀a b c,P a→P b→P c→le a b→le b c→le a c
section
variable {α:Type} {P:α→Prop} {n:Nat} (d:α) {φ:(α×(α×Unit))→Option (Int×Unit)} {le:α→α→Prop} {N:Nat}
theorem Cmp.refl (h:Cmp P φ le) {a:α} (ha:P a):le a a:=(h.tot a a ha ha).elim id id
structure Seg (d:α) (n:Nat) (a b:Int) (xs ys:List α):Prop where
 perm:ys.Perm xs
 out:∀k:Int,0≤k→k<(n:Int)→(k<a∨b≤k)→qn ys k d=qn xs k d
 inn:∀k:Int,a≤k→k<b→∃m,a≤m∧m<b∧qn ys k d=qn xs m d
theorem Seg.refl (a b:Int) (xs:List α):Seg d n a b xs xs:=⟨.refl _,fun _ _ _ _=>rfl,fun k h1 h2=>⟨k,h1,h2,rfl⟩⟩
theorem Seg.trans {a b:Int} {xs ys zs:List α} (h1:Seg d n a b xs ys) (h2:Seg d n a b ys zs):Seg d n a b xs zs:=
 ⟨h2.perm.trans h1.perm,fun k q1 q2 q3=>(h2.out k q1 q2 q3).trans (h1.out k q1 q2 q3),fun k q1 q2=>by
  obtain ⟨m,m1,m2,m3⟩:=h2.inn k q1 q2
  obtain ⟨l,l1,l2,l3⟩:=h1.inn m m1 m2
  exact ⟨l,l1,l2,m3.trans l3⟩⟩
theorem Seg.mono {a b a' b':Int} {xs ys:List α} (h:Seg d n a b xs ys) (h0:0≤a') (hn:b'≤(n:Int)) (ha:a'≤a) (hb:b≤b'):Seg d n a' b' xs ys:=
 ⟨h.perm,fun k q1 q2 q3=>h.out k q1 q2 (by omega),fun k q1 q2=>by
  by_cases hk:a≤k∧k<b
  ·obtain ⟨m,m1,m2,m3⟩:=h.inn k hk.1 hk.2
   exact ⟨m,by omega,by omega,m3⟩
  ·exact ⟨k,q1,q2,h.out k (by omega) (by omega) (by omega)⟩⟩
theorem Seg.ck {a b:Int} {xs ys:List α} (h:Seg d n a b xs ys) (hx:Ck P n xs):Ck P n ys:=
 ⟨by rw [h.perm.length_eq]; exact hx.len,fun x q=>hx.all x (h.perm.mem_iff.1 q)⟩
theorem qle {xs:List α} (hl:xs.length=n) {i k:Int} (h0:0≤i) (h1:i<(n:Int)) (h2:0≤k) (v:α):qn (qdS xs i v) k d=if k=i then v else qn xs k d:=by
 rw [qcW,qcW,qbc]
 by_cases h:k=i
 ·subst h
  rw [if_pos rfl,List.getD_eq_getElem?_getD,List.getElem?_set_self (by omega)]
  rfl
 ·rw [if_neg h,List.getD_eq_getElem?_getD,List.getD_eq_getElem?_getD,List.getElem?_set_ne (by omega)]
def swp (xs:List α) (i j:Int):List α:=qdS (qdS xs i (qn xs j d)) j (qn xs i d)
theorem qkR {xs:List α} (hl:xs.length=n) {i j:Int} (i0:0≤i) (i1:i<(n:Int)) (j0:0≤j) (j1:j<(n:Int)) (k:Int) (h2:0≤k):qn (swp d xs i j) k d=if k=j then qn xs i d else if k=i then qn xs j d else qn xs k d:=by
 unfold swp
 rw [qle d (n:=n) (by rw [qbc,List.length_set]; exact hl) j0 j1 h2,qle d hl i0 i1 h2]
theorem qpf {xs:List α} (hl:xs.length=n) {a b i j:Int} (a0:0≤a) (bn:b≤(n:Int)) (i0:a≤i) (i1:i<b) (j0:a≤j) (j1:j<b):Seg d n a b xs (swp d xs i j):=by
 have g:=qkR d hl (i:=i) (j:=j) (by omega) (by omega) (by omega) (by omega)
 refine ⟨?_,fun k q1 q2 q3=> ?_,fun k q1 q2=> ?_⟩
 ·unfold swp
  have hi:i.toNat<xs.length:=by omega
  have hj:j.toNat<xs.length:=by omega
  have e1:qn xs i d=xs[i.toNat]:=by rw [qcW,List.getD_eq_getElem?_getD,List.getElem?_eq_getElem hi]; rfl
  have e2:qn xs j d=xs[j.toNat]:=by rw [qcW,List.getD_eq_getElem?_getD,List.getElem?_eq_getElem hj]; rfl
  rw [e1,e2,qbc,qbc]
  exact List.set_set_perm hi hj
 ·rw [g k q1,if_neg (by omega),if_neg (by omega)]
 ·rw [g k (by omega)]
  by_cases h1:k=j
  ·exact ⟨i,i0,i1,by rw [if_pos h1]⟩
  ·by_cases h2:k=i
   ·exact ⟨j,j0,j1,by rw [if_neg h1,if_pos h2]⟩
   ·exact ⟨k,q1,q2,by rw [if_neg h1,if_neg h2]⟩
def Srt (d:α) (le:α→α→Prop) (a b:Int) (xs:List α):Prop:=∀i j,a≤i→i≤j→j<b→le (qn xs i d) (qn xs j d)
def SRes (P:α→Prop) (d:α) (n:Nat) (le:α→α→Prop) (a b:Int) (xs:List α) (r:Option (Unit×(List α×Unit))):Prop:=∃out,r=some ((),(out,()))∧Seg d n a b xs out∧Srt d le a b out
def HpAt (d:α) (le:α→α→Prop) (f hi:Int) (ys:List α) (k:Int):Prop:=(2 * k+1<hi→le (qn ys (f+(2 * k+1)) d) (qn ys (f+k) d))∧(2 * k+2<hi→le (qn ys (f+(2 * k+2)) d) (qn ys (f+k) d))
structure Sft (d:α) (le:α→α→Prop) (f lo hi:Int) (ys:List α) (r:Int):Prop where
 rest:∀k,lo≤k→k<hi→k≠r→HpAt d le f hi ys k
 up:∀p,lo≤p→(2 * p+1=r∨2 * p+2=r)→(2 * r+1<hi→le (qn ys (f+(2 * r+1)) d) (qn ys (f+p) d))∧(2 * r+2<hi→le (qn ys (f+(2 * r+2)) d) (qn ys (f+p) d))
theorem Sft.done {f lo hi:Int} {ys:List α} {r:Int} (h:Sft d le f lo hi ys r) (hr:HpAt d le f hi ys r):∀k,lo≤k→k<hi→HpAt d le f hi ys k:=fun k h1 h2=>by
 by_cases hk:k=r
 ·rw [hk]; exact hr
 ·exact h.rest k h1 h2 hk
theorem Sft.step (hφ:Cmp P φ le) {ys:List α} (hc:Ck P n ys) {f lo hi:Int} (f0:0≤f) (fn:f+hi≤(n:Int)) (l0:0≤lo) {r c:Int} (h:Sft d le f lo hi ys r) (hr:lo≤r) (hcr:c=2 * r+1∨c=2 * r+2) (hch:c<hi)
  (hle:le (qn ys (f+r) d) (qn ys (f+c) d)) (hmax:∀o,(o=2 * r+1∨o=2 * r+2)→o<hi→le (qn ys (f+o) d) (qn ys (f+c) d)):Sft d le f lo hi (swp d ys (f+r) (f+c)) c:=by
 have g:=qkR d hc.len (i:=f+r) (j:=f+c) (by omega) (by omega) (by omega) (by omega)
 have gc:qn (swp d ys (f+r) (f+c)) (f+c) d=qn ys (f+r) d:=by rw [g _ (by omega),if_pos rfl]
 have gr:qn (swp d ys (f+r) (f+c)) (f+r) d=qn ys (f+c) d:=by rw [g _ (by omega),if_neg (by omega),if_pos rfl]
 have go:∀k,0≤k→k≠r→k≠c→qn (swp d ys (f+r) (f+c)) (f+k) d=qn ys (f+k) d:=fun k h0 h1 h2=>by rw [g _ (by omega),if_neg (by omega),if_neg (by omega)]
 have key:∀k,lo≤k→k<hi→k≠c→∀o,(o=2 * k+1∨o=2 * k+2)→o<hi→le (qn (swp d ys (f+r) (f+c)) (f+o) d) (qn (swp d ys (f+r) (f+c)) (f+k) d):=fun k k1 k2 k3 o ho oh=>by
  by_cases hk:k=r
  ·subst hk
   rw [gr]
   by_cases hoc:o=c
   ·rw [hoc,gc]; exact hle
   ·rw [go o (by omega) (by omega) hoc]; exact hmax o ho oh
  ·have hold:=h.rest k k1 k2 hk
   by_cases hor:o=r
   ·rw [hor,gr,go k (by omega) hk k3]
    have hu:=h.up k k1 (by omega)
    rcases hcr with q|q
    ·rw [q]; exact hu.1 (by omega)
    ·rw [q]; exact hu.2 (by omega)
   ·rw [go o (by omega) hor (by omega),go k (by omega) hk k3]
    rcases ho with q|q
    ·rw [q]; exact hold.1 (by omega)
    ·rw [q]; exact hold.2 (by omega)
 refine ⟨fun k k1 k2 k3=>⟨fun q=>key k k1 k2 k3 _ (.inl rfl) q,fun q=>key k k1 k2 k3 _ (.inr rfl) q⟩,fun p p1 p2=> ?_⟩
 have hp:p=r:=by omega
 subst hp
 have hold:=h.rest c (by omega) hch (by omega)
 rw [gr]
 exact ⟨fun q=>by rw [go _ (by omega) (by omega) (by omega)]; exact hold.1 q,fun q=>by rw [go _ (by omega) (by omega) (by omega)]; exact hold.2 q⟩
structure PInv (d:α) (n:Nat) (le:α→α→Prop) (a b:Int) (xs:List α) (p:α) (ys:List α) (i j:Int):Prop where
 seg:Seg d n a b xs ys
 ai:a<i
 ij:i≤j+1
 jb:j<b
 at_:qn ys a d=p
 lo:∀k,a<k→k<i→le (qn ys k d) p
 hi:∀k,j<k→k<b→le p (qn ys k d)
def PPost (d:α) (n:Nat) (le:α→α→Prop) (a b:Int) (xs:List α) (r:Option ((Int×(Bool×Unit))×(List α×Unit))):Prop:=∃out mid fl,r=some ((mid,(fl,())),(out,()))∧Seg d n a b xs out∧a≤mid∧mid<b∧(∀k,a≤k→k<mid→le (qn out k d) (qn out mid d))∧∀k,mid<k→k<b→le (qn out mid d) (qn out k d)
theorem PInv.fin {a b:Int} {xs ys:List α} {p:α} {i j:Int} (h:PInv d n le a b xs p ys i j) (hc:Ck P n ys) (ha:0≤a) (hb:b≤(n:Int)) (hij:j<i) (fl:Bool):PPost d n le a b xs (some ((j,(fl,())),(swp d ys j a,()))):=by
 have h1:=h.ai; have h2:=h.ij; have h3:=h.jb
 have g:=qkR d hc.len (i:=j) (j:=a) (by omega) (by omega) (by omega) (by omega)
 have gj:qn (swp d ys j a) j d=p:=by
  rw [g j (by omega)]
  by_cases q:j=a
  ·rw [if_pos q,q]; exact h.at_
  ·rw [if_neg q,if_pos rfl]; exact h.at_
 refine ⟨_,j,fl,rfl,h.seg.trans d (qpf d hc.len ha hb (by omega) (by omega) (by omega) (by omega)),by omega,by omega,fun k k1 k2=> ?_,fun k k1 k2=> ?_⟩
 ·rw [gj,g k (by omega)]
  by_cases q:k=a
  ·rw [if_pos q]; exact h.lo j (by omega) (by omega)
  ·rw [if_neg q,if_neg (by omega)]; exact h.lo k (by omega) (by omega)
 ·rw [gj,g k (by omega),if_neg (by omega),if_neg (by omega)]; exact h.hi k k1 k2
theorem PInv.swap {a b:Int} {xs ys:List α} {p:α} {i j:Int} (h:PInv d n le a b xs p ys i j) (hc:Ck P n ys) (ha:0≤a) (hb:b≤(n:Int)) (hij:i<j) (hj:le (qn ys j d) p) (hi:le p (qn ys i d)):PInv d n le a b xs p (swp d ys i j) (i+1) (j - 1):=by
 have h1:=h.ai; have h2:=h.ij; have h3:=h.jb
 have g:=qkR d hc.len (i:=i) (j:=j) (by omega) (by omega) (by omega) (by omega)
 refine ⟨h.seg.trans d (qpf d hc.len ha hb (by omega) (by omega) (by omega) (by omega)),by omega,by omega,by omega,?_,fun k k1 k2=> ?_,fun k k1 k2=> ?_⟩
 ·rw [g a ha,if_neg (by omega),if_neg (by omega)]; exact h.at_
 ·rw [g k (by omega),if_neg (by omega)]
  by_cases q:k=i
  ·rw [if_pos q]; exact hj
  ·rw [if_neg q]; exact h.lo k k1 (by omega)
 ·rw [g k (by omega)]
  by_cases q:k=j
  ·rw [if_pos q]; exact hi
  ·rw [if_neg q,if_neg (by omega)]; exact h.hi k (by omega) k2
def Pre (d:α) (le:α→α→Prop) (a b:Int) (xs:List α):Prop:=0<a→∀k,a≤k→k<b→le (qn xs (a - 1) d) (qn xs k d)
theorem Seg.pre {a b:Int} {xs ys:List α} (h:Seg d n a b xs ys) (hb:b≤(n:Int)) (hp:Pre d le a b xs):Pre d le a b ys:=fun a0 k k1 k2=>by
 obtain ⟨m,m1,m2,m3⟩:=h.inn k k1 k2
 rw [h.out (a - 1) (by omega) (by omega) (by omega),m3]
 exact hp a0 m m1 m2
structure qqZ (d:α) (n:Nat) (le:α→α→Prop) (a0 b0:Int) (xs ys:List α) (a b:Int):Prop where
 seg:Seg d n a0 b0 xs ys
 la:a0≤a
 ab:a≤b
 rb:b≤b0
 pre:Pre d le a b ys
 lo:∀i j,a0≤i→i<a→i≤j→j<b0→le (qn ys i d) (qn ys j d)
 hi:∀i j,a0≤i→i≤j→b≤j→j<b0→le (qn ys i d) (qn ys j d)
theorem qqZ.move {a0 b0 a b:Int} {xs ys zs:List α} (h:qqZ d n le a0 b0 xs ys a b) (h0:0≤a0) (hn:b0≤(n:Int)) (hs:Seg d n a b ys zs):qqZ d n le a0 b0 xs zs a b:=by
 have h1:=h.la; have h2:=h.rb; have h3:=h.ab
 refine ⟨h.seg.trans d (hs.mono d h0 hn h1 h2),h1,h3,h2,hs.pre d (by omega) h.pre,fun i j q1 q2 q3 q4=> ?_,fun i j q1 q2 q3 q4=> ?_⟩
 ·rw [hs.out i (by omega) (by omega) (by omega)]
  by_cases w:a≤j∧j<b
  ·obtain ⟨m,m1,m2,m3⟩:=hs.inn j w.1 w.2
   rw [m3]; exact h.lo i m q1 q2 (by omega) (by omega)
  ·rw [hs.out j (by omega) (by omega) (by omega)]; exact h.lo i j q1 q2 q3 q4
 ·rw [hs.out j (by omega) (by omega) (by omega)]
  by_cases w:a≤i∧i<b
  ·obtain ⟨m,m1,m2,m3⟩:=hs.inn i w.1 w.2
   rw [m3]; exact h.hi m j (by omega) (by omega) q3 q4
  ·rw [hs.out i (by omega) (by omega) (by omega)]; exact h.hi i j q1 q2 q3 q4
theorem qqZ.fin {a0 b0 a b:Int} {xs ys:List α} (h:qqZ d n le a0 b0 xs ys a b) (hs:Srt d le a b ys):Srt d le a0 b0 ys:=fun i j q1 q2 q3=>by
 by_cases w1:i<a
 ·exact h.lo i j q1 w1 q2 q3
 ·by_cases w2:b≤j
  ·exact h.hi i j q1 q2 w2 q3
  ·exact hs i j (by omega) q2 (by omega)
theorem qqZ.ends {a0 b0 a b:Int} {xs ys zs:List α} (h:qqZ d n le a0 b0 xs ys a b) (h0:0≤a0) (hn:b0≤(n:Int)) (hs:Seg d n a b ys zs) (hz:Srt d le a b zs):SRes P d n le a0 b0 xs (some ((),(zs,()))):=
 ⟨zs,rfl,(h.move d h0 hn hs).seg,(h.move d h0 hn hs).fin d hz⟩
end
end
end Go.Vi
