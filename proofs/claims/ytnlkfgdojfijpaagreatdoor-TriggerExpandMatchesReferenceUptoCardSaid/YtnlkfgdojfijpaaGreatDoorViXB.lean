import Derived.Test.YtnlkfgdojfijpaaGreatDoorViXA
import Derived.Laws.Concat
import Derived.Laws.Small
import Derived.Laws.Unary
import Derived.Laws.Slices
import Derived.Laws.Strings2
import Derived.Laws.Strings3
import Derived.Laws.BytesArg
import Derived.Lib.ConvBytes
import Derived.Lib.AppendZeros
import Derived.Lib.AppendStr
import Derived.Laws.CopyRow
import Derived.Laws.BitsLemmas
import Derived.Great.FillDense
import Derived.Great.BuildSlice
set_option linter.unusedVariables false
set_option linter.unusedSimpArgs false
set_option linter.unnecessarySimpa false
set_option linter.unusedSectionVars false
namespace Go.Vi
open Go.RowKit
theorem BC.freeze_freeze:(c:BC)→c.freeze.freeze=c.freeze
 | .val _ _=>rfl
 | .own _ _ _=>rfl
 | .pair a b=>by simp [BC.freeze,BC.freeze_freeze a,BC.freeze_freeze b]
 | .hole _=>rfl
theorem qpu.freeze_freeze:(c:qpu)→c.freeze.freeze=c.freeze
 | .val _ _=>rfl
 | .own _ _ _=>rfl
 | .gone=>rfl
 | .nz _ _=>rfl
theorem AV.freeze_freeze (a:AV):a.freeze.freeze=a.freeze:=by
 cases a <;> simp [AV.freeze,BC.freeze_freeze,qpu.freeze_freeze]
section
variable {C:Ctx} {tm:Array Value} {w:World}
theorem qmx (σ:St) (s x:Nat):qA (qX σ ⟨s,false,(qA σ s).2.freeze⟩) x=if x=s then ((qA σ s).1,(qA σ s).2.freeze) else qA σ x:=by
 by_cases hx:x=s
 ·subst hx
  by_cases hs:x<σ.length
  ·rw [qT σ ⟨x,false,_⟩ hs]; simp
  ·have h1:qX σ ⟨x,false,(qA σ x).2.freeze⟩=σ:=by simp only [qX]; exact List.set_eq_of_length_le (by omega)
   have h2:qA σ x=(0,.undef):=by simp [qA,List.getD,List.getElem?_eq_none (show σ.length≤x by omega)]
   rw [h1,h2]; simp [AV.freeze]
 ·rw [qz _ _ hx]; simp [hx]
theorem qff (σ:St) (s:Nat):∀(ow:List Nat),(qcA ow).run (qA (qX σ ⟨s,false,(qA σ s).2.freeze⟩))=(qcA ow).run (qA σ)
 |[]=>rfl
 |x::r=>by
  simp only [qcA,Q.run_get,Q.run_bind,qff σ s r]
  have:(qA (qX σ ⟨s,false,(qA σ s).2.freeze⟩) x).2.freeze=(qA σ x).2.freeze:=by
   rw [qmx]
   split
   ·rename_i e; subst e; exact AV.freeze_freeze _
   ·rfl
  rw [this]
  rfl
theorem qdo:∀(ow:List Nat) {σ:St} {own:Nat→List Nat} {us:List U},qas C σ tm w own→(qcA ow).run (qA σ)=some us→
  ∃own',qas C (qv σ us) tm w own'∧(∀s,(qA (qv σ us) s).1=(qA σ s).1)∧(∀s,s∉ow→own' s=own s∧qA (qv σ us) s=qA σ s)∧(∀b,FW (sit C σ tm w own) ow b→C.free w own' b)
 |[],σ,own,us,h,he=>by
  have:=Q.ret_some he
  subst this
  exact ⟨own,h,fun _=>rfl,fun _ _=>⟨rfl,rfl⟩,fun b hb=>qnX hb⟩
 |s::r,σ,own,us,h,he=>by
  simp only [qcA,Q.run_get] at he
  obtain ⟨us',h1,h2⟩:=Q.bind_some he
  have:=Q.ret_some h2
  subst this
  obtain ⟨own1,g1,g2,g3,g4⟩:=h.freeze s
  obtain ⟨own',k1,k2,k3,k4⟩:=qdo r g1 (us:=us') (by rw [qff]; exact h1)
  refine ⟨own',k1,fun x=>(k2 x).trans ?_,fun x hx=> ?_,?_⟩
  ·rw [qmx]
   split
   ·rename_i e; rw [e]
   ·rfl
  ·have hxs:x≠s:=fun e=>hx (e ▸ List.mem_cons_self)
   obtain ⟨m1,m2⟩:=k3 x fun hm=>hx (List.mem_cons_of_mem _ hm)
   exact ⟨m1.trans (g2 x hxs),m2.trans (qz _ _ hxs)⟩
  ·rintro b (hb|⟨s',hs',hb,hp⟩)
   ·exact k4 b (.inl (g4 b (.inl hb)))
   ·rcases List.mem_cons.1 hs' with rfl|hs'
    ·exact k4 b (.inl (g4 b (.inr ⟨s',List.mem_singleton.2 rfl,hb,hp⟩)))
    ·by_cases he:s'=s
     ·subst he
      exact k4 b (.inl (g4 b (.inr ⟨s',List.mem_singleton.2 rfl,hb,hp⟩)))
     ·exact k4 b (.inr ⟨s',hs',by show b∈own1 s'; rw [g2 s' he]; exact hb,hp⟩)
end
section
variable {w:World} {F:Nat→Prop}
def qa0 (cs:List Value) (off:Nat) (ds:List Value):List Value:=cs.take off++ds++cs.drop (off+ds.length)
theorem qdT {cs ds:List Value} (h:cs.length=ds.length):qa0 cs 0 ds=ds:=by
 rw [qa0,List.take_zero,List.nil_append,List.drop_of_length_le (by omega),List.append_nil]
theorem qjR {c1 c2 ds:List Value} {off:Nat} (h:off+ds.length≤c1.length):qa0 (c1++c2) off ds=qa0 c1 off ds++c2:=qoT h rfl
theorem qie {c1 c2 ds:List Value} {off:Nat} (h:c1.length≤off):qa0 (c1++c2) off ds=c1++qa0 c2 (off - c1.length) ds:=qmH h
theorem qft {cs ds:List Value} {off:Nat} (h:off+ds.length≤cs.length):(qa0 cs off ds).length=cs.length:=by
 simp only [qa0,List.length_append,List.length_take,List.length_drop]
 omega
theorem qgD {cs ds:List Value} {off:Nat} (h:off+ds.length≤cs.length) (j:Nat):(qa0 cs off ds)[j]? =if j<off then cs[j]? else if j<off+ds.length then ds[j - off]? else cs[j]? :=by
 unfold qa0
 by_cases h1:j<off
 ·rw [if_pos h1,List.append_assoc,List.getElem?_append_left (by rw [List.length_take]; omega),List.getElem?_take,if_pos h1]
 ·rw [if_neg h1]
  by_cases h2:j<off+ds.length
  ·rw [if_pos h2,List.getElem?_append_left (by rw [List.length_append,List.length_take]; omega),List.getElem?_append_right (by rw [List.length_take]; omega),List.length_take]
   congr 1; omega
  ·rw [if_neg h2,List.getElem?_append_right (by rw [List.length_append,List.length_take]; omega),List.getElem?_drop,List.length_append,List.length_take]
   congr 1; omega
theorem qmD {cs ds:List Value} {p n q:Nat} (h1:p+n≤cs.length) (h2:q+ds.length≤n):qa0 cs p (qa0 ((cs.drop p).take n) q ds)=qa0 cs (p+q) ds:=by
 have hl:((cs.drop p).take n).length=n:=by rw [List.length_take,List.length_drop]; omega
 have hs:(qa0 ((cs.drop p).take n) q ds).length=n:=by rw [qft (by omega),hl]
 apply List.ext_getElem?
 intro j
 have e1:=qgD (cs:=cs) (ds:=qa0 ((cs.drop p).take n) q ds) (off:=p) (by omega) j
 have e2:=qgD (cs:=cs) (ds:=ds) (off:=p+q) (by omega) j
 have e3:=qgD (cs:=(cs.drop p).take n) (ds:=ds) (off:=q) (by omega) (j - p)
 have e4:((cs.drop p).take n)[j - p]? =if j - p<n then cs[p+(j - p)]? else none:=by
  rw [List.getElem?_take]
  split
  ·rw [List.getElem?_drop]
  ·rfl
 rw [e1,e2,hs,e3,e4]
 by_cases a1:j<p
 ·rw [if_pos a1,if_pos (by omega)]
 ·rw [if_neg a1]
  have ep:p+(j - p)=j:=by omega
  rw [ep]
  by_cases a2:j<p+n
  ·rw [if_pos a2,if_pos (show j - p<n by omega)]
   by_cases a3:j - p<q
   ·rw [if_pos a3,if_pos (by omega)]
   ·rw [if_neg a3,if_neg (show ¬j<p+q by omega)]
    by_cases a4:j - p<q+ds.length
    ·rw [if_pos a4,if_pos (by omega)]
     congr 1; omega
    ·rw [if_neg a4,if_neg (by omega)]
  ·rw [if_neg a2,if_neg (by omega),if_neg (by omega)]
theorem Rep.setElem {n:Nat} {e:Ty} {xs:List e.den} {cs ds:List Value} (h:Rep w F (.arr n e) xs cs) {i:Nat} (hi:i<n) {y:e.den} (hy:Rep w F e y ds):Rep w F (.arr n e) (qgW xs (i:Int) y) (qa0 cs (i * e.size) ds):=by
 obtain ⟨hl,css,hcl,rfl,hx⟩:=h
 have hall:=qlR (by omega) hx
 have hdl:=hy.length
 have hc:css[i]? =some (css[i]'(by omega)):=List.getElem?_eq_getElem (by omega)
 obtain ⟨k1,k2⟩:=qb5 hall hc
 refine ⟨by simp [qbm,hl],css.set i ds,by simp [hcl],?_,?_⟩
 ·rw [qmb hall (by omega),qa0,hdl]
 ·intro j x' c' hj hc'
  simp only [qbm,Int.toNat_natCast] at hj
  by_cases he:i=j
  ·subst he
   rw [List.getElem?_set_self (by omega)] at hj hc'
   injection hj with hj; injection hc' with hc'
   subst hj; subst hc'
   exact hy
  ·rw [List.getElem?_set_ne he] at hj hc'
   exact hx j x' c' hj hc'
theorem qa5.ofVal {t:Ty} {x:t.den} {cs:List Value} (h:Rep w F t x cs):qa5 w F (.val t x) cs []:=⟨rfl,h⟩
theorem qa5.putVal {new:BC} {ds:List Value} {b2:List Nat} (hn:qa5 w F new ds b2): {t:Ty} → {x:t.den} → {cs:List Value} → {off:Nat} → {c':BC} →Rep w F t x cs→BC.putVal t x off new=some c'→
  off+ds.length≤cs.length∧qa5 w F c' (qa0 cs off ds) b2
 | .pair a b,x,cs,off,c',⟨c1,c2,hc,h1,h2⟩,he=>by
  subst hc
  have l1:=h1.length
  have l2:=h2.length
  have ln:=hn.length
  simp only [BC.putVal] at he
  split at he
  ·split at he
   ·rename_i hlt hz
    injection he with he; subst he
    obtain ⟨rfl,hs⟩:=hz
    refine ⟨by rw [List.length_append]; omega,?_⟩
    rw [qjR (by omega),qdT (by omega)]
    exact ⟨ds,c2,b2,[],rfl,by simp,hn,.ofVal h2⟩
   ·simp only [Option.map_eq_some_iff] at he
    obtain ⟨z,hz,rfl⟩:=he
    obtain ⟨g1,g2⟩:=qa5.putVal hn h1 hz
    refine ⟨by rw [List.length_append]; omega,?_⟩
    rw [qjR g1]
    exact ⟨_,c2,b2,[],rfl,by simp,g2,.ofVal h2⟩
  ·split at he
   ·rename_i hge hz
    injection he with he; subst he
    obtain ⟨rfl,hs⟩:=hz
    refine ⟨by rw [List.length_append]; omega,?_⟩
    rw [qie (by omega),show a.size - c1.length=0 by omega,qdT (by omega)]
    exact ⟨c1,ds,[],b2,rfl,by simp,.ofVal h1,hn⟩
   ·simp only [Option.map_eq_some_iff] at he
    obtain ⟨z,hz,rfl⟩:=he
    obtain ⟨g1,g2⟩:=qa5.putVal hn h2 hz
    refine ⟨by rw [List.length_append]; omega,?_⟩
    rw [qie (by omega),l1]
    exact ⟨c1,_,[],b2,rfl,by simp,.ofVal h1,g2⟩
 | .int _,_,_,_,_,_,he=>by simp [BC.putVal] at he
 | .bool,_,_,_,_,_,he=>by simp [BC.putVal] at he
 | .str,_,_,_,_,_,he=>by simp [BC.putVal] at he
 | .err,_,_,_,_,_,he=>by simp [BC.putVal] at he
 | .opt _,_,_,_,_,_,he=>by simp [BC.putVal] at he
 | .map _ _,_,_,_,_,_,he=>by simp [BC.putVal] at he
 | .unit,_,_,_,_,_,he=>by simp [BC.putVal] at he
 | .slice _,_,_,_,_,_,he=>by simp [BC.putVal] at he
 | .arr _ _,_,_,_,_,_,he=>by simp [BC.putVal] at he
theorem qa5.put {new:BC} {ds:List Value} {b2:List Nat} (hn:qa5 w F new ds b2): {c:BC} → {cs:List Value} → {bs:List Nat} → {off:Nat} → {c':BC} →qa5 w F c cs bs→c.put off new=some c'→
  off+ds.length≤cs.length∧∃bs',qa5 w F c' (qa0 cs off ds) bs'∧(∀b∈bs',b∈bs∨b∈b2)∧((bs++b2).Nodup→bs'.Nodup)
 | .val t x,cs,bs,off,c',h,he=>by
  have ln:=hn.length
  have lc:=h.2.length
  simp only [BC.put] at he
  split at he
  ·rename_i u y
   simp only [Option.map_eq_some_iff] at he
   obtain ⟨z,hz,rfl⟩:=he
   obtain ⟨hb2,hy⟩:=hn
   subst hb2
   obtain ⟨g1,g2⟩:=h.2.upd hy hz
   have ly:=hy.length
   rw [←ly] at g1 g2
   exact ⟨g1,[],⟨rfl,g2⟩,(fun b hb=>by cases hb),fun _=>List.nodup_nil⟩
  ·split at he
   ·rename_i hz
    injection he with he; subst he
    obtain ⟨rfl,hs⟩:=hz
    rw [qdT (by omega)]
    exact ⟨by omega,b2,hn,fun b hb=> .inr hb,fun hnd=>(List.nodup_append.1 hnd).2.1⟩
   ·obtain ⟨g1,g2⟩:=qa5.putVal hn h.2 he
    exact ⟨g1,b2,g2,fun b hb=> .inr hb,fun hnd=>(List.nodup_append.1 hnd).2.1⟩
 | .own et e xs,cs,bs,off,c',h,he=>by
  have ln:=hn.length
  obtain ⟨v,rfl,h⟩:=h
  simp only [BC.put] at he
  split at he
  ·rename_i hz
   injection he with he; subst he
   obtain ⟨rfl,hs⟩:=hz
   rw [qdT (by simp; omega)]
   exact ⟨by simp; omega,b2,hn,fun b hb=> .inr hb,fun hnd=>(List.nodup_append.1 hnd).2.1⟩
  ·cases he
 | .pair a b,cs,bs,off,c',h,he=>by
  have ln:=hn.length
  have lc:=h.length
  obtain ⟨c1,c2,b1,b1',rfl,rfl,h1,h2⟩:=h
  have l1:=h1.length
  have l2:=h2.length
  simp only [BC.put] at he
  split at he
  ·rename_i hz
   injection he with he; subst he
   obtain ⟨rfl,hs⟩:=hz
   have lc:(c1++c2).length=ds.length:=by rw [List.length_append]; omega
   rw [qdT lc]
   exact ⟨by omega,b2,hn,fun b hb=> .inr hb,fun hnd=>(List.nodup_append.1 hnd).2.1⟩
  ·split at he
   ·simp only [Option.map_eq_some_iff] at he
    obtain ⟨z,hz,rfl⟩:=he
    obtain ⟨g1,bs',g2,g3,g4⟩:=qa5.put hn h1 hz
    refine ⟨by rw [List.length_append]; omega,bs'++b1',?_,?_,?_⟩
    ·rw [qjR g1]
     exact ⟨_,c2,bs',b1',rfl,rfl,g2,h2⟩
    ·intro x hx
     rcases List.mem_append.1 hx with hx|hx
     ·exact (g3 x hx).imp (List.mem_append_left _) id
     ·exact .inl (List.mem_append_right _ hx)
    ·intro hnd
     obtain ⟨n1,n2,n3⟩:=List.nodup_append.1 hnd
     obtain ⟨n4,n5,n6⟩:=List.nodup_append.1 n1
     refine List.nodup_append.2 ⟨g4 (List.nodup_append.2 ⟨n4,n2,fun x hx y hy=>n3 x (List.mem_append_left _ hx) y hy⟩),n5,fun x hx y hy=> ?_⟩
     rcases g3 x hx with hx|hx
     ·exact n6 x hx y hy
     ·exact fun e=>n3 y (List.mem_append_right _ hy) x hx e.symm
   ·simp only [Option.map_eq_some_iff] at he
    obtain ⟨z,hz,rfl⟩:=he
    obtain ⟨g1,bs',g2,g3,g4⟩:=qa5.put hn h2 hz
    refine ⟨by rw [List.length_append]; omega,b1++bs',?_,?_,?_⟩
    ·rw [qie (by omega),l1]
     exact ⟨c1,_,b1,bs',rfl,rfl,h1,g2⟩
    ·intro x hx
     rcases List.mem_append.1 hx with hx|hx
     ·exact .inl (List.mem_append_left _ hx)
     ·exact (g3 x hx).imp (List.mem_append_right _) id
    ·intro hnd
     obtain ⟨n1,n2,n3⟩:=List.nodup_append.1 hnd
     obtain ⟨n4,n5,n6⟩:=List.nodup_append.1 n1
     refine List.nodup_append.2 ⟨n4,g4 (List.nodup_append.2 ⟨n5,n2,fun x hx y hy=>n3 x (List.mem_append_right _ hx) y hy⟩),fun x hx y hy=> ?_⟩
     rcases g3 y hy with hy|hy
     ·exact n6 x hx y hy
     ·exact n3 x (List.mem_append_left _ hx) y hy
 | .hole n,cs,bs,off,c',h,he=>by
  have ln:=hn.length
  have hl:cs.length=n:=h.2
  simp only [BC.put] at he
  split at he
  ·rename_i hz
   injection he with he; subst he
   obtain ⟨rfl,hs⟩:=hz
   rw [qdT (by omega)]
   exact ⟨by omega,b2,hn,fun b hb=> .inr hb,fun hnd=>(List.nodup_append.1 hnd).2.1⟩
  ·cases he
theorem qa5.oneCell_own {et:Nat} {e:Ty} {xs:List e.den} {cs:List Value} {bs:List Nat} (h:qa5 w F (.own et e xs) cs bs):∀v∈cs,v.oneCell'=true:=by
 obtain ⟨v,rfl,h⟩:=h
 intro u hu
 simp at hu
 subst hu
 exact h.oneCell
theorem qa5.oneCell: {c:BC} → {cs:List Value} → {bs:List Nat} →c.sound=true→qa5 w F c cs bs→∀v∈cs,v.oneCell'=true
 | .val _ _,_,_,_,h=>h.2.oneCell
 | .own _ _ _,_,_,_,h=>h.oneCell_own
 | .pair _ _,_,_,hs,⟨c1,c2,_,_,rfl,_,h1,h2⟩=>fun v hv=>by
  simp only [BC.sound,Bool.and_eq_true] at hs
  rcases List.mem_append.1 hv with hv|hv
  ·exact h1.oneCell hs.1 v hv
  ·exact h2.oneCell hs.2 v hv
 | .hole _,_,_,hs,_=>by simp [BC.sound] at hs
theorem qhc {b:Nat} {cur:Array Value} (new:Array Value) {te:Nat} (h:w.heap[b]? =some (.cells cur te (0,0))):qcQ (fun k=>k=b) w (w.setRow b new):=
 ⟨rfl,rfl,rfl,by simp,fun k _ hk=>setRow_other w b k new hk⟩
end
section
variable {C:Ctx} {E:Env} {σ:St} {a:Act} {w w':World} {own:Nat→List Nat} {o:Oper} [Tabbed E C]
theorem qit (h:qas C σ a.tmps w own) {t:Ty} {x1:Op1} {v:Value} (ho:qcD (sit C σ a.tmps w own) x1 v) {n:BC×List Nat×List U} (he:(qiz t x1).run (qA σ)=some n) (h0:n.2.1=[]):
  ∃bs,qa5 w (C.free w own) n.1 v.cells.toList bs∧v.cells.toList.length=t.size∧(∀u∈v.cells.toList,u.oneCell'=true)∧
   ((n.2.2=[]∧bs=[])∨∃s,n.2.2=[⟨s,true,.undef⟩]∧bs=own s):=by
 obtain ⟨os,ov,oa⟩:=x1
 unfold qiz at he
 split at he
 ·rename_i s et e xs h1 h2
  simp only at h1 h2
  subst h1; subst h2
  split at he
  ·rename_i ht
   subst ht
   have:=Q.ret_some he
   subst this
   obtain ⟨e1,e2,e3⟩:=ho
   have e3:qak w (C.free w own) et e xs v (own s):=e3
   have hc:v.cells= #[v]:=by
    obtain ⟨cells,ho,_⟩:=e3
    rcases ho.2 with ⟨rfl,_⟩|⟨g,cap,cur,rfl,_⟩ <;> rfl
   rw [hc]
   exact ⟨own s,⟨v,rfl,e3⟩,rfl,fun u hu=>by simp at hu; subst hu; exact e3.oneCell,.inr ⟨s,rfl,rfl⟩⟩
  ·cases he
 ·rename_i et e xs h1 h2
  simp only at h1 h2
  subst h1; subst h2
  split at he
  ·rename_i ht
   subst ht
   have:=Q.ret_some he
   subst this
   have e3:qak w (C.free w own) et e xs v []:=ho
   have hc:v.cells= #[v]:=by
    obtain ⟨cells,ho,_⟩:=e3
    rcases ho.2 with ⟨rfl,_⟩|⟨g,cap,cur,rfl,_⟩ <;> rfl
   rw [hc]
   exact ⟨[],⟨v,rfl,e3⟩,rfl,fun u hu=>by simp at hu; subst hu; exact e3.oneCell,.inl ⟨rfl,rfl⟩⟩
  ·cases he
 ·rename_i s c h1 h2
  simp only at h1 h2
  subst h1; subst h2
  split at he
  ·rename_i ht
   have:=Q.ret_some he
   subst this
   obtain ⟨e1,e2,cs,e4,e3⟩:=ho
   have hc:v.cells.toList=cs:=by rw [e4]; simp [Value.cells]
   rw [hc]
   exact ⟨own s,e3,e3.length.trans ht.1,e3.oneCell ht.2,.inr ⟨s,rfl,rfl⟩⟩
  ·cases he
 ·obtain ⟨r,h1,h2⟩:=Q.bind_some he
  have hv:=qdx h ho h1
  have:=Q.ret_some h2
  subst this
  simp only at h0
  rw [h0] at hv
  have hr:=hv.1
  exact ⟨[],⟨rfl,hr.keep fun b hb hs=>⟨qnX hb,hs,rfl⟩⟩,hr.length,hr.oneCell,.inl ⟨rfl,rfl⟩⟩
theorem qid {τ:St} (hr:(execOp a.eval o).run C.P w= .ok .skip w') (h:∃own',qas C τ (a.put o.dst undef).tmps w' own'):qes C o a w τ:=by
 intro K Q hK
 obtain ⟨own',h⟩:=h
 unfold Oper.wp
 rw [hr]
 exact hK _ _ own' (qiy o a _) h
theorem qkc (cons:List Nat):∀(σ:St),(∀s∈cons,s<σ.length)→
  (∀s,s∉cons→qA (qv σ (cons.map fun s=>⟨s,true,.undef⟩)) s=qA σ s)∧(∀s∈cons,(qA σ s).1<(qA (qv σ (cons.map fun s=>⟨s,true,.undef⟩)) s).1∧(qA (qv σ (cons.map fun s=>⟨s,true,.undef⟩)) s).2= .undef):=by
 induction cons with
 |nil=>intro σ _; exact ⟨fun _ _=>rfl,fun s hs=>by cases hs⟩
 |cons c r ih=>
  intro σ hl
  have hc:c<σ.length:=hl c List.mem_cons_self
  obtain ⟨h1,h2⟩:=ih (qX σ ⟨c,true,.undef⟩) (fun s hs=>by rw [qao]; exact hl s (List.mem_cons_of_mem _ hs))
  have e:qv σ ((c::r).map fun s=>⟨s,true,.undef⟩)=qv (qX σ ⟨c,true,.undef⟩) (r.map fun s=>⟨s,true,.undef⟩):=rfl
  rw [e]
  have eC:qA (qX σ ⟨c,true,.undef⟩) c=((qA σ c).1+1,.undef):=qT σ ⟨c,true,.undef⟩ hc
  refine ⟨fun s hs=> ?_,fun s hs=> ?_⟩
  ·rw [h1 s (fun hm=>hs (List.mem_cons_of_mem _ hm)),qz _ _ (fun e=>hs (by rw [e]; exact List.mem_cons_self))]
  ·by_cases hr:s∈r
   ·obtain ⟨h3,h4⟩:=h2 s hr
    refine ⟨Nat.lt_of_le_of_lt ?_ h3,h4⟩
    by_cases hsc:s=c
    ·subst hsc; rw [eC]; exact Nat.le_succ _
    ·rw [qz _ _ hsc]; exact Nat.le_refl _
   ·have hsc:s=c:=(List.mem_cons.1 hs).resolve_right hr
    subst hsc
    rw [h1 s hr,eC]
    exact ⟨Nat.lt_succ_self _,rfl⟩
theorem qas.mut {tm:Array Value} (h:qas C σ tm w own) {d:Nat} (hd:d<σ.length) (cons:List Nat) (hcons:∀s∈cons,s<σ.length∧s≠d) (hk:qcQ (fun k=>k∈own d∨∃s∈cons,k∈own s) w w') {av:AV} {v:Value} {bs:List Nat}
  (hb:∀b∈bs,(w.heap.size≤b∧b<w'.heap.size)∨b∈own d∨∃s∈cons,b∈own s) (hnd:bs.Nodup) (hrep:qaO { sit C σ tm w own with w:=w' } av v bs) (hm:av.mentions=[]):
  ∃own',qas C (qv σ (cons.map (fun s=>⟨s,true,.undef⟩)++[⟨d,true,av⟩])) (tm.setIfInBounds d v) w' own':=by
 obtain ⟨c1,c2⟩:=qkc cons σ (fun s hs=>(hcons s hs).1)
 have hdc:d∉cons:=fun hm=>(hcons d hm).2 rfl
 rw [qb7]
 generalize hτ:qv σ (cons.map fun s=>⟨s,true,.undef⟩)=τ at c1 c2
 have hlen:τ.length=σ.length:=by rw [←hτ,qS]
 have eD:qA (qv τ [⟨d,true,av⟩]) d=((qA σ d).1+1,av):=by
  show qA (qX τ ⟨d,true,av⟩) d=_
  rw [qT τ ⟨d,true,av⟩ (by rw [hlen]; exact hd),c1 d hdc]
  rfl
 have eN:∀s,s≠d→qA (qv τ [⟨d,true,av⟩]) s=qA τ s:=fun s hs=>qz τ ⟨d,true,av⟩ hs
 let own':Nat→List Nat:=fun x=>if x=d then bs else if x∈cons then [] else own x
 have oD:own' d=bs:=by simp [own']
 have oC:∀s∈cons,own' s=[]:=fun s hs=>by simp [own',hs,(hcons s hs).2]
 refine ⟨own',h.update (fun x=>x=d∨x∈cons) (by rw [qS,hlen]) (by simp) ?_ ?_ (hk.mono ?_) ?_ ?_ ?_ ?_ ?_⟩
 ·intro x hx
  have h1:x≠d:=fun e=>hx (.inl e)
  have h2:x∉cons:=fun e=>hx (.inr e)
  exact ⟨by rw [eN x h1,c1 x h2],qcz tm _ h1,by simp [own',h1,h2]⟩
 ·rintro x (rfl|hx)
  ·rw [eD]; exact .inl (Nat.lt_succ_self _)
  ·rw [eN x (hcons x hx).2]; exact .inl (c2 x hx).1
 ·rintro k (hk|⟨s,hs,hk⟩)
  ·exact ⟨d,.inl rfl,hk⟩
  ·exact ⟨s,.inr hs,hk⟩
 ·rintro x (rfl|hx)
  ·exact hd
  ·exact (hcons x hx).1
 ·rintro x (rfl|hx)
  ·rw [oD]
   refine ⟨fun b hbm=> ?_,hnd⟩
   rcases hb b hbm with h1|h1|⟨s,hs,h1⟩
   ·exact .inl h1
   ·exact .inr ⟨x,.inl rfl,h1⟩
   ·exact .inr ⟨s,.inr hs,h1⟩
  ·rw [oC x hx]; exact ⟨(fun b hb=>by cases hb),List.nodup_nil⟩
 ·rintro x y b (rfl|hx) (rfl|hy) hb1 hb2
  ·rfl
  ·rw [oC y hy] at hb2; cases hb2
  ·rw [oC x hx] at hb1; cases hb1
  ·rw [oC x hx] at hb1; cases hb1
 ·rintro x (rfl|hx)
  ·rw [eD,oD,qev tm v (by rw [h.size]; exact hd)]
   refine qaO.keep (X:= { sit C σ tm w own with w:=w' }) (X':=sit C _ _ w' own') ⟨rfl,rfl⟩ (fun x hx hlt=> ?_) (fun _ _ _=>rfl) (fun m hmm=>by rw [hm] at hmm; cases hmm) hrep
   have hx':C.free w own x:=hx
   refine ⟨⟨hx'.1,Nat.lt_of_lt_of_le hx'.2.1 hk.size,fun s hs=> ?_⟩,hlt,rfl⟩
   have hs:x∈own' s:=hs
   simp only [own'] at hs
   split at hs
   ·rcases hb x hs with h1|h1|⟨s0,_,h1⟩
    ·have:=hx'.2.1; omega
    ·exact hx'.2.2 _ h1
    ·exact hx'.2.2 _ h1
   ·split at hs
    ·cases hs
    ·exact hx'.2.2 _ hs
  ·rw [eN x (hcons x hx).2,(c2 x hx).2]; trivial
 ·rintro x (rfl|hx) m hmm
  ·rw [eD,hm] at hmm; cases hmm
  ·rw [eN x (hcons x hx).2,(c2 x hx).2] at hmm; cases hmm
theorem qrF (tm:Array Value) {d:Nat} (h:d<tm.size):tm.setIfInBounds d (tm.getD d undef)=tm:=by
 apply Array.ext
 ·simp
 ·intro i h1 h2
  by_cases hi:d=i
  ·subst hi
   simp [Array.getD,h]
  ·rw [Array.getElem_setIfInBounds_ne (h:=hi)]
theorem qak.store {P:Program} {w:World} {F:Nat→Prop} {t:Nat} {u:Ty} {et:Nat} {e:Ty} {xs:List e.den} {g n cap:Nat} {bs:List Nat} {i:Int} {off:Nat} {v:Value} {y0:u.den} {y:e.den} (hT:TyB P t u) (hrow:qak w F et e xs (.slice (some ⟨g,0,none⟩) n cap) bs)
  (hF0:∀x,F x→x≠g) (k2:0≤i) (k3:i<n) (hy:e.upd (qk xs i e.dflt) off u y0=some y) (hrc:Rep w F u y0 v.cells.toList):
  ∃W,(Instr.storeAt t (ptr g (i.toNat * e.size+off)) v).run P w= .ok () W∧qcQ (fun k=>k=g) w W∧bs=[g]∧qak W F et e (qgW xs i y) (.slice (some ⟨g,0,none⟩) n cap) bs:=by
 obtain ⟨cells,r1,r2,r3⟩:=hrow
 have hbs:bs=[g]:=r2
 obtain ⟨r4,r5⟩:=r1
 rcases r5 with ⟨r6,_⟩|⟨g',cap',cur,r6,_,r7,r8,r9,r10,r11⟩
 ·cases r6
 injection r6 with r6 r6n r6c
 injection r6 with r6
 injection r6 with r6
 subst r6; subst r6n; subst r6c
 have hi:i.toNat<xs.length:=by omega
 rw [show qk xs i e.dflt=xs[i.toNat] from qhn (List.getElem?_eq_getElem hi)] at hy
 have hrl:=hrc.length
 have hvs:v.cells.size=u.size:=by rw [←Array.length_toList]; exact hrl
 have hcz:cur.toList.length=cur.size:=Array.length_toList
 obtain ⟨u1,u2⟩:=(r3 i.toNat xs[i.toNat] (List.getElem?_eq_getElem hi)).upd hrc hy
 have hcl:cells.length=xs.length * e.size:=r4
 have hin:i.toNat * e.size+e.size≤xs.length * e.size:=by
  rw [←Nat.succ_mul]; exact Nat.mul_le_mul_right _ hi
 have hel:((cells.drop (i.toNat * e.size)).take e.size).length=e.size:=by rw [List.length_take,List.length_drop]; omega
 rw [hel] at u1
 have hcur:xs.length * e.size≤cur.size:=by rw [r10]; exact Nat.mul_le_mul_right _ r8
 have hrun:=qjK (w:=w) hT (v:=v) (off:=i.toNat * e.size+off) r7 hrl (by omega) hrc.oneCell
 refine ⟨_,hrun,?_⟩
 rw [←hrl]
 have hsp:(cur.toList.take (i.toNat * e.size+off)++v.cells.toList++cur.toList.drop (i.toNat * e.size+off+v.cells.toList.length)).toArray=(qa0 cur.toList (i.toNat * e.size+off) v.cells.toList).toArray:=rfl
 rw [hsp]
 generalize hW:w.setRow g (qa0 cur.toList (i.toNat * e.size+off) v.cells.toList).toArray=W
 have hkept:qcQ (fun k=>k=g) w W:=by rw [←hW]; exact qhc _ r7
 have hheap:W.heap[g]? =some (.cells (qa0 cur.toList (i.toNat * e.size+off) v.cells.toList).toArray et (0,0)):=by rw [←hW]; exact setRow_heap w g _ _ et _ r7
 have hF:∀x,F x→x<w.heap.size→F x∧x<W.heap.size∧W.heap[x]? =w.heap[x]? :=fun x hx hlt=>⟨hx,Nat.lt_of_lt_of_le hlt hkept.size,hkept.block x hlt fun e=>hF0 x hx e⟩
 refine ⟨hkept,hbs,?_⟩
 have hlx:(qgW xs i y).length=xs.length:=by simp [qbm]
 have hcut:cells=cur.toList.take (xs.length * e.size):=r11.symm
 refine ⟨(qa0 cur.toList (i.toNat * e.size+off) v.cells.toList).take (xs.length * e.size),⟨?_,.inr ⟨g,cap,_,by rw [hlx],Nat.zero_le _,hheap,by rw [hlx]; exact r8,r9,?_,by rw [hlx]⟩⟩,hbs,?_⟩
 ·rw [List.length_take,qft (by rw [hrl,hcz]; omega),hlx,hcz]; omega
 ·rw [List.size_toArray,qft (by rw [hrl,hcz]; omega)]; simpa using r10
 ·intro j x hj
  have hjl:j<xs.length:=by
   have:=(List.getElem?_eq_some_iff.1 hj).1
   rw [hlx] at this; exact this
  have hjn:j * e.size+e.size≤xs.length * e.size:=by rw [←Nat.succ_mul]; exact Nat.mul_le_mul_right _ hjl
  have e0:(((qa0 cur.toList (i.toNat * e.size+off) v.cells.toList).take (xs.length * e.size)).drop (j * e.size)).take e.size=((qa0 cur.toList (i.toNat * e.size+off) v.cells.toList).drop (j * e.size)).take e.size:=by
   rw [List.drop_take,List.take_take,Nat.min_eq_left (by omega)]
  rw [e0]
  have e1:∀k,k * e.size+e.size≤xs.length * e.size→(cells.drop (k * e.size)).take e.size=(cur.toList.drop (k * e.size)).take e.size:=fun k hk=>by
   rw [hcut,List.drop_take,List.take_take,Nat.min_eq_left (by omega)]
  by_cases hji:i.toNat=j
  ·subst hji
   simp only [qbm] at hj
   rw [List.getElem?_set_self hi] at hj
   injection hj with hj
   subst hj
   rw [e1 _ hjn] at u2
   refine Rep.keep hF ?_
   have:((qa0 cur.toList (i.toNat * e.size+off) v.cells.toList).drop (i.toNat * e.size)).take e.size=qa0 ((cur.toList.drop (i.toNat * e.size)).take e.size) off v.cells.toList:=by
    have hs:= @qpM cur.toList v.cells.toList (i.toNat * e.size) off v.cells.toList.length e.size (by simp; omega) (by omega) rfl
    rw [qa0,hs,qa0]
    rw [List.append_assoc,List.drop_append,List.drop_of_length_le (by rw [List.length_take]; omega),List.nil_append,show i.toNat * e.size - (cur.toList.take (i.toNat * e.size)).length=0 by rw [List.length_take]; simp; omega,List.drop_zero]
    rw [List.take_append_of_le_length]
    ·rw [List.take_of_length_le]
     simp only [List.length_append,List.length_take,List.length_drop]; omega
    ·simp only [List.length_append,List.length_take,List.length_drop,Array.length_toList]; omega
   rw [this]
   rw [←hrl] at u2
   exact u2
  ·simp only [qbm] at hj
   rw [List.getElem?_set_ne hji] at hj
   have hx0:=r3 j x hj
   rw [e1 _ hjn] at hx0
   refine Rep.keep hF ?_
   have:((qa0 cur.toList (i.toNat * e.size+off) v.cells.toList).drop (j * e.size)).take e.size=(cur.toList.drop (j * e.size)).take e.size:=by
    apply List.ext_getElem?
    intro k
    rw [List.getElem?_take,List.getElem?_take]
    split
    ·rename_i hk
     rw [List.getElem?_drop,List.getElem?_drop]
     have hne:j * e.size+k<i.toNat * e.size+off∨i.toNat * e.size+off+v.cells.toList.length≤j * e.size+k:=by
      rcases Nat.lt_or_gt_of_ne hji with hlt|hgt
      ·right
       have:i.toNat * e.size+e.size≤j * e.size:=by rw [←Nat.succ_mul]; exact Nat.mul_le_mul_right _ hlt
       omega
      ·left
       have:j * e.size+e.size≤i.toNat * e.size:=by rw [←Nat.succ_mul]; exact Nat.mul_le_mul_right _ hgt
       omega
     rcases hne with hne|hne
     ·rw [qa0,List.append_assoc,List.getElem?_append_left (by rw [List.length_take]; simp; omega),List.getElem?_take,if_pos hne]
     ·rw [qa0,List.getElem?_append_right (by simp only [List.length_append,List.length_take,Array.length_toList]; omega),List.getElem?_drop]
      congr 1
      simp only [List.length_append,List.length_take,Array.length_toList]
      omega
    ·rfl
   rw [this]
   exact hx0
theorem qas.mut2 {tm:Array Value} (h:qas C σ tm w own) {d s0:Nat} (hd:d<σ.length) (hs0:s0<σ.length) (hne:s0≠d) {b1 b2 b3:List Nat} (ho:own s0=b1++(b2++b3)) (hk:qcQ (fun k=>k∈own d∨k∈b2) w w') {av av0:AV} {v:Value} {bs:List Nat}
  (hb:∀b∈bs,(w.heap.size≤b∧b<w'.heap.size)∨b∈own d∨b∈b2) (hnd:bs.Nodup) (hrep:qaO { sit C σ tm w own with w:=w' } av v bs) (hm:av.mentions=[]) (hrep0:qaO { sit C σ tm w own with w:=w' } av0 (tm.getD s0 undef) (b1++b3)) (hm0:av0.mentions=[]):
  ∃own',qas C (qv σ [⟨s0,true,av0⟩,⟨d,true,av⟩]) (tm.setIfInBounds d v) w' own':=by
 have eD:qA (qv σ [⟨s0,true,av0⟩,⟨d,true,av⟩]) d=((qA σ d).1+1,av):=by
  show qA (qX (qX σ ⟨s0,true,av0⟩) ⟨d,true,av⟩) d=_
  rw [qT _ ⟨d,true,av⟩ (by rw [qao]; exact hd),qz _ _ (show d≠s0 from fun e=>hne e.symm)]
  rfl
 have eS:qA (qv σ [⟨s0,true,av0⟩,⟨d,true,av⟩]) s0=((qA σ s0).1+1,av0):=by
  show qA (qX (qX σ ⟨s0,true,av0⟩) ⟨d,true,av⟩) s0=_
  rw [qz _ _ hne,qT σ ⟨s0,true,av0⟩ hs0]
  rfl
 have eO:∀x,x≠s0→x≠d→qA (qv σ [⟨s0,true,av0⟩,⟨d,true,av⟩]) x=qA σ x:=fun x h1 h2=>by
  show qA (qX (qX σ ⟨s0,true,av0⟩) ⟨d,true,av⟩) x=_
  rw [qz _ _ h2,qz _ _ h1]
 let own':Nat→List Nat:=fun x=>if x=d then bs else if x=s0 then b1++b3 else own x
 have oD:own' d=bs:=by simp [own']
 have oS:own' s0=b1++b3:=by simp [own',hne]
 have hns:=h.nodup s0
 rw [ho] at hns
 have n1:=List.nodup_append.1 hns
 have n2:=List.nodup_append.1 n1.2.1
 have sub0:∀b,b∈b1++b3→b∈own s0:=fun b hb=>by
  rw [ho]
  rcases List.mem_append.1 hb with hb|hb
  ·exact List.mem_append_left _ hb
  ·exact List.mem_append_right _ (List.mem_append_right _ hb)
 have not2:∀b,b∈b1++b3→b∉b2:=fun b hb hb2=>by
  rcases List.mem_append.1 hb with hb|hb
  ·exact n1.2.2 b hb b (List.mem_append_left _ hb2) rfl
  ·exact n2.2.2 b hb2 b hb rfl
 have dis:∀b,b∈bs→b∈b1++b3→False:=fun b h1 h2=>by
  rcases hb b h1 with h3|h3|h3
  ·have:=(h.mine s0 b (sub0 b h2)).2; omega
  ·exact hne (h.apart s0 d b (sub0 b h2) h3)
  ·exact not2 b h2 h3
 have keep:∀ {av1:AV} {v1:Value} {bs1:List Nat},av1.mentions=[]→qaO { sit C σ tm w own with w:=w' } av1 v1 bs1→qaO (sit C (qv σ [⟨s0,true,av0⟩,⟨d,true,av⟩]) (tm.setIfInBounds d v) w' own') av1 v1 bs1:=by
  intro av1 v1 bs1 hm1 hr1
  refine qaO.keep (X:= { sit C σ tm w own with w:=w' }) (X':=sit C _ _ w' own') ⟨rfl,rfl⟩ (fun x hx hlt=> ?_) (fun _ _ _=>rfl) (fun m hmm=>by rw [hm1] at hmm; cases hmm) hr1
  have hx':C.free w own x:=hx
  refine ⟨⟨hx'.1,Nat.lt_of_lt_of_le hx'.2.1 hk.size,fun s hs=> ?_⟩,hlt,rfl⟩
  have hs:x∈own' s:=hs
  simp only [own'] at hs
  split at hs
  ·rcases hb x hs with h1|h1|h1
   ·have:=hx'.2.1; omega
   ·exact hx'.2.2 _ h1
   ·exact hx'.2.2 s0 (by rw [ho]; exact List.mem_append_right _ (List.mem_append_left _ h1))
  ·split at hs
   ·exact hx'.2.2 s0 (sub0 x hs)
   ·exact hx'.2.2 _ hs
 refine ⟨own',h.update (fun x=>x=s0∨x=d) (qS _ _) (by simp) ?_ ?_ (hk.mono ?_) ?_ ?_ ?_ ?_ ?_⟩
 ·intro x hx
  have h1:x≠s0:=fun e=>hx (.inl e)
  have h2:x≠d:=fun e=>hx (.inr e)
  exact ⟨eO x h1 h2,qcz tm _ h2,by simp [own',h1,h2]⟩
 ·rintro x (rfl|rfl)
  ·rw [eS]; exact .inl (Nat.lt_succ_self _)
  ·rw [eD]; exact .inl (Nat.lt_succ_self _)
 ·rintro k (hk|hk)
  ·exact ⟨d,.inr rfl,hk⟩
  ·exact ⟨s0,.inl rfl,by rw [ho]; exact List.mem_append_right _ (List.mem_append_left _ hk)⟩
 ·rintro x (rfl|rfl) <;> assumption
 ·rintro x (rfl|rfl)
  ·rw [oS]
   exact ⟨fun b hbm=> .inr ⟨x,.inl rfl,sub0 b hbm⟩,List.nodup_append.2 ⟨n1.1,n2.2.1,fun b hb b' hb'=>n1.2.2 b hb b' (List.mem_append_right _ hb')⟩⟩
  ·rw [oD]
   refine ⟨fun b hbm=> ?_,hnd⟩
   rcases hb b hbm with h1|h1|h1
   ·exact .inl h1
   ·exact .inr ⟨x,.inr rfl,h1⟩
   ·exact .inr ⟨s0,.inl rfl,by rw [ho]; exact List.mem_append_right _ (List.mem_append_left _ h1)⟩
 ·rintro x y b (rfl|rfl) (rfl|rfl) hb1 hb2
  ·rfl
  ·rw [oS] at hb1; rw [oD] at hb2; exact (dis b hb2 hb1).elim
  ·rw [oD] at hb1; rw [oS] at hb2; exact (dis b hb1 hb2).elim
  ·rfl
 ·rintro x (rfl|rfl)
  ·rw [eS,oS,qcz tm _ hne]
   exact keep hm0 hrep0
  ·rw [eD,oD,qev tm v (by rw [h.size]; exact hd)]
   exact keep hm hrep
 ·rintro x (rfl|rfl) m hmm
  ·rw [eS,hm0] at hmm; cases hmm
  ·rw [eD,hm] at hmm; cases hmm
theorem qas.mutK {tm:Array Value} (h:qas C σ tm w own) {s:Nat} (hs:s<σ.length) {b1 b2 b3:List Nat} (ho:own s=b1++(b2++b3)) (hptr:∀b,tm.getD s undef=ptr b 0→b∉b2) (hk:qcQ (fun k=>k∈b2) w w') {av:AV}
  (hrep:qaO { sit C σ tm w own with w:=w' } av (tm.getD s undef) (own s)) (hm:av.mentions=[]):qas C (qv σ [⟨s,false,av⟩]) tm w' own:=by
 have eS:qA (qv σ [⟨s,false,av⟩]) s=((qA σ s).1,av):=qT σ ⟨s,false,av⟩ hs
 refine h.update (fun x=>x=s) (qS _ _) rfl ?_ ?_ (hk.mono ?_) ?_ ?_ ?_ ?_ ?_
 ·intro x hx
  exact ⟨qz σ ⟨s,false,av⟩ hx,rfl,rfl⟩
 ·rintro x rfl
  rw [eS]
  exact .inr ⟨rfl,rfl,fun b hb hp=>⟨hb,hk.block b (h.mine x b hb).2 (hptr b hp)⟩⟩
 ·intro k hk
  exact ⟨s,rfl,by rw [ho]; exact List.mem_append_right _ (List.mem_append_left _ hk)⟩
 ·rintro x rfl; exact hs
 ·rintro x rfl
  exact ⟨fun b hb=> .inr ⟨x,rfl,hb⟩,h.nodup x⟩
 ·rintro x y b rfl rfl _ _
  rfl
 ·rintro x rfl
  rw [eS]
  refine qaO.keep (X:= { sit C σ tm w own with w:=w' }) (X':=sit C _ _ w' own) ⟨rfl,rfl⟩ (fun x hx hlt=> ?_) (fun _ _ _=>rfl) (fun m hmm=>by rw [hm] at hmm; cases hmm) hrep
  have hx':C.free w own x:=hx
  exact ⟨⟨hx'.1,Nat.lt_of_lt_of_le hx'.2.1 hk.size,hx'.2.2⟩,hlt,rfl⟩
 ·rintro x rfl m hmm
  rw [eS,hm] at hmm; cases hmm
theorem qtU (hE:qcc E C.P) (h:qas C σ a.tmps w own) (hpt:quV (sit C σ a.tmps w own)) {t:Nat} {p1 x1:Op1} {p v:Value} (hp:qcD (sit C σ a.tmps w own) p1 p) (ho:qcD (sit C σ a.tmps w own) x1 v) (hdst:o.dst=none) {f:Eff}
  (he:(qtW E t p1 x1).run (qA σ)=some f) (hd:∀u∈f.upd,u.s<σ.length) (hx:(execOp a.eval o).run C.P w=((Instr.storeAt t p v).run C.P w).andThen fun _ w'=> .ok .skip w'):qes C o a w (qv σ f.upd):=by
 have hput:(a.put o.dst undef).tmps=a.tmps:=by rw [hdst]; rfl
 unfold qtW at he
 split at he
 ·cases he
 rename_i u hu
 have hT:=hE.ty t u hu
 split at he
 ·rename_i s v0 off hb
  obtain ⟨n,h1,h2⟩:=Q.bind_some he
  split at h2
  ·rename_i hcond
   simp only [Bool.and_eq_true,List.isEmpty_iff,Bool.not_eq_true'] at hcond
   obtain ⟨hc1,hc2⟩:=hcond
   rw [Q.run_get] at h2
   split at h2
   ·rename_i hv
    split at h2
    ·rename_i c hc
     split at h2
     ·rename_i c' hput'
      have:=qV h2
      subst this
      obtain ⟨b,hpb,rfl,_⟩:=qfI h hpt hp hb hv
      obtain ⟨b',cs,bs',te,k1,k2,k3,k4⟩:=h.box hc
      rw [hpb] at k1
      obtain ⟨rfl,_⟩:=qfG k1
      obtain ⟨b2,q1,q2,q3,q4⟩:=qit h ho h1 hc1
      obtain ⟨g1,bn,g2,g3,g4⟩:=qa5.put q1 k3 hput'
      have hrun:=qjK (w:=w) hT (v:=v) (off:=off) k2 q2 (by simp; omega) q3
      rw [hrun] at hx
      refine qid hx ?_
      rw [hput]
      have hnd:=h.nodup s
      rw [k4] at hnd
      have hsplice:(cs.toArray.toList.take off++v.cells.toList++cs.toArray.toList.drop (off+u.size)).toArray=(qa0 cs off v.cells.toList).toArray:=by
       rw [qa0,q2]
      rw [hsplice]
      generalize hW:w.setRow b (qa0 cs off v.cells.toList).toArray=W
      have hkept:qcQ (fun k=>k=b) w W:=by rw [←hW]; exact qhc _ k2
      have hheap:W.heap[b]? =some (.cells (qa0 cs off v.cells.toList).toArray te (0,0)):=by rw [←hW]; exact setRow_heap w b _ _ te _ k2
      have hsl:s<σ.length:=hd ⟨s,true,.box c'⟩ (by simp)
      have hbs:b∈own s:=by rw [k4]; exact List.mem_cons_self
      have fin:∀cons:List Nat,n.2.2=cons.map (fun s=>⟨s,true,.undef⟩)→(∀s'∈cons,s'<σ.length∧s'≠s)→(∀x∈b2,∃s'∈cons,x∈own s')→b∉b2→(bs'++b2).Nodup→
        ∃own',qas C (qv σ (n.2.2++[⟨s,true,.box c'⟩])) a.tmps W own':=by
       intro cons e1 e2 e3 e4 e5
       have hbn:b∉bn:=fun hbm=>by
        rcases g3 b hbm with hbm|hbm
        ·exact (List.nodup_cons.1 hnd).1 hbm
        ·exact e4 hbm
       have key:=h.mut hsl cons e2 (w':=W) (hkept.mono fun k hk=> .inl (by rw [hk]; exact hbs)) (av:= .box c') (v:=a.tmps.getD s undef) (bs:=b::bn)
        (fun x hx=>by
         rcases List.mem_cons.1 hx with rfl|hx
         ·exact .inr (.inl hbs)
         ·rcases g3 x hx with hx|hx
          ·exact .inr (.inl (by rw [k4]; exact List.mem_cons_of_mem _ hx))
          ·exact .inr (.inr (e3 x hx)))
        (List.nodup_cons.2 ⟨hbn,g4 e5⟩)
        ⟨b,_,bn,te,hpb,hheap,g2.keep (fun x hx hlt=>⟨hx,Nat.lt_of_lt_of_le hlt hkept.size,hkept.block x hlt fun e=>hx.2.2 s (by rw [e]; exact hbs)⟩) (fun x hx hlt=>hkept.block x hlt fun e=>hbn (by rw [←e]; exact hx)),rfl⟩ rfl
       rw [qrF a.tmps (by rw [h.size]; exact hsl),←e1] at key
       exact key
      rcases q4 with ⟨e1,e2⟩|⟨s',e1,e2⟩
      ·subst e2
       exact fin [] (by rw [e1]; rfl) (fun _ hx=>by cases hx) (fun _ hx=>by cases hx) (by simp) (by simpa using (List.nodup_cons.1 hnd).2)
      ·subst e2
       have hne:s'≠s:=by
        intro e
        rw [e1,e] at hc2
        simp at hc2
       have hdis:∀x,x∈own s'→x∉own s:=fun x hx hx'=>hne (h.apart s' s x hx hx')
       refine fin [s'] (by rw [e1]; rfl) (fun x hx=> ?_) (fun x hx=>⟨s',by simp,hx⟩) (fun hbm=>hdis b hbm hbs) (List.nodup_append.2 ⟨(List.nodup_cons.1 hnd).2,h.nodup s',fun x hx y hy e=> ?_⟩)
       ·simp at hx
        subst hx
        exact ⟨hd ⟨x,true,.undef⟩ (by rw [e1]; simp),hne⟩
       ·subst e
        exact hdis x hy (by rw [k4]; exact List.mem_cons_of_mem _ hx)
     ·cases h2
    ·cases h2
   ·cases h2
  ·cases h2
 ·split at he
  ·rename_i s v0 fo sz i off hpa
   obtain ⟨r,h1,h2⟩:=Q.bind_some he
   split at h2
   ·cases h2
   rename_i hcond
   have hns:s∉r.2:=by simpa using hcond
   obtain ⟨fz,h3,h4⟩:=Q.bind_some h2
   clear h2
   rw [Q.run_get] at h4
   split at h4
   case isFalse=>cases h4
   rename_i hv
   split at h4
   case h_2=>cases h4
   rename_i et e xs hown
   split at h4
   case isFalse=>cases h4
   rename_i hsz
   subst hsz
   split at h4
   case h_2=>cases h4
   rename_i y hy
   split at h4
   case h_2=>cases h4
   rename_i a' hsw
   have:=qV h4
   subst this
   obtain ⟨own1,f1,_,f3,f4⟩:=qdo r.2 h h3
   obtain ⟨f5,f6⟩:=f3 s hns
   obtain ⟨_,hpp⟩:=hpa ▸ hp.unowned (by rw [hpa]; rfl)
   obtain ⟨g,n,cap,k1,k2,k3,rfl⟩:=hpp hv
   have k1':qf1 (sit C (qv σ fz) a.tmps w own1) s fo (.slice (some ⟨g,0,none⟩) n cap):=by
    cases fo with
    |none=>exact k1
    |some o=>
     obtain ⟨b,m1,m2⟩:=k1
     exact ⟨b,by show b∈own1 s; rw [f5]; exact m1,m2⟩
   obtain ⟨hsl,b1,b2,b3,q1,q2,q3,q4⟩:=f1.rowAt (by rw [f6]; exact hown) k1'
   have hrv:=qdx h ho h1
   have hrc:Rep w (C.free w own1) u r.1 v.cells.toList:=hrv.1.keep fun b hb hs=>⟨f4 b hb,hs,rfl⟩
   have hg:g∈b2:=by
    obtain ⟨_,_,e2,_⟩:=q1
    rw [e2]; simp [Value.ownBlock]
   have hgs:g∈own1 s:=by rw [q2]; exact List.mem_append_right _ (List.mem_append_left _ hg)
   obtain ⟨W,hrun,hkept,hbs,hrow'⟩:=qak.store hT q1 (fun x hx e=>hx.2.2 s (by rw [e]; exact hgs)) k2 k3 hy hrc
   rw [hrun] at hx
   refine qid hx ?_
   rw [hput]
   have hkept2:qcQ (fun k=>k∈b2) w W:=hkept.mono fun k hk=>by rw [hk]; exact hg
   obtain ⟨g1,g2⟩:=q4 W (.own et e (qgW xs i y)) b2 a' hkept2 ⟨_,rfl,hrow'⟩ (by rw [f6]; exact hsw)
   rw [qb7]
   exact ⟨own1,f1.mutK hsl q2 q3 hkept2 (by rw [q2]; exact g1) g2⟩
  ·rename_i s v0 off n e i o2 hpa
   obtain ⟨r,h1,h2⟩:=Q.bind_some he
   split at h2
   case isFalse=>cases h2
   rename_i hcond
   rw [List.isEmpty_iff] at hcond
   rw [Q.run_get] at h2
   split at h2
   case isFalse=>cases h2
   rename_i hv
   split at h2
   case h_2=>cases h2
   rename_i c hc
   split at h2
   case h_2=>cases h2
   rename_i xs hg
   split at h2
   case h_2=>cases h2
   rename_i y hy
   split at h2
   case h_2=>cases h2
   rename_i c' hput'
   have:=qV h2
   subst this
   obtain ⟨i0,i1,b,hpb,rfl,_⟩:=qq6 hpt (hpa ▸ hp.unowned (by rw [hpa]; rfl)) hv
   obtain ⟨b',cs,bs',te,k1,k2,k3,k4⟩:=h.box hc
   rw [hpb] at k1
   obtain ⟨rfl,_⟩:=qfG k1
   have hrv:=qdx h ho h1
   rw [hcond] at hrv
   have hrc:Rep w (C.free w own) u r.1 v.cells.toList:=hrv.1.keep fun b hb hs=>⟨qnX hb,hs,rfl⟩
   obtain ⟨g1,_,g3⟩:=k3.get hg
   have hreg:=g3 rfl
   have hregl:=hreg.length
   obtain ⟨x,m1,m2,m3⟩:=hreg.elem (i:=i.toNat) (by omega)
   rw [qhn m1] at hy
   obtain ⟨u1,u2⟩:=m2.upd hrc hy
   have hml:=m2.length
   have hvl:=hrc.length
   have hnew:=hreg.setElem (i:=i.toNat) (by omega) u2
   have hi:((i.toNat:Nat):Int)=i:=by omega
   rw [hi] at hnew
   have hinner:List.take o2 (List.take e.size (List.drop (i.toNat * e.size) (List.take (Ty.arr n e).size (List.drop off cs))))++v.cells.toList++List.drop (o2+u.size) (List.take e.size (List.drop (i.toNat * e.size) (List.take (Ty.arr n e).size (List.drop off cs))))=qa0 (List.take e.size (List.drop (i.toNat * e.size) (List.take (Ty.arr n e).size (List.drop off cs)))) o2 v.cells.toList:=by
    rw [qa0,hvl]
   rw [hinner,qmD (by omega) (by omega)] at hnew
   obtain ⟨p1',bn,p2,p3,p4⟩:=qa5.put (b2:=[]) (qa5.ofVal hnew) k3 hput'
   rw [qmD (p:=off) (n:=(Ty.arr n e).size) (q:=i.toNat * e.size+o2) (ds:=v.cells.toList) (by omega) (by omega)] at p2
   have hrun:=qjK (w:=w) hT (v:=v) (off:=off+i.toNat * e.size+o2) k2 hvl (by simp; omega) (fun z hz=>hrc.oneCell z hz)
   rw [hrun] at hx
   refine qid hx ?_
   rw [hput]
   have hnd:=h.nodup s
   rw [k4] at hnd
   have hsplice:(cs.toArray.toList.take (off+i.toNat * e.size+o2)++v.cells.toList++cs.toArray.toList.drop (off+i.toNat * e.size+o2+u.size)).toArray=(qa0 cs (off+(i.toNat * e.size+o2)) v.cells.toList).toArray:=by
    rw [qa0,hvl,Nat.add_assoc]
   rw [hsplice]
   generalize hW:w.setRow b (qa0 cs (off+(i.toNat * e.size+o2)) v.cells.toList).toArray=W
   have hkept:qcQ (fun k=>k=b) w W:=by rw [←hW]; exact qhc _ k2
   have hheap:W.heap[b]? =some (.cells (qa0 cs (off+(i.toNat * e.size+o2)) v.cells.toList).toArray te (0,0)):=by rw [←hW]; exact setRow_heap w b _ _ te _ k2
   have hsl:s<σ.length:=hd ⟨s,true,.box c'⟩ (by simp)
   have hbs:b∈own s:=by rw [k4]; exact List.mem_cons_self
   have hbn:b∉bn:=fun hbm=>by
    rcases p3 b hbm with hbm|hbm
    ·exact (List.nodup_cons.1 hnd).1 hbm
    ·cases hbm
   have key:=h.mut hsl [] (fun _ hx=>by cases hx) (w':=W) (hkept.mono fun k hk=> .inl (by rw [hk]; exact hbs)) (av:= .box c') (v:=a.tmps.getD s undef) (bs:=b::bn)
    (fun x hx=>by
     rcases List.mem_cons.1 hx with rfl|hx
     ·exact .inr (.inl hbs)
     ·rcases p3 x hx with hx|hx
      ·exact .inr (.inl (by rw [k4]; exact List.mem_cons_of_mem _ hx))
      ·cases hx)
    (List.nodup_cons.2 ⟨hbn,p4 (by simpa using (List.nodup_cons.1 hnd).2)⟩)
    ⟨b,_,bn,te,hpb,hheap,p2.keep (fun x hx hlt=>⟨hx,Nat.lt_of_lt_of_le hlt hkept.size,hkept.block x hlt fun e=>hx.2.2 s (by rw [e]; exact hbs)⟩) (fun x hx hlt=>hkept.block x hlt fun e=>hbn (by rw [←e]; exact hx)),rfl⟩ rfl
   rw [qrF a.tmps (by rw [h.size]; exact hsl)] at key
   exact key
  ·cases he
end
end Go.Vi
namespace Go.Vi
open Go.RowKit
section
variable {C:Ctx} {E:Env} {σ:St} {a:Act} {w w':World} {own:Nat→List Nat} {o:Oper} [Tabbed E C]
theorem qas.newBox (h:qas C σ a.tmps w own) {d:Nat} (hd:d<σ.length) (cons:List Nat) (hcons:∀s∈cons,s<σ.length∧s≠d) {c:BC} {cs:List Value} {bs:List Nat} {te:Nat} (hc:qa5 w (C.free w own) c cs bs)
  (hb:∀b∈bs,∃s∈cons,b∈own s) (hnd:bs.Nodup):∃own',qas C (qv σ (cons.map (fun s=>⟨s,true,.undef⟩)++[⟨d,true,.box c⟩])) (a.tmps.setIfInBounds d (ptr w.heap.size 0)) (w.alloc (.cells cs.toArray te)) own':=by
 have hlt:∀b∈bs,b<w.heap.size:=fun b hbm=>by
  obtain ⟨s,_,hs⟩:=hb b hbm
  exact (h.mine s b hs).2
 have hold:∀k,k<w.heap.size→(w.alloc (.cells cs.toArray te)).heap[k]? =w.heap[k]? :=fun k hk=>qmj w _ _ hk
 refine h.mut hd cons hcons ((qcQ.alloc (fun _=>False) w (.cells cs.toArray te)).mono fun _ h=>h.elim) (bs:=w.heap.size::bs) (fun b hbm=> ?_) (List.nodup_cons.2 ⟨fun hm=>by have:=hlt _ hm; omega,hnd⟩) ?_ rfl
 ·rcases List.mem_cons.1 hbm with rfl|hbm
  ·exact .inl ⟨Nat.le_refl _,by simp⟩
  ·exact .inr (.inr (hb b hbm))
 ·exact ⟨w.heap.size,cs,bs,te,rfl,heap_alloc_new w _,hc.keep (fun b hb hlt=>⟨hb,by simp; omega,hold b hlt⟩) (fun b _ hlt=>hold b hlt),rfl⟩
theorem qw5 (h:qas C σ a.tmps w own) {t:Nat} {x1:Op1} {v:Value} (ho:qcD (sit C σ a.tmps w own) x1 v) {f:Eff} (he:(boxE E o t x1).run (qA σ)=some f) (hd:∀u∈f.upd,u.s<σ.length)
  (hx:(execOp a.eval o).run C.P w= .ok (.value (ptr w.heap.size 0)) (w.alloc (.cells v.cells t))):qes C o a w (qv σ f.upd):=by
 unfold boxE at he
 split at he
 ·rename_i u d hu hdst
  obtain ⟨c,h1,h2⟩:=Q.bind_some he
  split at h2
  ·rename_i hcond
   simp only [Bool.and_eq_true,List.isEmpty_iff,Bool.not_eq_true'] at hcond
   obtain ⟨hc1,hc2⟩:=hcond
   have:=qV h2
   subst this
   obtain ⟨b2,q1,q2,q3,q4⟩:=qit h ho h1 hc1
   refine qU hx ?_
   rw [qjt a hdst]
   have hv:v.cells.toList.toArray=v.cells:=by simp
   rcases q4 with ⟨e1,e2⟩|⟨s',e1,e2⟩
   ·subst e2
    have:=h.newBox (d:=d) (hd ⟨d,true,.box c.1⟩ (by simp)) [] (fun _ hs=>by cases hs) (te:=t) q1 (fun _ hb=>by cases hb) List.nodup_nil
    rw [hv] at this
    rw [e1]
    exact this
   ·subst e2
    have hne:s'≠d:=by
     intro e
     rw [e1,e] at hc2
     simp at hc2
    have:=h.newBox (d:=d) (hd ⟨d,true,.box c.1⟩ (by simp)) [s'] (fun s hs=>by
     simp at hs
     subst hs
     exact ⟨hd ⟨s,true,.undef⟩ (by rw [e1]; simp),hne⟩) (te:=t) q1 (fun b hb=>⟨s',by simp,hb⟩) (h.nodup s')
    rw [hv] at this
    rw [e1]
    exact this
  ·cases h2
 ·cases he
theorem quD (hE:qcc E C.P) (h:qas C σ a.tmps w own) {t:Nat} {c:BC} (hc:E.zero t=some c) (hd:∀u∈qcl o (.box c),u.s<σ.length) {z:Value} {i:TypeInfo} (hi:C.P.info? t=some i) (hz:i.zero=some z)
  (hx:(execOp a.eval o).run C.P w= .ok (.value (ptr w.heap.size 0)) (w.alloc (.cells z.cells t))):qes C o a w (qv σ (qcl o (.box c))):=by
 obtain ⟨i',z',h1,h2,h3⟩:=hE.zero t c hc
 rw [hi] at h1
 injection h1 with h1
 subst h1
 rw [hz] at h2
 injection h2 with h2
 subst h2
 refine qU hx ?_
 unfold qcl at *
 cases hdst:o.dst with
 |none=>exact ⟨own,h.world (qcQ.alloc _ _ _)⟩
 |some d=>
  rw [hdst] at hd
  have:=h.newBox (d:=d) (hd ⟨d,true,.box c⟩ (by simp)) [] (fun _ hs=>by cases hs) (te:=t) (h3 w _) (fun _ hb=>by cases hb) List.nodup_nil
  simpa [Act.put] using this
theorem quX (h:qas C σ a.tmps w own) (hpt:quV (sit C σ a.tmps w own)) {n:Nat} {x1:Op1} {p:Value} (ho:qcD (sit C σ a.tmps w own) x1 p) (hw:∀m∈x1.a.mentions,m.2≤(qA σ m.1).1) {f:Eff} (he:(qwR o n x1).run (qA σ)=some f) (hd:∀u∈f.upd,u.s<σ.length)
  (hx:∀ad,p= .pointer (some ad)→(execOp a.eval o).run C.P w= .ok (.value (.pointer (some (ad.add n)))) w):qes C o a w (qv σ f.upd):=by
 unfold qwR at he
 split at he
 ·rename_i s v0 b0 hb
  rw [Q.run_get] at he
  split at he
  ·rename_i hv
   have:=qV he
   subst this
   obtain ⟨b,h1,rfl,h2⟩:=qfI h hpt ho hb hv
   obtain ⟨q1,q2⟩:=qrT (off:=b0+n) (v:= .pointer (some ((⟨b,b0,none⟩:Addr).add n))) h hv h1 (by rw [qai]; rfl) h2
   exact qU (hx _ rfl) (h.dst0 hd q1 q2)
  ·cases he
 ·split at he
  ·rename_i s v0 fo sz i b hxa
   rw [Q.run_get] at he
   split at he
   ·rename_i hv
    have:=qV he
    subst this
    have hp:=ho.unowned (by rw [hxa]; rfl)
    rw [hxa] at hp hw
    obtain ⟨g,k,cap,k1,k2,k3,rfl⟩:=hp.2 hv
    refine qU (hx _ rfl) (h.dst0 hd ⟨rfl,fun _=>⟨g,k,cap,k1,k2,k3,?_⟩⟩ hw)
    rw [qai,Nat.add_assoc]; rfl
   ·cases he
  ·rename_i t x b hxa
   have:=qV he
   subst this
   have hp:=ho.unowned (by rw [hxa]; rfl)
   rw [hxa] at hp
   obtain ⟨_,ad,cs,rfl,g1⟩:=hp
   refine qU (hx _ rfl) (h.dst0 hd ⟨rfl,ad,cs,?_,g1⟩ (fun m hm=>by cases hm))
   rw [qaQ]
  ·rename_i s v0 b k e i o2 hxa
   rw [Q.run_get] at he
   split at he
   case isFalse=>cases he
   rename_i hv
   have:=qV he
   subst this
   obtain ⟨i0,i1,bb,h1,rfl,h2⟩:=qq6 hpt (hxa ▸ ho.unowned (by rw [hxa]; rfl)) hv
   obtain ⟨q1,q2⟩:=quk (C:=C) (w:=w) (own:=own) (off:=b) (o2:=o2+n) (v:= .pointer (some ((⟨bb,b+i.toNat * e.size+o2,none⟩:Addr).add n))) hv i0 i1 h1 (by rw [qai,Nat.add_assoc]; rfl) h2
   exact qU (hx _ rfl) (h.dst0 hd q1 q2)
  ·cases he
end
end Go.Vi
namespace Go.Vi
open Go.RowKit
theorem qdJ (k:IntKind) (n:Int):k.has (k.wrap n):=by
 cases k <;> simp [IntKind.has,IntKind.wrap,IntKind.bits,IntKind.signed,IntKind.min,IntKind.max] <;> omega
theorem qnL (k:IntKind):k.min≤0:=by cases k <;> decide
theorem qn8 (k:IntKind):0≤k.max:=by cases k <;> decide
theorem qvo {k:IntKind} {x y:Int} (h:k.has x) (hy:y≠0):k.has (x.tmod y):=by
 have h1:=qnL k
 have h2:=qn8 k
 obtain ⟨h3,h4⟩:=h
 by_cases hx:0≤x
 ·have e1:0≤x.tmod y:=Int.tmod_nonneg y hx
  have e2:x.tmod y≤x:=by
   have:=Int.natAbs_tmod x y
   have h5:(x.natAbs % y.natAbs)≤x.natAbs:=Nat.mod_le _ _
   omega
  exact ⟨by omega,by omega⟩
 ·have h5:(x.natAbs % y.natAbs)≤x.natAbs:=Nat.mod_le _ _
  have:=Int.natAbs_tmod x y
  have e1:x.tmod y≤0:=by
   have:=Int.tmod_nonneg y (show 0≤ -x by omega)
   rw [Int.neg_tmod] at this
   omega
  exact ⟨by omega,by omega⟩
theorem qvq {k:IntKind} {x:Int} (h:k.has x) (n:Nat):k.has (x.fdiv (2^n)):=by
 have h1:=qnL k
 have h2:=qn8 k
 obtain ⟨h3,h4⟩:=h
 have hp:(0:Int)<2^n:=by exact Int.pow_pos (by decide)
 have hp1:(1:Int)≤2^n:=hp
 have e:x.fdiv (2^n)=x / 2^n:=by rw [Int.fdiv_eq_ediv_of_nonneg _ (Int.le_of_lt hp)]
 rw [e]
 by_cases hx:0≤x
 ·have e1:0≤x / 2^n:=Int.ediv_nonneg hx (Int.le_of_lt hp)
  have e2:x / 2^n≤x:=Int.ediv_le_self _ hx
  exact ⟨by omega,by omega⟩
 ·have e1:x / 2^n<0:=Int.ediv_neg_of_neg_of_pos (by omega) hp
  have e2:x≤x / 2^n:=by
   rw [Int.le_ediv_iff_mul_le hp]
   have:x * 2^n≤x * 1:=Int.mul_le_mul_of_nonpos_left (by omega) hp1
   omega
  exact ⟨by omega,by omega⟩
def qdR (c:List Bool):Prop:=∀b∈c,b=true
section
variable {P:Program} {w:World} {F:Nat→Prop}
theorem qvB {op:BinOp} {k k':IntKind} {x y:Int} (hx:k.has x) (hy:k'.has y) (hk:(qmF op||decide (k=k'))=true) (hc:qdR (qq4 op k x y).2) (t:Nat):
  ∃v,(binOp op t (.int k x) (.int k' y)).run P w= .ok v w∧∃u z,(qq4 op k x y).1= .val u z∧qaN w F u z v:=by
 by_cases hs:qmF op=true
 ·cases op <;> simp [qmF] at hs
  ·have h0:0≤y:=by simpa [qq4,qdR,qcp] using hc
   exact ⟨.int k (shlI k x y),by simp [binOp,Op.shift,show ¬y<0 by omega,qrI],.int k,_,rfl,qaN.ofInt _ _ (by rw [qrI]; exact qdJ _ _)⟩
  ·have h0:0≤y:=by simpa [qq4,qdR,qcp] using hc
   exact ⟨.int k (quQ k x y),by simp [binOp,Op.shift,show ¬y<0 by omega,qoY],.int k,_,rfl,qaN.ofInt _ _ (by rw [qoY]; exact qvq hx _)⟩
 ·have hkk:k=k':=by simpa [hs] using hk
  subst hkk
  cases op <;> simp [qmF] at hs
  ·exact ⟨.int k (qax k x y),by simp [binOp,Op.intArith,qj2],.int k,_,rfl,qaN.ofInt _ _ (by rw [qj2]; exact qdJ _ _)⟩
  ·exact ⟨.int k (qbn k x y),by simp [binOp,Op.intArith,ql3],.int k,_,rfl,qaN.ofInt _ _ (by rw [ql3]; exact qdJ _ _)⟩
  ·exact ⟨.int k (qvY k x y),by simp [binOp,Op.intArith,qlP],.int k,_,rfl,qaN.ofInt _ _ (by rw [qlP]; exact qdJ _ _)⟩
  ·have h0:y≠0:=by simpa [qq4,qdR,qmL] using hc
   exact ⟨.int k (iquo k x y),by simp [binOp,Op.intDiv,h0,qrU],.int k,_,rfl,qaN.ofInt _ _ (by rw [qrU]; exact qdJ _ _)⟩
  ·have h0:y≠0:=by simpa [qq4,qdR,qmL] using hc
   exact ⟨.int k (irem x y),by simp [binOp,Op.intDiv,h0,qrK],.int k,_,rfl,qaN.ofInt _ _ (by rw [qrK]; exact qvo hx h0)⟩
  ·exact ⟨.int k (band k x y),by simp [binOp,Op.intBits,qr4],.int k,_,rfl,qaN.ofInt _ _ (by rw [qr4]; exact qdJ _ _)⟩
  ·exact ⟨.int k (bor k x y),by simp [binOp,Op.intBits,qui],.int k,_,rfl,qaN.ofInt _ _ (by rw [qui]; exact qdJ _ _)⟩
  ·exact ⟨.int k (bxor k x y),by simp [binOp,Op.intBits,qlX],.int k,_,rfl,qaN.ofInt _ _ (by rw [qlX]; exact qdJ _ _)⟩
  ·exact ⟨.int k (qoH k x y),by simp [binOp,Op.intBits,qnb],.int k,_,rfl,qaN.ofInt _ _ (by rw [qnb]; exact qdJ _ _)⟩
  ·exact ⟨.bool (eqI x y),by simp [binOp,Op.intCmp,qmB],.bool,_,rfl,qaN.ofBool _ _ _⟩
  ·exact ⟨.bool (neI x y),by simp [binOp,Op.intCmp,qmL],.bool,_,rfl,qaN.ofBool _ _ _⟩
  ·exact ⟨.bool (ltI x y),by simp [binOp,Op.intCmp,qbr],.bool,_,rfl,qaN.ofBool _ _ _⟩
  ·exact ⟨.bool (leI x y),by simp [binOp,Op.intCmp,qcp],.bool,_,rfl,qaN.ofBool _ _ _⟩
  ·exact ⟨.bool (ltI y x),by simp [binOp,Op.intCmp,qbr],.bool,_,rfl,qaN.ofBool _ _ _⟩
  ·exact ⟨.bool (leI y x),by simp [binOp,Op.intCmp,qcp],.bool,_,rfl,qaN.ofBool _ _ _⟩
theorem qvN {op:BinOp} {x y:List UInt8} (hx:x.length≤maxLen) (hy:y.length≤maxLen) {r:AV×List Bool} (hr:qwQ op x y=some r) (hc:qdR r.2) (t:Nat):
  ∃v,(binOp op t (.string ⟨x.toArray⟩) (.string ⟨y.toArray⟩)).run P w= .ok v w∧∃u z,r.1= .val u z∧qaN w F u z v:=by
 cases op <;> simp only [qwQ] at hr <;> cases hr
 ·have h0:x.length+y.length≤140737488355328:=by
   have:=hc _ (List.mem_singleton.2 rfl)
   simp [qki,qt] at this
   omega
  refine ⟨.string ⟨(qem x y).toArray⟩,?_,.str,_,rfl,qaN.ofStr _ _ (by simp [qbv,maxLen]; omega)⟩
  rw [qbv]
  rw [show binOp .add t (.string ⟨x.toArray⟩) (.string ⟨y.toArray⟩)=Op.stringOp .add ⟨x.toArray⟩ ⟨y.toArray⟩ from by simp [binOp]]
  rw [run_string_add_sum w _ _ (by show x.toArray.size+y.toArray.size≤_; simp; omega)]
  rw [ByteArray.mk_append_mk]
 all_goals
  refine ⟨_,?_,.bool,_,rfl,qaN.ofBool _ _ _⟩
  simp [binOp,Op.stringOp,qqx,qqg]
end
end Go.Vi
namespace Go.Vi
open Go.RowKit
section
variable {C:Ctx} {E:Env} {σ:St} {tm:Array Value} {a:Act} {w w':World} {own:Nat→List Nat} {o:Oper} [Tabbed E C]
theorem qaN.flat {F F':Nat→Prop} {t:Ty} {x:t.den} {v:Value} (hf:t.flat=true) (h:qaN w F t x v):qaN w' F' t x v:=⟨Rep.flat hf h.1,h.2⟩
theorem qix (h:qas C σ a.tmps w own) {t:Ty} {x:t.den} {v:Value} {ow:List Nat} {us:List U} (hr:(execOp a.eval o).run C.P w= .ok (.value v) w)
  (hus:(if t.flat then Q.ret [] else qcA ow).run (qA σ)=some us) (hd:∀u∈us++qcl o (.val t x),u.s<σ.length) (hv:qaN w (FW (sit C σ a.tmps w own) ow) t x v):
  qes C o a w (qv σ (us++qcl o (.val t x))):=by
 by_cases hf:t.flat=true
 ·rw [if_pos hf] at hus
  have:=Q.ret_some hus
  subst this
  exact qbg h hr hd (hv.flat hf)
 ·rw [if_neg hf] at hus
  obtain ⟨own',k1,k2,k3,k4⟩:=qdo ow h hus
  rw [qb7]
  exact qbg k1 hr (fun u hu=>by rw [qS]; exact hd u (List.mem_append_right _ hu)) (hv.mono fun b hb _=>k4 b hb)
variable {p:qh5}
theorem qaS (h:qas C σ a.tmps w own) (hp:qcn (sit C σ a.tmps w own) p) {tid:Nat} {x:Operand} {o1:Op1} (ho:(opd E p tid x).run (qA σ)=some o1):qcD (sit C σ a.tmps w own) o1 (a.eval x):=
 opd_ok (ds:=a.defers) h hp ho
def plainV (v:Value):Prop:=(∃k n,v= .int k n)∨(∃s,v= .string s)∨∃b,v= .bool b
theorem qiY {op:BinOp} {t:Nat} {x y:Operand} {a b:Value} {P:Program} (h1:plainV a):(eqGuard op t x y a b).run P w= .ok () w:=by
 rcases h1 with ⟨_,_,rfl⟩|⟨_,rfl⟩|⟨_,rfl⟩ <;> cases op <;> simp [eqGuard]
theorem qfB (d:Nat) {P:Program} {t e:Nat} (a:Option Addr) (l c:Nat) (h:P.underlying t=some (.slice e)):(Op.equalIn (d+1) t (.slice a l c) (.slice none 0 0)).run P w= .ok a.isNone w:=by
 cases a <;> simp [Op.equalIn,run_underlying h]
theorem qoO {P:Program} {t e:Nat} (a:Option Addr) (l c:Nat) (h:P.underlying t=some (.slice e)) (op:BinOp) (hop:op= .eql∨op= .neq):
  (binOp op t (.slice a l c) (.slice none 0 0)).run P w= .ok (.bool (if qgb op then a.isNone else !a.isNone)) w:=by
 rcases hop with rfl|rfl
 ·simp only [binOp]
  simp [Op.equal,Op.maxDepth,qfB 9999 a l c h,qgb]
 ·simp only [binOp]
  simp [Op.equal,Op.maxDepth,qfB 9999 a l c h,qgb]
theorem qnz (hE:qcc E C.P) (h:qas C σ a.tmps w own) (hp:qcn (sit C σ a.tmps w own) p) {op:BinOp} {t:Nat} {x y:Operand} {b:TypeId} (hop:o.op= .binOp op t x y b) {f:Eff} (hn:qtM op y=true) {e0:Ty} (hty:E.ty t=some (.slice e0))
  (he:(((opd E p t x).bind fun x=>(match x.a with
   | .nz _ xs=>okE (qcl o (.val .bool (bif qgb op then eqI (qr xs) 0 else !(eqI (qr xs) 0))))
   |_=>(qnf x).bind fun x=>(match x with
    |⟨.slice _,xs,_⟩=>okE (qcl o (.amb (qgb op) (eqI (qr xs) 0)))
    |_=> .fail))).run (qA σ))=some f) (hd:∀u∈f.upd,u.s<σ.length):qes C o a w (qv σ f.upd):=by
 obtain ⟨x1,hx,he⟩:=Q.bind_some he
 have ho1:=qaS h hp hx
 have hu:=(hE.elem t e0 hty).under
 obtain ⟨hyo,hopc⟩:y= .const (.slice none 0 0)∧(op= .eql∨op= .neq):=by
  unfold qtM at hn
  split at hn
  ·exact ⟨rfl,.inl rfl⟩
  ·exact ⟨rfl,.inr rfl⟩
  ·cases hn
 have hya:a.eval y= .slice none 0 0:=by rw [hyo]; rfl
 have key:∀ {F:Nat→Prop} {e:Ty} {xs:List e.den},qaN w F (.slice e) xs (a.eval x)→∃ad l c,a.eval x= .slice ad l c∧(ad=none→xs=[])∧(execOp a.eval o).run C.P w= .ok (.value (.bool (if qgb op then ad.isNone else !ad.isNone))) w:=by
  intro F e xs rx
  obtain ⟨ad,l,c,hv,hl⟩:∃ad l c,a.eval x= .slice ad l c∧(ad=none→xs=[]):=by
   rcases qaN.slice rx with ⟨k4,k5⟩|⟨ad,cap,k4,k5,k6,k7⟩
   ·exact ⟨none,0,0,k4,fun _=>k5⟩
   ·exact ⟨some ad,_,_,k4,fun h=>by cases h⟩
  have hg:(eqGuard op t x y (a.eval x) (a.eval y)).run C.P w= .ok () w:=by
   rw [hv,hya]
   rcases hopc with rfl|rfl <;> simp [eqGuard]
  refine ⟨ad,l,c,hv,hl,?_⟩
  unfold execOp
  rw [hop]
  simp only [Sem.run_bind,hg,Result.andThen_ok]
  rw [hv,hya,qoO ad l c hu op hopc]
  rfl
 split at he
 ·rename_i e xs hxa
  have:=qV he
  subst this
  have hnz:qaO (sit C σ a.tmps w own) (.nz e xs) (a.eval x) []:=by
   have:=ho1.unowned (by rw [hxa]; rfl)
   rwa [hxa] at this
  obtain ⟨_,rx,hnil⟩:=hnz
  obtain ⟨ad,l,c,hv,hl,hr⟩:=key rx
  refine qU hr (h.dst0 hd ?_ (fun m hm=>by cases hm))
  have e1:ad.isNone=eqI (qr xs) 0:=by
   rw [qmB,qt]
   cases xs with
   |nil=>
    have:=hnil rfl
    rw [hv] at this
    injection this with h1
    subst h1
    rfl
   |cons x0 xs0=>
    cases ad with
    |none=>have:=hl rfl; cases this
    |some ad=>
     symm
     simp only [Option.isNone_some,beq_eq_false_iff_ne,List.length_cons]
     omega
  have e2:(if qgb op=true then ad.isNone else !ad.isNone)=(bif qgb op then eqI (qr xs) 0 else !(eqI (qr xs) 0)):=by
   rw [e1]; cases qgb op <;> rfl
  rw [e2]
  exact ⟨rfl,qaN.ofBool _ _ _⟩
 ·obtain ⟨xr,hxr,he⟩:=Q.bind_some he
  have rx:=qdM h ho1 hxr
  split at he
  case h_2=>cases he
  rename_i e xs ow
  have:=qV he
  subst this
  obtain ⟨ad,l,c,hv,hl,hr⟩:=key rx
  refine qU hr (h.dst0 hd ⟨rfl,_,rfl,fun hb=> ?_⟩ (fun m hm=>by cases hm))
  have hnone:ad=none:=by
   rcases hopc with rfl|rfl
   ·simpa [qgb] using hb
   ·simpa [qgb] using hb
  have hxs:xs=[]:=hl hnone
  rw [hxs,qmB,qt]
  rfl
theorem qoW {P:Program} {w:World} {t:TypeId} {ms:Array (String×TypeId)} (hu:P.underlying t=some (.interface ms)) {b:Bool} {v:Value} (h:(b=true∧v= .nilIface)∨(b=false∧∃t x,v= .iface t x)):(Op.equal t v .nilIface).run P w= .ok b w:=by
 have key:∀d,(Op.equalIn (d+1) t v .nilIface).run P w= .ok b w:=fun d=>by
  rcases h with ⟨rfl,rfl⟩|⟨rfl,tt,x,rfl⟩ <;> simp [Op.equalIn,run_underlying hu]
 exact key 9999
theorem qnu (hE:qcc E C.P) (h:qas C σ a.tmps w own) (hp:qcn (sit C σ a.tmps w own) p) {op:BinOp} {t:Nat} {x y:Operand} {b:TypeId} (hop:o.op= .binOp op t x y b) {f:Eff} (hn:qqR op y=true) (hty:E.ty t=some .err)
  (he:(((opd E p t x).bind fun x=>(qnf x).bind fun x=>(match x with
   |⟨.err,b,_⟩=>okE (qcl o (.val .bool (bif qgb op then b else !b)))
   |_=> .fail)).run (qA σ))=some f) (hd:∀u∈f.upd,u.s<σ.length):qes C o a w (qv σ f.upd):=by
 obtain ⟨x1,hx,he⟩:=Q.bind_some he
 obtain ⟨xr,hxr,he⟩:=Q.bind_some he
 have rx:=qdM h (qaS h hp hx) hxr
 split at he
 case h_2=>cases he
 rename_i bb ow
 have:=qV he
 subst this
 obtain ⟨ms,hu⟩:=hE.err t hty
 obtain ⟨hyo,hopc⟩:y= .const .nilIface∧(op= .eql∨op= .neq):=by
  unfold qqR at hn
  split at hn
  ·exact ⟨rfl,.inl rfl⟩
  ·exact ⟨rfl,.inr rfl⟩
  ·cases hn
 have hya:a.eval y= .nilIface:=by rw [hyo]; rfl
 have hv:=qaN.err rx
 have hg:(eqGuard op t x y (a.eval x) (a.eval y)).run C.P w= .ok () w:=by
  rw [hya,hyo]
  rcases hv with ⟨_,hv⟩|⟨_,tt,xx,hv⟩ <;> rw [hv] <;> rcases hopc with rfl|rfl <;> simp [eqGuard]
 have hq:=qoW (w:=w) hu hv
 refine qU (v:= .bool (bif qgb op then bb else !bb)) ?_ (h.dst0 hd ⟨rfl,qaN.ofBool _ _ _⟩ (fun m hm=>by cases hm))
 unfold execOp
 rw [hop]
 simp only [Sem.run_bind,hg,Result.andThen_ok]
 rw [hya]
 rcases hv with ⟨_,hv⟩|⟨_,tt,xx,hv⟩ <;> rw [hv] at hq⊢ <;> rcases hopc with rfl|rfl <;> simp [binOp,hq,qgb]
theorem qoK {P:Program} {w:World} {t u:TypeId} (hu:P.underlying t=some (.pointer u)) (q:Option Addr):(Op.equal t (.pointer q) (.pointer none)).run P w= .ok q.isNone w:=by
 have key:∀d,(Op.equalIn (d+1) t (.pointer q) (.pointer none)).run P w= .ok q.isNone w:=fun d=>by
  cases q <;> simp [Op.equalIn,run_underlying hu]
 exact key 9999
theorem qnp (hE:qcc E C.P) (h:qas C σ a.tmps w own) (hp:qcn (sit C σ a.tmps w own) p) {op:BinOp} {t:Nat} {x y:Operand} {b:TypeId} (hop:o.op= .binOp op t x y b) {f:Eff} (hn:qqp op y=true) {e0:Ty} (hty:E.ty t=some (.opt e0))
  (he:(((opd E p t x).bind fun x=>(qnf x).bind fun x=>(match x with
   |⟨.opt _,z,_⟩=>okE (qcl o (.val .bool (bif qgb op then !(qB z) else qB z)))
   |_=> .fail)).run (qA σ))=some f) (hd:∀u∈f.upd,u.s<σ.length):qes C o a w (qv σ f.upd):=by
 obtain ⟨x1,hx,he⟩:=Q.bind_some he
 obtain ⟨xr,hxr,he⟩:=Q.bind_some he
 have rx:=qdM h (qaS h hp hx) hxr
 split at he
 case h_2=>cases he
 rename_i ee z ow
 have:=qV he
 subst this
 obtain ⟨ms,hu⟩:=hE.opt t e0 hty
 obtain ⟨hyo,hopc⟩:y= .const (.pointer none)∧(op= .eql∨op= .neq):=by
  unfold qqp at hn
  split at hn
  ·exact ⟨rfl,.inl rfl⟩
  ·exact ⟨rfl,.inr rfl⟩
  ·cases hn
 have hya:a.eval y= .pointer none:=by rw [hyo]; rfl
 obtain ⟨q,hv,hq⟩:∃q,a.eval x= .pointer q∧qB z=q.isSome:=by
  rw [qgF]
  rcases qaN.opt rx with ⟨k1,k2⟩|⟨y2,ad,cs,k1,k2,_⟩
  ·exact ⟨none,k2,by have k1:z=none:=k1; rw [k1]; rfl⟩
  ·exact ⟨some ad,k2,by have k1:z=some y2:=k1; rw [k1]; rfl⟩
 have hg:(eqGuard op t x y (a.eval x) (a.eval y)).run C.P w= .ok () w:=by
  rw [hya,hyo,hv]
  rcases hopc with rfl|rfl <;> simp [eqGuard]
 have hqq:=qoK (w:=w) hu q
 refine qU (v:= .bool (bif qgb op then !(qB z) else qB z)) ?_ (h.dst0 hd ⟨rfl,qaN.ofBool _ _ _⟩ (fun m hm=>by cases hm))
 unfold execOp
 rw [hop]
 simp only [Sem.run_bind,hg,Result.andThen_ok]
 rw [hya,hv,hq]
 rcases hopc with rfl|rfl <;> cases q <;> simp [binOp,hqq,qgb]
theorem qsN (hE:qcc E C.P) (h:qas C σ a.tmps w own) (hp:qcn (sit C σ a.tmps w own) p) {op:BinOp} {t:Nat} {x y:Operand} {b:TypeId} (hop:o.op= .binOp op t x y b) {f:Eff}
  (he:(qeI E p o).run (qA σ)=some f) (hd:∀u∈f.upd,u.s<σ.length) (hc:qdR f.chk):qes C o a w (qv σ f.upd):=by
 unfold qeI at he
 rw [hop] at he
 simp only at he
 split at he
 ·rename_i hn
  simp only [Bool.and_eq_true] at hn
  obtain ⟨e0,hty⟩:∃e0,E.ty t=some (.slice e0):=by
   have:=hn.2
   unfold qpl at this
   split at this
   ·exact ⟨_,by assumption⟩
   ·cases this
  exact qnz hE h hp hop hn.1 hty he hd
 split at he
 ·rename_i hn
  simp only [Bool.and_eq_true] at hn
  have hty:E.ty t=some .err:=by
   have:=hn.2
   unfold qs9 at this
   split at this
   ·assumption
   ·cases this
  exact qnu hE h hp hop hn.1 hty he hd
 split at he
 ·rename_i hn
  simp only [Bool.and_eq_true] at hn
  obtain ⟨e0,hty⟩:∃e0,E.ty t=some (.opt e0):=by
   have:=hn.2
   unfold qul at this
   split at this
   ·exact ⟨_,by assumption⟩
   ·cases this
  exact qnp hE h hp hop hn.1 hty he hd
 obtain ⟨x1,hx,he⟩:=Q.bind_some he
 obtain ⟨y1,hy,he⟩:=Q.bind_some he
 obtain ⟨xr,hxr,he⟩:=Q.bind_some he
 obtain ⟨yr,hyr,he⟩:=Q.bind_some he
 have rx:=qdM h (qaS h hp hx) hxr
 have ry:=qdM h (qaS h hp hy) hyr
 have key:∀(r:AV×List Bool),binE E op t xr yr=some r→qdR r.2→∃v,(binOp op t (a.eval x) (a.eval y)).run C.P w= .ok v w∧(eqGuard op t x y (a.eval x) (a.eval y)).run C.P w= .ok () w∧∃u z,r.1= .val u z∧qaN w (C.free w own) u z v:=by
  intro r hr hcr
  unfold binE at hr
  split at hr
  ·rename_i k m _ k' n _
   split at hr
   ·rename_i hk
    injection hr with hr
    subst hr
    obtain ⟨e1,g1⟩:=qaN.int rx
    obtain ⟨e2,g2⟩:=qaN.int ry
    rw [e1,e2]
    obtain ⟨v,h1,h2⟩:=qvB (P:=C.P) (w:=w) (F:=C.free w own) g1 g2 (by simpa using hk) hcr t
    exact ⟨v,h1,qiY (.inl ⟨_,_,rfl⟩),h2⟩
   ·cases hr
  ·obtain ⟨e1,g1⟩:=qaN.str rx
   obtain ⟨e2,g2⟩:=qaN.str ry
   rw [e1,e2]
   obtain ⟨v,h1,h2⟩:=qvN (P:=C.P) (w:=w) (F:=C.free w own) g1 g2 hr hcr t
   exact ⟨v,h1,qiY (.inr (.inl ⟨_,rfl⟩)),h2⟩
  ·split at hr
   ·rename_i hty
    have hu:=hE.bool t hty
    have e1:=qaN.bool rx
    have e2:=qaN.bool ry
    rw [e1,e2]
    split at hr
    ·injection hr with hr
     subst hr
     exact ⟨_,run_eql_bool w t _ _ hu,qiY (.inr (.inr ⟨_,rfl⟩)),.bool,_,rfl,by rw [qqC]; exact qaN.ofBool _ _ _⟩
    ·injection hr with hr
     subst hr
     exact ⟨_,run_neq_bool w t _ _ hu,qiY (.inr (.inr ⟨_,rfl⟩)),.bool,_,rfl,by rw [qqC]; exact qaN.ofBool _ _ _⟩
    ·cases hr
   ·cases hr
  ·split at hr
   case isFalse=>cases hr
   rename_i hcond
   obtain ⟨c1,c2,c3⟩:=hcond
   have hq:=hE.eq t _ c2 c3
   split at hr
   case h_2=>cases hr
   rename_i b' hb'
   obtain ⟨e1,e2⟩:=Ty.as_some hb'
   subst e1
   have e2:_=b':=e2
   subst e2
   obtain ⟨r1,ra,_⟩:=rx
   obtain ⟨r2,rb,_⟩:=ry
   obtain ⟨xs,hxs⟩:=ra c1
   obtain ⟨ys,hys⟩:=rb c1
   rw [hxs] at r1
   rw [hys] at r2
   have hrun:=hq.run w _ _ _ _ _ _ r1 r2
   have mk:∀zs:Array Value,mkV _ (Value.agg zs).cells.toList=Value.agg zs:=fun zs=>by
    rw [mkV,if_pos c1]
    simp [Value.cells]
   rw [mk,mk] at hrun
   rw [hxs,hys]
   split at hr
   ·injection hr with hr
    subst hr
    exact ⟨_,by rw [run_eql_struct,hrun]; rfl,run_eqGuard_agg w _ _ _ _ _ _ hq.guard,.bool,_,rfl,qaN.ofBool _ _ _⟩
   ·injection hr with hr
    subst hr
    exact ⟨_,by rw [run_neq_struct,hrun]; rfl,run_eqGuard_agg w _ _ _ _ _ _ hq.guard,.bool,_,rfl,qaN.ofBool _ _ _⟩
   ·cases hr
 split at he
 ·rename_i r c hr
  have:=Q.ret_some he
  subst this
  obtain ⟨v,h1,h2,u,z,h4,h5⟩:=key (r,c) hr hc
  subst h4
  refine qbg h ?_ hd h5
  unfold execOp
  rw [hop]
  simp [Sem.run_bind,h2,h1]
 ·cases he
theorem qtq (h:qas C σ a.tmps w own) (hp:qcn (sit C σ a.tmps w own) p) {op:UnOp} {t:Nat} {x:Operand} (hop:o.op= .unOp op t x) {f:Eff}
  (he:(qeI E p o).run (qA σ)=some f) (hd:∀u∈f.upd,u.s<σ.length) (hc:qdR f.chk):qes C o a w (qv σ f.upd):=by
 unfold qeI at he
 rw [hop] at he
 obtain ⟨x1,hx,he⟩:=Q.bind_some he
 obtain ⟨xr,hxr,he⟩:=Q.bind_some he
 have rx:=qdM h (qaS h hp hx) hxr
 split at he
 ·rename_i av hav
  have:=qV he
  subst this
  unfold unE at hav
  split at hav
  ·obtain ⟨e1,g1⟩:=qaN.int rx
   injection hav with hav
   subst hav
   refine qbg h ?_ hd (qaN.ofInt _ _ (by rw [qrB]; exact qdJ _ _))
   unfold execOp
   rw [hop]
   simp [e1,Op.unary,Op.intArith,qrB]
  ·have e1:=qaN.bool rx
   injection hav with hav
   subst hav
   refine qbg h ?_ hd (qaN.ofBool _ _ _)
   unfold execOp
   rw [hop]
   simp [e1,Op.unary]
  ·obtain ⟨e1,g1⟩:=qaN.int rx
   injection hav with hav
   subst hav
   refine qbg h ?_ hd (qaN.ofInt _ _ (by rw [qlX]; exact qdJ _ _))
   unfold execOp
   rw [hop]
   simp [e1,Op.unary,Op.intBits,qlX]
  ·cases hav
 ·cases he
theorem qps (hE:qcc E C.P) (h:qas C σ a.tmps w own) (hp:qcn (sit C σ a.tmps w own) p) {s d:Nat} {x:Operand} (hop:o.op= .convert s d x) {f:Eff}
  (he:(qeI E p o).run (qA σ)=some f) (hd:∀u∈f.upd,u.s<σ.length) (hc:qdR f.chk):qes C o a w (qv σ f.upd):=by
 unfold qeI at he
 rw [hop] at he
 obtain ⟨x1,hx,he⟩:=Q.bind_some he
 have ho:=qaS h hp hx
 unfold convE at he
 split at he
 ·rename_i k0 k h1 h2
  obtain ⟨n,hn,he⟩:=Q.bind_some he
  have:=qV he
  subst this
  obtain ⟨e1,g1⟩:=qeK h ho hn
  refine qbg h ?_ hd (qaN.ofInt _ _ (by rw [qkb]; exact qdJ _ _))
  unfold execOp
  rw [hop]
  simp [e1,convert,run_underlying (hE.int s _ h1),run_underlying (hE.int d _ h2),Conv.intToInt,qkb]
 ·rename_i h1 h2
  obtain ⟨n,hn,he⟩:=Q.bind_some he
  have:=qV he
  subst this
  have rx:=qdx h ho hn
  obtain ⟨e1,g1⟩:=qaN.str rx
  refine qbg h ?_ hd (qaN.ofStr _ _ g1)
  unfold execOp
  rw [hop]
  simp [e1,convert,run_underlying (hE.str s h1),run_underlying (hE.str d h2)]
 ·rename_i h1 h2
  split at he
  case isFalse=>cases he
  rename_i h3
  obtain ⟨n,hn,he⟩:=Q.bind_some he
  have:=qV he
  subst this
  have rx:=qdx h ho hn
  have hu:=(hE.elem s _ h1).under
  have hel:=hE.int _ _ h3
  have hst:=hE.str d h2
  rcases qaN.slice rx with ⟨e1,e2⟩|⟨ad,cap,e1,e2,e3,e4⟩
  ·have e2:n.1=[]:=e2
   refine qbg (v:= .string ⟨List.toArray []⟩) h ?_ hd ?_
   ·unfold execOp
    rw [hop]
    simp only [e1,Sem.run_bind]
    rw [run_convert_bytes_nil w s _ hu hel _ _ d hst]
    rfl
   ·rw [e2,qmX]
    exact qaN.ofStr _ _ (Nat.zero_le _)
  ·refine qbg (v:= .string ⟨(qu0 n.1).toArray⟩) h ?_ hd (qaN.ofStr _ _ ?_)
   ·have hcs:qhf w ad (n.1.map (Value.int .u8)):=by
     intro j u hj
     rw [List.getElem?_map] at hj
     obtain ⟨z,hz,rfl⟩:=Option.map_eq_some_iff.1 hj
     obtain ⟨_,_,cs,q1,q2⟩:=e4 j z hz
     have q2:cs=[.int .u8 z]:=q2.1
     subst q2
     have:=q1 0 _ rfl
     rw [qaQ] at this
     simpa [Ty.size] using this
    have hl:=run_loadCells_list (P:=C.P) w ad _ hcs
    rw [List.length_map] at hl
    unfold execOp
    rw [hop]
    simp only [e1,Sem.run_bind]
    rw [run_convert_bytes_string w s d _ (some ad) _ cap hu hel hst,run_bytesToString w ad _ cap n.1 hl,foldl_push_bytes]
    rw [qmX]
    simp [ByteArray.empty,ByteArray.emptyWithCapacity]
    rfl
   ·rw [qmX,List.length_map]
    exact Nat.le_trans e2 e3
 ·rename_i h1 h2
  split at he
  case isFalse=>cases he
  rename_i h3
  obtain ⟨n,hn,he⟩:=Q.bind_some he
  have:=qV he
  subst this
  obtain ⟨e1,g1⟩:=qaN.str (qdx h ho hn)
  have hu:=(hE.elem d _ h2).under
  have hel:=hE.int _ _ h3
  have hss:(⟨n.1.toArray⟩:ByteArray).size=n.1.length:=by simp [ByteArray.size]
  have hrun:=Lib.run_convert_string_bytes (P:=C.P) w s d _ ⟨n.1.toArray⟩ (hE.str s h1) hu hel
  have hsize:=Lib.bytesWorld_size w (E.etid d) ⟨n.1.toArray⟩
  have hold:=Lib.bytesWorld_at_old w (E.etid d) ⟨n.1.toArray⟩
  have hkept:qcQ (fun _=>False) w (Lib.bytesWorld w (E.etid d) ⟨n.1.toArray⟩):=⟨rfl,rfl,rfl,by rw [hsize]; omega,fun k hk _=>hold k hk⟩
  refine qU (v:= .slice (some ⟨w.heap.size,0,none⟩) n.1.length (grownCap w n.1.length 0 (E.etid d))) (w':=Lib.bytesWorld w (E.etid d) ⟨n.1.toArray⟩) ?_ (h.dst (bs:=[]) hkept hd (fun b hb=>by cases hb) List.nodup_nil ⟨rfl,?_⟩ (fun m hm=>by cases hm))
  ·unfold execOp
   rw [hop]
   simp only [e1,Sem.run_bind,hrun,hss]
   rfl
  ·have hl:(qfi n.1).length=n.1.length:=by rw [qdN]; simp
   refine qaN.ofSlice (.inr ⟨⟨w.heap.size,0,none⟩,_,by rw [hl],by rw [hl]; exact grownCap_ge _ _ _ _,grownCap_le_maxLen _ _ _ _ g1,fun i x hi=> ?_⟩)
   refine ⟨⟨.inr (Nat.le_refl _),by show w.heap.size<(Lib.bytesWorld w (E.etid d) ⟨n.1.toArray⟩).heap.size; rw [hsize]; omega,by simp⟩,by show w.heap.size<(Lib.bytesWorld w (E.etid d) ⟨n.1.toArray⟩).heap.size; rw [hsize]; omega,[.int .u8 x],?_,rfl,?_⟩
   ·rw [qdN,List.getElem?_map] at hi
    obtain ⟨z,hz,rfl⟩:=Option.map_eq_some_iff.1 hi
    have hlt:=(List.getElem?_eq_some_iff.1 hz).1
    intro j u hj
    cases j with
    |succ j=>simp at hj
    |zero=>
     simp at hj
     subst hj
     have:=Lib.bytesWorld_cell w (E.etid d) ⟨n.1.toArray⟩ i (by rw [hss]; exact hlt)
     have ea:((⟨w.heap.size,0,none⟩:Addr).add (i * (Ty.int .u8).size)).add 0=⟨w.heap.size,i,none⟩:=by
      rw [qaQ,qai]
      simp [Ty.size]
     rw [ea,qg4]
     refine Eq.trans this ?_
     simp [List.getD,hz]
   ·rw [qdN,List.getElem?_map] at hi
    obtain ⟨z,hz,rfl⟩:=Option.map_eq_some_iff.1 hi
    rw [qg4]
    have:=z.toNat_lt
    simp [IntKind.has,IntKind.min,IntKind.max,IntKind.signed,IntKind.bits]
    omega
 ·cases he
theorem TyB.run_part {P:Program} {t:Nat} {u:Ty} (h:TyB P t u) {cs:List Value} {off:Nat} (hl:off+u.size≤cs.length):(part t cs.toArray off).run P w= .ok (mkV u ((cs.drop off).take u.size)) w:=by
 simp only [part,Sem.run_bind,h.run_isAgg,Result.andThen_ok]
 cases hu:u.agg with
 |true=>
  simp only [if_true,Sem.run_bind,h.run_sizeOf,Result.andThen_ok,Sem.run_pure,mkV,hu]
  congr 2
  apply Array.ext'
  simp [List.extract_eq_take_drop]
 |false=>
  have hs:u.size=1:=by cases u <;> simp [Ty.agg] at hu <;> rfl
  have hlt:off<cs.length:=by omega
  simp only [Bool.false_eq_true,if_false,mkV,hu,hs]
  rw [show cs.toArray[off]? =some cs[off] from by simp [hlt],List.drop_eq_getElem_cons hlt]
  simp only [Sem.run_pure]
  rfl
theorem qsF (hE:qcc E C.P) (h:qas C σ a.tmps w own) (hp:qcn (sit C σ a.tmps w own) p) {t:Nat} {x ix:Operand} (hop:o.op= .index t x ix) {f:Eff}
  (he:(qeI E p o).run (qA σ)=some f) (hd:∀u∈f.upd,u.s<σ.length) (hc:qdR f.chk):qes C o a w (qv σ f.upd):=by
 unfold qeI at he
 rw [hop] at he
 obtain ⟨x1,hx,he⟩:=Q.bind_some he
 obtain ⟨i1,hi,he⟩:=Q.bind_some he
 obtain ⟨i,hn,he⟩:=Q.bind_some he
 obtain ⟨xr,hxr,he⟩:=Q.bind_some he
 have rx:=qdM h (qaS h hp hx) hxr
 obtain ⟨e2,g2⟩:=qeK h (qaS h hp hi) hn
 split at he
 ·rename_i xs _
  split at he
  ·rename_i hty
   have:=Q.ret_some he
   subst this
   obtain ⟨e1,g1⟩:=qaN.str rx
   have hb:0≤i.2∧i.2<xs.length:=by
    have:=hc _ (List.mem_singleton.2 rfl)
    simp [qdq,qt] at this
    exact this
   have hlt:i.2.toNat<xs.length:=by omega
   refine qbg h (v:= .int .u8 (qc6 (qk xs i.2 0))) ?_ hd (qaN.ofInt _ _ ?_)
   ·unfold execOp
    rw [hop]
    simp only [e1,e2,Sem.run_bind]
    rw [run_index_string w t _ i.1 i.2 (hE.str t hty),dif_pos (by exact ⟨hb.1,by show i.2<(xs.toArray.size:Int); simpa using hb.2⟩)]
    have:qk xs i.2 0=xs[i.2.toNat]:=qhn (List.getElem?_eq_getElem hlt)
    simp only [Result.andThen_ok,Sem.run_pure,qg4,this]
    rfl
   ·have:=(qk xs i.2 0).toNat_lt
    simp [IntKind.has,IntKind.min,IntKind.max,IntKind.signed,IntKind.bits,qg4]
    omega
  ·cases he
 ·rename_i n e xs
  split at he
  case isFalse=>cases he
  rename_i hty
  have:=Q.ret_some he
  subst this
  have hb:0≤i.2∧i.2<(n:Int):=by
   have:=hc _ (List.mem_singleton.2 rfl)
   simp [qdq] at this
   exact this
  obtain ⟨r1,r2,_⟩:=rx
  obtain ⟨cs,hcs⟩:=r2 rfl
  have r1:Rep w _ (.arr n e) xs (a.eval x).cells.toList:=r1
  rw [hcs] at r1
  have r1:Rep w (C.free w own) (.arr n e) xs cs.toList:=by
   refine r1.keep fun b hb hs=>⟨?_,hs,rfl⟩
   rcases hb with hb|⟨s,hs,_⟩
   ·exact hb
   ·cases hs
  obtain ⟨z,k1,k2,k3⟩:=r1.elem (i:=i.2.toNat) (by omega)
  refine qbg h (v:=mkV e ((cs.toList.drop (i.2.toNat * e.size)).take e.size)) ?_ hd (.ofCells (by rw [qhn k1]; exact k2))
  unfold execOp
  rw [hop]
  have hsz:=congrFun (hE.size t e (.inr ⟨n,hty.1⟩)) w
  have hpt:=(hE.ty _ _ hty.2).run_part (w:=w) (cs:=cs.toList) (off:=i.2.toNat * e.size) k3
  simp only [Array.toArray_toList] at hpt
  simp only [Sem.run_bind,Instr.index,e2,asIntOf,Sem.run_pure,Result.andThen_ok,run_underlying (hE.arr t n e hty.1),hcs]
  rw [if_pos hb]
  simp only [Sem.run_bind,hsz,Result.andThen_ok,hpt,Sem.run_pure]
 ·cases he
end
end Go.Vi
namespace Go.Vi
open Go.RowKit
section
variable {C:Ctx} {E:Env} {σ:St} {tm:Array Value} {a:Act} {w w':World} {own:Nat→List Nat} {o:Oper} {p:qh5} [Tabbed E C]
def qpP (v:Option Value) (l d:Int):Prop:=(v=none∧l=d)∨∃k,v=some (.int k l)
theorem qeT (h:qas C σ a.tmps w own) {b:Option Op1} {v:Option Value} (hb:(b=none∧v=none)∨∃b' v',b=some b'∧v=some v'∧qcD (sit C σ a.tmps w own) b' v') {d l:Int} (he:(qhH b d).run (qA σ)=some l):qpP v l d:=by
 unfold qhH at he
 rcases hb with ⟨rfl,rfl⟩|⟨b',v',rfl,rfl,ho⟩
 ·have:=Q.ret_some he
  exact .inl ⟨rfl,this.symm⟩
 ·obtain ⟨i,hi,he⟩:=Q.bind_some he
  have:=Q.ret_some he
  obtain ⟨e1,_⟩:=qeK h ho hi
  exact .inr ⟨i.1,by rw [e1,this]⟩
theorem qor {P:Program} {t:Nat} (ht:P.underlying t=some .string) {s:ByteArray} {vl vh:Option Value} {l h:Int} (hl:qpP vl l 0) (hh:qpP vh h (s.size:Int)) (h0:0≤l) (h1:l≤h) (h2:h≤s.size):
  (Instr.sliceAt t (.string s) vl vh none).run P w= .ok (.string (s.extract l.toNat h.toNat)) w:=by
 rw [run_sliceAt_string w t _ _ _ _ ht]
 rcases hl with ⟨rfl,rfl⟩|⟨k,rfl⟩ <;> rcases hh with ⟨rfl,rfl⟩|⟨k',rfl⟩
 ·exact run_slice_string_all w t s ht
 ·exact run_slice_string_h w t s ht k' h h1 h2
 ·exact run_slice_string_l w t s ht k l h0 h1
 ·exact run_slice_string w t s k k' l h ht h0 h1 h2
theorem qfn {P:Program} {t e:Nat} (ht:P.underlying t=some (.slice e)) {sz:Nat} (hs:(sizeOf e).run P=fun w=> .ok sz w) {ad:Option Addr} {len cap:Nat} (hlc:len≤cap) {vl vh:Option Value} {l h:Int} (hl:qpP vl l 0) (hh:qpP vh h (len:Int)) (h0:0≤l) (h1:l≤h) (h2:h≤len):
  (Instr.sliceAt t (.slice ad len cap) vl vh none).run P w= .ok (sliced ad l.toNat h.toNat cap sz) w:=by
 have he:P.elem t=e:=by simp [Program.elem,ht]
 have ht':P.underlying t=some (.slice (P.elem t)):=by rw [he]; exact ht
 rw [run_sliceAt_slice w t _ _ _ _ ht']
 have hs':∀w,(sizeOf (P.elem t)).run P w= .ok sz w:=fun w=>by rw [he,hs]
 rcases hl with ⟨rfl,rfl⟩|⟨k,rfl⟩ <;> rcases hh with ⟨rfl,rfl⟩|⟨k',rfl⟩
 ·rw [run_slice_all w t ad len cap ht',hs']; rfl
 ·rw [run_slice_h w t ad len cap ht' k' h h1 (by omega),hs']; rfl
 ·rw [run_slice_l w t ad len cap ht' k l h0 h1,hs']; rfl
 ·rw [run_slice_lh w t ad len cap ht' k k' l h h0 h1 (by omega),hs']; rfl
theorem qih {α:Type} {xs:List α} {l h:Int} {i:Nat} {x:α} (hx:(qaB xs l h)[i]? =some x):xs[l.toNat+i]? =some x:=by
 rw [qcF] at hx
 rw [List.getElem?_drop,List.getElem?_take] at hx
 split at hx
 ·exact hx
 ·cases hx
theorem qhy {α:Type} {xs:List α} {l h:Int} (h0:0≤l) (h1:l≤h) (h2:h≤xs.length):(qaB xs l h).length=h.toNat - l.toNat:=by
 simp [qcF]; omega
theorem qeb.slice {α:Type} {F:Nat→Prop} {R:α→List Value→Prop} {sz:Nat} {xs:List α} {v:Value} (hr:qeb w F R sz xs v) {l h:Int} (h0:0≤l) (h1:l≤h) (h2:h≤xs.length):
  ∃ad len cap,v= .slice ad len cap∧len=xs.length∧len≤cap∧qeb w F R sz (qaB xs l h) (sliced ad l.toNat h.toNat cap sz):=by
 have hlen:=qhy (xs:=xs) h0 h1 h2
 rcases hr with ⟨rfl,rfl⟩|⟨ad,cap,rfl,hc,hm,hx⟩
 ·refine ⟨none,0,0,rfl,rfl,Nat.le_refl _,.inl ⟨?_,?_⟩⟩
  ·simp at h2
   have e1:l.toNat=0:=by omega
   have e2:h.toNat=0:=by omega
   simp [sliced,e1,e2]
  ·simp [qcF]
 ·refine ⟨some ad,xs.length,cap,rfl,rfl,hc,?_⟩
  by_cases hcl:cap=l.toNat
  ·have e1:(qaB xs l h)=[]:=List.eq_nil_of_length_eq_zero (by omega)
   refine .inr ⟨ad,0,?_,by rw [e1]; simp,by simp [maxLen],fun i x hi=>by rw [e1] at hi; cases hi⟩
   rw [e1]
   simp [sliced,hcl]
   omega
  ·refine .inr ⟨ad.add (l.toNat * sz),cap - l.toNat,?_,by omega,by omega,fun i x hi=> ?_⟩
   ·simp [sliced,hcl,hlen]
   ·obtain ⟨k1,k2,cs,k3,k4⟩:=hx _ _ (qih hi)
    refine ⟨by rw [q8]; exact k1,by rw [q8]; exact k2,cs,fun j u hj=> ?_,k4⟩
    rw [qaQ,qaQ,←Nat.add_assoc,←Nat.add_mul,←qaQ]
    exact k3 j u hj
theorem qak.form {F:Nat→Prop} {et:Nat} {e:Ty} {xs:List e.den} {v:Value} {bs:List Nat} (hr:qak w F et e xs v bs):∃ad cap,v= .slice ad xs.length cap∧xs.length≤cap:=by
 obtain ⟨cells,ho,_,_⟩:=hr
 rcases ho.2 with ⟨h1,h2⟩|⟨g,cap,cur,hv,_,_,hnc,_⟩
 ·exact ⟨none,0,by rw [h1,h2],by omega⟩
 ·exact ⟨some ⟨g,0,none⟩,cap,hv,hnc⟩
theorem quf (h:qas C σ a.tmps w own) {x1:Op1} {v:Value} (ho:qcD (sit C σ a.tmps w own) x1 v) {q:Site} (he:(qta x1).run (qA σ)=some q):
  q.v=(qA σ q.s).1∧qf1 (sit C σ a.tmps w own) q.s q.fo v∧∃bs,qak w (C.free w own) q.et q.e q.xs v bs:=by
 obtain ⟨os,ov,oa⟩:=x1
 unfold qta at he
 split at he
 ·rename_i s et e xs h1 h2
  simp only at h1 h2
  subst h1; subst h2
  have:=Q.ret_some he
  subst this
  exact ⟨ho.2.1,ho.1.symm,_,ho.2.2⟩
 ·rename_i _ s v0 h2
  simp only at h2
  subst h2
  rw [Q.run_get] at he
  split at he
  case isFalse=>cases he
  rename_i hv
  split at he
  case h_2=>cases he
  rename_i et e xs ha
  have:=Q.ret_some he
  subst this
  have hval:a.tmps.getD s undef=v:=(ho.unowned rfl).2 hv
  have hat:=h.at_ s
  rw [ha,hval] at hat
  exact ⟨hv.symm,hval,_,hat⟩
 ·rename_i _ s v0 off u h2
  simp only at h2
  subst h2
  split at he
  case isFalse=>cases he
  rename_i hu
  rw [Q.run_get] at he
  split at he
  case isFalse=>cases he
  rename_i hv
  split at he
  case h_2=>cases he
  rename_i r ha
  have:=Q.ret_some he
  subst this
  obtain ⟨b,k1,k2,k3⟩:=(ho.unowned rfl).2 hv
  have hh:qf1 (sit C σ a.tmps w own) s (some off) v:=by
   refine ⟨b,k1,k2,?_⟩
   rcases k3 with ⟨k3,_⟩|⟨_,k3⟩
   ·rw [hu] at k3; cases k3
   ·exact k3
  obtain ⟨_,_,b2,_,q1,_⟩:=h.rowAt ha hh
  exact ⟨hv.symm,hh,b2,q1⟩
 ·cases he
theorem qic (hE:qcc E C.P) (h:qas C σ a.tmps w own) {t:Nat} {x1:Op1} {v:Value} (hx:qcD (sit C σ a.tmps w own) x1 v) {lo hi:Option Op1} {vl vh:Option Value}
  (hl:(lo=none∧vl=none)∨∃b' v',lo=some b'∧vl=some v'∧qcD (sit C σ a.tmps w own) b' v') (hh:(hi=none∧vh=none)∨∃b' v',hi=some b'∧vh=some v'∧qcD (sit C σ a.tmps w own) b' v')
  (hr:(execOp a.eval o).run C.P w=((Instr.sliceAt t v vl vh none).run C.P w).andThen fun v w=> .ok (.value v) w) {f:Eff}
  (he:(qmM E o t x1 lo hi).run (qA σ)=some f) (hd:∀u∈f.upd,u.s<σ.length) (hc:qdR f.chk):qes C o a w (qv σ f.upd):=by
 unfold qmM at he
 obtain ⟨r,hxr,he⟩:=Q.bind_some he
 have rx:=qdM h hx hxr
 have chk:∀ {l h n:Int},qdR [inS l h n]→0≤l∧l≤h∧h≤n:=fun {l h n} hc=>by
  have:=hc _ (List.mem_singleton.2 rfl)
  simpa [qk9] using this
 split at he
 ·rename_i xs _
  obtain ⟨l,h1,he⟩:=Q.bind_some he
  obtain ⟨hh',h2,he⟩:=Q.bind_some he
  split at he
  ·rename_i hty
   have:=Q.ret_some he
   subst this
   have b1:=qeT h hl h1
   have b2:=qeT h hh h2
   obtain ⟨c1,c2,c3⟩:=chk hc
   obtain ⟨e1,g1⟩:=qaN.str rx
   refine qbg h (v:= .string ⟨(qaB xs l hh').toArray⟩) ?_ hd (qaN.ofStr _ _ ?_)
   ·have hsz:((⟨xs.toArray⟩:ByteArray).size:Int)=qr xs:=by simp [qt,ByteArray.size]
    rw [hr,e1,qor (w:=w) (hE.str t hty) b1 (h:=hh') (by rw [hsz]; exact b2) c1 c2 (by rw [hsz]; exact c3)]
    rw [ByteArray.extract_mk]
    simp [qcF,List.drop_take]
   ·rw [qhy c1 c2 (by rw [qt] at c3; exact c3)]
    have g1:xs.length≤maxLen:=g1
    simp [qt] at c3
    omega
  ·cases he
 ·rename_i e xs
  obtain ⟨l,h1,he⟩:=Q.bind_some he
  obtain ⟨hh',h2,he⟩:=Q.bind_some he
  split at he
  ·rename_i hty
   have:=Q.ret_some he
   subst this
   have b1:=qeT h hl h1
   have b2:=qeT h hh h2
   obtain ⟨c1,c2,c3⟩:=chk hc
   have rs:=qaN.slice rx
   obtain ⟨ad,len,cap,e1,e2,e3,e4⟩:=rs.slice c1 c2 (by rw [qt] at c3; exact c3)
   subst e1
   subst e2
   have hem:=hE.elem t e hty
   refine qbg h (v:=sliced ad l.toNat hh'.toNat cap e.size) ?_ hd ((qaN.ofSlice e4).mono fun b hb _=>qnX hb)
   rw [hr,qfn (w:=w) hem.under (hE.size t e (.inl hty)) e3 b1 (by simpa [qt] using b2) c1 c2 (by simpa [qt] using c3)]
   rfl
  ·cases he
 ·obtain ⟨q,h0,he⟩:=Q.bind_some he
  obtain ⟨l,h1,he⟩:=Q.bind_some he
  obtain ⟨hh',h2,he⟩:=Q.bind_some he
  split at he
  case isFalse=>cases he
  rename_i hty
  have:=Q.ret_some he
  subst this
  have b1:=qeT h hl h1
  have b2:=qeT h hh h2
  obtain ⟨c1,c2,c3⟩:=chk hc
  obtain ⟨s1,s2,bs,s3⟩:=quf h hx h0
  obtain ⟨ad,cap,e1,e2⟩:=s3.form
  subst e1
  rw [qt] at c3 b2
  have hrun:=qfn (w:=w) (hE.elem t q.e hty).under (hE.size t q.e (.inl hty)) (ad:=ad) e2 b1 b2 c1 c2 c3
  have hr2:(execOp a.eval o).run C.P w= .ok (.value (sliced ad l.toNat hh'.toNat cap q.e.size)) w:=by rw [hr,hrun]; rfl
  refine qU hr2 (h.dst0 hd ⟨rfl,fun _=>⟨ad,q.xs.length,cap,s2,c1,c2,c3,rfl⟩⟩ (fun m hm=> ?_))
  simp only [AV.mentions,List.mem_singleton] at hm
  rw [hm,s1]
  exact Nat.le_refl _
 ·cases he
theorem qak.front {F:Nat→Prop} {et:Nat} {e:Ty} {xs:List e.den} {v:Value} {bs:List Nat} (hr:qak w F et e xs v bs) {h:Int} (h1:0≤h) (h2:h≤xs.length):
  ∃ad cap,v= .slice ad xs.length cap∧xs.length≤cap∧qak w F et e (qaB xs 0 h) (sliced ad 0 h.toNat cap e.size) bs:=by
 have hlen:=qhy (xs:=xs) (l:=0) (Int.le_refl _) h1 h2
 obtain ⟨cells,hc,hbs,hx⟩:=hr
 have hx':∀(i:Nat) (x:e.den),(qaB xs 0 h)[i]? =some x→Rep w F e x (((cells.take (h.toNat * e.size)).drop (i * e.size)).take e.size):=by
  intro i x hi
  have hlt:i<h.toNat:=by
   have:=(List.getElem?_eq_some_iff.1 hi).1
   rw [hlen] at this; simpa using this
  have:=hx _ _ (qih hi)
  rw [Int.toNat_zero,Nat.zero_add] at this
  have e1:((cells.take (h.toNat * e.size)).drop (i * e.size)).take e.size=(cells.drop (i * e.size)).take e.size:=by
   have hle:i * e.size+e.size≤h.toNat * e.size:=by
    have:=Nat.mul_le_mul_right e.size (show i+1≤h.toNat by omega)
    rw [Nat.add_mul,Nat.one_mul] at this
    exact this
   rw [List.drop_take,List.take_take,Nat.min_eq_left (by omega)]
  rw [e1]
  exact this
 rcases hc.2 with ⟨k1,k2⟩|⟨g,cap,cur,k1,k2,k3,k4,k5,k6,k7⟩
 ·have hxn:xs=[]:=List.eq_nil_of_length_eq_zero k2
  subst hxn
  refine ⟨none,0,k1,Nat.le_refl _,?_⟩
  have h0:h.toNat=0:=by simp at h2; omega
  have e1:qaB ([]:List e.den) 0 h=[]:=by rw [qcF]; simp
  rw [e1,h0]
  have e2:sliced none 0 0 0 e.size= .slice none 0 0:=by simp [sliced]
  rw [e2,hbs,k1]
  exact qak.nil_ _ _ _ _
 ·refine ⟨some ⟨g,0,none⟩,cap,k1,k4,?_⟩
  have e2:sliced (some ⟨g,0,none⟩) 0 h.toNat cap e.size= .slice (some ⟨g,0,none⟩) h.toNat cap:=by
   simp [sliced,Addr.add]
  rw [e2]
  have hhl:h.toNat≤xs.length:=by omega
  refine ⟨cells.take (h.toNat * e.size),⟨?_,.inr ⟨g,cap,cur,?_,k2,k3,?_,k5,k6,?_⟩⟩,by rw [hbs,k1]; rfl,hx'⟩
  ·rw [List.length_take,hc.1,hlen]
   simp only [Int.toNat_zero,Nat.sub_zero]
   exact Nat.min_eq_left (Nat.mul_le_mul_right _ hhl)
  ·rw [hlen]; simp
  ·rw [hlen]; simp; omega
  ·rw [hlen]
   simp only [Int.toNat_zero,Nat.sub_zero]
   rw [←k7,List.take_take,Nat.min_eq_left (Nat.mul_le_mul_right _ hhl)]
theorem qpk {E:Env} {tid:Nat} {x:Operand} {o1:Op1} (ho:(opd E p tid x).run (qA σ)=some o1):∀s,o1.s=some s→o1.a≠ .undef→s<σ.length:=by
 intro s hs ha
 unfold opd at ho
 split at ho
 ·rename_i t
  rw [Q.run_get] at ho
  have:=Q.ret_some ho
  subst this
  have hs:t=s:=by injection hs
  subst hs
  by_cases h:t<σ.length
  ·exact h
  ·have:qA σ t=(0,.undef):=by simp [qA,List.getD,List.getElem?_eq_none (Nat.le_of_not_lt h)]
   rw [this] at ha
   exact absurd rfl ha
 ·split at ho
  ·have:=Q.ret_some ho
   subst this
   cases hs
  ·cases ho
 ·have:=Q.ret_some ho
  subst this
  cases hs
 ·split at ho
  ·have:=Q.ret_some ho
   subst this
   cases hs
  ·cases ho
theorem qwk (hE:qcc E C.P) (h:qas C σ a.tmps w own) {t s d:Nat} {et:Nat} {e:Ty} {xs:List e.den} {v:Value} (hrow:qak w (C.free w own) et e xs v (own s)) {hi:Option Op1} {vh:Option Value}
  (hh:(hi=none∧vh=none)∨∃b' v',hi=some b'∧vh=some v'∧qcD (sit C σ a.tmps w own) b' v')
  (hr:(execOp a.eval o).run C.P w=((Instr.sliceAt t v none vh none).run C.P w).andThen fun v w=> .ok (.value v) w) (hdst:o.dst=some d) (hne:d≠s) (hty:E.ty t=some (.slice e)) {l:Int} (h3:(qhH hi (qr xs)).run (qA σ)=some l)
  (hds:d<σ.length) (hss:s<σ.length) (hc:qdR [inS 0 l (qr xs)]):qes C o a w (qv σ [⟨s,true,.undef⟩,⟨d,true,.own et e (qaB xs 0 l)⟩]):=by
 have b2:=qeT h hh h3
 obtain ⟨c1,c2⟩:0≤l∧l≤qr xs:=by
  have:=hc _ (List.mem_singleton.2 rfl)
  have:0≤(0:Int)∧0≤l∧l≤qr xs:=by simpa [qk9] using this
  omega
 have c2':l≤xs.length:=by rw [qt] at c2; exact c2
 obtain ⟨ad,cap,k1,k2,k3⟩:=qak.front hrow c1 c2'
 have hsz:(sizeOf (E.etid t)).run C.P=fun w=> .ok e.size w:=hE.size t e (.inl hty)
 have hrun:=qfn (w:=w) (hE.elem t e hty).under hsz (ad:=ad) k2 (vl:=none) (.inl ⟨rfl,rfl⟩) (by rw [qt] at b2; exact b2) (Int.le_refl _) c1 c2'
 have hr2:(execOp a.eval o).run C.P w= .ok (.value (sliced ad 0 l.toNat cap e.size)) w:=by
  rw [hr,k1,hrun]; rfl
 refine qU hr2 ?_
 rw [qjt a hdst]
 exact h.mut hds [s] (fun s' hs'=>by simp at hs'; subst hs'; exact ⟨hss,fun e=>hne e.symm⟩) (qcQ.refl _ _) (fun b hb=> .inr (.inr ⟨s,by simp,hb⟩)) (h.nodup s) k3 rfl
theorem qtO (hE:qcc E C.P) (h:qas C σ a.tmps w own) {t:Nat} {x1:Op1} {v:Value} (hx:qcD (sit C σ a.tmps w own) x1 v) (hs:∀s,x1.s=some s→x1.a≠ .undef→s<σ.length) {hi:Option Op1} {vh:Option Value}
  (hh:(hi=none∧vh=none)∨∃b' v',hi=some b'∧vh=some v'∧qcD (sit C σ a.tmps w own) b' v')
  (hr:(execOp a.eval o).run C.P w=((Instr.sliceAt t v none vh none).run C.P w).andThen fun v w=> .ok (.value v) w) {q:Q Eff} (hq:cutE E o t x1 hi=some q) {f:Eff}
  (he:q.run (qA σ)=some f) (hd:∀u∈f.upd,u.s<σ.length) (hc:qdR f.chk):qes C o a w (qv σ f.upd):=by
 obtain ⟨os,ov,oa⟩:=x1
 have chk:∀ {h n:Int},qdR [inS 0 h n]→0≤h∧h≤n:=fun {h n} hc=>by
  have:=hc _ (List.mem_singleton.2 rfl)
  have:0≤(0:Int)∧0≤h∧h≤n:=by simpa [qk9] using this
  omega
 unfold cutE at hq
 split at hq
 ·rename_i s et e xs d h1 h2 hdst
  simp only at h1 h2
  subst h1; subst h2
  split at hq
  case isFalse=>cases hq
  rename_i hcond
  obtain ⟨hne,hty⟩:=hcond
  injection hq with hq
  subst hq
  obtain ⟨l,h3,he⟩:=Q.bind_some he
  have:=Q.ret_some he
  subst this
  exact qwk hE h hx.2.2 hh hr hdst hne hty h3 (hd ⟨d,true,.own et e (qaB xs 0 l)⟩ (by simp)) (hd ⟨s,true,.undef⟩ (by simp)) hc
 ·rename_i _ et e h2
  simp only at h2
  subst h2
  split at hq
  case isFalse=>cases hq
  rename_i hty
  injection hq with hq
  subst hq
  obtain ⟨l,h3,he⟩:=Q.bind_some he
  have:=Q.ret_some he
  subst this
  have b2:=qeT h hh h3
  obtain ⟨c1,c2⟩:=chk hc
  have hv:v= .slice none 0 0:=(hx.unowned rfl).2
  have hsz:(sizeOf (E.etid t)).run C.P=fun w=> .ok e.size w:=hE.size t e (.inl hty)
  have hrun:=qfn (w:=w) (hE.elem t e hty).under hsz (ad:=none) (Nat.le_refl 0) (vl:=none) (.inl ⟨rfl,rfl⟩) b2 (Int.le_refl _) c1 c2
  have h0:l.toNat=0:=by omega
  have hr2:(execOp a.eval o).run C.P w= .ok (.value (.slice none 0 0)) w:=by
   rw [hr,hv,hrun,h0]; simp [sliced]
  exact qU hr2 (h.dst0 hd ⟨rfl,rfl⟩ (fun m hm=>by cases hm))
 ·rename_i _ s v0 d h2 hdst
  simp only at h2
  subst h2
  injection hq with hq
  subst hq
  unfold qt0 at he
  rw [Q.run_get] at he
  split at he
  case isFalse=>cases he
  rename_i hv
  split at he
  ·rename_i et e xs ha
   split at he
   case isFalse=>cases he
   rename_i hcond
   obtain ⟨hne,hty⟩:=hcond
   obtain ⟨l,h3,he⟩:=Q.bind_some he
   have:=Q.ret_some he
   subst this
   have hval:a.tmps.getD s undef=v:=(hx.unowned rfl).2 hv
   have hat:=h.at_ s
   rw [ha,hval] at hat
   exact qwk hE h hat hh hr hdst hne hty h3 (hd ⟨d,true,.own et e (qaB xs 0 l)⟩ (by simp)) (hd ⟨s,true,.undef⟩ (by simp)) hc
  ·exact qic hE h hx (.inl ⟨rfl,rfl⟩) hh hr he hd hc
 ·cases hq
theorem qsP (hE:qcc E C.P) (h:qas C σ a.tmps w own) (hp:qcn (sit C σ a.tmps w own) p) {t:Nat} {x:Operand} {lo hi:Option Operand} (hop:o.op= .slice t x lo hi none) {f:Eff}
  (he:(qeI E p o).run (qA σ)=some f) (hd:∀u∈f.upd,u.s<σ.length) (hc:qdR f.chk):qes C o a w (qv σ f.upd):=by
 unfold qeI at he
 rw [hop] at he
 obtain ⟨x1,hx,he⟩:=Q.bind_some he
 have ho:=qaS h hp hx
 have hr:(execOp a.eval o).run C.P w=((Instr.sliceAt t (a.eval x) (lo.map a.eval) (hi.map a.eval) none).run C.P w).andThen fun v w=> .ok (.value v) w:=by
  unfold execOp
  rw [hop]
  simp
 cases lo with
 |none=>cases hi with
  |none=>
   simp only at he
   split at he
   ·rename_i q hq
    exact qtO hE h ho (qpk hx) (.inl ⟨rfl,rfl⟩) hr hq he hd hc
   ·exact qic hE h ho (.inl ⟨rfl,rfl⟩) (.inl ⟨rfl,rfl⟩) hr he hd hc
  |some hi=>
   obtain ⟨b,hb,he⟩:=Q.bind_some he
   split at he
   ·rename_i q hq
    exact qtO hE h ho (qpk hx) (.inr ⟨_,_,rfl,rfl,qaS h hp hb⟩) hr hq he hd hc
   ·exact qic hE h ho (.inl ⟨rfl,rfl⟩) (.inr ⟨_,_,rfl,rfl,qaS h hp hb⟩) hr he hd hc
 |some lo=>cases hi with
  |none=>
   obtain ⟨b,hb,he⟩:=Q.bind_some he
   exact qic hE h ho (.inr ⟨_,_,rfl,rfl,qaS h hp hb⟩) (.inl ⟨rfl,rfl⟩) hr he hd hc
  |some hi=>
   obtain ⟨b,hb,he⟩:=Q.bind_some he
   obtain ⟨b',hb',he⟩:=Q.bind_some he
   exact qic hE h ho (.inr ⟨_,_,rfl,rfl,qaS h hp hb⟩) (.inr ⟨_,_,rfl,rfl,qaS h hp hb'⟩) hr he hd hc
theorem qsA (hE:qcc E C.P) (h:qas C σ a.tmps w own) (hp:qcn (sit C σ a.tmps w own) p) {t:Nat} {x:Operand} {fl:Nat} (hop:o.op= .field t x fl) {f:Eff}
  (he:(qeI E p o).run (qA σ)=some f) (hd:∀u∈f.upd,u.s<σ.length) (hc:qdR f.chk):qes C o a w (qv σ f.upd):=by
 unfold qeI at he
 rw [hop] at he
 obtain ⟨x1,hx,he⟩:=Q.bind_some he
 have ho:=qaS h hp hx
 split at he
 ·rename_i t' off u h1 h2 h3
  obtain ⟨r,hr,he⟩:=Q.bind_some he
  have rx:=qdx h ho hr
  split at he
  ·rename_i y hy
   obtain ⟨fz,hf,he⟩:=Q.bind_some he
   have:=qV he
   subst this
   obtain ⟨fs,fd,k1,k2,k3,k4,_⟩:=hE.off t fl off h2
   obtain ⟨q1,q2⟩:=rx.1.sub hy
   have hag:t'.agg=true:=by
    obtain ⟨d,d1,d2⟩:=(hE.ty t t' h1).desc
    rw [k1] at d1
    injection d1 with d1
    subst d1
    exact d2.symm
   obtain ⟨cs,ecs⟩:=rx.2.1 hag
   refine qix h (v:=mkV u (((a.eval x).cells.toList.drop off).take u.size)) ?_ hf hd (.ofCells q2)
   unfold execOp
   rw [hop]
   simp only [Sem.run_bind,Instr.field,run_underlying k1,Result.andThen_ok,k2,ecs,asAgg,Sem.run_pure]
   rw [ecs] at q1
   have hl:off+u.size≤cs.toList.length:=by simpa [Value.cells] using q1
   have:=(hE.ty _ _ h3).run_part (w:=w) (cs:=cs.toList) (off:=off) hl
   rw [k3,k4]
   simp only [Array.toArray_toList] at this
   rw [this]
   simp [Value.cells]
  ·cases he
 ·cases he
theorem qnn (hE:qcc E C.P) (h:qas C σ a.tmps w own) (hp:qcn (sit C σ a.tmps w own) p) {t:Nat} {x:Operand} {fl:Nat} (hop:o.op= .fieldAddr t x fl) {f:Eff}
  (he:(qeI E p o).run (qA σ)=some f) (hd:∀u∈f.upd,u.s<σ.length) (hc:qdR f.chk):qes C o a w (qv σ f.upd):=by
 unfold qeI at he
 rw [hop] at he
 obtain ⟨x1,hx,he⟩:=Q.bind_some he
 have ho:=qaS h hp hx
 split at he
 ·rename_i off h2
  obtain ⟨fs,fd,k1,k2,k3,k4,i,k5,k6⟩:=hE.off t fl off h2
  refine quX h hp.1 ho (qrV h hx) he hd fun ad hv=> ?_
  unfold execOp
  rw [hop]
  simp [Instr.fieldAt,run_underlying k1,k2,hv,Instr.sureAddr,fieldPlace,sizeOf,typeInfo,k5,k6,k3]
 ·cases he
theorem qgM {P:Program} {t e:Nat} (ht:P.underlying t=some (.slice e)) {sz:Nat} (hs:(sizeOf e).run P=fun w=> .ok sz w) {ad:Addr} {len cap:Nat} {k:IntKind} {i:Int} (h0:0≤i) (h1:i<len):
  (Instr.indexAt t (.slice (some ad) len cap) (.int k i)).run P w= .ok (.pointer (some (ad.add (i.toNat * sz)))) w:=by
 simp [Instr.indexAt,asIntOf,run_underlying ht,h0,h1,hs]
theorem qnB (hE:qcc E C.P) (h:qas C σ a.tmps w own) (hp:qcn (sit C σ a.tmps w own) p) {t:Nat} {x ix:Operand} (hop:o.op= .indexAddr t x ix) {f:Eff}
  (he:(qeI E p o).run (qA σ)=some f) (hd:∀u∈f.upd,u.s<σ.length) (hc:qdR f.chk):qes C o a w (qv σ f.upd):=by
 unfold qeI at he
 rw [hop] at he
 obtain ⟨x1,hx,he⟩:=Q.bind_some he
 obtain ⟨i1,hi,he⟩:=Q.bind_some he
 have ho:=qaS h hp hx
 have hoi:=qaS h hp hi
 unfold qob at he
 obtain ⟨i,hn,he⟩:=Q.bind_some he
 obtain ⟨e2,g2⟩:=qeK h hoi hn
 have hr:(execOp a.eval o).run C.P w=((Instr.indexAt t (a.eval x) (.int i.1 i.2)).run C.P w).andThen fun v w=> .ok (.value v) w:=by
  unfold execOp
  rw [hop]
  simp [Sem.run_bind,e2]
 split at he
 case h_2=>
  rename_i n e0 hty
  split at he
  ·cases he
  rename_i hn2
  have chk:qdR [inB i.2 n]→0≤i.2∧i.2<(n:Int):=fun hc=>by
   have:=hc _ (List.mem_singleton.2 rfl)
   simp [qdq] at this
   exact this
  have hsz:=hE.size t e0 (.inr ⟨n,hty⟩)
  have run:∀ {ad:Addr},0≤i.2→i.2<(n:Int)→(Instr.indexAt t (.pointer (some ad)) (.int i.1 i.2)).run C.P w= .ok (.pointer (some (ad.add (i.2.toNat * e0.size)))) w:=fun {ad} h0 h1=>by
   simp [Instr.indexAt,Instr.sureAddr,asIntOf,run_underlying (hE.arr t n e0 hty),h0,h1,hsz]
  split at he
  ·rename_i s v b hb
   rw [Q.run_get] at he
   split at he
   case isFalse=>cases he
   rename_i hv
   have:=Q.ret_some he
   subst this
   obtain ⟨i0,i1⟩:=chk hc
   obtain ⟨bb,k1,k2,k3⟩:=qfI h hp.1 ho hb hv
   rw [k2,show ptr bb b= .pointer (some ⟨bb,b,none⟩) from rfl,run i0 i1] at hr
   obtain ⟨q1,q2⟩:=quk (C:=C) (w:=w) (own:=own) (off:=b) (e:=e0) (o2:=0) (v:= .pointer (some ((⟨bb,b,none⟩:Addr).add (i.2.toNat * e0.size)))) hv i0 i1 k1 (by rw [qai,Nat.add_zero]; rfl) k3
   exact qU hr (h.dst0 hd q1 q2)
  ·split at he
   ·rename_i t' y off hxa
    split at he
    ·rename_i ys hs
     have:=Q.ret_some he
     subst this
     obtain ⟨i0,i1⟩:=chk hc
     obtain ⟨_,ad,cs,k1,g1,g2,g3,g4⟩:=hxa ▸ ho.unowned (by rw [hxa]; rfl)
     rw [k1,run i0 i1] at hr
     obtain ⟨m1,m2⟩:=g4.sub hs
     obtain ⟨z,z1,z2,z3⟩:=m2.elem (i:=i.2.toNat) (by omega)
     refine qU hr (h.dst0 hd ⟨rfl,(ad.add off).add (i.2.toNat * e0.size),(((cs.drop off).take (Ty.arr n e0).size).drop (i.2.toNat * e0.size)).take e0.size,?_,?_,?_,?_,?_⟩ (fun m hm=>by cases hm))
     ·rw [qaQ _ _ 0]; rfl
     ·rw [q8,q8]; exact g1
     ·rw [q8,q8]; exact g2
     ·intro j u hj
      rw [qaQ,qaQ]
      refine g3 _ _ ?_
      rw [List.getElem?_take] at hj
      split at hj
      case isFalse=>cases hj
      rw [List.getElem?_drop,List.getElem?_take] at hj
      split at hj
      case isFalse=>cases hj
      rw [List.getElem?_drop] at hj
      rw [←hj]
     ·rw [qhn z1]; exact z2
    ·cases he
   ·cases he
 case h_3=>cases he
 rename_i e0 hty
 have hem:=hE.elem t e0 hty
 have chk:∀ {n:Int},qdR [inB i.2 n]→0≤i.2∧i.2<n:=fun {n} hc=>by
  have:=hc _ (List.mem_singleton.2 rfl)
  simp [qdq] at this
  exact this
 have kOwn:∀(s v0:Nat) (fo:Option Nat) (et:Nat) (e:Ty) (xs:List e.den) (bs:List Nat),(qA σ s).1=v0→qf1 (sit C σ a.tmps w own) s fo (a.eval x)→qak w (C.free w own) et e xs (a.eval x) bs→e.size=e0.size→f=⟨qcl o (.prow s v0 fo e.size i.2 0),[inB i.2 (qr xs)]⟩→qes C o a w (qv σ f.upd):=by
  intro s v0 fo et e xs bs hv htm hrow hsz hf
  subst hf
  obtain ⟨c1,c2⟩:=chk hc
  obtain ⟨cells,k1,k2,k3⟩:=hrow
  rcases k1.2 with ⟨k4,k5⟩|⟨g,cap,cur,k4,k5,k6,k7,k8,k9,k10⟩
  ·simp [qt] at c2; omega
  ·rw [k4] at hr
   rw [qgM (w:=w) hem.under (hE.size t e0 (.inl hty)) c1 (by simpa [qt] using c2)] at hr
   refine qU hr (h.dst0 hd ⟨rfl,fun _=>⟨g,xs.length,cap,k4 ▸ htm,c1,by rw [qt] at c2; exact c2,?_⟩⟩ (fun m hm=> ?_))
   ·rw [qai,hsz]; simp [ptr]
   ·simp [AV.mentions] at hm
    subst hm
    exact Nat.le_of_eq hv.symm
 have val:∀(e:Ty) (xs:List e.den),qaN w (C.free w own) (.slice e) xs (a.eval x)→e.size=e0.size→f=⟨qcl o (.view e (qk xs i.2 e.dflt) 0),[inB i.2 (qr xs)]⟩→qes C o a w (qv σ f.upd):=by
  intro e xs hrow hsz hf
  subst hf
  obtain ⟨c1,c2⟩:=chk hc
  rcases qaN.slice hrow with ⟨_,k5⟩|⟨ad,cap,k4,k5,k6,k7⟩
  ·subst k5; simp [qt] at c2; omega
  ·have hlt:i.2.toNat<xs.length:=by simp [qt] at c2; omega
   rw [k4] at hr
   rw [qgM (w:=w) hem.under (hE.size t e0 (.inl hty)) c1 (by simpa [qt] using c2)] at hr
   obtain ⟨q1,q2,cs,q3,q4⟩:=k7 _ _ (List.getElem?_eq_getElem hlt)
   refine qU hr (h.dst0 hd ⟨rfl,ad.add (i.2.toNat * e.size),cs,?_,?_,?_,q3,?_⟩ (fun m hm=>by cases hm))
   ·rw [qaQ,hsz]; rfl
   ·rw [q8]; exact q1
   ·rw [q8]; exact q2
   ·rw [qhn (List.getElem?_eq_getElem hlt)]; exact q4
 obtain ⟨os,ov,oa⟩:=x1
 cases oa with
 |own et e xs=>
  cases os with
  |none=>simp only [hty] at he; cases he
  |some s=>
   simp only [hty] at he
   split at he
   ·rename_i hsz
    obtain ⟨k1,k2,k3⟩:=ho
    exact kOwn s ov none et e xs _ k2.symm k1.symm k3 hsz (Q.ret_some he).symm
   ·cases he
 |ref s v=>
  cases os
  all_goals
   simp only [hty,Q.run_get] at he
   split at he
   ·rename_i hv
    have hu:=(ho.unowned rfl).2 hv
    have hu:a.tmps.getD s undef=a.eval x:=hu
    have hat:=h.at_ s
    rw [hu] at hat
    split at he
    ·rename_i et e xs h3
     rw [h3] at hat
     split at he
     ·rename_i hsz
      exact kOwn s v none et e xs _ hv hu hat hsz (Q.ret_some he).symm
     ·cases he
    ·rename_i e xs h3
     rw [h3] at hat
     split at he
     ·rename_i hsz
      exact val e xs hat.2 hsz (Q.ret_some he).symm
     ·cases he
    ·cases he
   ·cases he
 |val t' xs=>
  cases t' with
  |slice e=>
   cases os
   all_goals
    simp only [hty] at he
    split at he
    ·rename_i hsz
     exact val e xs (ho.unowned rfl).2 hsz (Q.ret_some he).symm
    ·cases he
  |_=>cases os <;> simp only [hty] at he <;> cases he
 |bref s v off u=>
  cases os
  all_goals
   simp only [hty] at he
   split at he
   ·rename_i hag
    rw [Q.run_get] at he
    split at he
    ·rename_i hv
     split at he
     ·rename_i et e xs h3
      split at he
      ·rename_i hsz
       have hh:=qjL (ho.unowned rfl) hag hv
       obtain ⟨_,b1,b2,b3,q1,_⟩:=h.rowAt h3 hh
       exact kOwn s v (some off) et e xs b2 hv hh q1 hsz (Q.ret_some he).symm
      ·cases he
     ·cases he
    ·cases he
   ·cases he
 |_=>cases os <;> simp only [hty] at he <;> cases he
end
end Go.Vi
namespace Go.Vi
open Go.RowKit
section
variable {C:Ctx} {E:Env} {σ:St} {tm:Array Value} {a:Act} {w w':World} {own:Nat→List Nat} {o:Oper} {p:qh5} [Tabbed E C]
theorem qpb (hpn:∀k∈E.pins,∃b,C.pn k=some b) (h:qas C σ a.tmps w own) (hp:qcn (sit C σ a.tmps w own) p) {x:Operand} {as:Bool} (hop:o.op=if as then .assign x else .move x) {f:Eff}
  (he:(qeI E p o).run (qA σ)=some f) (hd:∀u∈f.upd,u.s<σ.length) (hc:qdR f.chk):qes C o a w (qv σ f.upd):=by
 have hx:(execOp a.eval o).run C.P w= .ok (.value (a.eval x)) w:=by
  unfold execOp
  cases as <;> simp only [if_true,if_false,Bool.false_eq_true] at hop <;> rw [hop] <;> rfl
 unfold qeI at he
 cases as <;> simp only [if_true,if_false,Bool.false_eq_true] at hop <;> rw [hop] at he
 ·obtain ⟨x1,h1,he⟩:=Q.bind_some he
  exact qrM h (qaS h hp h1) (qrV h h1) (qpk h1) hp.1 hpn he hd hx
 ·obtain ⟨x1,h1,he⟩:=Q.bind_some he
  exact qrM h (qaS h hp h1) (qrV h h1) (qpk h1) hp.1 hpn he hd hx
theorem quv (hE:qcc E C.P) (h:qas C σ a.tmps w own) (hp:qcn (sit C σ a.tmps w own) p) {t:Nat} {x:Operand} (hop:o.op= .load t x) {f:Eff}
  (he:(qeI E p o).run (qA σ)=some f) (hd:∀u∈f.upd,u.s<σ.length) (hc:qdR f.chk):qes C o a w (qv σ f.upd):=by
 unfold qeI at he
 rw [hop] at he
 obtain ⟨x1,h1,he⟩:=Q.bind_some he
 refine qwb hE h hp.1 (qaS h hp h1) he hd ?_
 unfold execOp
 rw [hop]
 simp only [Sem.run_bind]
 rfl
theorem qsC (hE:qcc E C.P) (h:qas C σ a.tmps w own) (hp:qcn (sit C σ a.tmps w own) p) {t:Nat} {x y:Operand} (hop:o.op= .store t x y) {f:Eff}
  (he:(qeI E p o).run (qA σ)=some f) (hd:∀u∈f.upd,u.s<σ.length) (hc:qdR f.chk):qes C o a w (qv σ f.upd):=by
 unfold qeI at he
 rw [hop] at he
 simp only at he
 split at he
 ·cases he
 rename_i hdst
 obtain ⟨x1,h1,he⟩:=Q.bind_some he
 obtain ⟨y1,h2,he⟩:=Q.bind_some he
 refine qtU hE h hp.1 (qaS h hp h1) (qaS h hp h2) (by cases ho:o.dst <;> simp [ho] at hdst⊢) he hd ?_
 unfold execOp
 rw [hop]
 simp only [Sem.run_bind]
 rfl
theorem qsM (hE:qcc E C.P) (h:qas C σ a.tmps w own) (hp:qcn (sit C σ a.tmps w own) p) {t:Nat} (hop:o.op= .alloc t) {f:Eff}
  (he:(qeI E p o).run (qA σ)=some f) (hd:∀u∈f.upd,u.s<σ.length) (hc:qdR f.chk):qes C o a w (qv σ f.upd):=by
 unfold qeI at he
 rw [hop] at he
 simp only at he
 split at he
 ·rename_i c hz
  have:=qV he
  subst this
  obtain ⟨i,z,k1,k2,k3⟩:=hE.zero t c hz
  refine quD hE h hz hd k1 k2 ?_
  unfold execOp
  rw [hop]
  simp [Instr.alloc,zeroValue,typeInfo,k1,k2,newVar,newRow,ptr]
 ·cases he
theorem qwa (hE:qcc E C.P) (h:qas C σ a.tmps w own) (hp:qcn (sit C σ a.tmps w own) p) {t:Nat} {x:Operand} (hop:o.op= .box t x) {f:Eff}
  (he:(qeI E p o).run (qA σ)=some f) (hd:∀u∈f.upd,u.s<σ.length) (hc:qdR f.chk):qes C o a w (qv σ f.upd):=by
 unfold qeI at he
 rw [hop] at he
 obtain ⟨x1,h1,he⟩:=Q.bind_some he
 refine qw5 h (qaS h hp h1) he hd ?_
 unfold execOp
 rw [hop]
 simp [Instr.box,newVar,newRow,ptr]
theorem qo5 (h:qas C σ a.tmps w own) (hp:qcn (sit C σ a.tmps w own) p) {x:Operand} (hop:o.op= .nilCheck x) {f:Eff}
  (he:(qeI E p o).run (qA σ)=some f) (hd:∀u∈f.upd,u.s<σ.length) (hc:qdR f.chk):qes C o a w (qv σ f.upd):=by
 unfold qeI at he
 rw [hop] at he
 obtain ⟨x1,h1,he⟩:=Q.bind_some he
 have ho:=qaS h hp h1
 have hr:∀ad,a.eval x= .pointer (some ad)→(execOp a.eval o).run C.P w= .ok (.value (a.eval x)) w:=fun ad e=>by
  unfold execOp
  rw [hop]
  simp [e]
 have hw:=qrV h h1
 split at he
 ·rename_i s v off hb
  rw [Q.run_get] at he
  split at he
  ·rename_i hv
   have:=qV he
   subst this
   obtain ⟨b,g1,g2,g3⟩:=qfI h hp.1 ho hb hv
   obtain ⟨q1,q2⟩:=qrT h hv g1 g2 g3
   exact qU (hr _ g2) (h.dst0 hd q1 q2)
  ·cases he
 ·split at he
  ·rename_i s v fo sz i b hxa
   rw [Q.run_get] at he
   split at he
   ·rename_i hv
    have:=qV he
    subst this
    have hp:=ho.unowned (by rw [hxa]; rfl)
    rw [hxa] at hp hw
    obtain ⟨g,k,cap,k1,k2,k3,k4⟩:=hp.2 hv
    exact qU (hr _ k4) (h.dst0 hd ⟨rfl,fun _=>⟨g,k,cap,k1,k2,k3,k4⟩⟩ hw)
   ·cases he
  ·rename_i t y b hxa
   have:=qV he
   subst this
   have hp:=ho.unowned (by rw [hxa]; rfl)
   rw [hxa] at hp
   obtain ⟨k0,ad,cs,k1,k2⟩:=hp
   exact qU (hr _ k1) (h.dst0 hd ⟨rfl,ad,cs,k1,k2⟩ (fun m hm=>by cases hm))
  ·rename_i e y hxa
   have:=Q.ret_some he
   subst this
   have hsome:=hc _ (List.mem_singleton.2 rfl)
   rw [qgF] at hsome
   obtain ⟨y',rfl⟩:=Option.isSome_iff_exists.1 hsome
   have hv:=ho.unowned (by rw [hxa]; rfl)
   rw [hxa] at hv
   rcases qaN.opt hv.2 with ⟨k1,_⟩|⟨y2,ad,cs,k1,k2,k3,k4,k5,k6⟩
   ·cases k1
   ·injection k1 with k1
    subst k1
    refine qU (hr _ k2) (h.dst0 hd ⟨rfl,ad,cs,?_,k3,k4,k5,?_⟩ (fun m hm=>by cases hm))
    ·rw [k2]; simp [Addr.add]
    ·rw [ql9]; exact k6
  ·cases he
theorem qs5 (h:qas C σ a.tmps w own) (hp:qcn (sit C σ a.tmps w own) p) {c x y:Operand} (hop:o.op= .pick c x y) {f:Eff}
  (he:(qeI E p o).run (qA σ)=some f) (hd:∀u∈f.upd,u.s<σ.length) (hc:qdR f.chk):qes C o a w (qv σ f.upd):=by
 unfold qeI at he
 rw [hop] at he
 obtain ⟨c1,h1,he⟩:=Q.bind_some he
 obtain ⟨cr,h2,he⟩:=Q.bind_some he
 have rc:=qdM h (qaS h hp h1) h2
 split at he
 case h_2=>cases he
 rename_i bc _
 have ec:=qaN.bool rc
 obtain ⟨x1,h3,he⟩:=Q.bind_some he
 obtain ⟨xr,h4,he⟩:=Q.bind_some he
 obtain ⟨y1,h5,he⟩:=Q.bind_some he
 obtain ⟨yr,h6,he⟩:=Q.bind_some he
 split at he
 case h_2=>cases he
 rename_i z hz
 split at he
 case isFalse=>cases he
 rename_i hemp
 simp only [Bool.and_eq_true,List.isEmpty_iff] at hemp
 have:=qV he
 subst this
 have path:∀(wb:Bool),bc=wb→qcn (sit C σ a.tmps w own) (qqF c c1.v wb bc p):=by
  intro wb hwb
  cases c with
  |tmp t=>
   refine ⟨hp.1,fun q hq=> ?_⟩
   rcases List.mem_cons.1 hq with rfl|hq
   ·have h1:(⟨some t,(qA σ t).1,qce p (qA σ t).2⟩:Op1)=c1:=Option.some.inj h1
    refine ⟨by rw [←h1]; rfl,?_,hwb⟩
    rw [←hwb]
    exact ec
   ·exact hp.2 q hq
  |_=>exact hp
 have hr:(execOp a.eval o).run C.P w= .ok (.value (if bc then a.eval x else a.eval y)) w:=by
  unfold execOp
  rw [hop]
  cases bc <;> simp [ec,asBool]
 refine qbg h hr hd ?_
 cases hb:bc with
 |true=>
  have:=qdM h (qaS h (path true hb) h3) h4
  rw [hemp.1] at this
  exact this.mono fun b hb _=>qnX hb
 |false=>
  have:=qdM h (qaS h (path false hb) h5) h6
  rw [hemp.2] at this
  exact (qaN.as hz this).mono fun b hb _=>qnX hb
theorem qge {l:List Value} {n i s:Nat} (h:i<n):((l.take (n * s)).drop (i * s)).take s=(l.drop (i * s)).take s:=by
 rw [List.drop_take,List.take_take]
 congr 1
 have:(i+1) * s≤n * s:=Nat.mul_le_mul_right _ h
 rw [Nat.add_mul] at this
 omega
theorem qas.newOwn (h:qas C σ a.tmps w own) {et:Nat} {e:Ty} {xs:List e.den} {cur:Array Value} {n cap:Nat} (hlen:xs.length=n) (hnc:n≤cap) (hcm:cap≤maxLen) (hsz:cur.size=cap * e.size)
  (hx:∀i x,xs[i]? =some x→Rep w (C.free w own) e x ((cur.toList.drop (i * e.size)).take e.size))
  (hr:(execOp a.eval o).run C.P w= .ok (.value (.slice (some ⟨w.heap.size,0,none⟩) n cap)) (w.alloc (.cells cur et))) (hd:∀u∈qcl o (.own et e xs),u.s<σ.length):qes C o a w (qv σ (qcl o (.own et e xs))):=by
 refine qU hr (h.dst (bs:=[w.heap.size]) (qcQ.alloc _ _ _) hd (fun b hb=> ?_) (by simp) ?_ (fun m hm=>by cases hm))
 ·simp at hb
  subst hb
  exact ⟨Nat.le_refl _,by simp⟩
 ·refine ⟨cur.toList.take (n * e.size),⟨?_,.inr ⟨w.heap.size,cap,cur,by rw [hlen],Nat.zero_le _,heap_alloc_new w _,by rw [hlen]; exact hnc,hcm,hsz,by rw [hlen]⟩⟩,rfl,fun i x hi=> ?_⟩
  ·rw [List.length_take,Array.length_toList,hsz,hlen]
   exact Nat.min_eq_left (Nat.mul_le_mul_right _ hnc)
  ·have hlt:i<n:=by
    rw [←hlen]
    exact (List.getElem?_eq_some_iff.1 hi).1
   rw [qge hlt]
   refine (hx i x hi).keep fun b hb hlt=>⟨⟨.inl hb,by simp; omega,by simp; omega⟩,by simp; omega,qmj w _ _ hlt⟩
theorem qf0 (z:Array Value) (n i:Nat) (hi:i<n) (hz:0<z.size):(madeCells z n).toList[i]? =z.toList[i % z.size]? :=by
 have h1:i % z.size<z.size:=Nat.mod_lt _ hz
 simp [madeCells,hi,h1]
theorem qgh (z:Array Value) (n i:Nat) (hi:i<n):((madeCells z (n * z.size)).toList.drop (i * z.size)).take z.size=z.toList:=by
 have hle:(i+1) * z.size≤n * z.size:=Nat.mul_le_mul_right _ hi
 rw [Nat.add_mul,Nat.one_mul] at hle
 apply List.ext_getElem?
 intro j
 rw [List.getElem?_take]
 split
 ·rename_i hj
  rw [List.getElem?_drop,qf0 _ _ _ (by omega) (by omega)]
  rw [show (i * z.size+j) % z.size=j from by rw [Nat.mul_comm,Nat.mul_add_mod,Nat.mod_eq_of_lt hj]]
 ·rename_i hj
  rw [List.getElem?_eq_none (by rw [Array.length_toList]; omega)]
theorem qnq (z:Array Value) (n m i:Nat) (hi:i<n):((Builtin.zeroCells z n++Builtin.zeroCells z m).toList.drop (i * z.size)).take z.size=z.toList:=by
 have hle:(i+1) * z.size≤n * z.size:=Nat.mul_le_mul_right _ hi
 rw [Nat.add_mul,Nat.one_mul] at hle
 have hs:(Builtin.zeroCells z n).toList.length=n * z.size:=by simp [Builtin.zeroCells]
 rw [Array.toList_append,List.drop_append,List.take_append,List.length_drop,hs]
 rw [show z.size - (n * z.size - i * z.size)=0 by omega,List.take_zero,List.append_nil]
 exact qgh z n i hi
theorem qnj (hE:qcc E C.P) (h:qas C σ a.tmps w own) (hp:qcn (sit C σ a.tmps w own) p) {t:Nat} {x y:Operand} (hop:o.op= .makeSlice t x y) {f:Eff}
  (he:(qeI E p o).run (qA σ)=some f) (hd:∀u∈f.upd,u.s<σ.length) (hc:qdR f.chk):qes C o a w (qv σ f.upd):=by
 unfold qeI at he
 rw [hop] at he
 obtain ⟨x1,h1,he⟩:=Q.bind_some he
 obtain ⟨y1,h2,he⟩:=Q.bind_some he
 obtain ⟨n,h3,he⟩:=Q.bind_some he
 obtain ⟨m,h4,he⟩:=Q.bind_some he
 obtain ⟨e1,g1⟩:=qeK h (qaS h hp h1) h3
 obtain ⟨e2,g2⟩:=qeK h (qaS h hp h2) h4
 split at he
 case h_2=>cases he
 rename_i e hty
 split at he
 case isFalse=>cases he
 rename_i hby
 have:=Q.ret_some he
 subst this
 obtain ⟨i,z,k1,k2,k3,k4,k5,k6,k7⟩:=hE.elem' hty
 have c1:0≤n.2:=by have:=hc (leI 0 n.2) (by simp); simpa [qcp] using this
 have c2:n.2≤m.2:=by have:=hc (leI n.2 m.2) (by simp); simpa [qcp] using this
 have c3:m.2 * (E.bytes (E.etid t):Int)≤140737488355328:=by
  have:=hc (qwf m.2 (E.bytes (E.etid t))) (by simp)
  simp [qon] at this
  exact this.2
 have c5:m.2≤140737488355328:=by
  have h1:(1:Int)≤(E.bytes (E.etid t):Int):=by omega
  have h2:m.2 * 1≤m.2 * (E.bytes (E.etid t):Int):=Int.mul_le_mul_of_nonneg_left h1 (by omega)
  omega
 have c4:m.2≤9223372036854775807:=by omega
 have hrun:=run_make (P:=C.P) w t (E.etid t) i z k1 k2 k4 n.1 m.1 n.2 m.2 c1 c2 (by rw [k6,Int.mul_comm]; omega) c4
 refine h.newOwn (n:=n.2.toNat) (cap:=m.2.toNat) (cur:=madeCells z.cells (m.2.toNat * i.size)) (by simp [qf4]) (by omega) (by simp only [maxLen]; omega) (by rw [size_madeCells,k3]) ?_ ?_ hd
 ·intro j u hj
  have hlt:j<n.2.toNat:=by
   have:=(List.getElem?_eq_some_iff.1 hj).1
   simpa [qf4] using this
  have hu:u=e.dflt:=by
   have:=List.mem_of_getElem? hj
   rw [qf4] at this
   exact List.eq_of_mem_replicate this
  rw [hu,k3,←k5,qgh _ _ _ (by omega)]
  exact k7 _ _
 ·unfold execOp
  rw [hop]
  simp only [Sem.run_bind,e1,e2,hrun]
  rfl
end
end Go.Vi
namespace Go.Vi
open Go.RowKit
section
variable {C:Ctx} {E:Env} {σ:St} {tm:Array Value} {a:Act} {w w':World} {own:Nat→List Nat} {o:Oper} {p:qh5} [Tabbed E C]
theorem qa7.at {F:Nat→Prop} : {cs:List qpu} → {vs:List Value} → {bs:List Nat} → {i:Nat} → {c:qpu} →qa7 w F cs vs bs→cs[i]? =some c→
  ∃v b1 b2 b3,vs[i]? =some v∧bs=b1++b2++b3∧quq w F c v b2∧qa7 w F (cs.set i .gone) vs (b1++b3)
 |[],_,_,_,_,_,hc=>by cases hc
 |c::cs,_,_,0,_,⟨v,r,b1,b2,h1,h2,h3,h4⟩,hc=>by
  injection hc with hc
  subst hc
  exact ⟨v,[],b1,b2,by rw [h1]; rfl,by rw [h2]; rfl,h3,v,r,[],b2,h1,rfl,rfl,h4⟩
 |c::cs,_,_,i+1,_,⟨v,r,b1,b2,h1,h2,h3,h4⟩,hc=>by
  obtain ⟨v',c1,c2,c3,k1,k2,k3,k4⟩:=h4.at (i:=i) hc
  exact ⟨v',b1++c1,c2,c3,by rw [h1]; exact k1,by rw [h2,k2]; simp,k3,v,r,b1,c1++c3,h1,by simp,h3,k4⟩
theorem qas.part (h:qas C σ tm w own) {s d:Nat} (hs:s<σ.length) (hd:d<σ.length) (hne:d≠s) {av av':AV} {v:Value} {b1 b2 b3:List Nat} (hown:own s=b1++b2++b3)
  (hav:qaO (sit C σ tm w own) av (tm.getD s undef) (b1++b3)) (hav':qaO (sit C σ tm w own) av' v b2) (hm:av.mentions=[]) (hm':av'.mentions=[]):
  ∃own',qas C (qv σ [⟨s,true,av⟩,⟨d,true,av'⟩]) (tm.setIfInBounds d v) w own':=by
 have eS:qA (qv σ [⟨s,true,av⟩,⟨d,true,av'⟩]) s=((qA σ s).1+1,av):=by
  show qA (qX (qX σ ⟨s,true,av⟩) ⟨d,true,av'⟩) s=_
  rw [qz _ _ (Ne.symm hne),qT σ ⟨s,true,av⟩ hs]
  rfl
 have eD:qA (qv σ [⟨s,true,av⟩,⟨d,true,av'⟩]) d=((qA σ d).1+1,av'):=by
  show qA (qX (qX σ ⟨s,true,av⟩) ⟨d,true,av'⟩) d=_
  rw [qT (qX σ ⟨s,true,av⟩) ⟨d,true,av'⟩ (by rw [qao]; exact hd),qz _ _ hne]
  rfl
 have eO:∀x,x≠s→x≠d→qA (qv σ [⟨s,true,av⟩,⟨d,true,av'⟩]) x=qA σ x:=fun x h1 h2=>by
  show qA (qX (qX σ ⟨s,true,av⟩) ⟨d,true,av'⟩) x=_
  rw [qz _ _ h2,qz _ _ h1]
 have tD:(tm.setIfInBounds d v).getD d undef=v:=qev tm _ (by rw [h.size]; exact hd)
 have tS:(tm.setIfInBounds d v).getD s undef=tm.getD s undef:=qcz tm _ (Ne.symm hne)
 let own':Nat→List Nat:=fun x=>if x=d then b2 else if x=s then b1++b3 else own x
 have oD:own' d=b2:=by simp [own']
 have oS:own' s=b1++b3:=by simp [own',Ne.symm hne]
 have hnd:=h.nodup s
 rw [hown] at hnd
 have n1:=List.nodup_append.1 hnd
 have n2:=List.nodup_append.1 n1.1
 have sub:∀x b,x=s∨x=d→b∈own' x→b∈own s:=by
  rintro x b (rfl|rfl) hb
  ·rw [oS] at hb
   rw [hown]
   rcases List.mem_append.1 hb with hb|hb <;> simp [hb]
  ·rw [oD] at hb
   rw [hown]
   simp [hb]
 have dis:∀b,b∈own' s→b∈own' d→False:=by
  intro b hb hb'
  rw [oS] at hb
  rw [oD] at hb'
  rcases List.mem_append.1 hb with hb|hb
  ·exact n2.2.2 b hb b hb' rfl
  ·exact n1.2.2 b (List.mem_append_right _ hb') b hb rfl
 refine ⟨own',h.update (fun x=>x=s∨x=d) (qS _ _) (by simp) ?_ ?_ (qcQ.refl _ _) ?_ ?_ ?_ ?_ ?_⟩
 ·intro x hx
  have h1:x≠s:=fun e=>hx (.inl e)
  have h2:x≠d:=fun e=>hx (.inr e)
  exact ⟨eO x h1 h2,qcz tm _ h2,by simp [own',h1,h2]⟩
 ·rintro x (rfl|rfl)
  ·rw [eS]; exact .inl (Nat.lt_succ_self _)
  ·rw [eD]; exact .inl (Nat.lt_succ_self _)
 ·rintro x (rfl|rfl) <;> assumption
 ·intro x hx
  refine ⟨fun b hb=> .inr ⟨s,.inl rfl,sub x b hx hb⟩,?_⟩
  rcases hx with rfl|rfl
  ·rw [oS]
   exact List.nodup_append.2 ⟨n2.1,n1.2.1,fun b hb b' hb'=>n1.2.2 b (List.mem_append_left _ hb) b' hb'⟩
  ·rw [oD]; exact n2.2.1
 ·rintro x y b (rfl|rfl) (rfl|rfl) hb hb'
  ·rfl
  ·exact (dis b hb hb').elim
  ·exact (dis b hb' hb).elim
  ·rfl
 ·have hfree:∀b,C.free w own b→C.free w own' b:=fun b hb=>⟨hb.1,hb.2.1,fun x hx=>by
   by_cases h1:x=s∨x=d
   ·exact hb.2.2 s (sub x b h1 hx)
   ·have h2:x≠s:=fun e=>h1 (.inl e)
    have h3:x≠d:=fun e=>h1 (.inr e)
    simp only [own',if_neg h2,if_neg h3] at hx
    exact hb.2.2 x hx⟩
  rintro x (rfl|rfl)
  ·rw [eS,tS,oS]
   exact qaO.keep (X:=sit C σ tm w own) (X':=sit C _ _ w own') ⟨rfl,rfl⟩ (fun b hb hlt=>⟨hfree b hb,hlt,rfl⟩) (fun _ _ _=>rfl) (fun m hmm=>by rw [hm] at hmm; cases hmm) hav
  ·rw [eD,tD,oD]
   exact qaO.keep (X:=sit C σ tm w own) (X':=sit C _ _ w own') ⟨rfl,rfl⟩ (fun b hb hlt=>⟨hfree b hb,hlt,rfl⟩) (fun _ _ _=>rfl) (fun m hmm=>by rw [hm'] at hmm; cases hmm) hav'
 ·rintro x (rfl|rfl) m hmm
  ·rw [eS,hm] at hmm; cases hmm
  ·rw [eD,hm'] at hmm; cases hmm
theorem qo8 (h:qas C σ a.tmps w own) (hp:qcn (sit C σ a.tmps w own) p) {x:Operand} {i:Nat} (hop:o.op= .extract x i) {f:Eff}
  (he:(qeI E p o).run (qA σ)=some f) (hd:∀u∈f.upd,u.s<σ.length) (hc:qdR f.chk):qes C o a w (qv σ f.upd):=by
 unfold qeI at he
 rw [hop] at he
 simp only at he
 split at he
 case h_2=>cases he
 rename_i t
 rw [Q.run_get] at he
 split at he
 case h_2=>cases he
 rename_i cs hcs
 have hat:=qmi hp (h.at_ t)
 rw [hcs] at hat
 obtain ⟨vs,h1,h2⟩:=hat
 have hr:∀v,vs[i]? =some v→(execOp a.eval o).run C.P w= .ok (.value v) w:=fun v hv=>by
  unfold execOp
  rw [hop]
  have e:a.eval (.tmp t)= .tuple vs.toArray:=h1
  simp [Sem.run_bind,e,Instr.extract,hv]
 split at he
 ·rename_i u y hi
  have:=qV he
  subst this
  obtain ⟨v,b1,b2,b3,k1,k2,k3,k4⟩:=h2.at hi
  exact qbg h (hr v k1) hd k3.2
 ·rename_i et e xs hi
  split at he
  case h_2=>cases he
  rename_i d hdst
  split at he
  ·cases he
  ·rename_i hne
   have:=qV he
   subst this
   obtain ⟨v,b1,b2,b3,k1,k2,k3,k4⟩:=h2.at hi
   refine qU (hr v k1) ?_
   rw [qjt a hdst]
   exact h.part (s:=t) (d:=d) (hd ⟨t,true,.tup (cs.set i .gone)⟩ (by simp)) (hd ⟨d,true,.own et e xs⟩ (by simp)) hne k2 ⟨vs,h1,k4⟩ k3 rfl rfl
 ·cases he
def qma (X:Sit):List Op1→List Value→Prop
 |[],[]=>True
 |o::os,v::vs=>qcD X o v∧qma X os vs
 |_,_=>False
theorem qkT (h:qas C σ a.tmps w own) {P:Program} {g:Int→Int→Int} {m2:Value→Value→Sem Value} (hg:∀k x y,(m2 (.int k x) (.int k y)).run P w= .ok (.int k (g x y)) w) (hh:∀(k:IntKind) x y,k.has x→k.has y→k.has (g x y)) {k:IntKind} :
  ∀(os:List Op1) (vs:List Value) (n r:Int),k.has n→qma (sit C σ a.tmps w own) os vs→(qoF g k n os).run (qA σ)=some r→(vs.foldlM m2 (.int k n)).run P w= .ok (.int k r) w∧k.has r
 |[],[],n,r,hn,_,he=>by
  have:=Q.ret_some he
  subst this
  exact ⟨rfl,hn⟩
 |o::os,v::vs,n,r,hn,⟨ho,hos⟩,he=>by
  obtain ⟨m,h1,he⟩:=Q.bind_some he
  split at he
  ·rename_i hk
   obtain ⟨e1,g1⟩:=qeK h ho h1
   subst hk
   subst e1
   obtain ⟨k1,k2⟩:=qkT h hg hh os vs (g n m.2) r (hh _ _ _ hn g1) hos he
   refine ⟨?_,k2⟩
   rw [List.foldlM_cons,Sem.run_bind,hg]
   exact k1
  ·cases he
theorem qoU (h:qas C σ a.tmps w own) (hp:qcn (sit C σ a.tmps w own) p):∀(xs:List Operand) (ts:List Nat) {os:List Op1},(opds E p xs ts).run (qA σ)=some os→qma (sit C σ a.tmps w own) os (xs.map a.eval)
 |[],_,os,he=>by
  have:=Q.ret_some he
  subst this
  trivial
 |x::xs,ts,os,he=>by
  obtain ⟨o1,h1,he⟩:=Q.bind_some he
  obtain ⟨r,h2,he⟩:=Q.bind_some he
  have:=Q.ret_some he
  subst this
  exact ⟨qaS h hp h1,qoU h hp xs ts.tail h2⟩
theorem qmo {α β:Type} {R:Nat→α→β→Prop} :∀(xs:List α),(∀i x,xs[i]? =some x→∃c,R i x c)→∃cs:List β,cs.length=xs.length∧∀i x c,xs[i]? =some x→cs[i]? =some c→R i x c
 |[],_=>⟨[],rfl,fun i x c hx=>by cases hx⟩
 |y::ys,h=>by
  obtain ⟨c,hc⟩:=h 0 y rfl
  obtain ⟨cs,h1,h2⟩:=qmo (R:=fun i x c=>R (i+1) x c) ys fun i x hx=>h (i+1) x hx
  refine ⟨c::cs,by simp [h1],fun i x d hx hd=> ?_⟩
  cases i with
  |zero=>
   injection hx with hx
   injection hd with hd
   subst hx; subst hd
   exact hc
  |succ i=>exact h2 i x d hx hd
def qww (w:World) (F:Nat→Prop) (e:Ty) (xs:List e.den) (v:Value):Prop:=
 (v= .slice none 0 0∧xs=[])∨∃(ad:Addr) (cap:Nat) (cells:List Value),v= .slice (some ad) xs.length cap∧cells.length=xs.length * e.size∧(∀j u,cells[j]? =some u→w.cell? (ad.add j)=some u)∧∀i x,xs[i]? =some x→Rep w F e x ((cells.drop (i * e.size)).take e.size)
theorem qak.rowAt {F:Nat→Prop} {et:Nat} {e:Ty} {xs:List e.den} {v:Value} {bs:List Nat} (h:qak w F et e xs v bs):qww w F e xs v:=by
 obtain ⟨cells,k1,k2,k3⟩:=h
 rcases k1.2 with ⟨k4,k5⟩|⟨g,cap,cur,k4,_⟩
 ·exact .inl ⟨k4,List.eq_nil_of_length_eq_zero k5⟩
 ·exact .inr ⟨⟨g,0,none⟩,cap,cells,k4,k1.1,k1.cells (by rw [k4]; rfl),k3⟩
theorem qsG {css:List (List Value)} {sz j:Nat} {u:Value} (h:∀c∈css,c.length=sz) (hu:css.flatten[j]? =some u):∃i c,css[i]? =some c∧c[j % sz]? =some u∧i=j / sz∧j=i * sz+j % sz:=by
 have hpos:0<sz:=by
  rcases Nat.eq_zero_or_pos sz with h0|h0
  ·have:css.flatten=[]:=List.flatten_eq_nil_iff.2 fun l hl=>List.eq_nil_of_length_eq_zero ((h l hl).trans h0)
   rw [this] at hu; cases hu
  ·exact h0
 have hj:j<css.flatten.length:=(List.getElem?_eq_some_iff.1 hu).1
 rw [qeM h] at hj
 have hi:j / sz<css.length:=(Nat.div_lt_iff_lt_mul hpos).2 hj
 have e:=qb5 h (List.getElem?_eq_getElem hi)
 have hdm:j / sz * sz+j % sz=j:=by rw [Nat.mul_comm]; exact Nat.div_add_mod j sz
 refine ⟨j / sz,css[j / sz],List.getElem?_eq_getElem hi,?_,rfl,hdm.symm⟩
 rw [←e.1,List.getElem?_take,if_pos (Nat.mod_lt _ hpos),List.getElem?_drop,hdm]
 exact hu
theorem qeb.rowAt {F:Nat→Prop} {e:Ty} {xs:List e.den} {v:Value} (h:qeb w F (Rep w F e) e.size xs v):qww w F e xs v:=by
 rcases h with h|⟨ad,cap,h1,h2,h3,h4⟩
 ·exact .inl h
 ·obtain ⟨css,k1,k2⟩:=qmo (R:=fun i x cs=>qhf w (ad.add (i * e.size)) cs∧Rep w F e x cs) xs fun i x hx=>(h4 i x hx).2.2
  have hl:∀c∈css,c.length=e.size:=by
   intro c hc
   obtain ⟨i,hi,rfl⟩:=List.getElem_of_mem hc
   exact (k2 i _ _ (List.getElem?_eq_getElem (by omega)) (List.getElem?_eq_getElem hi)).2.length
  refine .inr ⟨ad,cap,css.flatten,h1,by rw [qeM hl,k1],fun j u hu=> ?_,fun i x hx=> ?_⟩
  ·obtain ⟨i,c,g1,g2,g3,g4⟩:=qsG hl hu
   have hi:i<xs.length:=by rw [←k1]; exact (List.getElem?_eq_some_iff.1 g1).1
   have:=(k2 i _ c (List.getElem?_eq_getElem hi) g1).1 _ _ g2
   rw [qaQ] at this
   rw [g4]
   rw [g4] at this
   simpa using this
  ·have hi:i<css.length:=by rw [k1]; exact (List.getElem?_eq_some_iff.1 hx).1
   rw [(qb5 hl (List.getElem?_eq_getElem hi)).1]
   exact (k2 i x _ hx (List.getElem?_eq_getElem hi)).2
theorem qvA (h:qas C σ a.tmps w own) {o1:Op1} {v:Value} (ho:qcD (sit C σ a.tmps w own) o1 v) {q:((e:Ty)×List e.den)×List Nat} (he:(qxa o1).run (qA σ)=some q):qww w (C.free w own) q.1.1 q.1.2 v:=by
 obtain ⟨os,ov,oa⟩:=o1
 unfold qxa at he
 cases oa with
 |own et e xs=>
  have:=Q.ret_some he
  subst this
  cases os with
  |none=>exact qak.rowAt (bs:=[]) ho
  |some s=>exact qak.rowAt ho.2.2
 |nilr et e=>
  have:=Q.ret_some he
  subst this
  rw [(ho.unowned rfl).2]
  exact qak.rowAt (bs:=[]) (qak.nil_ w _ et e)
 |nz e xs=>
  have:=Q.ret_some he
  subst this
  exact qeb.rowAt (qaN.slice (ho.unowned rfl).2.1)
 |val t xs=>
  cases t with
  |slice e=>
   have:=Q.ret_some he
   subst this
   exact qeb.rowAt (qaN.slice (ho.unowned rfl).2)
  |_=>cases he
 |ref s v0=>
  simp only [Q.run_get] at he
  split at he
  ·rename_i hv
   have hu:a.tmps.getD s undef=v:=(ho.unowned rfl).2 hv
   have hat:=h.at_ s
   rw [hu] at hat
   split at he
   ·rename_i et e xs h3
    rw [h3] at hat
    have:=Q.ret_some he
    subst this
    exact qak.rowAt hat
   ·rename_i e xs h3
    rw [h3] at hat
    have:=Q.ret_some he
    subst this
    exact qeb.rowAt (qaN.slice hat.2)
   ·cases he
  ·cases he
 |bref s v0 off u=>
  simp only at he
  split at he
  ·rename_i hag
   rw [Q.run_get] at he
   split at he
   ·rename_i hv
    split at he
    ·rename_i r h3
     obtain ⟨et,e,xs⟩:=r
     have:=Q.ret_some he
     subst this
     obtain ⟨_,b1,b2,b3,q1,_⟩:=h.rowAt h3 (qjL (ho.unowned rfl) hag hv)
     exact qak.rowAt q1
    ·cases he
   ·cases he
  ·cases he
 |_=>cases he
end
end Go.Vi
namespace Go.Vi
open Go.RowKit
section
variable {C:Ctx} {E:Env} {σ:St} {tm:Array Value} {a:Act} {w w':World} {own:Nat→List Nat} {o:Oper} {p:qh5} [Tabbed E C]
def qwl (C:Ctx) (σ:St) (tm:Array Value) (w:World) (own:Nat→List Nat) (ro:Option (Nat×AV)) (b2:List Nat):Prop:=
 match ro with
 |none=>b2=[]
 |some p=>p.1<σ.length∧p.2.mentions=[]∧∃b1 b3,own p.1=b1++(b2++b3)∧∀W,qcQ (fun k=>k∈b2) w W→qaO { sit C σ tm w own with w:=W } p.2 (tm.getD p.1 undef) (b1++b3)
theorem qmd (h:qas C σ a.tmps w own) {o1:Op1} {v:Value} (ho:qcD (sit C σ a.tmps w own) o1 v) (hs:∀s,o1.s=some s→o1.a≠ .undef→s<σ.length) {r:Option (Nat×AV)×Nat×((e:Ty)×List e.den)} (he:(ql8 o1).run (qA σ)=some r):
  ∃b2,qak w (C.free w own) r.2.1 r.2.2.1 r.2.2.2 v b2∧qwl C σ a.tmps w own r.1 b2:=by
 obtain ⟨os,ov,oa⟩:=o1
 unfold ql8 at he
 cases oa with
 |own et e xs=>
  have:=Q.ret_some he
  subst this
  cases os with
  |none=>exact ⟨[],ho,rfl⟩
  |some s=>exact ⟨own s,ho.2.2,hs s rfl (by simp),rfl,[],[],by simp,fun W _=>trivial⟩
 |nilr et e=>
  have:=Q.ret_some he
  subst this
  rw [(ho.unowned rfl).2]
  exact ⟨[],qak.nil_ w _ et e,rfl⟩
 |ref s v0=>
  simp only [Q.run_get] at he
  split at he
  ·rename_i hv
   have hu:a.tmps.getD s undef=v:=(ho.unowned rfl).2 hv
   have hat:=h.at_ s
   rw [hu] at hat
   split at he
   ·rename_i et e xs h3
    rw [h3] at hat
    have:=Q.ret_some he
    subst this
    refine ⟨own s,hat,?_,rfl,[],[],by simp,fun W _=>trivial⟩
    by_cases hlt:s<σ.length
    ·exact hlt
    ·have:qA σ s=(0,.undef):=by simp [qA,List.getD,List.getElem?_eq_none (Nat.le_of_not_lt hlt)]
     rw [this] at h3
     cases h3
   ·cases he
  ·cases he
 |bref s v0 off u=>
  simp only at he
  split at he
  ·rename_i hag
   rw [Q.run_get] at he
   split at he
   ·rename_i hv
    split at he
    ·rename_i r0 a0 h3 h4
     obtain ⟨et,e,xs⟩:=r0
     have:=Q.ret_some he
     subst this
     obtain ⟨hlt,b1,b2,b3,q1,q2,q3,q4⟩:=h.rowAt h3 (qjL (ho.unowned rfl) hag hv)
     obtain ⟨_,hm⟩:=q4 w (.hole 1) [] a0 (qcQ.refl _ _) ⟨rfl,rfl⟩ h4
     exact ⟨b2,q1,hlt,hm,b1,b3,q2,fun W hk=>(q4 W (.hole 1) [] a0 hk ⟨rfl,rfl⟩ h4).1⟩
    ·cases he
   ·cases he
  ·cases he
 |_=>cases he
theorem qr7 {P:Program} {t ty e:Nat} {i:TypeInfo} {z:Value} {size bytes:Nat} (ht:P.underlying t=some (.slice e)) (hi:P.info? e=some i) (hz:i.zero=some z)
  (hsize:i.size=size) (hby:i.bytes=bytes) (hzs:z.cells.size=size) (hsz:0<size) {v:Value} {n:Nat} {xs:List Value} (hown:w.ownsRow 0 e size v n xs)
  {ad:Addr} {m c:Nat} {news:List Value} (hl:news.length=m * size) (hnews:∀j u,news[j]? =some u→w.cell? (ad.add j)=some u) (h1:∀u∈news,u.oneCell'=true)
  (h63:n+m≤maxLen) (hbytes:(n+m) * bytes≤140737488355328):
  ∃v' w',(Builtin.append_ #[t,t] ty #[v,.slice (some ad) m c]).run P w= .ok v' w'∧w'.ownsRow 0 e size v' (n+m) (xs++news)∧w.grownBy w' v.ownBlock∧
   ∀b∈v'.ownBlock.toList,(w.heap.size≤b∧b<w'.heap.size)∨b∈v.ownBlock.toList:=by
 obtain ⟨v',w',k1,k2,k3,k4⟩:=run_append_own (P:=P) w 0 t ty e i z size bytes ht hi hz hsize hby hzs hsz v n xs hown ad m c news hl hnews h1 h63 hbytes (Nat.zero_le _)
 refine ⟨v',w',k1,k2,k3,?_⟩
 subst hsize
 subst hby
 have hsmall:n+m≤9223372036854775807:=by simp only [maxLen] at h63; omega
 have fresh:∀ {cap:Nat} {o:Obj} {w1:World},w1.heap.size=w.heap.size→(Builtin.append_ #[t,t] ty #[v,.slice (some ad) m c]).run P w= .ok (.slice (some ⟨w.heap.size,0,none⟩) (n+m) cap) (w1.alloc o)→∀b∈v'.ownBlock.toList,(w.heap.size≤b∧b<w'.heap.size)∨b∈v.ownBlock.toList:=by
  intro cap o w1 hs hr b hb
  rw [hr] at k1
  injection k1 with e1 e2
  subst e1
  subst e2
  simp [Value.ownBlock] at hb
  subst hb
  exact .inl ⟨Nat.le_refl _,by simp [hs]⟩
 rcases hown.2 with ⟨rfl,rfl⟩|⟨g,cap,cur,rfl,hbg,hg,hnc,hcm,hcs,htake⟩
 ·have hx:xs=[]:=List.eq_nil_of_length_eq_zero (by simpa using hown.1)
  by_cases hm:m=0
  ·have:=(k4.2 ⟨rfl,hm⟩)
   subst this
   intro b hb
   cases hb
  ·have hr:=run_append_nil (P:=P) w t ty e i z ht hi hz ad m c news hl hnews (by omega) (by omega) (by have hb:=hbytes; simp only [Nat.zero_add] at hb; omega)
   exact fresh (w1:=w.drew) (cap:=grownCap w m 0 e) (by rfl) (by rw [hr,Nat.zero_add])
 ·by_cases hroom:n+m≤cap
  ·have hfit:n * i.size+news.length≤cur.size:=by rw [hl,hcs,←Nat.add_mul]; exact Nat.mul_le_mul_right _ hroom
   have hr:=run_append_room (P:=P) w t ty e i ht hi g n cap cur hg ad m c news hl hnews h1 hroom hfit
   rw [hr] at k1
   injection k1 with e1 e2
   subst e1
   intro b hb
   exact .inr hb
  ·have holds:∀j u,xs[j]? =some u→w.cell? ((⟨g,0,none⟩:Addr).add j)=some u:=hown.cells (g:=g) rfl
   have hr:=run_append_grow (P:=P) w t ty e i z ht hi hz ⟨g,0,none⟩ n cap xs hown.1 holds ad m c news hl hnews (by omega) (by omega) (growslice_fits (by omega) hbytes)
   exact fresh (w1:=w.drew) (by rfl) hr
theorem qnS (h:qas C σ a.tmps w own) {d et:Nat} {e:Ty} {xs zs:List e.den} {ro:Option (Nat×AV)} {x:Value} {cells:List Value} (hdst:o.dst=some d) (c6:ro.map (·.1)≠some d) (hdl:d<σ.length)
  (hleft:qwl C σ a.tmps w own ro x.ownBlock.toList) (g1:w.ownsRow 0 et e.size x xs.length cells) (g3:∀(i:Nat) (u:e.den),xs[i]? =some u→Rep w (C.free w own) e u ((cells.drop (i * e.size)).take e.size))
  (key:∃v' w' news,(execOp a.eval o).run C.P w= .ok (.value v') w'∧w'.ownsRow 0 et e.size v' (xs.length+zs.length) (cells++news)∧w.grownBy w' x.ownBlock∧
   (∀b∈v'.ownBlock.toList,(w.heap.size≤b∧b<w'.heap.size)∨b∈x.ownBlock.toList)∧(∀(i:Nat) (u:e.den),zs[i]? =some u→Rep w (C.free w own) e u ((news.drop (i * e.size)).take e.size))):
  qes C o a w (qv σ (qwv ro++[⟨d,true,.own et e (qem xs zs)⟩])):=by
 obtain ⟨v',w',news,a1,a2,a3,a4,a5⟩:=key
 refine qU (v:=v') (w':=w') a1 ?_
 rw [qjt a hdst]
 have hkept:qcQ (fun k=>k∈x.ownBlock.toList) w w':=(qcQ.grown a3).mono fun k hk=>by rw [←hk]; simp
 have hnot:∀b,C.free w own b→some b≠x.ownBlock:=fun b hb e=>by
  cases ro with
  |none=>
   have:x.ownBlock.toList=[]:=hleft
   rw [←e] at this
   cases this
  |some p=>
   obtain ⟨_,_,b1,b3,q2,_⟩:=hleft
   refine hb.2.2 p.1 ?_
   rw [q2,←e]
   exact List.mem_append_right _ (List.mem_append_left _ (by simp))
 have hfree:∀b,C.free w own b→b<w.heap.size→(C.free w own b)∧b<w'.heap.size∧w'.heap[b]? =w.heap[b]? :=fun b hb hlt=>⟨hb,Nat.lt_of_lt_of_le hlt a3.size,a3.block b hlt (hnot b hb)⟩
 have hnd:v'.ownBlock.toList.Nodup:=by cases v'.ownBlock <;> simp
 have hrow:qak w' (C.free w own) et e (qem xs zs) v' v'.ownBlock.toList:=by
  refine ⟨cells++news,by simpa [qbv] using a2,rfl,fun i u hi=> ?_⟩
  have hcl:cells.length=xs.length * e.size:=g1.1
  by_cases hlt:i<xs.length
  ·have hi':xs[i]? =some u:=by
    rw [qbv] at hi
    rwa [List.getElem?_append_left hlt] at hi
   have hle:(i+1) * e.size≤xs.length * e.size:=Nat.mul_le_mul_right _ hlt
   rw [Nat.add_mul,Nat.one_mul] at hle
   rw [qeE (by omega)]
   exact (g3 i u hi').keep hfree
  ·have hi':zs[i - xs.length]? =some u:=by
    rw [qbv] at hi
    rwa [List.getElem?_append_right (by omega)] at hi
   have hle:xs.length * e.size≤i * e.size:=Nat.mul_le_mul_right _ (by omega)
   rw [qec (by omega),hcl,←Nat.sub_mul]
   exact (a5 _ u hi').keep hfree
 cases ro with
 |none=>
  have h0:x.ownBlock.toList=[]:=hleft
  exact h.mut hdl [] (fun _ hx=>by cases hx) (hkept.mono fun k hk=>by rw [h0] at hk; cases hk) (av:= .own et e (qem xs zs)) (v:=v') (bs:=v'.ownBlock.toList) (fun b hb=>by
   rcases a4 b hb with h|h
   ·exact .inl h
   ·rw [h0] at h; cases h) hnd hrow rfl
 |some p=>
  obtain ⟨q0,qm,b1,b3,q2,q4⟩:=hleft
  have hne:p.1≠d:=fun e=>c6 (by rw [←e]; rfl)
  exact h.mut2 hdl q0 hne q2 (hkept.mono fun k hk=> .inr hk) (fun b hb=>by
   rcases a4 b hb with h|h
   ·exact .inl h
   ·exact .inr (.inr h)) hnd hrow rfl (q4 w' hkept) qm
theorem qsT (hE:qcc E C.P) (h:qas C σ a.tmps w own) {t:Nat} {x1 y1:Op1} {x y:Value} (hx:qcD (sit C σ a.tmps w own) x1 x) (hxs:∀s,x1.s=some s→x1.a≠ .undef→s<σ.length) (hy:qcD (sit C σ a.tmps w own) y1 y)
  {f:Eff} (he:(qri E o t x1 y1).run (qA σ)=some f) (hd:∀u∈f.upd,u.s<σ.length) (hc:qdR f.chk)
  (hr:∃ty,(execOp a.eval o).run C.P w=((Builtin.append_ #[t,t] ty #[x,y]).run C.P w).andThen fun v w=> .ok (.value v) w):qes C o a w (qv σ f.upd):=by
 unfold qri at he
 obtain ⟨r,h1,he⟩:=Q.bind_some he
 obtain ⟨q,h2,he⟩:=Q.bind_some he
 split at he
 case h_2=>cases he
 rename_i d hdst
 split at he
 case isFalse=>cases he
 rename_i hcond
 obtain ⟨c1,c2,c3,c4,c5,c6⟩:=hcond
 split at he
 case h_2=>cases he
 rename_i ys hys
 have:=Q.ret_some he
 subst this
 obtain ⟨bs,r1,r2⟩:=qmd h hx hxs h1
 have hrow:=qvA h hy h2
 obtain ⟨i,z,k1,k2,k3,k4,k5,k6,k7⟩:=hE.elem' c1
 obtain ⟨ro,et,⟨e,xs⟩⟩:=r
 obtain ⟨⟨e',zs⟩,qo⟩:=q
 simp only at c1 c2 c3 c4 c5 c6 r1 r2 hrow hd hc hys k3 k5 k7⊢
 have hee:e'=e:=by
  obtain ⟨e1,_⟩:=Ty.as_some hys
  injection e1
 subst hee
 have hzs:zs=ys:=by
  obtain ⟨e1,e2⟩:=Ty.as_some hys
  exact e2
 subst hzs
 obtain ⟨cells,g1,g2,g3⟩:=r1
 obtain ⟨ty,hr⟩:=hr
 have hroom:((xs.length:Int)+(zs.length:Int)) * (E.bytes et:Int)≤140737488355328:=by
  have:=hc _ (List.mem_singleton.2 rfl)
  rw [qki,qt,qt] at this
  exact of_decide_eq_true this
 have hbytes:(xs.length+zs.length) * E.bytes et≤140737488355328:=by
  have:(((xs.length+zs.length) * E.bytes et:Nat):Int)≤140737488355328:=by
   rw [Int.natCast_mul,Int.natCast_add]; exact hroom
  omega
 have h63:xs.length+zs.length≤maxLen:=by
  have:(xs.length+zs.length) * 1≤(xs.length+zs.length) * E.bytes et:=Nat.mul_le_mul_left _ (by omega)
  simp only [maxLen]; omega
 have hdl:d<σ.length:=hd ⟨d,true,.own et e' (qem xs zs)⟩ (by simp)
 rw [g2] at r2
 have key:∃v' w' news,(execOp a.eval o).run C.P w= .ok (.value v') w'∧w'.ownsRow 0 et e'.size v' (xs.length+zs.length) (cells++news)∧w.grownBy w' x.ownBlock∧
   (∀b∈v'.ownBlock.toList,(w.heap.size≤b∧b<w'.heap.size)∨b∈x.ownBlock.toList)∧(∀(i:Nat) (u:e'.den),zs[i]? =some u→Rep w (C.free w own) e' u ((news.drop (i * e'.size)).take e'.size)):=by
  rcases hrow with ⟨rfl,hz0⟩|⟨ad,cap,news,rfl,n1,n2,n3⟩
  ·have hz0:zs=[]:=hz0
   subst hz0
   refine ⟨x,w,[],?_,by simpa using g1,⟨rfl,rfl,rfl,Nat.le_refl _,fun _ _ _=>rfl⟩,fun b hb=> .inr hb,fun i u hi=>by cases hi⟩
   rw [hr]
   rw [run_append_owned_none (w:=w) 0 t ty et i e'.size (by rw [k1,c2]) (by rw [c2]; exact k2) x xs.length cells g1]
   rfl
  ·obtain ⟨v',w',a1,a2,a3,a4⟩:=qr7 (P:=C.P) (t:=t) (ty:=ty) (e:=et) (i:=i) (z:=z) (size:=e'.size) (bytes:=E.bytes et) (by rw [k1,c2]) (by rw [c2]; exact k2) k4 k3 (by rw [k6,c2]) k5 (by omega) g1 (c:=cap) n1 n2 (by
    intro u hu
    obtain ⟨j,hj,rfl⟩:=List.getElem_of_mem hu
    have hpos:0<e'.size:=by omega
    have hjlt:j / e'.size<zs.length:=(Nat.div_lt_iff_lt_mul hpos).2 (by rw [←n1]; exact hj)
    have hrep:=n3 _ _ (List.getElem?_eq_getElem hjlt)
    have hm:=Nat.mod_lt j hpos
    have hdm:j / e'.size * e'.size+j % e'.size=j:=by rw [Nat.mul_comm]; exact Nat.div_add_mod j _
    refine hrep.oneCell _ (List.mem_of_getElem? (i:=j % e'.size) ?_)
    rw [List.getElem?_take,if_pos hm,List.getElem?_drop,hdm]
    exact List.getElem?_eq_getElem hj) h63 hbytes
   exact ⟨v',w',news,by rw [hr,a1]; rfl,a2,a3,a4,n3⟩
 exact qnS h hdst c6 hdl r2 g1 g3 key
theorem qqv {P:Program} {t u ty e:Nat} {i:TypeInfo} (ht:P.underlying t=some (.slice e)) (hu:P.underlying u=some .string) (hi:P.info? e=some i) (hz:i.zero=some (.int .u8 0))
  (hsize:i.size=1) (hby:i.bytes=1) {v:Value} {n:Nat} {xs:List Value} (hown:w.ownsRow 0 e 1 v n xs) (s:ByteArray) (h63:n+s.size≤maxLen) (hbytes:n+s.size≤140737488355328):
  ∃v' w',(Builtin.append_ #[t,u] ty #[v,.string s]).run P w= .ok v' w'∧w'.ownsRow 0 e 1 v' (n+s.size) (xs++Lib.strCells s)∧w.grownBy w' v.ownBlock∧
   ∀b∈v'.ownBlock.toList,(w.heap.size≤b∧b<w'.heap.size)∨b∈v.ownBlock.toList:=by
 obtain ⟨v',w',k1,k2,k3,k4⟩:=Lib.run_append_own_string (P:=P) w 0 t u ty e i ht hu hi hz hsize hby v n xs hown s h63 hbytes (Nat.zero_le _)
 refine ⟨v',w',k1,k2,k3,?_⟩
 have hsmall:n+s.size≤9223372036854775807:=by simp only [maxLen] at h63; omega
 have fresh:∀ {cap:Nat} {o:Obj} {w1:World} {m:Nat},w1.heap.size=w.heap.size→(Builtin.append_ #[t,u] ty #[v,.string s]).run P w= .ok (.slice (some ⟨w.heap.size,0,none⟩) m cap) (w1.alloc o)→∀b∈v'.ownBlock.toList,(w.heap.size≤b∧b<w'.heap.size)∨b∈v.ownBlock.toList:=by
  intro cap o w1 m hs hr b hb
  rw [hr] at k1
  injection k1 with e1 e2
  subst e1
  subst e2
  simp [Value.ownBlock] at hb
  subst hb
  exact .inl ⟨Nat.le_refl _,by simp [hs]⟩
 rcases hown.2 with ⟨rfl,rfl⟩|⟨g,cap,cur,rfl,hbg,hg,hnc,hcm,hcs,htake⟩
 ·by_cases hm:s.size=0
  ·have:=(k4.2 ⟨rfl,hm⟩)
   subst this
   intro b hb
   cases hb
  ·have hr:=run_append_nil_string (P:=P) w t u ty e i (.int .u8 0) ht hu hi hz s (by omega) (by omega) (by rw [hby]; omega)
   exact fresh (w1:=w.drew) (by rfl) hr
 ·by_cases hroom:n+s.size≤cap
  ·have hcs':cur.size=cap:=by simpa using hcs
   have hr:=Lib.run_append_room_string (P:=P) w t u ty e i ht hu hi hsize g n cap cur hg s hroom (by omega)
   rw [hr] at k1
   injection k1 with e1 e2
   subst e1
   intro b hb
   exact .inr hb
  ·have holds:∀j x,xs[j]? =some x→w.cell? ((⟨g,0,none⟩:Addr).add j)=some x:=hown.cells (g:=g) rfl
   have hr:=Lib.run_append_grow_string (P:=P) w t u ty e i (.int .u8 0) ht hu hi hz ⟨g,0,none⟩ n cap xs (by rw [hsize]; exact hown.1) holds s (by omega) (by omega) (by rw [hby]; exact growslice_fits (by omega) (by omega))
   exact fresh (w1:=w.drew) (by rfl) hr
theorem qh2 {l:List Value} {i:Nat} {u:Value} (h:l[i]? =some u):(l.drop (i * 1)).take 1=[u]:=by
 rw [Nat.mul_one]
 obtain ⟨hi,rfl⟩:=List.getElem?_eq_some_iff.1 h
 rw [List.drop_eq_getElem_cons hi]
 rfl
theorem qsc (hE:qcc E C.P) (h:qas C σ a.tmps w own) {t t':Nat} {x1 y1:Op1} {x y:Value} (hx:qcD (sit C σ a.tmps w own) x1 x) (hxs:∀s,x1.s=some s→x1.a≠ .undef→s<σ.length) (hy:qcD (sit C σ a.tmps w own) y1 y)
  {f:Eff} (he:(qqm E o t t' x1 y1).run (qA σ)=some f) (hd:∀u∈f.upd,u.s<σ.length) (hc:qdR f.chk)
  (hr:∃ty,(execOp a.eval o).run C.P w=((Builtin.append_ #[t,t'] ty #[x,y]).run C.P w).andThen fun v w=> .ok (.value v) w):qes C o a w (qv σ f.upd):=by
 unfold qqm at he
 obtain ⟨r,h1,he⟩:=Q.bind_some he
 obtain ⟨q,h2,he⟩:=Q.bind_some he
 split at he
 case h_2=>cases he
 rename_i d hdst
 split at he
 case isFalse=>cases he
 rename_i hcond
 obtain ⟨c1,c2,c3,c5,c6⟩:=hcond
 split at he
 case h_2=>cases he
 rename_i xs0 hxs0
 have:=Q.ret_some he
 subst this
 obtain ⟨bs,r1,r2⟩:=qmd h hx hxs h1
 obtain ⟨i,z,k1,k2,k3,k4,k5,k6,k7⟩:=hE.elem' c1
 obtain ⟨ro,et,⟨e,xs⟩⟩:=r
 simp only at c1 c2 c3 c5 c6 r1 r2 hd hc hxs0⊢
 have hee:e= .int .u8:=by
  obtain ⟨e1,_⟩:=Ty.as_some hxs0
  injection e1
 subst hee
 have hzs:xs=xs0:=by
  obtain ⟨e1,e2⟩:=Ty.as_some hxs0
  exact e2
 subst hzs
 obtain ⟨s,qo⟩:=q
 simp only at hd hc⊢
 obtain ⟨e2,hsl⟩:=qaN.str (qdx h hy h2)
 obtain ⟨cells,g1,g2,g3⟩:=r1
 obtain ⟨ty,hr⟩:=hr
 rw [g2] at r2
 have hroom:(xs.length:Int)+(s.length:Int)≤140737488355328:=by
  have:=hc _ (List.mem_singleton.2 rfl)
  rw [qki,qt,qt] at this
  have:=of_decide_eq_true this
  simpa using this
 have hz:z= .int .u8 0:=by
  have hrep:z.cells.toList=[.int .u8 0]:=(k7 w (fun _=>True)).1
  obtain ⟨i',z',q1,q2,q3,_⟩:=hE.dflt t _ c1
  rw [k2] at q1
  injection q1 with q1
  subst q1
  rw [k4] at q2
  injection q2 with q2
  subst q2
  have q3:=q3 rfl
  cases z with
  |agg cs=>exact absurd rfl (q3 cs)
  |_=>simpa [Value.cells] using hrep
 refine qnS h hdst c6 (hd ⟨d,true,.own et (.int .u8) (qem xs (qfi s))⟩ (by simp)) r2 g1 g3 ?_
 have hss:(⟨s.toArray⟩:ByteArray).size=s.length:=by simp [ByteArray.size]
 have g1':w.ownsRow 0 et 1 x xs.length cells:=g1
 obtain ⟨v',w',a1,a2,a3,hfresh⟩:=qqv (P:=C.P) (w:=w) (t:=t) (u:=t') (ty:=ty) (e:=et) (i:=i) (by rw [k1,c2]) (hE.str t' c5) (by rw [c2]; exact k2) (by rw [k4,hz]) k3 (by rw [k6,←c2,c3]) g1' ⟨s.toArray⟩ (by rw [hss]; simp only [maxLen]; omega) (by rw [hss]; omega)
 refine ⟨v',w',Lib.strCells ⟨s.toArray⟩,by rw [hr,e2,a1]; rfl,?_,a3,hfresh,fun i u hi=> ?_⟩
 ·rw [show (qfi s).length=s.length by rw [qdN]; simp]
  rw [hss] at a2
  exact a2
 ·rw [qdN] at hi
  rw [List.getElem?_map] at hi
  obtain ⟨b,hb,rfl⟩:=Option.map_eq_some_iff.1 hi
  have:(Lib.strCells ⟨s.toArray⟩)[i]? =some (.int .u8 b.toNat):=by
   simp only [Lib.strCells,List.getElem?_map,hb,Option.map_some]
  show Rep w (C.free w own) (.int .u8) (qc6 b) ((List.drop (i * 1) _).take 1)
  rw [qh2 this,qg4]
  refine ⟨rfl,?_⟩
  have:=b.toNat_lt
  simp [IntKind.has,IntKind.min,IntKind.max,IntKind.signed,IntKind.bits]
  omega
theorem qxb {k:IntKind} {x y:Int} (hx:k.has x) (hy:k.has y):k.has (qwy x y):=by rw [qoX]; split <;> assumption
theorem qw2 {k:IntKind} {x y:Int} (hx:k.has x) (hy:k.has y):k.has (minI x y):=by rw [qlT]; split <;> assumption
theorem qkn {n:Nat} (h:n≤maxLen):IntKind.i64.has (n:Int):=by
 simp only [maxLen] at h
 simp [IntKind.has,IntKind.min,IntKind.max,IntKind.signed,IntKind.bits]
 omega
theorem qas.drewn {tm:Array Value} (h:qas C σ tm w own):qas C σ tm w.drew own:=
 h.world ⟨rfl,rfl,rfl,Nat.le_refl _,fun _ _ _=>rfl⟩
theorem qsS (hE:qcc E C.P) (h:qas C σ a.tmps w own) {t t':Nat} {x y:Op1} {v u:Value} (hx:qcD (sit C σ a.tmps w own) x v) (hy:qcD (sit C σ a.tmps w own) y u) {f:Eff}
  (he:(qqG E o t t' x y).run (qA σ)=some f) (hd:∀u∈f.upd,u.s<σ.length) (hc:qdR f.chk)
  (hr:∃ty,(execOp a.eval o).run C.P w=((Builtin.append_ #[t,t'] ty #[v,u]).run C.P w).andThen fun v w=> .ok (.value v) w):qes C o a w (qv σ f.upd):=by
 obtain ⟨ty,hr⟩:=hr
 unfold qqG at he
 split at he
 case h_2=>cases he
 rename_i et e hxa
 obtain ⟨n,h1,he⟩:=Q.bind_some he
 split at he
 case isFalse=>cases he
 rename_i hcond
 obtain ⟨hty,het,hsz,hby,hint⟩:=hcond
 have:=Q.ret_some he
 subst this
 obtain ⟨e1,g1⟩:=qeK h hy h1
 have hv:v= .slice none 0 0:=by
  have:=hx.unowned (by rw [hxa]; rfl)
  rw [hxa] at this
  exact this.2
 obtain ⟨kn,htn⟩:∃k,C.P.underlying t'=some (.int k):=by
  unfold qqI at hint
  split at hint
  ·rename_i k hk; exact ⟨k,hE.int t' k hk⟩
  ·cases hint
 obtain ⟨i,z,k1,k2,k3,k4,k5,k6,k7⟩:=hE.elem' hty
 have c1:0<n.2:=by have:=hc (ltI 0 n.2) (by simp); simpa [qbr] using this
 have c2:n.2 * (E.bytes et:Int)≤140737488355328:=by
  have:=hc (qwf n.2 (E.bytes et)) (by simp)
  simp [qon] at this
  exact this.2
 have c3:n.2≤140737488355328:=by
  have h1:(1:Int)≤(E.bytes et:Int):=by omega
  have h2:n.2 * 1≤n.2 * (E.bytes et:Int):=Int.mul_le_mul_of_nonneg_left h1 (by omega)
  omega
 obtain ⟨m,hm⟩:∃m:Nat,n.2=(m:Int):=⟨n.2.toNat,by omega⟩
 rw [hm] at c1 c2 c3 e1
 have c2':m * i.bytes≤281474976710656:=by
  rw [k6,←het]
  have:((m * E.bytes et:Nat):Int)≤140737488355328:=by rw [Int.natCast_mul]; exact c2
  omega
 have hrun:=Lib.run_append_nil_zeros (P:=C.P) w t t' ty (E.etid t) i z n.1 kn k1 htn k2 k4 m (by omega) (by omega) (by omega) c2'
 have hx2:(execOp a.eval o).run C.P w= .ok (.value (.slice (some ⟨w.heap.size,0,none⟩) m (grownCap w m 0 (E.etid t)))) (w.drew.alloc (.cells (Builtin.zeroCells z.cells m++Builtin.zeroCells z.cells (grownCap w m 0 (E.etid t) - m)) (E.etid t))):=by
  rw [hr,hv,e1,hrun]; rfl
 generalize hcap:grownCap w m 0 (E.etid t)=cap at hx2
 have hge:m≤cap:=by rw [←hcap]; exact grownCap_ge w m 0 (E.etid t)
 have hle:cap≤maxLen:=by rw [←hcap]; exact grownCap_le_maxLen w m 0 (E.etid t) (by simp only [maxLen]; omega)
 generalize hcur:(Builtin.zeroCells z.cells m++Builtin.zeroCells z.cells (cap - m))=cur at hx2
 have hcs:cur.size=cap * e.size:=by
  rw [←hcur,Array.size_append,size_zeroCells,size_zeroCells,k5,←Nat.add_mul]
  congr 1; omega
 have hlr:qrn n.2 e.dflt=List.replicate m e.dflt:=by rw [qf4,hm]; simp
 rw [hlr,het]
 simp only [hlr,het] at hd
 have hD:=h.drewn
 refine qU hx2 (hD.dst (bs:=[w.heap.size]) (w':=w.drew.alloc (.cells cur (E.etid t))) (qcQ.alloc _ _ _) hd (fun b hb=> ?_) (by simp) ?_ (fun m hm=>by cases hm))
 ·simp at hb
  subst hb
  exact ⟨Nat.le_refl _,by show w.heap.size<(w.heap.push _).size; simp⟩
 ·refine ⟨cur.toList.take (m * e.size),⟨?_,.inr ⟨w.heap.size,cap,cur,by simp,Nat.zero_le _,heap_alloc_new w.drew _,by simpa using hge,hle,hcs,by simp⟩⟩,rfl,fun i x hi=> ?_⟩
  ·rw [List.length_take,Array.length_toList,hcs,List.length_replicate]
   exact Nat.min_eq_left (Nat.mul_le_mul_right _ hge)
  ·have hlt:i<m:=by
    have:=(List.getElem?_eq_some_iff.1 hi).1
    simpa using this
   have hu:x=e.dflt:=List.eq_of_mem_replicate (List.mem_of_getElem? hi)
   have hle2:i * e.size+e.size≤m * e.size:=by
    have:=Nat.mul_le_mul_right e.size (show i+1≤m by omega)
    rw [Nat.add_mul,Nat.one_mul] at this
    exact this
   rw [hu,List.drop_take,List.take_take,Nat.min_eq_left (by omega),←hcur,←k5,qnq _ _ _ _ hlt]
   exact k7 _ _
theorem qjg {P:Program} (w:World) (t ty e:TypeId) (z:Value) (ht:P.underlying t=some (.slice e)) (hv:∀w,(zeroValue e).run P w= .ok z w) (g o n c:Nat) (cur:List Value) (t':TypeId)
  (hg:w.heap[g]? =some (.cells cur.toArray t' (0,0))) (hn:0<n) (hfit:o+n * z.cells.size≤cur.length) (h1:∀v∈(Builtin.zeroCells z.cells n).toList,v.oneCell'=true):
  (Builtin.clear_ #[t] ty #[.slice (some ⟨g,o,none⟩) n c]).run P w= .ok (.tuple #[]) (w.setRow g (cur.take o++(Builtin.zeroCells z.cells n).toList++cur.drop (o+n * z.cells.size)).toArray):=by
 have hzl:(Builtin.zeroCells z.cells n).toList.length=n * z.cells.size:=by simp [Builtin.zeroCells]
 have hst:=run_storeCells_at P g o t' (Builtin.zeroCells z.cells n).toList 0 cur.toArray w hg (by rw [hzl]; simpa using hfit) h1
 simp only [Nat.add_zero,hzl] at hst
 obtain ⟨m,rfl⟩:∃m,n=m+1:=⟨n - 1,by omega⟩
 simp [Builtin.clear_,run_underlying ht,hv,hst]
theorem qak.clr {P:Program} {F:Nat→Prop} {t ty te:Nat} {z:Value} {et:Nat} {e:Ty} {xs:List e.den} {ad:Option Addr} {n cap:Nat} {bs:List Nat} {lo hi:Int} (ht:P.underlying t=some (.slice te)) (hv:∀w,(zeroValue te).run P w= .ok z w) (hz:z.cells.size=e.size) (hzr:∀w F,Rep w F e e.dflt z.cells.toList) (hsz:e.size≠0)
  (hrow:qak w F et e xs (.slice ad n cap) bs) (hF0:∀x,F x→x∉bs) (c1:0≤lo) (c2:lo≤hi) (c3:hi≤(n:Int)):
  ∃W,(Builtin.clear_ #[t] ty #[sliced ad lo.toNat hi.toNat cap e.size]).run P w= .ok (.tuple #[]) W∧qcQ (fun k=>k∈bs) w W∧qak W F et e (qem (qaB xs 0 lo) (qem (qrn (qbn .i64 hi lo) e.dflt) (qaB xs hi (qr xs)))) (.slice ad n cap) bs:=by
 obtain ⟨cells,r1,r2,r3⟩:=hrow
 have hrow':qak w F et e xs (.slice ad n cap) bs:=⟨cells,r1,r2,r3⟩
 obtain ⟨r4,r5⟩:=r1
 obtain ⟨ad',cap',f1,f2⟩:=hrow'.form
 injection f1 with f1 f3 f4
 subst f1; subst f3; subst f4
 have hcm:xs.length≤9223372036854775807:=by
  rcases r5 with ⟨h1,h2⟩|⟨g,cap,cur,h1,_,_,h2,h3,_⟩
  ·omega
  ·simp only [maxLen] at h3; omega
 have hsub:qbn .i64 hi lo=hi - lo:=by
  rw [ql3,IntKind.wrap_i64]; omega
 have hys:qem (qaB xs 0 lo) (qem (qrn (qbn .i64 hi lo) e.dflt) (qaB xs hi (qr xs)))=xs.take lo.toNat++(List.replicate (hi.toNat - lo.toNat) e.dflt++xs.drop hi.toNat):=by
  rw [hsub]
  simp only [qbv,qcF,qf4,qt]
  rw [show (hi - lo).toNat=hi.toNat - lo.toNat by omega]
  simp
 rw [hys]
 by_cases heq:lo=hi
 ·subst heq
  refine ⟨w,?_,qcQ.refl _ _,?_⟩
  ·have hs0:∃q c,sliced ad lo.toNat lo.toNat cap e.size= .slice q 0 c:=⟨_,_,by simp only [sliced,Nat.sub_self]; rfl⟩
   obtain ⟨q,c,hs0⟩:=hs0
   rw [hs0]
   cases q <;> simp [Builtin.clear_,run_underlying ht]
  ·simpa using hrow'
 rcases r5 with ⟨h1,h2⟩|⟨g,cap,cur,h1,_,hg,hnc,hcap,hcs,htk⟩
 ·omega
 injection h1 with h1 _ h2
 subst h1; subst h2
 have hlo:lo.toNat<xs.length:=by omega
 have hsl:sliced (some ⟨g,0,none⟩) lo.toNat hi.toNat cap e.size= .slice (some ⟨g,lo.toNat * e.size,none⟩) (hi.toNat - lo.toNat) (cap - lo.toNat):=by
  simp only [sliced]
  rw [if_neg (by omega)]
  simp only [Option.map_some,qai,Nat.zero_add]
 have hZl:(Builtin.zeroCells z.cells (hi.toNat - lo.toNat)).toList.length=(hi.toNat - lo.toNat) * e.size:=by simp [Builtin.zeroCells,hz]
 have hcl:cells.length=xs.length * e.size:=r4
 have hcz:cur.toList.length=cap * e.size:=by rw [Array.length_toList]; exact hcs
 have hnc':xs.length * e.size≤cap * e.size:=Nat.mul_le_mul_right _ hnc
 have hmul:lo.toNat * e.size+(hi.toNat - lo.toNat) * e.size=hi.toNat * e.size:=by rw [←Nat.add_mul]; congr 1; omega
 have hhi:hi.toNat * e.size≤xs.length * e.size:=Nat.mul_le_mul_right _ (by omega)
 have hZone:∀v∈(Builtin.zeroCells z.cells (hi.toNat - lo.toNat)).toList,v.oneCell'=true:=fun v hvm=>by
  obtain ⟨i,hi',rfl⟩:=List.getElem_of_mem hvm
  rw [hZl] at hi'
  have h1:=qf0 z.cells ((hi.toNat - lo.toNat) * z.cells.size) i (by rw [hz]; exact hi') (by rw [hz]; omega)
  have h2:(Builtin.zeroCells z.cells (hi.toNat - lo.toNat)).toList[i]? =z.cells.toList[i % z.cells.size]? :=h1
  rw [List.getElem?_eq_getElem (by rw [hZl]; exact hi')] at h2
  exact (hzr w F).oneCell _ (List.mem_of_getElem? h2.symm)
 have hrun:=qjg (P:=P) w t ty te z ht hv g (lo.toNat * e.size) (hi.toNat - lo.toNat) (cap - lo.toNat) cur.toList et hg (by omega) (by rw [hz,hcz]; omega) hZone
 rw [hsl]
 refine ⟨_,hrun,?_⟩
 rw [hz]
 have hsp:(cur.toList.take (lo.toNat * e.size)++(Builtin.zeroCells z.cells (hi.toNat - lo.toNat)).toList++cur.toList.drop (lo.toNat * e.size+(hi.toNat - lo.toNat) * e.size)).toArray=(qa0 cur.toList (lo.toNat * e.size) (Builtin.zeroCells z.cells (hi.toNat - lo.toNat)).toList).toArray:=by rw [qa0,hZl]
 rw [hsp]
 generalize hZ:(Builtin.zeroCells z.cells (hi.toNat - lo.toNat)).toList=Z at *
 generalize hW:w.setRow g (qa0 cur.toList (lo.toNat * e.size) Z).toArray=W
 have hbs:bs=[g]:=by rw [r2]; rfl
 have hkept:qcQ (fun k=>k=g) w W:=by rw [←hW]; exact qhc _ hg
 have hheap:W.heap[g]? =some (.cells (qa0 cur.toList (lo.toNat * e.size) Z).toArray et (0,0)):=by rw [←hW]; exact setRow_heap w g _ _ et _ hg
 have hF:∀x,F x→x<w.heap.size→F x∧x<W.heap.size∧W.heap[x]? =w.heap[x]? :=fun x hx hlt=>⟨hx,Nat.lt_of_lt_of_le hlt hkept.size,hkept.block x hlt fun e=>hF0 x hx (by rw [hbs,e]; exact List.mem_singleton.2 rfl)⟩
 have hspl:(qa0 cur.toList (lo.toNat * e.size) Z).length=cur.toList.length:=qft (by rw [hZl,hcz]; omega)
 have hyl:(xs.take lo.toNat++(List.replicate (hi.toNat - lo.toNat) e.dflt++xs.drop hi.toNat)).length=xs.length:=by simp; omega
 refine ⟨hkept.mono fun k hk=>by rw [hbs,hk]; exact List.mem_singleton.2 rfl,?_⟩
 refine ⟨(qa0 cur.toList (lo.toNat * e.size) Z).take (xs.length * e.size),⟨?_,.inr ⟨g,cap,_,by rw [hyl],Nat.zero_le _,hheap,by rw [hyl]; exact hnc,hcap,by rw [List.size_toArray,hspl,hcz],by rw [hyl]⟩⟩,r2,?_⟩
 ·rw [List.length_take,hspl,hyl,hcz]; omega
 intro j x hj
 have hjl:j<xs.length:=by
  have:=(List.getElem?_eq_some_iff.1 hj).1
  rw [hyl] at this; exact this
 have hjn:j * e.size+e.size≤xs.length * e.size:=by rw [←Nat.succ_mul]; exact Nat.mul_le_mul_right _ hjl
 rw [qge hjl]
 by_cases hz1:lo.toNat≤j∧j<hi.toNat
 ·have hx:x=e.dflt:=by
   rw [List.getElem?_append_right (by rw [List.length_take]; omega),List.getElem?_append_left (by rw [List.length_take,List.length_replicate]; omega)] at hj
   exact List.eq_of_mem_replicate (List.mem_of_getElem? hj)
  have hc:((qa0 cur.toList (lo.toNat * e.size) Z).drop (j * e.size)).take e.size=z.cells.toList:=by
   have h0:=qgh z.cells (hi.toNat - lo.toNat) (j - lo.toNat) (by omega)
   have h0':(Z.drop ((j - lo.toNat) * e.size)).take e.size=z.cells.toList:=by
    rw [←hZ,←hz]; exact h0
   rw [←h0']
   have hjlo:lo.toNat * e.size+(j - lo.toNat) * e.size=j * e.size:=by rw [←Nat.add_mul]; congr 1; omega
   have hjhi:j * e.size+e.size≤hi.toNat * e.size:=by rw [←Nat.succ_mul]; exact Nat.mul_le_mul_right _ hz1.2
   apply List.ext_getElem?
   intro k
   rw [List.getElem?_take,List.getElem?_take]
   split
   ·rename_i hk
    rw [List.getElem?_drop,List.getElem?_drop,qgD (by rw [hZl,hcz]; omega),if_neg (by omega),if_pos (by rw [hZl]; omega)]
    congr 1
    omega
   ·rfl
  rw [hx,hc]
  exact hzr W F
 ·have hx0:xs[j]? =some x:=by
   by_cases hjlo:j<lo.toNat
   ·rw [List.getElem?_append_left (by rw [List.length_take]; omega),List.getElem?_take,if_pos hjlo] at hj
    exact hj
   ·rw [List.getElem?_append_right (by rw [List.length_take]; omega),List.getElem?_append_right (by rw [List.length_take,List.length_replicate]; omega),List.getElem?_drop] at hj
    rw [←hj]
    congr 1
    simp only [List.length_take,List.length_replicate]
    omega
  have hc:((qa0 cur.toList (lo.toNat * e.size) Z).drop (j * e.size)).take e.size=(cells.drop (j * e.size)).take e.size:=by
   rw [←htk,qge hjl]
   apply List.ext_getElem?
   intro k
   rw [List.getElem?_take,List.getElem?_take]
   split
   ·rename_i hk
    rw [List.getElem?_drop,List.getElem?_drop,qgD (by rw [hZl,hcz]; omega)]
    by_cases hjlo:j<lo.toNat
    ·have:j * e.size+e.size≤lo.toNat * e.size:=by rw [←Nat.succ_mul]; exact Nat.mul_le_mul_right _ hjlo
     rw [if_pos (by omega)]
    ·have:hi.toNat * e.size≤j * e.size:=Nat.mul_le_mul_right _ (by omega)
     rw [if_neg (by omega),if_neg (by rw [hZl]; omega)]
   ·rfl
  rw [hc]
  exact (r3 j x hx0).keep hF
theorem qqW (hE:qcc E C.P) (h:qas C σ a.tmps w own) {b:Builtin} {ts:List Nat} {os:List Op1} {vs:List Value} (ho:qma (sit C σ a.tmps w own) os vs) (hos:∀o1∈os,∀s,o1.s=some s→o1.a≠ .undef→s<σ.length)
  {f:Eff} (he:(qoS E o b ts os).run (qA σ)=some f) (hd:∀u∈f.upd,u.s<σ.length) (hc:qdR f.chk)
  (hr:∃ty cs,(execOp a.eval o).run C.P w=(builtin b ts.toArray ty cs vs.toArray).run C.P w):qes C o a w (qv σ f.upd):=by
 obtain ⟨ty,cs,hr⟩:=hr
 unfold qoS at he
 split at he
 ·rename_i x
  match vs,ho with
  |[v],ho=>
   obtain ⟨r,h1,he⟩:=Q.bind_some he
   have rx:=qdM h ho.1 h1
   split at he
   ·rename_i e xs _ t _ _
    split at he
    case isFalse=>cases he
    rename_i hty
    have:=qV he
    subst this
    have hu:=(hE.elem t e hty).under
    rcases qaN.slice rx with ⟨e1,e2⟩|⟨ad,cap,e1,e2,e3,_⟩
    ·have e2:xs=[]:=e2
     subst e2
     refine qbg h (v:= .int .i64 0) ?_ hd (by rw [qt]; exact qaN.ofInt _ _ (qkn (n:=0) (by simp)))
     rw [hr,e1]
     simp [builtin,Builtin.len_,run_underlying hu,goInt]
    ·refine qbg h (v:= .int .i64 (qr xs)) ?_ hd (qaN.ofInt _ _ (by rw [qt]; exact qkn (n:=xs.length) (Nat.le_trans e2 e3)))
     rw [hr,e1]
     simp [builtin,Builtin.len_,run_underlying hu,goInt,qt]
   ·rename_i xs _ t _ _
    split at he
    case isFalse=>cases he
    rename_i hty
    have:=qV he
    subst this
    have hu:=hE.str t hty
    obtain ⟨e1,e2⟩:=qaN.str rx
    have e2:xs.length≤maxLen:=e2
    refine qbg h (v:= .int .i64 (qr xs)) ?_ hd (qaN.ofInt _ _ (by rw [qt]; exact qkn (n:=xs.length) e2))
    rw [hr,e1]
    simp [builtin,Builtin.len_,run_underlying hu,goInt,qt,ByteArray.size_mk']
   ·cases he
 ·rename_i x y
  match vs,ho with
  |[v,u],ho=>
   split at he
   ·rename_i t t'
    split at he
    ·rename_i htt
     subst htt
     refine qsT hE h ho.1 (hos x (by simp)) ho.2.1 he hd hc ⟨ty,?_⟩
     rw [hr]
     simp only [builtin,Sem.run_bind]
     rfl
    ·split at he
     ·refine qsS hE h ho.1 ho.2.1 he hd hc ⟨ty,?_⟩
      rw [hr]
      simp only [builtin,Sem.run_bind]
      rfl
     ·refine qsc hE h ho.1 (hos x (by simp)) ho.2.1 he hd hc ⟨ty,?_⟩
      rw [hr]
      simp only [builtin,Sem.run_bind]
      rfl
   ·cases he
 ·rename_i x
  match vs,ho with
  |[v],ho=>
   split at he
   case h_2=>cases he
   rename_i et e t ts' hxa
   split at he
   case isFalse=>cases he
   rename_i hty
   have:=qV he
   subst this
   have hv:v= .slice none 0 0:=by
    have:=ho.1.unowned (by rw [hxa]; rfl)
    rw [hxa] at this
    exact this.2
   have hu:=(hE.elem t e hty).under
   refine qbg h (v:= .int .i64 0) ?_ hd (qaN.ofInt _ _ (qkn (n:=0) (by simp)))
   rw [hr,hv]
   simp [builtin,Builtin.cap_,goInt,run_underlying hu]
 ·rename_i x
  match vs,ho with
  |[v],ho=>
   split at he
   case h_2=>cases he
   rename_i s v0 fo sz lo hi t ts' hxa
   split at he
   case isTrue=>cases he
   rename_i hdst
   rw [Q.run_get] at he
   split at he
   case isFalse=>cases he
   rename_i hver
   split at he
   case h_2=>cases he
   rename_i et e xs hown
   split at he
   case isFalse=>cases he
   rename_i hcond
   obtain ⟨hsz,hsz0,hty⟩:=hcond
   subst hsz
   split at he
   case h_2=>cases he
   rename_i a' hsw
   have:=qV he
   subst this
   have hop:=ho.1.unowned (by rw [hxa]; rfl)
   rw [hxa] at hop
   obtain ⟨ad,n,cap,k1,c1,c2,c3,k2⟩:=hop.2 hver
   obtain ⟨hsl,b1,b2,b3,q1,q2,q3,q4⟩:=h.rowAt hown k1
   obtain ⟨i,z,m1,m2,m3,m4,m5,m6,m7⟩:=hE.elem' hty
   have hzv:∀w,(zeroValue (E.etid t)).run C.P w= .ok z w:=fun w=>by simp [zeroValue,typeInfo,m2,m4]
   obtain ⟨W,hrun,hkept,hrow'⟩:=qak.clr (ty:=ty) m1 hzv m5 m7 hsz0 q1 (fun x hx hm=>hx.2.2 s (by rw [q2]; exact List.mem_append_right _ (List.mem_append_left _ hm))) c1 c2 c3
   obtain ⟨g1,g2⟩:=q4 W (.own et e (qem (qaB xs 0 lo) (qem (qrn (qbn .i64 hi lo) e.dflt) (qaB xs hi (qr xs))))) b2 a' hkept ⟨_,rfl,hrow'⟩ hsw
   have hcl:Builtin.clear_ (t::ts').toArray ty #[sliced ad lo.toNat hi.toNat cap e.size]=Builtin.clear_ #[t] ty #[sliced ad lo.toNat hi.toNat cap e.size]:=by simp [Builtin.clear_]
   have hr2:(execOp a.eval o).run C.P w= .ok (.value (.tuple #[])) W:=by
    rw [hr,k2]
    simp only [builtin,Sem.run_bind,hcl,hrun]
    rfl
   refine qU hr2 ⟨own,?_⟩
   have hdn:o.dst=none:=by cases ho:o.dst <;> simp [ho] at hdst⊢
   rw [hdn]
   exact h.mutK hsl q2 q3 hkept (by rw [q2]; exact g1) g2
 ·rename_i x r
  match vs,ho with
  |v::vs,ho=>
   obtain ⟨m,h1,he⟩:=Q.bind_some he
   obtain ⟨n,h2,he⟩:=Q.bind_some he
   have:=qV he
   subst this
   obtain ⟨e1,g1⟩:=qeK h ho.1 h1
   obtain ⟨k1,k2⟩:=qkT (P:=C.P) h (m2:=Builtin.max2) (fun k x y=>by simp [Builtin.max2,qoX]) (fun k x y=>qxb) r vs m.2 n g1 ho.2 h2
   refine qbg h ?_ hd (qaN.ofInt _ _ k2)
   rw [hr,e1]
   simp [builtin,Builtin.max_,k1]
 ·rename_i x r
  match vs,ho with
  |v::vs,ho=>
   obtain ⟨m,h1,he⟩:=Q.bind_some he
   obtain ⟨n,h2,he⟩:=Q.bind_some he
   have:=qV he
   subst this
   obtain ⟨e1,g1⟩:=qeK h ho.1 h1
   obtain ⟨k1,k2⟩:=qkT (P:=C.P) h (m2:=Builtin.min2) (fun k x y=>by simp [Builtin.min2,qlT]) (fun k x y=>qw2) r vs m.2 n g1 ho.2 h2
   refine qbg h ?_ hd (qaN.ofInt _ _ k2)
   rw [hr,e1]
   simp [builtin,Builtin.min_,k1]
 ·cases he
end
end Go.Vi
namespace Go.Vi
open Go.RowKit
theorem qhz {css:List (List Value)} {i:Nat} {c:List Value} (hi:css[i]? =some c):css.flatten=(css.take i).flatten++c++(css.drop (i+1)).flatten:=by
 obtain ⟨hlt,rfl⟩:=List.getElem?_eq_some_iff.1 hi
 conv=>lhs; rw [←List.take_append_drop i css,List.drop_eq_getElem_cons hlt]
 rw [List.flatten_append,List.flatten_cons,List.append_assoc]
theorem qqa {css:List (List Value)} {i:Nat} {d:List Value} (hi:i<css.length):(css.set i d).flatten=(css.take i).flatten++d++(css.drop (i+1)).flatten:=by
 have h:=qhz (css:=css.set i d) (i:=i) (c:=d) (by simp [hi])
 rw [h]
 congr 2
 ·rw [List.take_set]
  rw [List.set_eq_of_length_le (by rw [List.length_take]; exact Nat.min_le_left _ _)]
 ·rw [List.drop_set]
  simp
def qlg (css:List (List Value)) (i:Nat):Nat:=(css.take i).flatten.length
theorem qpv (cells:Array Value) (pre c post:List Value) (v:List Value) (hc:cells.toList=pre++c++post) (hl:v.length=c.length):
  ((v.zipIdx 0).foldl (fun cs (x:Value×Nat)=>cs.setIfInBounds (pre.length+x.2) x.1) cells).toList=pre++v++post:=by
 obtain ⟨h1,h2⟩:=Great.foldl_set pre.length v 0 cells
 have hs:cells.size=pre.length+v.length+post.length:=by rw [←Array.length_toList,hc]; simp; omega
 apply List.ext_getElem?
 intro k
 rw [Array.getElem?_toList,h2 k]
 split
 ·rename_i hk
  rw [List.append_assoc,List.getElem?_append_right (by omega),List.getElem?_append_left (by omega)]
  simp
 ·rename_i hk
  rw [←Array.getElem?_toList,hc]
  by_cases h3:k<pre.length
  ·rw [List.append_assoc,List.append_assoc,List.getElem?_append_left h3,List.getElem?_append_left h3]
  ·rw [List.getElem?_append_right (by simp; omega),List.getElem?_append_right (by simp; omega)]
   simp [hl]
theorem qro {place:Nat→Option (Nat×Nat)} :∀(parts:List (Nat×Value)) (css:List (List Value)) (cells:Array Value),cells.toList=css.flatten→(∀i c,css[i]? =some c→place i=some (qlg css i,c.length))→
  (∀q∈parts,∃c,css[q.1]? =some c∧q.2.cells.toList.length=c.length)→∃r,Instr.fill place cells parts=some r∧r.toList=(parts.foldl (fun css q=>css.set q.1 q.2.cells.toList) css).flatten
 |[],css,cells,h1,_,_=>⟨cells,rfl,h1⟩
 |(i,v)::rest,css,cells,h1,h2,h3=>by
  obtain ⟨c,k1,k2⟩:=h3 (i,v) (by simp)
  simp only at k1 k2
  have hi:i<css.length:=(List.getElem?_eq_some_iff.1 k1).1
  have hp:=h2 i c k1
  have hsplit:=qhz k1
  have hsz:cells.size=qlg css i+c.length+(css.drop (i+1)).flatten.length:=by
   rw [←Array.length_toList,h1,hsplit]; simp only [List.length_append,qlg]
  rw [Array.length_toList] at k2
  have hset:=qqa (d:=v.cells.toList) hi
  have hoff:∀j,qlg (css.set i v.cells.toList) j=qlg css j:=fun j=>by
   unfold qlg
   rw [List.take_set]
   by_cases hj:i<j
   ·have hj2:i<(css.take j).length:=by simp; omega
    rw [qqa hj2,qhz (css:=css.take j) (i:=i) (c:=c) (by rw [List.getElem?_take,if_pos hj]; exact k1)]
    simp only [List.length_append,Array.length_toList,k2]
   ·rw [List.set_eq_of_length_le (by simp; omega)]
  have step:=qpv cells (css.take i).flatten c (css.drop (i+1)).flatten v.cells.toList (by rw [h1]; exact hsplit) (by rw [Array.length_toList]; exact k2)
  have hzip:v.cells.zipIdx.foldl (fun cs (x:Value×Nat)=>cs.setIfInBounds (qlg css i+x.2) x.1) cells=(v.cells.toList.zipIdx 0).foldl (fun cs (x:Value×Nat)=>cs.setIfInBounds ((css.take i).flatten.length+x.2) x.1) cells:=by
   rw [←Array.foldl_toList]
   simp [qlg]
  obtain ⟨r,g1,g2⟩:=qro (place:=place) rest (css.set i v.cells.toList) ((v.cells.toList.zipIdx 0).foldl (fun cs (x:Value×Nat)=>cs.setIfInBounds ((css.take i).flatten.length+x.2) x.1) cells) (by rw [step,hset]) (fun j d hj=>by
   rw [hoff j]
   by_cases hij:i=j
   ·subst hij
    rw [List.getElem?_set_self hi] at hj
    injection hj with hj
    subst hj
    rw [hp,show v.cells.toList.length=v.cells.size from Array.length_toList,k2]
   ·rw [List.getElem?_set_ne hij] at hj
    exact h2 j d hj) (fun q hq=>by
   obtain ⟨d,m1,m2⟩:=h3 q (List.mem_cons_of_mem _ hq)
   by_cases hij:i=q.1
   ·rw [←hij] at m1⊢
    rw [k1] at m1
    injection m1 with m1
    subst m1
    exact ⟨_,List.getElem?_set_self hi,by rw [m2,show v.cells.toList.length=v.cells.size from Array.length_toList,k2]⟩
   ·exact ⟨d,by rw [List.getElem?_set_ne hij]; exact m1,m2⟩)
  refine ⟨r,?_,g2⟩
  simp only [Instr.fill,hp]
  have e1:(v.cells.size != c.length)=false:=by simp [k2]
  have e2:¬(qlg css i+v.cells.size > cells.size):=by omega
  have e3:¬(v.cells.size≠c.length||qlg css i+v.cells.size > cells.size)=true:=by simp [k2]; omega
  rw [if_neg e3]
  rw [hzip]
  exact g1
theorem qlr {css:List (List Value)} :∀(parts:List (Nat×Value)) {css:List (List Value)},qkk (parts.map (·.1))=true→∀k,(parts.foldl (fun css q=>css.set q.1 q.2.cells.toList) css)[k]? =
  match parts.find? (fun q=>q.1 == k) with
  |some q=>if k<css.length then some q.2.cells.toList else none
  |none=>css[k]?
 |[],css,_,k=>rfl
 |(i,v)::rest,css,hn,k=>by
  simp only [List.map_cons,qkk,Bool.and_eq_true,Bool.not_eq_true'] at hn
  rw [List.foldl_cons,qlr (css:=css) rest hn.2 k,List.find?_cons]
  by_cases hik:i=k
  ·subst hik
   have:rest.find? (fun q=>q.1 == i)=none:=by
    rw [List.find?_eq_none]
    intro q hq he
    have he:q.1=i:=by simpa using he
    have:(rest.map (·.1)).contains i=true:=by simp; exact ⟨q.2,by rw [←he]; exact hq⟩
    rw [this] at hn
    cases hn.1
   rw [this]
   simp [List.getElem?_set]
  ·have e:(i == k)=false:=by simp [hik]
   rw [e]
   simp only [List.length_set]
   cases rest.find? (fun q=>q.1 == k) with
   |some q=>rfl
   |none=>simp [hik]
section
variable {C:Ctx} {E:Env} {σ:St} {tm:Array Value} {a:Act} {w w':World} {own:Nat→List Nat} {o:Oper} {p:qh5} [Tabbed E C]
def qgd (X:Sit):List (Nat×Op1)→List (Nat×Value)→Prop
 |[],[]=>True
 |o::os,v::vs=>o.1=v.1∧qcD X o.2 v.2∧qgd X os vs
 |_,_=>False
theorem qip (h:qas C σ a.tmps w own) (hp:qcn (sit C σ a.tmps w own) p) {tid:Nat→Nat} :∀(xs:List (Nat×Operand)) {os:List (Nat×Op1)},(qkg E p tid xs).run (qA σ)=some os→qgd (sit C σ a.tmps w own) os (xs.map fun x=>(x.1,a.eval x.2))
 |[],os,he=>by
  have:=Q.ret_some he
  subst this
  trivial
 |(i,x)::xs,os,he=>by
  obtain ⟨o1,h1,he⟩:=Q.bind_some he
  obtain ⟨r,h2,he⟩:=Q.bind_some he
  have:=Q.ret_some he
  subst this
  exact ⟨rfl,qaS h hp h1,qip h hp xs h2⟩
theorem qgd.find {X:Sit} (k:Nat): {os:List (Nat×Op1)} → {vs:List (Nat×Value)} →qgd X os vs→
  (match os.find? (fun q=>q.1 == k) with
   |some q=>∃v,vs.find? (fun q=>q.1 == k)=some v∧qcD X q.2 v.2
   |none=>vs.find? (fun q=>q.1 == k)=none)
 |[],[],_=>rfl
 |(i,o)::os,(j,v)::vs,⟨h1,h2,h3⟩=>by
  simp only at h1
  subst h1
  rw [List.find?_cons,List.find?_cons]
  by_cases hik:i=k
  ·subst hik
   simp
   exact h2
  ·have e:(i == k)=false:=by simp [hik]
   simp only [e]
   exact h3.find k
theorem qgd.map {X:Sit} : {os:List (Nat×Op1)} → {vs:List (Nat×Value)} →qgd X os vs→os.map (·.1)=vs.map (·.1)
 |[],[],_=>rfl
 |(i,o)::os,(j,v)::vs,⟨h1,_,h3⟩=>by simp [h3.map,show i=j from h1]
theorem qof {F:Nat→Prop} {c d:BC} {c1 c2:List Value} {b1 b2:List Nat} (h1:qa5 w F c c1 b1) (h2:qa5 w F d c2 b2):qa5 w F (qiw.pairBC c d) (c1++c2) (b1++b2):=by
 unfold qiw.pairBC
 split
 ·exact ⟨by rw [h1.1,h2.1]; rfl,c1,c2,rfl,h1.2,h2.2⟩
 ·exact ⟨c1,c2,b1,b2,rfl,rfl,h1,h2⟩
theorem qex: {l:List Nat} →qkk l=true→l.Nodup
 |[],_=>List.nodup_nil
 |a::l,h=>by
  simp only [qkk,Bool.and_eq_true,Bool.not_eq_true'] at h
  refine List.nodup_cons.2 ⟨fun hm=> ?_,qex h.2⟩
  have:l.contains a=true:=by simpa using hm
  rw [this] at h
  cases h.1
theorem qtw {F:Nat→Prop} {A B:Ty} {z za zb:BC} {zs:List Value} (hz:qa5 w F z zs []) (hs:z.size=A.size+B.size) (he:qrr A B z=some (za,zb)):
  ∃z1 z2,zs=z1++z2∧qa5 w F za z1 []∧qa5 w F zb z2 []∧za.size=A.size∧zb.size=B.size:=by
 cases z with
 |pair c d=>
  simp only [qrr] at he
  split at he
  ·rename_i h1
   injection he with he
   injection he with e1 e2
   subst e1 e2
   obtain ⟨c1,c2,b1,b2,h2,h3,h4,h5⟩:=hz
   obtain ⟨rfl,rfl⟩:=List.append_eq_nil_iff.1 h3.symm
   have hs:c.size+d.size=A.size+B.size:=hs
   exact ⟨c1,c2,h2,h4,h5,h1,by omega⟩
  ·cases he
 |val t x=>
  cases t with
  |pair a' b'=>
   simp only [qrr] at he
   split at he
   ·rename_i h1
    injection he with he
    injection he with e1 e2
    subst e1 e2
    obtain ⟨_,c1,c2,h2,h3,h4⟩:=hz
    have hs:a'.size+b'.size=A.size+B.size:=hs
    exact ⟨c1,c2,h2,⟨rfl,h3⟩,⟨rfl,h4⟩,h1,by show b'.size=_; omega⟩
   ·cases he
  |_=>cases he
 |_=>cases he
theorem qmV (h:qas C σ a.tmps w own) {ps:List (Nat×Op1)} {vs:List (Nat×Value)} (hps:qgd (sit C σ a.tmps w own) ps vs):(T:Ty)→(i:Nat)→ {z:BC} → {zs:List Value} → {r:BC×List Nat} →qa5 w (C.free w own) z zs []→z.size=T.size→(qiw z T i ps).run (qA σ)=some r→r.2.Nodup→
  ∃(css zss:List (List Value)) (bs:List Nat),zs=zss.flatten∧zss.map List.length=qbe T∧css.map List.length=qbe T∧qa5 w (C.free w own) r.1 css.flatten bs∧(∀b∈bs,∃s∈r.2,b∈own s)∧bs.Nodup∧
   (∀k,k<css.length→css[k]? =match vs.find? (fun q=>q.1 == i+k) with
    |some q=>some q.2.cells.toList
    |none=>zss[k]?)∧∀k q,k<css.length→vs.find? (fun q=>q.1 == i+k)=some q→some q.2.cells.toList.length=(qbe T)[k]?
 | .pair A B,i,z,zs,r,hz,hzs,he,hn=>by
  unfold qiw at he
  have hf:=hps.find i
  simp only at he
  split at he
  case h_2=>cases he
  rename_i za zb hsp
  obtain ⟨z1,z2,rfl,hz1,hz2,hs1,hs2⟩:=qtw hz hzs hsp
  have hl1:z1.length=A.size:=by rw [hz1.length,hs1]
  split at he
  ·rename_i q hq
   rw [hq] at hf
   obtain ⟨v,hv,ho⟩:=hf
   obtain ⟨c,h1,he⟩:=Q.bind_some he
   split at he
   case isFalse=>cases he
   rename_i hemp
   obtain ⟨r',h2,he⟩:=Q.bind_some he
   have:=Q.ret_some he
   subst this
   obtain ⟨bs0,k1,k2,k3,k4⟩:=qit h ho h1 (by simpa using hemp)
   have hn':=List.nodup_append.1 hn
   obtain ⟨css,zss,bs,g1,g2,g2',g3,g4,g5,g6,g7⟩:=qmV h hps B (i+1) hz2 hs2 h2 hn'.2.1
   have hb0:∀b∈bs0,∃s∈c.2.2.map (·.s),b∈own s:=by
    intro b hb
    rcases k4 with ⟨_,e⟩|⟨s,e1,e2⟩
    ·rw [e] at hb; cases hb
    ·exact ⟨s,by rw [e1]; simp,by rw [←e2]; exact hb⟩
   refine ⟨v.2.cells.toList::css,z1::zss,bs0++bs,by rw [List.flatten_cons,g1],by simp [qbe,g2,hl1],by rw [List.map_cons,g2',k2]; rfl,?_,?_,?_,?_,?_⟩
   ·rw [List.flatten_cons]
    exact qof k1 g3
   ·intro b hb
    rcases List.mem_append.1 hb with hb|hb
    ·obtain ⟨s,hs,hb⟩:=hb0 b hb
     exact ⟨s,List.mem_append_left _ hs,hb⟩
    ·obtain ⟨s,hs,hb⟩:=g4 b hb
     exact ⟨s,List.mem_append_right _ hs,hb⟩
   ·refine List.nodup_append.2 ⟨?_,g5,fun b hb b' hb' e=> ?_⟩
    ·rcases k4 with ⟨_,e⟩|⟨s,_,e⟩
     ·rw [e]; exact List.nodup_nil
     ·rw [e]; exact h.nodup s
    ·subst e
     obtain ⟨s,hs,hb⟩:=hb0 b hb
     obtain ⟨s',hs',hb'⟩:=g4 b hb'
     have:=h.apart s s' b hb hb'
     subst this
     exact hn'.2.2 s hs s hs' rfl
   ·intro k hk
    cases k with
    |zero=>rw [Nat.add_zero,hv]; rfl
    |succ k=>
     have:=g6 k (by simpa using hk)
     rw [show i+1+k=i+(k+1) from by omega] at this
     exact this
   ·intro k q' hk hq'
    cases k with
    |zero=>
     rw [Nat.add_zero,hv] at hq'
     injection hq' with hq'
     subst hq'
     rw [k2]; rfl
    |succ k=>exact g7 k q' (by simpa using hk) (by rw [show i+1+k=i+(k+1) from by omega]; exact hq')
  ·rename_i hq
   rw [hq] at hf
   obtain ⟨r',h2,he⟩:=Q.bind_some he
   have:=Q.ret_some he
   subst this
   obtain ⟨css,zss,bs,g1,g2,g2',g3,g4,g5,g6,g7⟩:=qmV h hps B (i+1) hz2 hs2 h2 hn
   refine ⟨z1::css,z1::zss,bs,by rw [List.flatten_cons,g1],by simp [qbe,g2,hl1],by rw [List.map_cons,g2',hl1]; rfl,?_,g4,g5,?_,?_⟩
   ·rw [List.flatten_cons]
    exact qof (b1:=[]) hz1 g3
   ·intro k hk
    cases k with
    |zero=>rw [Nat.add_zero,hf]; rfl
    |succ k=>
     have:=g6 k (by simpa using hk)
     rw [show i+1+k=i+(k+1) from by omega] at this
     exact this
   ·intro k q' hk hq'
    cases k with
    |zero=>rw [Nat.add_zero,hf] at hq'; cases hq'
    |succ k=>exact g7 k q' (by simpa using hk) (by rw [show i+1+k=i+(k+1) from by omega]; exact hq')
 | .unit,i,z,zs,r,hz,hzs,he,hn=>by
  have:=Q.ret_some he
  subst this
  have hz:zs=[]:=List.eq_nil_of_length_eq_zero (by rw [hz.length,hzs]; rfl)
  subst hz
  exact ⟨[],[],[],rfl,rfl,rfl,⟨rfl,rfl⟩,fun b hb=>(by cases hb),List.nodup_nil,fun k hk=>(by cases hk),fun k q hk=>(by cases hk)⟩
 | .int _,_,_,_,_,_,_,he,_=>by cases he
 | .bool,_,_,_,_,_,_,he,_=>by cases he
 | .str,_,_,_,_,_,_,he,_=>by cases he
 | .err,_,_,_,_,_,_,he,_=>by cases he
 | .opt _,_,_,_,_,_,_,he,_=>by cases he
 | .map _ _,_,_,_,_,_,_,he,_=>by cases he
 | .slice _,_,_,_,_,_,_,he,_=>by cases he
 | .arr _ _,_,_,_,_,_,_,he,_=>by cases he
end
end Go.Vi
namespace Go.Vi
open Go.RowKit
def qfY:Ty→Nat→List (Nat×Nat)
 | .pair a b,off=>(off,a.size)::qfY b (off+a.size)
 |_,_=>[]
theorem qpw:(T:Ty)→ {zss:List (List Value)} →(off:Nat)→zss.map List.length=qbe T→ {i:Nat} → {c:List Value} →zss[i]? =some c→(qfY T off)[i]? =some (off+qlg zss i,c.length)
 | .pair a b,[],_,hz,_,_,hc=>by cases hc
 | .pair a b,z::zss,off,hz,i,c,hc=>by
  simp only [qbe,List.map_cons,List.cons.injEq] at hz
  cases i with
  |zero=>
   injection hc with hc
   subst hc
   simp [qfY,qlg,hz.1]
  |succ i=>
   have:=qpw b (off+a.size) hz.2 (i:=i) (c:=c) hc
   simp only [qfY,List.getElem?_cons_succ,this,qlg,List.take_succ_cons,List.flatten_cons,List.length_append,hz.1,Nat.add_assoc]
 | .unit,zss,_,hz,_,_,hc=>by simp [qbe] at hz; subst hz; cases hc
 | .int _,zss,_,hz,_,_,hc=>by simp [qbe] at hz; subst hz; cases hc
 | .bool,zss,_,hz,_,_,hc=>by simp [qbe] at hz; subst hz; cases hc
 | .str,zss,_,hz,_,_,hc=>by simp [qbe] at hz; subst hz; cases hc
 | .err,zss,_,hz,_,_,hc=>by simp [qbe] at hz; subst hz; cases hc
 | .opt _,zss,_,hz,_,_,hc=>by simp [qbe] at hz; subst hz; cases hc
 | .map _ _,zss,_,hz,_,_,hc=>by simp [qbe] at hz; subst hz; cases hc
 | .slice _,zss,_,hz,_,_,hc=>by simp [qbe] at hz; subst hz; cases hc
 | .arr _ _,zss,_,hz,_,_,hc=>by simp [qbe] at hz; subst hz; cases hc
theorem qnP {P:Program} (w:World):(fs:List Field)→(T:Ty)→(off:Nat)→Lay P fs T off→(fs.mapM fun (f:Field)=>Prod.mk f.offset<$> sizeOf f.type).run P w= .ok (qfY T off) w
 |[],.unit,_,_=>rfl
 |f::fs,.pair a b,off,⟨h1,h2,h3⟩=>by
  have:=qnP w fs b (off+a.size) h3
  simp [List.mapM_cons,h2,this,qfY,h1]
 |[],.pair _ _,_,h=>by cases h
 |[],.int _,_,h=>by cases h
 |[],.bool,_,h=>by cases h
 |[],.str,_,h=>by cases h
 |[],.err,_,h=>by cases h
 |[],.opt _,_,h=>by cases h
 |[],.map _ _,_,h=>by cases h
 |[],.slice _,_,h=>by cases h
 |[],.arr _ _,_,h=>by cases h
 |_::_,.unit,_,h=>by cases h
 |_::_,.int _,_,h=>by cases h
 |_::_,.bool,_,h=>by cases h
 |_::_,.str,_,h=>by cases h
 |_::_,.err,_,h=>by cases h
 |_::_,.opt _,_,h=>by cases h
 |_::_,.map _ _,_,h=>by cases h
 |_::_,.slice _,_,h=>by cases h
 |_::_,.arr _ _,_,h=>by cases h
theorem qub {vs:List (Nat×Value)} (hn:qkk (vs.map (·.1))=true) {q:Nat×Value} (hq:q∈vs):vs.find? (fun r=>r.1 == q.1)=some q:=by
 induction vs with
 |nil=>cases hq
 |cons v vs ih=>
  simp only [List.map_cons,qkk,Bool.and_eq_true,Bool.not_eq_true'] at hn
  rw [List.find?_cons]
  rcases List.mem_cons.1 hq with rfl|hq
  ·simp
  ·have:v.1≠q.1:=fun e=>by
    have:(vs.map (·.1)).contains v.1=true:=by simp; exact ⟨q.2,by rw [e]; exact hq⟩
    rw [this] at hn
    cases hn.1
   have e:(v.1 == q.1)=false:=by simp [this]
   rw [e]
   exact ih hn.2 hq
section
variable {C:Ctx} {E:Env} {σ:St} {tm:Array Value} {a:Act} {w w':World} {own:Nat→List Nat} {o:Oper} {p:qh5} [Tabbed E C]
theorem qtk {X:Sit} {c:BC} {cs:List Value} {bs:List Nat} (ha:∀t x,c= .val t x→t.agg=true) (h:qa5 X.w X.F c cs bs):qaO X (qsO c) (.agg cs.toArray) bs:=by
 unfold qsO
 split
 ·rename_i t x
  refine ⟨h.1,by simpa [Value.cells] using h.2,fun _=>⟨_,rfl⟩,fun hf=> ?_⟩
  rw [ha t x rfl] at hf
  cases hf
 ·exact ⟨cs,rfl,h⟩
theorem qnC (c:BC):(qsO c).mentions=[]:=by
 unfold qsO
 split <;> rfl
theorem qsJ {ps:List (Nat×Op1)} {T:Ty} {i:Nat} {r:BC×List Nat} {lk:Nat→Ent} {z:BC} (he:(qiw z T i ps).run lk=some r):T.struct=true∧∀t x,r.1= .val t x→t.agg=true:=by
 cases T with
 |pair A B=>
  refine ⟨rfl,fun t x hx=> ?_⟩
  unfold qiw at he
  simp only at he
  split at he
  case h_2=>cases he
  split at he
  ·obtain ⟨c,_,he⟩:=Q.bind_some he
   split at he
   ·obtain ⟨r',_,he⟩:=Q.bind_some he
    have:=Q.ret_some he
    subst this
    simp only [qiw.pairBC] at hx
    split at hx
    ·injection hx with h1 h2
     subst h1
     rfl
    ·cases hx
   ·cases he
  ·obtain ⟨r',_,he⟩:=Q.bind_some he
   have:=Q.ret_some he
   subst this
   simp only [qiw.pairBC] at hx
   split at hx
   ·injection hx with h1 h2
    subst h1
    rfl
   ·cases hx
 |unit=>
  have:=Q.ret_some he
  subst this
  refine ⟨rfl,fun t x hx=> ?_⟩
  injection hx with h1 h2
  subst h1
  rfl
 |_=>cases he
theorem qk2 {X:Sit} :∀(k:Nat) {ps:List (Nat×Op1)} {vs:List (Nat×Value)},qgd X ps vs→qkQ k ps=true→vs=((vs.map (·.2)).zipIdx k).map fun x=>(x.2,x.1)
 |k,[],[],_,_=>rfl
 |k,p::ps,v::vs,⟨h1,_,h3⟩,h=>by
  simp only [qkQ,Bool.and_eq_true] at h
  have e:p.1=k:=by simpa using h.1
  rw [List.map_cons,List.zipIdx_cons,List.map_cons,←qk2 (k+1) h3 h.2,←e,h1]
 |_,[],_::_,h,_=>by cases h
 |_,_::_,[],h,_=>by cases h
theorem FW.mono {X:Sit} {a b:List Nat} (h:∀s∈a,s∈b) {x:Nat} (hx:FW X a x):FW X b x:=by
 rcases hx with hx|⟨s,hs,hx⟩
 ·exact .inl hx
 ·exact .inr ⟨s,h s hs,hx⟩
theorem qjw (h:qas C σ a.tmps w own) {e:Ty} :∀(n:Nat) (ps:List (Nat×Op1)) (vs:List (Nat×Value)) {r:List e.den×List Nat},qgd (sit C σ a.tmps w own) ps vs→(qj7 e n (ps.map (·.2))).run (qA σ)=some r→
  vs.length=n∧r.1.length=n∧∀(i:Nat) x v,r.1[i]? =some x→vs[i]? =some v→qaN w (FW (sit C σ a.tmps w own) r.2) e x v.2
 |0,[],[],r,_,he=>by
  have:=Q.ret_some he
  subst this
  exact ⟨rfl,rfl,fun i x v hx=>by cases hx⟩
 |n+1,p::ps,v::vs,r,⟨h1,h2,h3⟩,he=>by
  obtain ⟨x,k1,he⟩:=Q.bind_some he
  obtain ⟨r',k2,he⟩:=Q.bind_some he
  have:=Q.ret_some he
  subst this
  obtain ⟨g1,g2,g3⟩:=qjw h n ps vs h3 k2
  refine ⟨by simp [g1],by simp [g2],fun i y u hy hu=> ?_⟩
  cases i with
  |zero=>
   injection hy with hy
   injection hu with hu
   subst hy; subst hu
   exact (qdx h h2 k1).mono fun b hb _=>FW.mono (fun s hs=>List.mem_append_left _ hs) hb
  |succ i=>exact (g3 i y u hy hu).mono fun b hb _=>FW.mono (fun s hs=>List.mem_append_right _ hs) hb
 |0,_::_,_,_,_,he=>by cases he
 |n+1,[],_,_,_,he=>by cases he
 |0,[],_::_,_,h,_=>by cases h
 |n+1,_::_,[],_,h,_=>by cases h
theorem qtu (hE:qcc E C.P) (h:qas C σ a.tmps w own) {t n:Nat} {e:Ty} {parts:Array (Nat×Operand)} (hop:o.op= .build t parts) {ps:List (Nat×Op1)} {vs:List (Nat×Value)} (hvs:(parts.toList.map fun x=>(x.1,a.eval x.2))=vs) (hps:qgd (sit C σ a.tmps w own) ps vs) (hty:E.ty t=some (.arr n e)) {f:Eff}
  (he:((if qkQ 0 ps&&(decide (0<n * e.size)&&decide ((E.zero t).map BC.size=some (n * e.size))) then (qj7 e n (ps.map (·.2))).bind fun r=>(if e.flat then Q.ret [] else qcA r.2).bind fun fz=>okE (fz++qcl o (.val (.arr n e) r.1)) else .fail:Q Eff)).run (qA σ)=some f) (hd:∀u∈f.upd,u.s<σ.length):qes C o a w (qv σ f.upd):=by
 split at he
 case isFalse=>cases he
 rename_i hcond
 simp only [Bool.and_eq_true,decide_eq_true_eq] at hcond
 obtain ⟨c1,c2,c3⟩:=hcond
 obtain ⟨r,h2,he⟩:=Q.bind_some he
 obtain ⟨fz,h3,he⟩:=Q.bind_some he
 have:=qV he
 subst this
 obtain ⟨g1,g2,g3⟩:=qjw h n ps vs hps h2
 have hpos:0<e.size:=Nat.pos_of_mul_pos_left c2
 have hlenv:∀v∈vs.map (·.2),v.cells.size=e.size:=by
  intro v hv
  obtain ⟨q,hq,rfl⟩:=List.mem_map.1 hv
  obtain ⟨j,hj,rfl⟩:=List.getElem_of_mem hq
  have:=(g3 j _ _ (List.getElem?_eq_getElem (by omega)) (List.getElem?_eq_getElem hj)).1.length
  simpa using this
 obtain ⟨c,hzc,hcs⟩:=Option.map_eq_some_iff.1 c3
 obtain ⟨i,z,k1,k2,k3⟩:=hE.zero t c hzc
 have hzl:z.cells.size=n * e.size:=by
  have:=(k3 w (C.free w own)).length
  rw [hcs] at this
  simpa using this
 have hfill:=Great.fill_whole hpos (vs.map (·.2)) z.cells hlenv (by simp [g1,hzl])
 rw [←qk2 0 hps c1] at hfill
 have hm:(parts.map fun (i,x)=>(i,a.eval x)).toList=vs:=by rw [←hvs]; simp
 have hsz:=congrFun (hE.size t e (.inr ⟨n,hty⟩)) w
 have hrun:(execOp a.eval o).run C.P w= .ok (.value (.agg ((vs.map (·.2)).flatMap fun v=>v.cells.toList).toArray)) w:=by
  unfold execOp
  rw [hop]
  simp only [Sem.run_bind,Instr.build,zeroValue,typeInfo,Sem.run_pure,Result.andThen_ok,run_underlying (hE.arr t n e hty),hm]
  simp [hfill,k1,k2,hsz]
 refine qix h hrun h3 hd ?_
 refine ⟨⟨g2,(vs.map (·.2)).map (fun v=>v.cells.toList),by simp [g1],?_,fun j x c hj hc=> ?_⟩,fun _=>⟨_,rfl⟩,fun hf=>by cases hf⟩
 ·show ((vs.map (·.2)).flatMap fun v=>v.cells.toList).toArray.toList=_
  rw [List.toList_toArray,List.flatMap_def]
 ·rw [List.getElem?_map] at hc
  obtain ⟨v,hv,rfl⟩:=Option.map_eq_some_iff.1 hc
  rw [List.getElem?_map] at hv
  obtain ⟨q,hq,rfl⟩:=Option.map_eq_some_iff.1 hv
  exact (g3 j x q hj hq).1
theorem qsR (hE:qcc E C.P) (h:qas C σ a.tmps w own) (hp:qcn (sit C σ a.tmps w own) p) {t:Nat} {parts:Array (Nat×Operand)} (hop:o.op= .build t parts) {f:Eff}
  (he:(qeI E p o).run (qA σ)=some f) (hd:∀u∈f.upd,u.s<σ.length) (hc:qdR f.chk):qes C o a w (qv σ f.upd):=by
 unfold qeI at he
 rw [hop] at he
 obtain ⟨ps,h1,he⟩:=Q.bind_some he
 have hps:=qip h hp parts.toList h1
 generalize hvs:(parts.toList.map fun x=>(x.1,a.eval x.2))=vs at hps
 split at he
 ·rename_i n e hty
  exact qtu hE h hop hvs hps hty he hd
 case h_3=>cases he
 rename_i T _ hty
 obtain ⟨r,h2,he⟩:=Q.bind_some he
 split at he
 case h_2=>cases he
 rename_i d hdst
 split at he
 case isFalse=>cases he
 rename_i hcond
 simp only [Bool.and_eq_true] at hcond
 obtain ⟨⟨c1,c2⟩,c3⟩:=hcond
 have:=qV he
 subst this
 have hnd:=List.nodup_cons.1 (qex c1)
 obtain ⟨hst,hag⟩:=qsJ h2
 obtain ⟨fs,z,i,s1,s2,s3,s4,s5⟩:=hE.struct t T hty hst
 obtain ⟨hz0,hz1⟩:qa5 w (C.free w own) (if E.ownz=true then (E.zero t).getD (.val T T.dflt) else .val T T.dflt) z.cells.toList []∧(if E.ownz=true then (E.zero t).getD (.val T T.dflt) else BC.val T T.dflt).size=T.size:=by
  have key:qa5 w (C.free w own) (if E.ownz=true then (E.zero t).getD (.val T T.dflt) else .val T T.dflt) z.cells.toList []:=by
   split
   ·cases hzz:E.zero t with
    |none=>exact ⟨rfl,s4 w (C.free w own)⟩
    |some c=>
     obtain ⟨i',z',k1,k2,k3⟩:=hE.zero t c hzz
     rw [s2] at k1
     injection k1 with k1
     subst k1
     rw [s3] at k2
     injection k2 with k2
     subst k2
     exact k3 w _
   ·exact ⟨rfl,s4 w (C.free w own)⟩
  exact ⟨key,by rw [←key.length]; exact (s4 w (C.free w own)).length⟩
 obtain ⟨css,zss,bs,g1,g2,g2',g3,g4,g5,g6,g7⟩:=qmV h hps T 0 (zs:=z.cells.toList) hz0 hz1 h2 hnd.2
 have hvd:qkk (vs.map (·.1))=true:=by rw [←hps.map]; exact c2
 have hlen:zss.length=css.length:=by
  have e1:=congrArg List.length g2
  have e2:=congrArg List.length g2'
  simp at e1 e2
  omega
 have hbound:∀q∈vs,q.1<css.length:=by
  intro q hq
  have:q.1∈ps.map (·.1):=by rw [hps.map]; exact List.mem_map_of_mem hq
  obtain ⟨q',hq',e⟩:=List.mem_map.1 this
  have:=List.all_eq_true.1 c3 q' hq'
  have h3:q'.1<(qbe T).length:=of_decide_eq_true this
  rw [e,←g2',List.length_map] at h3
  exact h3
 obtain ⟨rr,f1,f2⟩:=qro (place:=fun i=>(qfY T 0).toArray[i]?) vs zss z.cells g1 (fun i c hi=>by
  have:=qpw T 0 g2 hi
  simpa using this) (fun q hq=>by
  have hb:=hbound q hq
  have:=g7 q.1 q hb (by rw [Nat.zero_add]; exact qub hvd hq)
  rw [←g2,List.getElem?_map] at this
  have hz:zss[q.1]? =some (zss[q.1]'(by omega)):=List.getElem?_eq_getElem (by omega)
  rw [hz] at this
  exact ⟨_,hz,by injection this⟩)
 have hfin:vs.foldl (fun css q=>css.set q.1 q.2.cells.toList) zss=css:=by
  apply List.ext_getElem?
  intro k
  rw [qlr (css:=zss) vs hvd k]
  by_cases hk:k<css.length
  ·rw [g6 k hk]
   simp only [Nat.zero_add]
   cases vs.find? (fun q=>q.1 == k) with
   |none=>rfl
   |some q=>simp [show k<zss.length by omega]
  ·rw [List.getElem?_eq_none (show css.length≤k by omega)]
   cases vs.find? (fun q=>q.1 == k) with
   |none=>simp only; rw [List.getElem?_eq_none (by omega)]
   |some q=>simp [show ¬k<zss.length by omega]
 rw [hfin] at f2
 have hrr:rr=css.flatten.toArray:=by rw [←f2]
 subst hrr
 have hrun:(execOp a.eval o).run C.P w= .ok (.value (.agg css.flatten.toArray)) w:=by
  unfold execOp
  rw [hop]
  have hm:(parts.map fun (i,x)=>(i,a.eval x)).toList=vs:=by rw [←hvs]; simp
  have hpl:=qnP w fs.toList T 0 s5
  simp only [Sem.run_bind,Instr.build,zeroValue,typeInfo,s2,s3,Sem.run_pure,Result.andThen_ok,run_underlying s1,hm]
  rw [Array.mapM_eq_mapM_toList]
  have f1':Instr.fill (fun x=>(qfY T 0)[x]?) z.cells vs=some css.flatten.toArray:=by simpa using f1
  simp [hpl,f1',s2,s3]
 refine qU hrun ?_
 rw [qjt a hdst]
 refine h.mut (hd ⟨d,true,qsO r.1⟩ (by simp)) r.2 (fun s hs=>⟨hd ⟨s,true,.undef⟩ (by simp; exact .inl hs),fun e=>hnd.1 (by have e:s=d:=e; exact e ▸ hs)⟩) (qcQ.refl _ _) (fun b hb=> .inr (.inr (g4 b hb))) g5 (qtk hag g3) (qnC _)
theorem qlJ {P:Program} {t:Nat} {i:TypeInfo} (h:P.info? t=some i):(sizeOf t).run P w= .ok i.size w:=by
 simp [sizeOf,typeInfo,h]
theorem qmg (hE:qcc E C.P) (h:qas C σ a.tmps w own) (hp:qcn (sit C σ a.tmps w own) p) {t n:Nat} {parts:Array (Nat×Operand)} (hop:o.op= .buildSlice t n parts) {f:Eff}
  (he:(qeI E p o).run (qA σ)=some f) (hd:∀u∈f.upd,u.s<σ.length) (hc:qdR f.chk):qes C o a w (qv σ f.upd):=by
 unfold qeI at he
 rw [hop] at he
 obtain ⟨ps,h1,he⟩:=Q.bind_some he
 have hps:=qip h hp parts.toList h1
 generalize hvs:(parts.toList.map fun x=>(x.1,a.eval x.2))=vs at hps
 split at he
 case h_2=>cases he
 rename_i e hty
 split at he
 ·rename_i h0
  have hfe:=qV he
  clear he
  subst hfe
  obtain ⟨hn0,hp0⟩:=h0
  have hp1:parts= #[]:=Array.eq_empty_of_size_eq_zero hp0
  rw [hn0,hp1] at hop
  have hu:=(hE.elem t e hty).under
  obtain ⟨i,z,k1,k2,k3,k4,k5,k6,k7⟩:=hE.elem' hty
  refine h.newOwn (n:=0) (cap:=0) (cur:= #[]) rfl (Nat.le_refl _) (by simp) (by simp) (fun i x hi=>by cases hi) ?_ hd
  unfold execOp
  rw [hop]
  simp [Sem.run_bind,Instr.buildSlice,run_underlying k1,qlJ k2,Instr.fill,newRow]
  have e0:(Array.map (fun _=>(default:Value)) (Array.range 0))= #[]:=by apply Array.ext'; simp
  rw [e0]
 split at he
 case isFalse=>cases he
 rename_i hcond
 simp only [Bool.and_eq_true] at hcond
 obtain ⟨⟨c1,c2⟩,c3⟩:=hcond
 have c2:n * e.size≤16777216:=of_decide_eq_true c2
 have c3:0<n * e.size:=of_decide_eq_true c3
 obtain ⟨r,h2,he⟩:=Q.bind_some he
 obtain ⟨fz,h3,he⟩:=Q.bind_some he
 have:=qV he
 subst this
 obtain ⟨g1,g2,g3⟩:=qjw h n ps vs hps h2
 obtain ⟨i,z,k1,k2,k3,k4,k5,k6,k7⟩:=hE.elem' hty
 have hpos:0<e.size:=Nat.pos_of_mul_pos_left c3
 have hlenv:∀v∈vs.map (·.2),v.cells.size=e.size:=by
  intro v hv
  obtain ⟨q,hq,rfl⟩:=List.mem_map.1 hv
  obtain ⟨j,hj,rfl⟩:=List.getElem_of_mem hq
  have:=(g3 j _ _ (List.getElem?_eq_getElem (by omega)) (List.getElem?_eq_getElem hj)).1.length
  simpa using this
 have hfill:=Great.fill_whole hpos (vs.map (·.2)) ((Array.range (n * i.size)).map (z.cells[· % z.cells.size]!)) hlenv (by simp [g1,k3])
 rw [←qk2 0 hps c1] at hfill
 have hrun:=run_buildSlice (P:=C.P) w t (E.etid t) n vs.toArray _ i z k1 k2 k4 (by rw [k3]; omega) (by rw [k3]; omega) (by rw [k3] at hfill⊢; exact hfill)
 have hx:(execOp a.eval o).run C.P w= .ok (.value (.slice (some ⟨w.heap.size,0,none⟩) n n)) (w.alloc (.cells ((vs.map (·.2)).flatMap fun v=>v.cells.toList).toArray (E.etid t))):=by
  unfold execOp
  rw [hop]
  have hm:(parts.map fun (i,x)=>(i,a.eval x))=vs.toArray:=by rw [←hvs]; apply Array.ext'; simp
  simp only [Sem.run_bind,hm,hrun]
  rfl
 have hcells:∀F,(∀(i:Nat) (x:e.den) (v:Nat×Value),r.1[i]? =some x→vs[i]? =some v→qaN w F e x v.2)→∀(i:Nat) (x:e.den),r.1[i]? =some x→Rep w F e x (((((vs.map (·.2)).flatMap fun v=>v.cells.toList).toArray).toList.drop (i * e.size)).take e.size):=by
  intro F hF j x hj
  have hjl:j<vs.length:=by rw [g1,←g2]; exact (List.getElem?_eq_some_iff.1 hj).1
  have:=hF j x vs[j] hj (List.getElem?_eq_getElem hjl)
  have e1:((vs.map (·.2)).flatMap fun v=>v.cells.toList)=((vs.map (·.2)).map fun v=>v.cells.toList).flatten:=by rw [List.flatMap_def]
  have hl:∀c∈((vs.map (·.2)).map fun v=>v.cells.toList),c.length=e.size:=by
   intro c hc
   obtain ⟨v,hv,rfl⟩:=List.mem_map.1 hc
   simpa using hlenv v hv
  rw [List.toList_toArray,e1,(qb5 hl (i:=j) (c:=vs[j].2.cells.toList) (by simp [hjl])).1]
  exact this.1
 have hnm:n≤maxLen:=by
  have:n * 1≤n * e.size:=Nat.mul_le_mul_left _ hpos
  simp only [maxLen]; omega
 have hsz:(((vs.map (·.2)).flatMap fun v=>v.cells.toList).toArray).size=n * e.size:=by
  have e1:((vs.map (·.2)).flatMap fun v=>v.cells.toList)=((vs.map (·.2)).map fun v=>v.cells.toList).flatten:=by rw [List.flatMap_def]
  have hl:∀c∈((vs.map (·.2)).map fun v=>v.cells.toList),c.length=e.size:=by
   intro c hc
   obtain ⟨v,hv,rfl⟩:=List.mem_map.1 hc
   simpa using hlenv v hv
  rw [List.size_toArray,e1,qeM hl]
  simp [g1]
 by_cases hf:e.flat=true
 ·rw [if_pos hf] at h3
  have:=Q.ret_some h3
  subst this
  exact h.newOwn g2 (Nat.le_refl _) hnm hsz (hcells _ fun i x v hx hv=>(g3 i x v hx hv).flat hf) hx hd
 ·rw [if_neg hf] at h3
  obtain ⟨own',q1,q2,q3,q4⟩:=qdo r.2 h h3
  rw [qb7]
  exact q1.newOwn g2 (Nat.le_refl _) hnm hsz (hcells _ fun i x v hx hv=>(g3 i x v hx hv).mono fun b hb _=>q4 b hb) hx (fun u hu=>by rw [qS]; exact hd u (List.mem_append_right _ hu))
end
end Go.Vi
namespace Go.Vi
open Go.RowKit
def qaA (P:Program) (w:World) (F:Nat→Prop):(ps:List PM)→PMs.den ps→List Value→List Nat→List Nat→Prop
 |[],_,vs,g,i=>vs=[]∧g=[]∧i=[]
 | .val t::ps,x,vs,g,i=>∃v r,vs=v::r∧qaN w F t x.1 v∧qaA P w F ps x.2 r g i
 | .own et e::ps,x,vs,g,i=>∃v r g1 g2,vs=v::r∧g=g1++g2∧qak w F et e x.1 v g1∧qaA P w F ps x.2 r g2 i
 | .io t::ps,x,vs,g,i=>∃(b:Nat) (r:List Value) (i2:List Nat) (cs:List Value) (te:Nat),vs=ptr b 0::r∧i=b::i2∧w.heap[b]? =some (.cells cs.toArray te (0,0))∧Rep w F t x.1 cs∧qaA P w F ps x.2 r g i2
 | .ior et e::ps,x,vs,g,i=>∃v r i1 i2,vs=v::r∧i=i1++i2∧qak w F et e x.1 v i1∧qaA P w F ps x.2 r g i2
 | .iob b::ps,x,vs,g,i=>∃(bk:Nat) (r:List Value) (g1 g2 i2:List Nat) (cs:List Value) (te:Nat),vs=ptr bk 0::r∧g=g1++g2∧i=bk::i2∧w.heap[bk]? =some (.cells cs.toArray te (0,0))∧qa5 w F (b.un x.1) cs g1∧qaA P w F ps x.2 r g2 i2
 | .fn a b::ps,x,vs,g,i=>∃v r,vs=v::r∧qoy P w F a b x.1 v∧qaA P w F ps x.2 r g i
 | .nil _ _::ps,x,vs,g,i=>∃r,vs= .slice none 0 0::r∧qaA P w F ps x.2 r g i
 | .rd t::ps,x,vs,g,i=>∃(ad:Addr) (cs:List Value) (r:List Value),vs= .pointer (some ad)::r∧F ad.block∧ad.block<w.heap.size∧qhf w ad cs∧Rep w F t x.1 cs∧qaA P w F ps x.2 r g i
def qdm (w:World) (F:Nat→Prop):(ps:List PM)→PMs.ioDen ps→List Value→List Nat→List Nat→Prop
 |[],_,_,i,js=>i=[]∧js=[]
 | .io t::ps,y,as,i,js=>∃(b:Nat) (i2:List Nat) (cs:List Value) (te:Nat),i=b::i2∧w.heap[b]? =some (.cells cs.toArray te (0,0))∧Rep w F t y.1 cs∧qdm w F ps y.2 as.tail i2 js
 | .iob b::ps,y,as,i,js=>∃(bk:Nat) (i2 j1 j2:List Nat) (cs:List Value) (te:Nat),i=bk::i2∧js=j1++j2∧w.heap[bk]? =some (.cells cs.toArray te (0,0))∧qa5 w F (b.un y.1) cs j1∧qdm w F ps y.2 as.tail i2 j2
 | .ior et e::ps,y,as,i,js=>∃i1 i2,i=i1++i2∧qak w F et e y.1 (as.headD undef) i1∧qdm w F ps y.2 as.tail i2 js
 | .val _::ps,y,as,i,js=>qdm w F ps y as.tail i js
 | .own _ _::ps,y,as,i,js=>qdm w F ps y as.tail i js
 | .fn _ _::ps,y,as,i,js=>qdm w F ps y as.tail i js
 | .nil _ _::ps,y,as,i,js=>qdm w F ps y as.tail i js
 | .rd _::ps,y,as,i,js=>qdm w F ps y as.tail i js
def qjH (w:World) (F:Nat→Prop) (g i bs:List Nat) (b:Nat):Prop:=(F b∨b∈g∨w.heap.size≤b)∧b∉bs∧b∉i
def qs.Post (C:qs) (w:World) (F:Nat→Prop) (as:List Value) (g i:List Nat) (y:RMs.den C.rs×PMs.ioDen C.ps) (v:Value) (w':World):Prop:=
 ∃vs bs js,v=qfg vs∧(bs++js).Nodup∧(∀b∈bs++js,(b∈g∨w.heap.size≤b)∧b<w'.heap.size)∧qa7 w' (qjH w F g i (bs++js)) (qdA C.rs y.1) vs bs∧qdm w' (qjH w F g i (bs++js)) C.ps y.2 as i js∧qcQ (fun b=>b∈g++i) w w'
theorem qs.Post.mk0 {C:qs} {w:World} {F:Nat→Prop} {as:List Value} {g i:List Nat} {y:RMs.den C.rs×PMs.ioDen C.ps} {v:Value} {w':World} (vs:List Value) (bs:List Nat) (h1:v=qfg vs) (h2:bs.Nodup) (h3:∀b∈bs,(b∈g∨w.heap.size≤b)∧b<w'.heap.size)
  (h4:qa7 w' (qjH w F g i bs) (qdA C.rs y.1) vs bs) (h5:qdm w' (qjH w F g i bs) C.ps y.2 as i []) (h6:qcQ (fun b=>b∈g++i) w w'):C.Post w F as g i y v w':=
 ⟨vs,bs,[],h1,by rwa [List.append_nil],by rwa [List.append_nil],by rwa [List.append_nil],by rwa [List.append_nil],h6⟩
def qs.okT (P:Program) (T:qlC) (f:Nat) (C:qs):Prop:=
 (∀as w,(callFunc f as).run P w= .ok (.enter f as) w)∧
 ∀(w:World) (F:Nat→Prop) (x:PMs.den C.ps) (y:RMs.den C.rs×PMs.ioDen C.ps) (as:List Value) (g i:List Nat),qd8 T w F→qaA P w F C.ps x as g i→(∀b∈g++i,¬F b∧b<w.heap.size)→(g++i).Nodup→C.sem x=some y→
  Calls P f as.toArray w fun e w'=>∃v,e= .returned v∧C.Post w F as g i y v w'
abbrev qs.ok (P:Program) (f:Nat) (C:qs):Prop:=C.okT P (fun _=>none) f
def qg1 (E:Env) (P:Program):Prop:=∀f C,E.fn f=some C→C.okT P E.tabs f
theorem qek.mono {w:World} {F F':Nat→Prop} :(ts:List Ty)→ {x:denL ts} → {vs:List Value} →(∀b,F b→F' b)→qek w F ts x vs→qek w F' ts x vs
 |[],_,_,_,h=>h
 |t::ts,_,_,hF,⟨v,r,h1,h2,h3⟩=>⟨v,r,h1,h2.mono fun b hb _=>hF b hb,h3.mono ts hF⟩
theorem qjs {P:Program} {w:World} {F:Nat→Prop} :(ts:List Ty)→ {x:PMs.den (valPs ts)} → {vs:List Value} → {g i:List Nat} →qaA P w F (valPs ts) x vs g i→qek w F ts (qvE ts x) vs∧g=[]∧i=[]
 |[],_,_,_,_,h=>h
 |t::ts,_,_,_,_,⟨v,r,h1,h2,h3⟩=>by
  obtain ⟨k1,k2,k3⟩:=qjs ts h3
  exact ⟨⟨v,r,h1,h2,k1⟩,k2,k3⟩
theorem qmw {P:Program} {w:World} {F:Nat→Prop} :(ts:List Ty)→ {x:denL ts} → {vs:List Value} →qek w F ts x vs→qaA P w F (valPs ts) (toPs ts x) vs [] []
 |[],_,_,h=>⟨h,rfl,rfl⟩
 |t::ts,_,_,⟨v,r,h1,h2,h3⟩=>⟨v,r,h1,h2,qmw ts h3⟩
theorem qld {w:World} {F:Nat→Prop} :(us:List Ty)→ {y:RMs.den (valRs us)} → {vs:List Value} → {bs:List Nat} →qa7 w F (qdA (valRs us) y) vs bs→qek w F us (qwA us y) vs∧bs=[]
 |[],_,_,_,h=>h
 |t::ts,_,_,_,⟨v,r,b1,b2,h1,h2,h3,h4⟩=>by
  obtain ⟨k1,k2⟩:=qld ts h4
  have h3:b1=[]∧_:=h3
  exact ⟨⟨v,r,h1,h3.2,k1⟩,by rw [h2,h3.1,k2]; rfl⟩
theorem qkG {w:World} {F:Nat→Prop} :(us:List Ty)→ {y:denL us} → {vs:List Value} →qek w F us y vs→qa7 w F (qdA (valRs us) (quT us y)) vs []
 |[],_,_,h=>⟨h,rfl⟩
 |t::ts,_,_,⟨v,r,h1,h2,h3⟩=>⟨v,r,[],[],h1,rfl,⟨rfl,h2⟩,qkG ts h3⟩
theorem qlm:(ts:List Ty)→PMs.ioFlat (valPs ts)=true
 |[]=>rfl
 |_::r=>qlm r
theorem qmP:(ts:List Ty)→(y:PMs.ioDen (valPs ts))→qdF (valPs ts) y []=[]
 |[],_=>rfl
 |_::r,y=>qmP r y
theorem qiC {w:World} {F:Nat→Prop} :(ts:List Ty)→ {y:PMs.ioDen (valPs ts)} → {as:List Value} →qdm w F (valPs ts) y as [] []
 |[],_,_=>⟨rfl,rfl⟩
 |_::r,y,as=>qiC r (y:=y) (as:=as.tail)
theorem qmh {E:Env} {lk:Nat→Ent} :(ts:List Ty)→ {os:List Op1} → {A:qsW (valPs ts)} →(qaP E (valPs ts) os).run lk=some A→True∧A.ios=[]∧A.gone=[]
 |[],[],A,h=>by
  have:=Q.ret_some h
  subst this
  exact ⟨trivial,rfl,rfl⟩
 |[],_::_,_,h=>by cases h
 |_::_,[],_,h=>by cases h
 |t::r,o::os,A,h=>by
  obtain ⟨x,h1,h⟩:=Q.bind_some h
  obtain ⟨q,h2,h⟩:=Q.bind_some h
  have:=Q.ret_some h
  subst this
  exact qmh r h2
theorem qvi {E:Env} {P:Program} (hF:qg1 E P) {w:World} {F:Nat→Prop} {ts us:List Ty} {X:Sit} (hX:X.P=P∧X.w=w∧X.F=F) (hT:qd8 E.tabs w F) {a:AV} {v:Value} {φ:denL ts→Option (denL us)} (h:fnOf E ts us a=some φ) (hr:qaO X a v []):qoy P w F ts us φ v:=by
 obtain ⟨rfl,rfl,rfl⟩:=hX
 unfold fnOf at h
 split at h
 ·split at h
  ·rename_i hc
   obtain ⟨rfl,rfl⟩:=hc
   injection h with h
   subst h
   exact hr.2
  ·cases h
 ·rename_i f
  split at h
  case h_2=>cases h
  rename_i C hC
  have hok:=hF f C hC
  obtain ⟨ps,rs,sem⟩:=C
  split at h
  case isFalse=>cases h
  rename_i hc
  obtain ⟨h1,h2⟩:=hc
  simp only at h1 h2
  subst h1; subst h2
  injection h with h
  subst h
  obtain ⟨_,vs,hv,hcs⟩:=hr
  have hvs:vs=[]:=hcs.1
  subst hvs
  refine ⟨f,#[],hv,hok.1,fun w' F' x y as hkp hvals hy=> ?_⟩
  simp only [qd2,Option.map_eq_some_iff] at hy
  obtain ⟨z,hz,rfl⟩:=hy
  refine Calls.mono (by simpa using hok.2 w' F' (toPs ts x) z as [] [] (hT.keep hkp) (qmw ts hvals) (fun b hb=>by cases hb) List.nodup_nil hz) ?_
  rintro e w'' ⟨v',rfl,rs,bs,js,rfl,_,_,hres,_,hk⟩
  obtain ⟨k1,rfl⟩:=qld us hres
  refine ⟨rs,rfl,k1.mono us fun b hb=> ?_,hk.mono fun b hb=>by cases hb⟩
  rcases hb.1 with h|h|h
  ·exact .inl h
  ·cases h
  ·exact .inr h
 ·cases h
theorem qaA.mono {P:Program} {w:World} {F F':Nat→Prop} (hF:∀b,F b→F' b):(ps:List PM)→ {x:PMs.den ps} → {vs:List Value} → {g i:List Nat} →qaA P w F ps x vs g i→qaA P w F' ps x vs g i
 |[],_,_,_,_,h=>h
 | .val t::ps,_,_,_,_,⟨v,r,h1,h2,h3⟩=>⟨v,r,h1,h2.mono fun b hb _=>hF b hb,h3.mono hF ps⟩
 | .own et e::ps,_,_,_,_,⟨v,r,g1,g2,h1,h2,h3,h4⟩=>⟨v,r,g1,g2,h1,h2,h3.keep (fun b hb hlt=>⟨hF b hb,hlt,rfl⟩) (fun _ _ _=>rfl),h4.mono hF ps⟩
 | .io t::ps,_,_,_,_,⟨b,r,i2,cs,te,h1,h2,h3,h4,h5⟩=>⟨b,r,i2,cs,te,h1,h2,h3,h4.keep fun b hb hlt=>⟨hF b hb,hlt,rfl⟩,h5.mono hF ps⟩
 | .iob b::ps,_,_,_,_,⟨bk,r,g1,g2,i2,cs,te,h1,h2,h3,h4,h5,h6⟩=>⟨bk,r,g1,g2,i2,cs,te,h1,h2,h3,h4,h5.keep (fun b hb hlt=>⟨hF b hb,hlt,rfl⟩) (fun _ _ _=>rfl),h6.mono hF ps⟩
 | .ior et e::ps,_,_,_,_,⟨v,r,i1,i2,h1,h2,h3,h4⟩=>⟨v,r,i1,i2,h1,h2,h3.keep (fun b hb hlt=>⟨hF b hb,hlt,rfl⟩) (fun _ _ _=>rfl),h4.mono hF ps⟩
 | .fn a b::ps,_,_,_,_,⟨v,r,h1,h2,h3⟩=>⟨v,r,h1,h2.keep fun b hb hlt=>⟨hF b hb,hlt,rfl⟩,h3.mono hF ps⟩
 | .nil _ _::ps,_,_,_,_,⟨r,h1,h2⟩=>⟨r,h1,h2.mono hF ps⟩
 | .rd _::ps,_,_,_,_,⟨ad,cs,r,h1,h2,h3,h4,h5,h6⟩=>⟨ad,cs,r,h1,hF _ h2,h3,h4,h5.keep fun b hb hlt=>⟨hF b hb,hlt,rfl⟩,h6.mono hF ps⟩
theorem qa7.turn {w:World} {F F':Nat→Prop} :(rs:List RM)→ {y:RMs.den rs} → {vs:List Value} → {bs:List Nat} →(RMs.flat rs=true∨∀b,F b→b<w.heap.size→F' b)→qa7 w F (qdA rs y) vs bs→qa7 w F' (qdA rs y) vs bs
 |[],_,_,_,_,h=>h
 | .val t::rs,_,_,_,hF,⟨v,r,b1,b2,h1,h2,h3,h4⟩=>⟨v,r,b1,b2,h1,h2,⟨h3.1,by
   rcases hF with hF|hF
   ·simp only [RMs.flat,Bool.and_eq_true] at hF
    exact h3.2.flat hF.1
   ·exact h3.2.mono hF⟩,h4.turn rs (by
   rcases hF with hF|hF
   ·simp only [RMs.flat,Bool.and_eq_true] at hF
    exact .inl hF.2
   ·exact .inr hF)⟩
 | .nz e::rs,_,_,_,hF,⟨v,r,b1,b2,h1,h2,h3,h4⟩=>by
  rcases hF with hF|hF
  ·cases hF
  ·exact ⟨v,r,b1,b2,h1,h2,⟨h3.1,h3.2.1.mono hF,h3.2.2⟩,h4.turn rs (.inr hF)⟩
 | .own et e::rs,_,_,_,hF,⟨v,r,b1,b2,h1,h2,h3,h4⟩=>⟨v,r,b1,b2,h1,h2,by
   rcases hF with hF|hF
   ·simp only [RMs.flat,Bool.and_eq_true] at hF
    obtain ⟨cells,k1,k2,k3⟩:=h3
    exact ⟨cells,k1,k2,fun i x hi=>(k3 i x hi).flat hF.1⟩
   ·exact qak.keep (fun b hb hlt=>⟨hF b hb hlt,hlt,rfl⟩) (fun _ _ _=>rfl) h3,h4.turn rs (by
   rcases hF with hF|hF
   ·simp only [RMs.flat,Bool.and_eq_true] at hF
    exact .inl hF.2
   ·exact .inr hF)⟩
theorem qa5.flat {w:World} {F F':Nat→Prop} :(b:qcY)→ {y:b.den} → {cs:List Value} → {bs:List Nat} →b.flat=true→qa5 w F (b.un y) cs bs→qa5 w F' (b.un y) cs bs
 | .val t,_,_,_,hf,h=>⟨h.1,h.2.flat hf⟩
 | .own et e,_,_,_,hf,⟨v,h1,cells,k1,k2,k3⟩=>⟨v,h1,cells,k1,k2,fun i x hi=>(k3 i x hi).flat hf⟩
 | .pair a b,_,_,_,hf,⟨c1,c2,b1,b2,h1,h2,h3,h4⟩=>by
  simp only [qcY.flat,Bool.and_eq_true] at hf
  exact ⟨c1,c2,b1,b2,h1,h2,h3.flat a hf.1,h4.flat b hf.2⟩
 | .hole _,_,_,_,_,h=>h
theorem qdm.turn {w:World} {F F':Nat→Prop} :(ps:List PM)→ {y:PMs.ioDen ps} → {as:List Value} → {i js:List Nat} →(PMs.ioFlat ps=true∨∀b,F b→b<w.heap.size→F' b)→qdm w F ps y as i js→qdm w F' ps y as i js
 |[],_,_,_,_,_,h=>h
 | .iob b::ps,_,_,_,_,hF,⟨bk,i2,j1,j2,cs,te,h1,h2,h3,h4,h5⟩=>⟨bk,i2,j1,j2,cs,te,h1,h2,h3,by
   rcases hF with hF|hF
   ·simp only [PMs.ioFlat,Bool.and_eq_true] at hF
    exact h4.flat b hF.1
   ·exact h4.keep (fun b hb hlt=>⟨hF b hb hlt,hlt,rfl⟩) (fun _ _ _=>rfl),h5.turn ps (by
   rcases hF with hF|hF
   ·simp only [PMs.ioFlat,Bool.and_eq_true] at hF
    exact .inl hF.2
   ·exact .inr hF)⟩
 | .ior et e::ps,_,_,_,_,hF,⟨i1,i2,h1,h2,h3⟩=>⟨i1,i2,h1,by
   rcases hF with hF|hF
   ·simp only [PMs.ioFlat,Bool.and_eq_true] at hF
    obtain ⟨cells,k1,k2,k3⟩:=h2
    exact ⟨cells,k1,k2,fun i x hi=>(k3 i x hi).flat hF.1⟩
   ·exact qak.keep (fun b hb hlt=>⟨hF b hb hlt,hlt,rfl⟩) (fun _ _ _=>rfl) h2,h3.turn ps (by
   rcases hF with hF|hF
   ·simp only [PMs.ioFlat,Bool.and_eq_true] at hF
    exact .inl hF.2
   ·exact .inr hF)⟩
 | .io t::ps,_,_,_,_,hF,⟨b,i2,cs,te,h1,h2,h3,h4⟩=>⟨b,i2,cs,te,h1,h2,by
   rcases hF with hF|hF
   ·simp only [PMs.ioFlat,Bool.and_eq_true] at hF
    exact h3.flat hF.1
   ·exact h3.keep fun b hb hlt=>⟨hF b hb hlt,hlt,rfl⟩,h4.turn ps (by
   rcases hF with hF|hF
   ·simp only [PMs.ioFlat,Bool.and_eq_true] at hF
    exact .inl hF.2
   ·exact .inr hF)⟩
 | .val _::ps,_,_,_,_,hF,h=>qdm.turn ps hF h
 | .own _ _::ps,_,_,_,_,hF,h=>qdm.turn ps hF h
 | .fn _ _::ps,_,_,_,_,hF,h=>qdm.turn ps hF h
 | .nil _ _::ps,_,_,_,_,hF,h=>qdm.turn ps hF h
 | .rd _::ps,_,_,_,_,hF,h=>qdm.turn ps hF h
section
variable {C:Ctx} {E:Env} {σ:St} {tm:Array Value} {a:Act} {w w':World} {own:Nat→List Nat} {o:Oper} {p:qh5} [Tabbed E C]
def qc1 (σ:St) (tm:Array Value) (own:Nat→List Nat):List PM→List Value→List Nat→List Nat→List Nat→Prop
 |[],_,ss,i,inn=>ss=[]∧i=[]∧inn=[]
 | .io _::ps,as,ss,i,inn=>∃s r b i2 n1 n2,ss=s::r∧i=b::i2∧inn=n1++n2∧own s=b::n1∧tm.getD s undef=ptr b 0∧s<σ.length∧qc1 σ tm own ps as.tail r i2 n2
 | .iob _::ps,as,ss,i,inn=>∃s r b i2 n1 n2 m,ss=s::r∧i=b::i2∧inn=n1++n2∧own s=b::m∧tm.getD s undef=ptr b 0∧s<σ.length∧qc1 σ tm own ps as.tail r i2 n2
 | .ior _ _::ps,as,ss,i,inn=>∃s r i1 i2,ss=s::r∧i=i1++i2∧own s=i1∧tm.getD s undef=as.headD undef∧i1=(as.headD undef).ownBlock.toList∧s<σ.length∧qc1 σ tm own ps as.tail r i2 inn
 | .val _::ps,as,ss,i,inn=>qc1 σ tm own ps as.tail ss i inn
 | .own _ _::ps,as,ss,i,inn=>qc1 σ tm own ps as.tail ss i inn
 | .fn _ _::ps,as,ss,i,inn=>qc1 σ tm own ps as.tail ss i inn
 | .nil _ _::ps,as,ss,i,inn=>qc1 σ tm own ps as.tail ss i inn
 | .rd _::ps,as,ss,i,inn=>qc1 σ tm own ps as.tail ss i inn
theorem qls {σ:St} {tm:Array Value} {own:Nat→List Nat} :(ts:List Ty)→ {as:List Value} → {ss i inn:List Nat} →qc1 σ tm own (valPs ts) as ss i inn→ss=[]∧i=[]∧inn=[]
 |[],_,_,_,_,h=>h
 |_::r,_,_,_,_,h=>qls r h
theorem ql6 (h:qas C σ tm w own) {s:Nat} {S T A B L:List Nat} (hT:T.Perm (s::S)) (hL:L.Perm (A++B)) (hA:A.Nodup) (hAs:∀b∈A,b∈own s) (hB:∀b∈B,∃s'∈S,b∈own s') (hBn:S.Nodup→B.Nodup):(∀b∈L,∃s'∈T,b∈own s')∧(T.Nodup→L.Nodup):=by
 refine ⟨fun b hb=> ?_,fun hn=> ?_⟩
 ·rcases List.mem_append.1 (hL.mem_iff.1 hb) with hb|hb
  ·exact ⟨s,hT.mem_iff.2 List.mem_cons_self,hAs b hb⟩
  ·obtain ⟨s',h1,h2⟩:=hB b hb
   exact ⟨s',hT.mem_iff.2 (List.mem_cons_of_mem _ h1),h2⟩
 ·have hn:=List.nodup_cons.1 (hT.nodup_iff.1 hn)
  rw [hL.nodup_iff]
  refine List.nodup_append.2 ⟨hA,hBn hn.2,fun b hb b' hb' e=> ?_⟩
  subst e
  obtain ⟨s',h1,h2⟩:=hB b hb'
  have:=h.apart s s' b (hAs b hb) h2
  subst this
  exact hn.1 h1
theorem qhd {s:Nat} (hne:(qA σ s).2≠ .undef):s<σ.length:=by
 by_cases h:s<σ.length
 ·exact h
 ·have:qA σ s=(0,.undef):=by simp [qA,List.getD,List.getElem?_eq_none (Nat.le_of_not_lt h)]
  rw [this] at hne
  exact absurd rfl hne
theorem qph {w:World} {ad:Addr} {cs:List Value} {off n:Nat} (h:qhf w ad cs):qhf w (ad.add off) ((cs.drop off).take n):=by
 intro j z hj
 rw [qaQ]
 refine h _ _ ?_
 rw [List.getElem?_take] at hj
 split at hj
 ·rwa [List.getElem?_drop] at hj
 ·cases hj
theorem qdI (hFn:qg1 E C.P) (h:qas C σ a.tmps w own) (hpt:quV (sit C σ a.tmps w own)):(ps:List PM)→ {os:List Op1} → {vs:List Value} → {A:qsW ps} →qma (sit C σ a.tmps w own) os vs→(∀o1∈os,∀s,o1.s=some s→o1.a≠ .undef→s<σ.length)→(qaP E ps os).run (qA σ)=some A→
  ∃g i inn,qaA C.P w (fun b=>FW (sit C σ a.tmps w own) A.ow b∨b∈inn) ps A.x vs g i∧((∀b∈g++(i++inn),∃s∈A.gone++A.ios,b∈own s)∧((A.gone++A.ios).Nodup→(g++(i++inn)).Nodup))∧(∀s∈A.gone,s<σ.length)∧qc1 σ a.tmps own ps vs A.ios i inn
 |[],[],[],A,_,_,he=>by
  have:=Q.ret_some he
  subst this
  exact ⟨[],[],[],⟨rfl,rfl,rfl⟩,⟨fun b hb=>(by cases hb),fun _=>List.nodup_nil⟩,fun s hs=>(by cases hs),rfl,rfl,rfl⟩
 | .val t::ps,o1::os,v::vs,A,⟨ho,hos⟩,hlt,he=>by
  obtain ⟨x,h1,he⟩:=Q.bind_some he
  obtain ⟨r,h2,he⟩:=Q.bind_some he
  have:=Q.ret_some he
  subst this
  obtain ⟨g,i,inn,k1,k2,k4,k5⟩:=qdI hFn h hpt ps hos (fun o2 ho2=>hlt o2 (List.mem_cons_of_mem _ ho2)) h2
  refine ⟨g,i,inn,⟨v,vs,rfl,(qdx h ho h1).mono fun b hb _=> .inl (FW.mono (fun s hs=>List.mem_append_left _ hs) hb),k1.mono (fun b hb=> ?_) ps⟩,k2,k4,k5⟩
  exact hb.imp (FW.mono fun s hs=>List.mem_append_right _ hs) id
 | .own et e::ps,o1::os,v::vs,A,⟨ho,hos⟩,hlt,he=>by
  have hrec:∀ {r:qsW ps},(qaP E ps os).run (qA σ)=some r→_:=fun h2=>qdI hFn h hpt ps hos (fun o2 ho2=>hlt o2 (List.mem_cons_of_mem _ ho2)) h2
  have fin:∀(s:Nat) (et':Nat) (e':Ty) (xs':List e'.den) (xs:List e.den) (r:qsW ps),s<σ.length→et=et'→Ty.as (t:= .slice e') (.slice e) xs'=some xs→qak w (C.free w own) et' e' xs' v (own s)→(qaP E ps os).run (qA σ)=some r→A=⟨(xs,r.x),r.ow,s::r.gone,r.ios⟩→
    ∃g i inn,qaA C.P w (fun b=>FW (sit C σ a.tmps w own) A.ow b∨b∈inn) (.own et e::ps) A.x (v::vs) g i∧((∀b∈g++(i++inn),∃s∈A.gone++A.ios,b∈own s)∧((A.gone++A.ios).Nodup→(g++(i++inn)).Nodup))∧(∀s∈A.gone,s<σ.length)∧qc1 σ a.tmps own (.own et e::ps) (v::vs) A.ios i inn:=by
   intro s et' e' xs' xs r hs hty has hown hr hA
   subst hA
   subst hty
   obtain ⟨e1,e2⟩:=Ty.as_some has
   injection e1 with e1
   subst e1
   have e2:xs'=xs:=e2
   subst e2
   obtain ⟨g,i,inn,k1,k2,k4,k5⟩:=hrec hr
   refine ⟨own s++g,i,inn,⟨v,vs,own s,g,rfl,rfl,hown.keep (fun b hb hlt=>⟨.inl (.inl hb),hlt,rfl⟩) (fun _ _ _=>rfl),k1⟩,ql6 h (List.Perm.refl _) (by rw [List.append_assoc]) (h.nodup s) (fun b hb=>hb) k2.1 k2.2,fun s' hs'=> ?_,k5⟩
   ·rcases List.mem_cons.1 hs' with rfl|hs'
    ·exact hs
    ·exact k4 s' hs'
  obtain ⟨os1,ov,oa⟩:=o1
  cases oa with
  |own et' e' xs'=>
   cases os1 with
   |some s=>
    simp only [qaP] at he
    split at he
    ·rename_i hty
     split at he
     ·rename_i xs has
      obtain ⟨r,h2,he⟩:=Q.bind_some he
      exact fin s et' e' xs' xs r (hlt _ List.mem_cons_self s rfl (by simp)) hty has ho.2.2 h2 (Q.ret_some he).symm
     ·cases he
    ·cases he
   |none=>
    simp only [qaP] at he
    split at he
    ·rename_i hty
     split at he
     ·rename_i xs has
      obtain ⟨r,h2,he⟩:=Q.bind_some he
      have:=Q.ret_some he
      subst this
      subst hty
      obtain ⟨e1,e2⟩:=Ty.as_some has
      injection e1 with e1
      subst e1
      have e2:xs'=xs:=e2
      subst e2
      obtain ⟨g,i,inn,k1,k2,k4,k5⟩:=hrec h2
      have ho:qak w (C.free w own) et e' xs' v []:=ho
      exact ⟨g,i,inn,⟨v,vs,[],g,rfl,rfl,ho.keep (fun b hb hlt=>⟨.inl (.inl hb),hlt,rfl⟩) (fun _ _ _=>rfl),k1⟩,k2,k4,k5⟩
     ·cases he
    ·cases he
  |ref s v0=>
   cases os1
   all_goals
    simp only [qaP,Q.run_get] at he
    split at he
    ·rename_i hv
     have hu:a.tmps.getD s undef=v:=(ho.unowned rfl).2 hv
     have hat:=h.at_ s
     rw [hu] at hat
     split at he
     ·rename_i et' e' xs' h3
      rw [h3] at hat
      split at he
      ·rename_i hty
       split at he
       ·rename_i xs has
        obtain ⟨r,h2,he⟩:=Q.bind_some he
        exact fin s et' e' xs' xs r (qhd (by rw [h3]; simp)) hty has hat h2 (Q.ret_some he).symm
       ·cases he
      ·cases he
     ·cases he
    ·cases he
  |_=>cases os1 <;> simp only [qaP] at he <;> cases he
 | .io t::ps,o1::os,v::vs,A,⟨ho,hos⟩,hlt,he=>by
  have hrec:∀ {r:qsW ps},(qaP E ps os).run (qA σ)=some r→_:=fun h2=>qdI hFn h hpt ps hos (fun o2 ho2=>hlt o2 (List.mem_cons_of_mem _ ho2)) h2
  have fin:∀(s:Nat) (c:BC) (x:t.den) (fl:Bool) (r:qsW ps),s<σ.length→(∃(b:Nat) (cs:List Value) (bs':List Nat) (te:Nat),a.tmps.getD s undef=ptr b 0∧w.heap[b]? =some (.cells cs.toArray te (0,0))∧qa5 w (C.free w own) c cs bs'∧own s=b::bs')→a.tmps.getD s undef=v→(if c.size=t.size then c.get 0 t else none)=some (x,fl)→(qaP E ps os).run (qA σ)=some r→A=⟨(x,r.x),r.ow,r.gone,s::r.ios⟩→
    ∃g i inn,qaA C.P w (fun b=>FW (sit C σ a.tmps w own) A.ow b∨b∈inn) (.io t::ps) A.x (v::vs) g i∧((∀b∈g++(i++inn),∃s∈A.gone++A.ios,b∈own s)∧((A.gone++A.ios).Nodup→(g++(i++inn)).Nodup))∧(∀s∈A.gone,s<σ.length)∧qc1 σ a.tmps own (.io t::ps) (v::vs) A.ios i inn:=by
   intro s c x fl r hslt hbx htm hget hr hA
   subst hA
   obtain ⟨b,cs,bs',te,b1,b2,b3,b4⟩:=hbx
   obtain ⟨g,i,inn,k1,k2,k4,k5⟩:=hrec hr
   split at hget
   case isFalse=>cases hget
   rename_i hsz
   obtain ⟨q1,q2,_⟩:=b3.get hget
   have hcl:=b3.length
   have hall:(cs.drop 0).take t.size=cs:=by rw [List.drop_zero]; exact List.take_of_length_le (by omega)
   rw [hall] at q2
   refine ⟨g,b::i,bs'++inn,⟨b,vs,i,cs,te,by rw [←htm,b1],rfl,b2,q2.keep fun b hb hlt=>⟨?_,hlt,rfl⟩,k1.mono (fun b hb=> ?_) ps⟩,ql6 h List.perm_middle (A:=b::bs') (B:=g++(i++inn)) (List.perm_iff_count.2 fun a=>by simp only [List.count_append,List.count_cons]; omega) (by rw [←b4]; exact h.nodup s) (fun k hk=>by rw [b4]; exact hk) k2.1 k2.2,k4,s,r.ios,b,i,bs',inn,rfl,rfl,rfl,b4,b1,hslt,k5⟩
   ·rcases hb with hb|hb
    ·exact .inl (.inl hb)
    ·exact .inr (List.mem_append_left _ hb)
   ·exact hb.imp id fun hb=>List.mem_append_right _ hb
  obtain ⟨os1,ov,oa⟩:=o1
  cases oa with
  |box c=>
   cases os1 with
   |some s=>
    simp only [qaP] at he
    split at he
    ·rename_i x fl hget
     obtain ⟨r,h2,he⟩:=Q.bind_some he
     have hs:s<σ.length:=hlt _ List.mem_cons_self s rfl (by simp)
     obtain ⟨g1,g2,b,cs,bs',te,g3,g4,g5,g6⟩:=ho
     exact fin s c x fl r hs ⟨b,cs,bs',te,g1.symm.trans g3,g4,g5,g6⟩ g1.symm hget h2 (Q.ret_some he).symm
    ·cases he
   |none=>simp only [qaP] at he; cases he
  |pip s off=>
   cases off with
   |succ n=>cases os1 <;> simp only [qaP] at he <;> cases he
   |zero=>
    cases os1
    all_goals
     simp only [qaP,Q.run_get] at he
     obtain ⟨_,b,hu2,hu⟩:=ho.unowned rfl
     have hu2:=hpt s b hu2
     split at he
     ·rename_i c hc
      split at he
      ·rename_i x fl hget
       obtain ⟨r,h2,he⟩:=Q.bind_some he
       exact fin s c x fl r (qhd (by rw [hc]; simp)) (h.box hc) (by rw [hu]; exact hu2) hget h2 (Q.ret_some he).symm
      ·cases he
     ·cases he
  |pbox s v0 off=>
   cases off with
   |succ n=>cases os1 <;> simp only [qaP] at he <;> cases he
   |zero=>
    cases os1
    all_goals
     simp only [qaP,Q.run_get] at he
     split at he
     ·rename_i hv
      obtain ⟨b,hu,hu2⟩:=(ho.unowned rfl).2 hv
      split at he
      ·rename_i c hc
       split at he
       ·rename_i x fl hget
        obtain ⟨r,h2,he⟩:=Q.bind_some he
        exact fin s c x fl r (qhd (by rw [hc]; simp)) (h.box hc) (by rw [hu2]; exact hu) hget h2 (Q.ret_some he).symm
       ·cases he
      ·cases he
     ·cases he
  |_=>cases os1 <;> simp only [qaP] at he <;> cases he
 | .iob b::ps,o1::os,v::vs,A,⟨ho,hos⟩,hlt,he=>by
  have hrec:∀ {r:qsW ps},(qaP E ps os).run (qA σ)=some r→_:=fun h2=>qdI hFn h hpt ps hos (fun o2 ho2=>hlt o2 (List.mem_cons_of_mem _ ho2)) h2
  have fin:∀(s:Nat) (c:BC) (x:b.den) (r:qsW ps),s<σ.length→(∃(b:Nat) (cs:List Value) (bs':List Nat) (te:Nat),a.tmps.getD s undef=ptr b 0∧w.heap[b]? =some (.cells cs.toArray te (0,0))∧qa5 w (C.free w own) c cs bs'∧own s=b::bs')→a.tmps.getD s undef=v→c.fit b=some x→(qaP E ps os).run (qA σ)=some r→A=⟨(x,r.x),r.ow,r.gone,s::r.ios⟩→
    ∃g i inn,qaA C.P w (fun b=>FW (sit C σ a.tmps w own) A.ow b∨b∈inn) (.iob b::ps) A.x (v::vs) g i∧((∀b∈g++(i++inn),∃s∈A.gone++A.ios,b∈own s)∧((A.gone++A.ios).Nodup→(g++(i++inn)).Nodup))∧(∀s∈A.gone,s<σ.length)∧qc1 σ a.tmps own (.iob b::ps) (v::vs) A.ios i inn:=by
   intro s c x r hslt hbx htm hget hr hA
   subst hA
   obtain ⟨bk,cs,bs',te,b1,b2,b3,b4⟩:=hbx
   obtain ⟨g,i,inn,k1,k2,k4,k5⟩:=hrec hr
   have hnd:=h.nodup s
   rw [b4] at hnd
   have hnd:=List.nodup_cons.1 hnd
   obtain ⟨g1,q1,q2⟩:=b3.fit b hnd.2 hget
   have hp:bs'.Perm (g1++bs'.filter (fun k=>decide (k∉g1))):=qvt q1 hnd.2
   refine ⟨g1++g,bk::i,bs'.filter (fun k=>decide (k∉g1))++inn,⟨bk,vs,g1,g,i,cs,te,by rw [←htm,b1],rfl,rfl,b2,q2 _ (fun k hk=> .inl (.inl hk)) (fun k hk hkn=> .inr (List.mem_append_left _ (List.mem_filter.2 ⟨hk,by simpa using hkn⟩))),k1.mono (fun b hb=>hb.imp id fun hb=>List.mem_append_right _ hb) ps⟩,ql6 h List.perm_middle (A:=bk::bs') (B:=g++(i++inn)) (List.perm_iff_count.2 fun a=> ?_) (by rw [←b4]; exact h.nodup s) (fun k hk=>by rw [b4]; exact hk) k2.1 k2.2,k4,s,r.ios,bk,i,_,inn,bs',rfl,rfl,rfl,b4,b1,hslt,k5⟩
   have:=List.perm_iff_count.1 hp a
   simp only [List.count_append,List.count_cons] at this⊢
   omega
  obtain ⟨os1,ov,oa⟩:=o1
  cases oa with
  |box c=>
   cases os1 with
   |some s=>
    simp only [qaP] at he
    split at he
    ·rename_i x hget
     obtain ⟨r,h2,he⟩:=Q.bind_some he
     have hs:s<σ.length:=hlt _ List.mem_cons_self s rfl (by simp)
     obtain ⟨g1,g2,b,cs,bs',te,g3,g4,g5,g6⟩:=ho
     exact fin s c x r hs ⟨b,cs,bs',te,g1.symm.trans g3,g4,g5,g6⟩ g1.symm hget h2 (Q.ret_some he).symm
    ·cases he
   |none=>simp only [qaP] at he; cases he
  |pip s off=>
   cases off with
   |succ n=>cases os1 <;> simp only [qaP] at he <;> cases he
   |zero=>
    cases os1
    all_goals
     simp only [qaP,Q.run_get] at he
     obtain ⟨_,b,hu2,hu⟩:=ho.unowned rfl
     have hu2:=hpt s b hu2
     split at he
     ·rename_i c hc
      split at he
      ·rename_i x hget
       obtain ⟨r,h2,he⟩:=Q.bind_some he
       exact fin s c x r (qhd (by rw [hc]; simp)) (h.box hc) (by rw [hu]; exact hu2) hget h2 (Q.ret_some he).symm
      ·cases he
     ·cases he
  |pbox s v0 off=>
   cases off with
   |succ n=>cases os1 <;> simp only [qaP] at he <;> cases he
   |zero=>
    cases os1
    all_goals
     simp only [qaP,Q.run_get] at he
     split at he
     ·rename_i hv
      obtain ⟨b,hu,hu2⟩:=(ho.unowned rfl).2 hv
      split at he
      ·rename_i c hc
       split at he
       ·rename_i x hget
        obtain ⟨r,h2,he⟩:=Q.bind_some he
        exact fin s c x r (qhd (by rw [hc]; simp)) (h.box hc) (by rw [hu2]; exact hu) hget h2 (Q.ret_some he).symm
       ·cases he
      ·cases he
     ·cases he
  |_=>cases os1 <;> simp only [qaP] at he <;> cases he
 | .ior et e::ps,o1::os,v::vs,A,⟨ho,hos⟩,hlt,he=>by
  have hrec:∀ {r:qsW ps},(qaP E ps os).run (qA σ)=some r→_:=fun h2=>qdI hFn h hpt ps hos (fun o2 ho2=>hlt o2 (List.mem_cons_of_mem _ ho2)) h2
  have fin:∀(s:Nat) (et':Nat) (e':Ty) (xs':List e'.den) (xs:List e.den) (r:qsW ps),s<σ.length→et=et'→Ty.as (t:= .slice e') (.slice e) xs'=some xs→qak w (C.free w own) et' e' xs' v (own s)→a.tmps.getD s undef=v→(qaP E ps os).run (qA σ)=some r→A=⟨(xs,r.x),r.ow,r.gone,s::r.ios⟩→
    ∃g i inn,qaA C.P w (fun b=>FW (sit C σ a.tmps w own) A.ow b∨b∈inn) (.ior et e::ps) A.x (v::vs) g i∧((∀b∈g++(i++inn),∃s∈A.gone++A.ios,b∈own s)∧((A.gone++A.ios).Nodup→(g++(i++inn)).Nodup))∧(∀s∈A.gone,s<σ.length)∧qc1 σ a.tmps own (.ior et e::ps) (v::vs) A.ios i inn:=by
   intro s et' e' xs' xs r hs hty has hown htv hr hA
   subst hA
   subst hty
   obtain ⟨e1,e2⟩:=Ty.as_some has
   injection e1 with e1
   subst e1
   have e2:xs'=xs:=e2
   subst e2
   obtain ⟨g,i,inn,k1,k2,k4,k5⟩:=hrec hr
   have hob:own s=v.ownBlock.toList:=by
    obtain ⟨cells,_,hb,_⟩:=hown
    exact hb
   exact ⟨g,own s++i,inn,⟨v,vs,own s,i,rfl,rfl,hown.keep (fun b hb hlt=>⟨.inl (.inl hb),hlt,rfl⟩) (fun _ _ _=>rfl),k1⟩,ql6 h List.perm_middle (A:=own s) (B:=g++(i++inn)) (List.perm_iff_count.2 fun a=>by simp only [List.count_append]; omega) (h.nodup s) (fun b hb=>hb) k2.1 k2.2,k4,s,r.ios,own s,i,rfl,rfl,rfl,htv,hob,hs,k5⟩
  obtain ⟨os1,ov,oa⟩:=o1
  cases oa with
  |own et' e' xs'=>
   cases os1 with
   |some s=>
    simp only [qaP] at he
    split at he
    ·rename_i hty
     split at he
     ·rename_i xs has
      obtain ⟨r,h2,he⟩:=Q.bind_some he
      exact fin s et' e' xs' xs r (hlt _ List.mem_cons_self s rfl (by simp)) hty has ho.2.2 ho.1.symm h2 (Q.ret_some he).symm
     ·cases he
    ·cases he
   |none=>simp only [qaP] at he; cases he
  |ref s v0=>
   cases os1
   all_goals
    simp only [qaP,Q.run_get] at he
    split at he
    ·rename_i hv
     have hu:a.tmps.getD s undef=v:=(ho.unowned rfl).2 hv
     have hat:=h.at_ s
     rw [hu] at hat
     split at he
     ·rename_i et' e' xs' h3
      rw [h3] at hat
      split at he
      ·rename_i hty
       split at he
       ·rename_i xs has
        obtain ⟨r,h2,he⟩:=Q.bind_some he
        exact fin s et' e' xs' xs r (qhd (by rw [h3]; simp)) hty has hat hu h2 (Q.ret_some he).symm
       ·cases he
      ·cases he
     ·cases he
    ·cases he
  |_=>cases os1 <;> simp only [qaP] at he <;> cases he
 | .nil et e::ps,o1::os,v::vs,A,⟨ho,hos⟩,hlt,he=>by
  have fin:v= .slice none 0 0→∀r:qsW ps,(qaP E ps os).run (qA σ)=some r→A=⟨((),r.x),r.ow,r.gone,r.ios⟩→∃g i inn,qaA C.P w (fun b=>FW (sit C σ a.tmps w own) A.ow b∨b∈inn) (.nil et e::ps) A.x (v::vs) g i∧((∀b∈g++(i++inn),∃s∈A.gone++A.ios,b∈own s)∧((A.gone++A.ios).Nodup→(g++(i++inn)).Nodup))∧(∀s∈A.gone,s<σ.length)∧qc1 σ a.tmps own (.nil et e::ps) (v::vs) A.ios i inn:=by
   intro hv r hr hA
   subst hA
   obtain ⟨g,i,inn,k1,k2,k4,k5⟩:=qdI hFn h hpt ps hos (fun o2 ho2=>hlt o2 (List.mem_cons_of_mem _ ho2)) hr
   exact ⟨g,i,inn,⟨vs,by rw [hv],k1⟩,k2,k4,k5⟩
  obtain ⟨os1,ov,oa⟩:=o1
  simp only [qaP] at he
  split at he
  ·rename_i et' e'
   split at he
   case isFalse=>cases he
   obtain ⟨r,h2,he⟩:=Q.bind_some he
   exact fin (ho.unowned rfl).2 r h2 (Q.ret_some he).symm
  ·rename_i et' e'
   split at he
   case isFalse=>cases he
   obtain ⟨r,h2,he⟩:=Q.bind_some he
   have ho:qak w (C.free w own) et' e' [] v []:=ho
   refine fin ?_ r h2 (Q.ret_some he).symm
   obtain ⟨cells,k1,k2,_⟩:=ho
   rcases k1.2 with ⟨k3,_⟩|⟨g,cap,cur,k3,_⟩
   ·exact k3
   ·rw [k3] at k2
    cases k2
  ·cases he
 | .rd t::ps,o1::os,v::vs,A,⟨ho,hos⟩,hlt,he=>by
  obtain ⟨os1,ov,oa⟩:=o1
  simp only [qaP] at he
  split at he
  case h_2=>cases he
  rename_i t' y off
  split at he
  case h_2=>cases he
  rename_i x hs
  obtain ⟨r,h2,he⟩:=Q.bind_some he
  have:=Q.ret_some he
  subst this
  obtain ⟨g,i,inn,k1,k2,k4,k5⟩:=qdI hFn h hpt ps hos (fun o2 ho2=>hlt o2 (List.mem_cons_of_mem _ ho2)) h2
  obtain ⟨_,ad,cs,rfl,g1,g2,g3,g4⟩:=ho.unowned rfl
  obtain ⟨q1,q2⟩:=g4.sub hs
  refine ⟨g,i,inn,⟨_,(cs.drop off).take t.size,vs,rfl,?_,?_,qph g3,q2.keep fun b hb hlt=>⟨.inl (.inl hb),hlt,rfl⟩,k1⟩,k2,k4,k5⟩
  ·rw [q8]; exact .inl (.inl g1)
  ·rw [q8]; exact g2
 | .fn ts us::ps,o1::os,v::vs,A,⟨ho,hos⟩,hlt,he=>by
  simp only [qaP] at he
  split at he
  case h_2=>cases he
  rename_i φ hφ
  obtain ⟨r,h2,he⟩:=Q.bind_some he
  have:=Q.ret_some he
  subst this
  obtain ⟨g,i,inn,k1,k2,k4,k5⟩:=qdI hFn h hpt ps hos (fun o2 ho2=>hlt o2 (List.mem_cons_of_mem _ ho2)) h2
  have hun:o1.a.unowned=true:=by
   unfold fnOf at hφ
   split at hφ
   ·rename_i hq; rw [hq]; rfl
   ·rename_i hq; rw [hq]; rfl
   ·cases hφ
  have hfr:=qvi hFn (w:=w) (F:=C.free w own) (X:=sit C σ a.tmps w own) ⟨rfl,rfl,rfl⟩ h.tabsE hφ (ho.unowned hun)
  exact ⟨g,i,inn,⟨v,vs,rfl,hfr.keep fun b hb hlt=>⟨.inl (.inl hb),hlt,rfl⟩,k1⟩,k2,k4,k5⟩
 |[],_::_,_,_,_,_,he=>by cases he
 | .val _::ps,[],_,_,_,_,he=>by cases he
 | .own _ _::ps,[],_,_,_,_,he=>by cases he
 | .io _::ps,[],_,_,_,_,he=>by cases he
 | .fn _ _::ps,[],_,_,_,_,he=>by cases he
 | .nil _ _::ps,[],_,_,_,_,he=>by cases he
 | .rd _::ps,[],_,_,_,_,he=>by cases he
 | .ior _ _::ps,[],_,_,_,_,he=>by cases he
 | .iob _::ps,[],_,_,_,_,he=>by cases he
 |[],[],_::_,_,h,_,_=>by cases h
 | .val _::ps,_::_,[],_,h,_,_=>by cases h
 | .own _ _::ps,_::_,[],_,h,_,_=>by cases h
 | .io _::ps,_::_,[],_,h,_,_=>by cases h
 | .fn _ _::ps,_::_,[],_,h,_,_=>by cases h
 | .nil _ _::ps,_::_,[],_,h,_,_=>by cases h
 | .rd _::ps,_::_,[],_,h,_,_=>by cases h
 | .ior _ _::ps,_::_,[],_,h,_,_=>by cases h
 | .iob _::ps,_::_,[],_,h,_,_=>by cases h
end
end Go.Vi
