/- The abstract interpreter: what a box holds, written anew. -/
import Derived.Test.YtfcdfdnlgfebmaaGreatDoorViOp1
set_option linter.unusedVariables false
set_option linter.unusedSimpArgs false
set_option linter.unnecessarySimpa false
set_option linter.unusedSectionVars false
namespace Go.Vi
open Go.RowKit
theorem BC.freeze_freeze:(c:BC)→c.freeze.freeze=c.freeze
 | .val _ _=>rfl
 | .own _ _ _=>rfl
 | .pair a b=>by simp [BC.freeze,BC.freeze_freeze a,BC.freeze_freeze b]
 | .hole _=>rfl
theorem qod.freeze_freeze:(c:qod)→c.freeze.freeze=c.freeze
 | .val _ _=>rfl
 | .own _ _ _=>rfl
 | .gone=>rfl
theorem AV.freeze_freeze (a:AV):a.freeze.freeze=a.freeze:=by
 cases a <;> simp [AV.freeze,BC.freeze_freeze,qod.freeze_freeze]
section
variable {C:Ctx} {tm:Array Value} {w:World}
theorem qlv (σ:St) (s x:Nat):qt (qR σ ⟨s,false,(qt σ s).2.freeze⟩) x=if x=s then ((qt σ s).1,(qt σ s).2.freeze) else qt σ x:=by
 by_cases hx:x=s
 ·subst hx
  by_cases hs:x<σ.length
  ·rw [qM σ ⟨x,false,_⟩ hs]; simp
  ·have h1:qR σ ⟨x,false,(qt σ x).2.freeze⟩=σ:=by simp only [qR]; exact List.set_eq_of_length_le (by omega)
   have h2:qt σ x=(0,.undef):=by simp [qt,List.getD,List.getElem?_eq_none (show σ.length≤x by omega)]
   rw [h1,h2]; simp [AV.freeze]
 ·rw [qv _ _ hx]; simp [hx]
theorem qeJ (σ:St) (s:Nat):∀(ow:List Nat),(qbX ow).run (qt (qR σ ⟨s,false,(qt σ s).2.freeze⟩))=(qbX ow).run (qt σ)
 |[]=>rfl
 |x::r=>by
  simp only [qbX,Q.run_get,Q.run_bind,qeJ σ s r]
  have:(qt (qR σ ⟨s,false,(qt σ s).2.freeze⟩) x).2.freeze=(qt σ x).2.freeze:=by
   rw [qlv]
   split
   ·rename_i e; subst e; exact AV.freeze_freeze _
   ·rfl
  rw [this]
  rfl
theorem qcC:∀(ow:List Nat) {σ:St} {own:Nat→List Nat} {us:List U},qag C σ tm w own→(qbX ow).run (qt σ)=some us→
  ∃own',qag C (qr σ us) tm w own'∧(∀s,(qt (qr σ us) s).1=(qt σ s).1)∧(∀s,s∉ow→own' s=own s∧qt (qr σ us) s=qt σ s)∧(∀b,FW (sit C σ tm w own) ow b→C.free w own' b)
 |[],σ,own,us,h,he=>by
  have:=Q.ret_some he
  subst this
  exact ⟨own,h,fun _=>rfl,fun _ _=>⟨rfl,rfl⟩,fun b hb=>qm3 hb⟩
 |s::r,σ,own,us,h,he=>by
  simp only [qbX,Q.run_get] at he
  obtain ⟨us',h1,h2⟩:=Q.bind_some he
  have:=Q.ret_some h2
  subst this
  obtain ⟨own1,g1,g2,g3,g4⟩:=h.freeze s
  obtain ⟨own',k1,k2,k3,k4⟩:=qcC r g1 (us:=us') (by rw [qeJ]; exact h1)
  refine ⟨own',k1,fun x=>(k2 x).trans ?_,fun x hx=> ?_,?_⟩
  ·rw [qlv]
   split
   ·rename_i e; rw [e]
   ·rfl
  ·have hxs:x≠s:=fun e=>hx (e ▸ List.mem_cons_self)
   obtain ⟨m1,m2⟩:=k3 x fun hm=>hx (List.mem_cons_of_mem _ hm)
   exact ⟨m1.trans (g2 x hxs),m2.trans (qv _ _ hxs)⟩
  ·rintro b (hb|⟨s',hs',hb,hp⟩)
   ·exact k4 b (.inl (g4 b (.inl hb)))
   ·rcases List.mem_cons.1 hs' with rfl|hs'
    ·exact k4 b (.inl (g4 b (.inr ⟨s',List.mem_singleton.2 rfl,hb,hp⟩)))
    ·by_cases he:s'=s
     ·subst he
      exact k4 b (.inl (g4 b (.inr ⟨s',List.mem_singleton.2 rfl,hb,hp⟩)))
     ·exact k4 b (.inr ⟨s',hs',by show b∈own1 s'; rw [g2 s' he]; exact hb,hp⟩)
end
section
variable {w:World} {F:Nat→Prop}
def qaL (cs:List Value) (off:Nat) (ds:List Value):List Value:=cs.take off++ds++cs.drop (off+ds.length)
theorem qdi {cs ds:List Value} (h:cs.length=ds.length):qaL cs 0 ds=ds:=by
 rw [qaL,List.take_zero,List.nil_append,List.drop_of_length_le (by omega),List.append_nil]
theorem qiI {c1 c2 ds:List Value} {off:Nat} (h:off+ds.length≤c1.length):qaL (c1++c2) off ds=qaL c1 off ds++c2:=qn3 h rfl
theorem qhy {c1 c2 ds:List Value} {off:Nat} (h:c1.length≤off):qaL (c1++c2) off ds=c1++qaL c2 (off - c1.length) ds:=qlT h
theorem qeS {cs ds:List Value} {off:Nat} (h:off+ds.length≤cs.length):(qaL cs off ds).length=cs.length:=by
 simp only [qaL,List.length_append,List.length_take,List.length_drop]
 omega
theorem qgf {cs ds:List Value} {off:Nat} (h:off+ds.length≤cs.length) (j:Nat):(qaL cs off ds)[j]? =if j<off then cs[j]? else if j<off+ds.length then ds[j - off]? else cs[j]? :=by
 unfold qaL
 by_cases h1:j<off
 ·rw [if_pos h1,List.append_assoc,List.getElem?_append_left (by rw [List.length_take]; omega),List.getElem?_take,if_pos h1]
 ·rw [if_neg h1]
  by_cases h2:j<off+ds.length
  ·rw [if_pos h2,List.getElem?_append_left (by rw [List.length_append,List.length_take]; omega),List.getElem?_append_right (by rw [List.length_take]; omega),List.length_take]
   congr 1; omega
  ·rw [if_neg h2,List.getElem?_append_right (by rw [List.length_append,List.length_take]; omega),List.getElem?_drop,List.length_append,List.length_take]
   congr 1; omega
theorem qlS {cs ds:List Value} {p n q:Nat} (h1:p+n≤cs.length) (h2:q+ds.length≤n):qaL cs p (qaL ((cs.drop p).take n) q ds)=qaL cs (p+q) ds:=by
 have hl:((cs.drop p).take n).length=n:=by rw [List.length_take,List.length_drop]; omega
 have hs:(qaL ((cs.drop p).take n) q ds).length=n:=by rw [qeS (by omega),hl]
 apply List.ext_getElem?
 intro j
 have e1:=qgf (cs:=cs) (ds:=qaL ((cs.drop p).take n) q ds) (off:=p) (by omega) j
 have e2:=qgf (cs:=cs) (ds:=ds) (off:=p+q) (by omega) j
 have e3:=qgf (cs:=(cs.drop p).take n) (ds:=ds) (off:=q) (by omega) (j - p)
 have e4:((cs.drop p).take n)[j - p]? =if j - p<n then cs[p+(j - p)]? else none:=by
  rw [List.getElem?_take]
  split
  ·rw [List.getElem?_drop]
  ·rfl
 rw [e1,e2,hs,e3,e4]
 by_cases a1:j<p
 ·rw [if_pos a1,if_pos (by omega)]
 ·rw [if_neg a1]
  have ep:p+(j - p)=j:=by omega
  rw [ep]
  by_cases a2:j<p+n
  ·rw [if_pos a2,if_pos (show j - p<n by omega)]
   by_cases a3:j - p<q
   ·rw [if_pos a3,if_pos (by omega)]
   ·rw [if_neg a3,if_neg (show ¬j<p+q by omega)]
    by_cases a4:j - p<q+ds.length
    ·rw [if_pos a4,if_pos (by omega)]
     congr 1; omega
    ·rw [if_neg a4,if_neg (by omega)]
  ·rw [if_neg a2,if_neg (by omega),if_neg (by omega)]
theorem Rep.setElem {n:Nat} {e:Ty} {xs:List e.den} {cs ds:List Value} (h:Rep w F (.arr n e) xs cs) {i:Nat} (hi:i<n) {y:e.den} (hy:Rep w F e y ds):Rep w F (.arr n e) (qbN xs (i:Int) y) (qaL cs (i * e.size) ds):=by
 obtain ⟨hl,css,hcl,rfl,hx⟩:=h
 have hall:=qk8 (by omega) hx
 have hdl:=hy.length
 have hc:css[i]? =some (css[i]'(by omega)):=List.getElem?_eq_getElem (by omega)
 obtain ⟨k1,k2⟩:=qbA hall hc
 refine ⟨by simp [qcd,hl],css.set i ds,by simp [hcl],?_,?_⟩
 ·rw [qlJ hall (by omega),qaL,hdl]
 ·intro j x' c' hj hc'
  simp only [qcd,Int.toNat_natCast] at hj
  by_cases he:i=j
  ·subst he
   rw [List.getElem?_set_self (by omega)] at hj hc'
   injection hj with hj; injection hc' with hc'
   subst hj; subst hc'
   exact hy
  ·rw [List.getElem?_set_ne he] at hj hc'
   exact hx j x' c' hj hc'
theorem qbg.ofVal {t:Ty} {x:t.den} {cs:List Value} (h:Rep w F t x cs):qbg w F (.val t x) cs []:=⟨rfl,h⟩
theorem qbg.putVal {new:BC} {ds:List Value} {b2:List Nat} (hn:qbg w F new ds b2): {t:Ty} → {x:t.den} → {cs:List Value} → {off:Nat} → {c':BC} →Rep w F t x cs→BC.putVal t x off new=some c'→
  off+ds.length≤cs.length∧qbg w F c' (qaL cs off ds) b2
 | .pair a b,x,cs,off,c',⟨c1,c2,hc,h1,h2⟩,he=>by
  subst hc
  have l1:=h1.length
  have l2:=h2.length
  have ln:=hn.length
  simp only [BC.putVal] at he
  split at he
  ·split at he
   ·rename_i hlt hz
    injection he with he; subst he
    obtain ⟨rfl,hs⟩:=hz
    refine ⟨by rw [List.length_append]; omega,?_⟩
    rw [qiI (by omega),qdi (by omega)]
    exact ⟨ds,c2,b2,[],rfl,by simp,hn,.ofVal h2⟩
   ·simp only [Option.map_eq_some_iff] at he
    obtain ⟨z,hz,rfl⟩:=he
    obtain ⟨g1,g2⟩:=qbg.putVal hn h1 hz
    refine ⟨by rw [List.length_append]; omega,?_⟩
    rw [qiI g1]
    exact ⟨_,c2,b2,[],rfl,by simp,g2,.ofVal h2⟩
  ·split at he
   ·rename_i hge hz
    injection he with he; subst he
    obtain ⟨rfl,hs⟩:=hz
    refine ⟨by rw [List.length_append]; omega,?_⟩
    rw [qhy (by omega),show a.size - c1.length=0 by omega,qdi (by omega)]
    exact ⟨c1,ds,[],b2,rfl,by simp,.ofVal h1,hn⟩
   ·simp only [Option.map_eq_some_iff] at he
    obtain ⟨z,hz,rfl⟩:=he
    obtain ⟨g1,g2⟩:=qbg.putVal hn h2 hz
    refine ⟨by rw [List.length_append]; omega,?_⟩
    rw [qhy (by omega),l1]
    exact ⟨c1,_,[],b2,rfl,by simp,.ofVal h1,g2⟩
 | .int _,_,_,_,_,_,he=>by simp [BC.putVal] at he
 | .bool,_,_,_,_,_,he=>by simp [BC.putVal] at he
 | .str,_,_,_,_,_,he=>by simp [BC.putVal] at he
 | .err,_,_,_,_,_,he=>by simp [BC.putVal] at he
 | .opt _,_,_,_,_,_,he=>by simp [BC.putVal] at he
 | .map _ _,_,_,_,_,_,he=>by simp [BC.putVal] at he
 | .unit,_,_,_,_,_,he=>by simp [BC.putVal] at he
 | .slice _,_,_,_,_,_,he=>by simp [BC.putVal] at he
 | .arr _ _,_,_,_,_,_,he=>by simp [BC.putVal] at he
theorem qbg.put {new:BC} {ds:List Value} {b2:List Nat} (hn:qbg w F new ds b2): {c:BC} → {cs:List Value} → {bs:List Nat} → {off:Nat} → {c':BC} →qbg w F c cs bs→c.put off new=some c'→
  off+ds.length≤cs.length∧∃bs',qbg w F c' (qaL cs off ds) bs'∧(∀b∈bs',b∈bs∨b∈b2)∧((bs++b2).Nodup→bs'.Nodup)
 | .val t x,cs,bs,off,c',h,he=>by
  have ln:=hn.length
  have lc:=h.2.length
  simp only [BC.put] at he
  split at he
  ·rename_i u y
   simp only [Option.map_eq_some_iff] at he
   obtain ⟨z,hz,rfl⟩:=he
   obtain ⟨hb2,hy⟩:=hn
   subst hb2
   obtain ⟨g1,g2⟩:=h.2.upd hy hz
   have ly:=hy.length
   rw [←ly] at g1 g2
   exact ⟨g1,[],⟨rfl,g2⟩,(fun b hb=>by cases hb),fun _=>List.nodup_nil⟩
  ·split at he
   ·rename_i hz
    injection he with he; subst he
    obtain ⟨rfl,hs⟩:=hz
    rw [qdi (by omega)]
    exact ⟨by omega,b2,hn,fun b hb=> .inr hb,fun hnd=>(List.nodup_append.1 hnd).2.1⟩
   ·obtain ⟨g1,g2⟩:=qbg.putVal hn h.2 he
    exact ⟨g1,b2,g2,fun b hb=> .inr hb,fun hnd=>(List.nodup_append.1 hnd).2.1⟩
 | .own et e xs,cs,bs,off,c',h,he=>by
  have ln:=hn.length
  obtain ⟨v,rfl,h⟩:=h
  simp only [BC.put] at he
  split at he
  ·rename_i hz
   injection he with he; subst he
   obtain ⟨rfl,hs⟩:=hz
   rw [qdi (by simp; omega)]
   exact ⟨by simp; omega,b2,hn,fun b hb=> .inr hb,fun hnd=>(List.nodup_append.1 hnd).2.1⟩
  ·cases he
 | .pair a b,cs,bs,off,c',h,he=>by
  have ln:=hn.length
  have lc:=h.length
  obtain ⟨c1,c2,b1,b1',rfl,rfl,h1,h2⟩:=h
  have l1:=h1.length
  have l2:=h2.length
  simp only [BC.put] at he
  split at he
  ·rename_i hz
   injection he with he; subst he
   obtain ⟨rfl,hs⟩:=hz
   have lc:(c1++c2).length=ds.length:=by rw [List.length_append]; omega
   rw [qdi lc]
   exact ⟨by omega,b2,hn,fun b hb=> .inr hb,fun hnd=>(List.nodup_append.1 hnd).2.1⟩
  ·split at he
   ·simp only [Option.map_eq_some_iff] at he
    obtain ⟨z,hz,rfl⟩:=he
    obtain ⟨g1,bs',g2,g3,g4⟩:=qbg.put hn h1 hz
    refine ⟨by rw [List.length_append]; omega,bs'++b1',?_,?_,?_⟩
    ·rw [qiI g1]
     exact ⟨_,c2,bs',b1',rfl,rfl,g2,h2⟩
    ·intro x hx
     rcases List.mem_append.1 hx with hx|hx
     ·exact (g3 x hx).imp (List.mem_append_left _) id
     ·exact .inl (List.mem_append_right _ hx)
    ·intro hnd
     obtain ⟨n1,n2,n3⟩:=List.nodup_append.1 hnd
     obtain ⟨n4,n5,n6⟩:=List.nodup_append.1 n1
     refine List.nodup_append.2 ⟨g4 (List.nodup_append.2 ⟨n4,n2,fun x hx y hy=>n3 x (List.mem_append_left _ hx) y hy⟩),n5,fun x hx y hy=> ?_⟩
     rcases g3 x hx with hx|hx
     ·exact n6 x hx y hy
     ·exact fun e=>n3 y (List.mem_append_right _ hy) x hx e.symm
   ·simp only [Option.map_eq_some_iff] at he
    obtain ⟨z,hz,rfl⟩:=he
    obtain ⟨g1,bs',g2,g3,g4⟩:=qbg.put hn h2 hz
    refine ⟨by rw [List.length_append]; omega,b1++bs',?_,?_,?_⟩
    ·rw [qhy (by omega),l1]
     exact ⟨c1,_,b1,bs',rfl,rfl,h1,g2⟩
    ·intro x hx
     rcases List.mem_append.1 hx with hx|hx
     ·exact .inl (List.mem_append_left _ hx)
     ·exact (g3 x hx).imp (List.mem_append_right _) id
    ·intro hnd
     obtain ⟨n1,n2,n3⟩:=List.nodup_append.1 hnd
     obtain ⟨n4,n5,n6⟩:=List.nodup_append.1 n1
     refine List.nodup_append.2 ⟨n4,g4 (List.nodup_append.2 ⟨n5,n2,fun x hx y hy=>n3 x (List.mem_append_right _ hx) y hy⟩),fun x hx y hy=> ?_⟩
     rcases g3 y hy with hy|hy
     ·exact n6 x hx y hy
     ·exact n3 x (List.mem_append_left _ hx) y hy
 | .hole n,cs,bs,off,c',h,he=>by
  have ln:=hn.length
  have hl:cs.length=n:=h.2
  simp only [BC.put] at he
  split at he
  ·rename_i hz
   injection he with he; subst he
   obtain ⟨rfl,hs⟩:=hz
   rw [qdi (by omega)]
   exact ⟨by omega,b2,hn,fun b hb=> .inr hb,fun hnd=>(List.nodup_append.1 hnd).2.1⟩
  ·cases he
theorem qbg.oneCell_own {et:Nat} {e:Ty} {xs:List e.den} {cs:List Value} {bs:List Nat} (h:qbg w F (.own et e xs) cs bs):∀v∈cs,v.oneCell'=true:=by
 obtain ⟨v,rfl,h⟩:=h
 intro u hu
 simp at hu
 subst hu
 exact h.oneCell
theorem qbg.oneCell: {c:BC} → {cs:List Value} → {bs:List Nat} →c.sound=true→qbg w F c cs bs→∀v∈cs,v.oneCell'=true
 | .val _ _,_,_,_,h=>h.2.oneCell
 | .own _ _ _,_,_,_,h=>h.oneCell_own
 | .pair _ _,_,_,hs,⟨c1,c2,_,_,rfl,_,h1,h2⟩=>fun v hv=>by
  simp only [BC.sound,Bool.and_eq_true] at hs
  rcases List.mem_append.1 hv with hv|hv
  ·exact h1.oneCell hs.1 v hv
  ·exact h2.oneCell hs.2 v hv
 | .hole _,_,_,hs,_=>by simp [BC.sound] at hs
theorem qgX {b:Nat} {cur:Array Value} (new:Array Value) {te:Nat} (h:w.heap[b]? =some (.cells cur te (0,0))):qcx (fun k=>k=b) w (w.setRow b new):=
 ⟨rfl,rfl,rfl,by simp,fun k _ hk=>setRow_other w b k new hk⟩
end
section
variable {C:Ctx} {E:Env} {σ:St} {a:Act} {w w':World} {own:Nat→List Nat} {o:Oper} [Tabbed E C]
theorem qhK (h:qag C σ a.tmps w own) {t:Ty} {x1:Op1} {v:Value} (ho:qb3 (sit C σ a.tmps w own) x1 v) {n:BC×List Nat×List U} (he:(qhs t x1).run (qt σ)=some n) (h0:n.2.1=[]):
  ∃bs,qbg w (C.free w own) n.1 v.cells.toList bs∧v.cells.toList.length=t.size∧(∀u∈v.cells.toList,u.oneCell'=true)∧
   ((n.2.2=[]∧bs=[])∨∃s,n.2.2=[⟨s,true,.undef⟩]∧bs=own s):=by
 obtain ⟨os,ov,oa⟩:=x1
 unfold qhs at he
 split at he
 ·rename_i s et e xs h1 h2
  simp only at h1 h2
  subst h1; subst h2
  split at he
  ·rename_i ht
   subst ht
   have:=Q.ret_some he
   subst this
   obtain ⟨e1,e2,e3⟩:=ho
   have e3:q7 w (C.free w own) et e xs v (own s):=e3
   have hc:v.cells= #[v]:=by
    obtain ⟨cells,ho,_⟩:=e3
    rcases ho.2 with ⟨rfl,_⟩|⟨g,cap,cur,rfl,_⟩ <;> rfl
   rw [hc]
   exact ⟨own s,⟨v,rfl,e3⟩,rfl,fun u hu=>by simp at hu; subst hu; exact e3.oneCell,.inr ⟨s,rfl,rfl⟩⟩
  ·cases he
 ·rename_i et e xs h1 h2
  simp only at h1 h2
  subst h1; subst h2
  split at he
  ·rename_i ht
   subst ht
   have:=Q.ret_some he
   subst this
   have e3:q7 w (C.free w own) et e xs v []:=ho
   have hc:v.cells= #[v]:=by
    obtain ⟨cells,ho,_⟩:=e3
    rcases ho.2 with ⟨rfl,_⟩|⟨g,cap,cur,rfl,_⟩ <;> rfl
   rw [hc]
   exact ⟨[],⟨v,rfl,e3⟩,rfl,fun u hu=>by simp at hu; subst hu; exact e3.oneCell,.inl ⟨rfl,rfl⟩⟩
  ·cases he
 ·rename_i s c h1 h2
  simp only at h1 h2
  subst h1; subst h2
  split at he
  ·rename_i ht
   have:=Q.ret_some he
   subst this
   obtain ⟨e1,e2,cs,e4,e3⟩:=ho
   have hc:v.cells.toList=cs:=by rw [e4]; simp [Value.cells]
   rw [hc]
   exact ⟨own s,e3,e3.length.trans ht.1,e3.oneCell ht.2,.inr ⟨s,rfl,rfl⟩⟩
  ·cases he
 ·obtain ⟨r,h1,h2⟩:=Q.bind_some he
  have hv:=qcS h ho h1
  have:=Q.ret_some h2
  subst this
  simp only at h0
  rw [h0] at hv
  have hr:=hv.1
  exact ⟨[],⟨rfl,hr.keep fun b hb hs=>⟨qm3 hb,hs,rfl⟩⟩,hr.length,hr.oneCell,.inl ⟨rfl,rfl⟩⟩
theorem qhS {τ:St} (hr:(execOp a.eval o).run C.P w= .ok .skip w') (h:∃own',qag C τ (a.put o.dst undef).tmps w' own'):qdT C o a w τ:=by
 intro K Q hK
 obtain ⟨own',h⟩:=h
 unfold Oper.wp
 rw [hr]
 exact hK _ _ own' (qhw o a _) h
theorem qjl (cons:List Nat):∀(σ:St),(∀s∈cons,s<σ.length)→
  (∀s,s∉cons→qt (qr σ (cons.map fun s=>⟨s,true,.undef⟩)) s=qt σ s)∧(∀s∈cons,(qt σ s).1<(qt (qr σ (cons.map fun s=>⟨s,true,.undef⟩)) s).1∧(qt (qr σ (cons.map fun s=>⟨s,true,.undef⟩)) s).2= .undef):=by
 induction cons with
 |nil=>intro σ _; exact ⟨fun _ _=>rfl,fun s hs=>by cases hs⟩
 |cons c r ih=>
  intro σ hl
  have hc:c<σ.length:=hl c List.mem_cons_self
  obtain ⟨h1,h2⟩:=ih (qR σ ⟨c,true,.undef⟩) (fun s hs=>by rw [qak]; exact hl s (List.mem_cons_of_mem _ hs))
  have e:qr σ ((c::r).map fun s=>⟨s,true,.undef⟩)=qr (qR σ ⟨c,true,.undef⟩) (r.map fun s=>⟨s,true,.undef⟩):=rfl
  rw [e]
  have eC:qt (qR σ ⟨c,true,.undef⟩) c=((qt σ c).1+1,.undef):=qM σ ⟨c,true,.undef⟩ hc
  refine ⟨fun s hs=> ?_,fun s hs=> ?_⟩
  ·rw [h1 s (fun hm=>hs (List.mem_cons_of_mem _ hm)),qv _ _ (fun e=>hs (by rw [e]; exact List.mem_cons_self))]
  ·by_cases hr:s∈r
   ·obtain ⟨h3,h4⟩:=h2 s hr
    refine ⟨Nat.lt_of_le_of_lt ?_ h3,h4⟩
    by_cases hsc:s=c
    ·subst hsc; rw [eC]; exact Nat.le_succ _
    ·rw [qv _ _ hsc]; exact Nat.le_refl _
   ·have hsc:s=c:=(List.mem_cons.1 hs).resolve_right hr
    subst hsc
    rw [h1 s hr,eC]
    exact ⟨Nat.lt_succ_self _,rfl⟩
theorem qag.mut {tm:Array Value} (h:qag C σ tm w own) {d:Nat} (hd:d<σ.length) (cons:List Nat) (hcons:∀s∈cons,s<σ.length∧s≠d) (hk:qcx (fun k=>k∈own d∨∃s∈cons,k∈own s) w w') {av:AV} {v:Value} {bs:List Nat}
  (hb:∀b∈bs,(w.heap.size≤b∧b<w'.heap.size)∨b∈own d∨∃s∈cons,b∈own s) (hnd:bs.Nodup) (hrep:qaF { sit C σ tm w own with w:=w' } av v bs) (hm:av.mentions=[]):
  ∃own',qag C (qr σ (cons.map (fun s=>⟨s,true,.undef⟩)++[⟨d,true,av⟩])) (tm.setIfInBounds d v) w' own':=by
 obtain ⟨c1,c2⟩:=qjl cons σ (fun s hs=>(hcons s hs).1)
 have hdc:d∉cons:=fun hm=>(hcons d hm).2 rfl
 rw [qbF]
 generalize hτ:qr σ (cons.map fun s=>⟨s,true,.undef⟩)=τ at c1 c2
 have hlen:τ.length=σ.length:=by rw [←hτ,qF]
 have eD:qt (qr τ [⟨d,true,av⟩]) d=((qt σ d).1+1,av):=by
  show qt (qR τ ⟨d,true,av⟩) d=_
  rw [qM τ ⟨d,true,av⟩ (by rw [hlen]; exact hd),c1 d hdc]
  rfl
 have eN:∀s,s≠d→qt (qr τ [⟨d,true,av⟩]) s=qt τ s:=fun s hs=>qv τ ⟨d,true,av⟩ hs
 let own':Nat→List Nat:=fun x=>if x=d then bs else if x∈cons then [] else own x
 have oD:own' d=bs:=by simp [own']
 have oC:∀s∈cons,own' s=[]:=fun s hs=>by simp [own',hs,(hcons s hs).2]
 refine ⟨own',h.update (fun x=>x=d∨x∈cons) (by rw [qF,hlen]) (by simp) ?_ ?_ (hk.mono ?_) ?_ ?_ ?_ ?_ ?_⟩
 ·intro x hx
  have h1:x≠d:=fun e=>hx (.inl e)
  have h2:x∉cons:=fun e=>hx (.inr e)
  exact ⟨by rw [eN x h1,c1 x h2],qb1 tm _ h1,by simp [own',h1,h2]⟩
 ·rintro x (rfl|hx)
  ·rw [eD]; exact .inl (Nat.lt_succ_self _)
  ·rw [eN x (hcons x hx).2]; exact .inl (c2 x hx).1
 ·rintro k (hk|⟨s,hs,hk⟩)
  ·exact ⟨d,.inl rfl,hk⟩
  ·exact ⟨s,.inr hs,hk⟩
 ·rintro x (rfl|hx)
  ·exact hd
  ·exact (hcons x hx).1
 ·rintro x (rfl|hx)
  ·rw [oD]
   refine ⟨fun b hbm=> ?_,hnd⟩
   rcases hb b hbm with h1|h1|⟨s,hs,h1⟩
   ·exact .inl h1
   ·exact .inr ⟨x,.inl rfl,h1⟩
   ·exact .inr ⟨s,.inr hs,h1⟩
  ·rw [oC x hx]; exact ⟨(fun b hb=>by cases hb),List.nodup_nil⟩
 ·rintro x y b (rfl|hx) (rfl|hy) hb1 hb2
  ·rfl
  ·rw [oC y hy] at hb2; cases hb2
  ·rw [oC x hx] at hb1; cases hb1
  ·rw [oC x hx] at hb1; cases hb1
 ·rintro x (rfl|hx)
  ·rw [eD,oD,qdY tm v (by rw [h.size]; exact hd)]
   refine qaF.keep (X:= { sit C σ tm w own with w:=w' }) (X':=sit C _ _ w' own') ⟨rfl,rfl⟩ (fun x hx hlt=> ?_) (fun _ _ _=>rfl) (fun m hmm=>by rw [hm] at hmm; cases hmm) hrep
   have hx':C.free w own x:=hx
   refine ⟨⟨hx'.1,Nat.lt_of_lt_of_le hx'.2.1 hk.size,fun s hs=> ?_⟩,hlt,rfl⟩
   have hs:x∈own' s:=hs
   simp only [own'] at hs
   split at hs
   ·rcases hb x hs with h1|h1|⟨s0,_,h1⟩
    ·have:=hx'.2.1; omega
    ·exact hx'.2.2 _ h1
    ·exact hx'.2.2 _ h1
   ·split at hs
    ·cases hs
    ·exact hx'.2.2 _ hs
  ·rw [eN x (hcons x hx).2,(c2 x hx).2]; trivial
 ·rintro x (rfl|hx) m hmm
  ·rw [eD,hm] at hmm; cases hmm
  ·rw [eN x (hcons x hx).2,(c2 x hx).2] at hmm; cases hmm
theorem qqL (tm:Array Value) {d:Nat} (h:d<tm.size):tm.setIfInBounds d (tm.getD d undef)=tm:=by
 apply Array.ext
 ·simp
 ·intro i h1 h2
  by_cases hi:d=i
  ·subst hi
   simp [Array.getD,h]
  ·rw [Array.getElem_setIfInBounds_ne (h:=hi)]
theorem q7.store {P:Program} {w:World} {F:Nat→Prop} {t:Nat} {u:Ty} {et:Nat} {e:Ty} {xs:List e.den} {g n cap:Nat} {bs:List Nat} {i:Int} {off:Nat} {v:Value} {y0:u.den} {y:e.den} (hT:TyB P t u) (hrow:q7 w F et e xs (.slice (some ⟨g,0,none⟩) n cap) bs)
  (hF0:∀x,F x→x≠g) (k2:0≤i) (k3:i<n) (hy:e.upd (qh xs i e.dflt) off u y0=some y) (hrc:Rep w F u y0 v.cells.toList):
  ∃W,(Instr.storeAt t (ptr g (i.toNat * e.size+off)) v).run P w= .ok () W∧qcx (fun k=>k=g) w W∧bs=[g]∧q7 W F et e (qbN xs i y) (.slice (some ⟨g,0,none⟩) n cap) bs:=by
 obtain ⟨cells,r1,r2,r3⟩:=hrow
 have hbs:bs=[g]:=r2
 obtain ⟨r4,r5⟩:=r1
 rcases r5 with ⟨r6,_⟩|⟨g',cap',cur,r6,_,r7,r8,r9,r10,r11⟩
 ·cases r6
 injection r6 with r6 r6n r6c
 injection r6 with r6
 injection r6 with r6
 subst r6; subst r6n; subst r6c
 have hi:i.toNat<xs.length:=by omega
 rw [show qh xs i e.dflt=xs[i.toNat] from qgy (List.getElem?_eq_getElem hi)] at hy
 have hrl:=hrc.length
 have hvs:v.cells.size=u.size:=by rw [←Array.length_toList]; exact hrl
 have hcz:cur.toList.length=cur.size:=Array.length_toList
 obtain ⟨u1,u2⟩:=(r3 i.toNat xs[i.toNat] (List.getElem?_eq_getElem hi)).upd hrc hy
 have hcl:cells.length=xs.length * e.size:=r4
 have hin:i.toNat * e.size+e.size≤xs.length * e.size:=by
  rw [←Nat.succ_mul]; exact Nat.mul_le_mul_right _ hi
 have hel:((cells.drop (i.toNat * e.size)).take e.size).length=e.size:=by rw [List.length_take,List.length_drop]; omega
 rw [hel] at u1
 have hcur:xs.length * e.size≤cur.size:=by rw [r10]; exact Nat.mul_le_mul_right _ r8
 have hrun:=qiA (w:=w) hT (v:=v) (off:=i.toNat * e.size+off) r7 hrl (by omega) hrc.oneCell
 refine ⟨_,hrun,?_⟩
 rw [←hrl]
 have hsp:(cur.toList.take (i.toNat * e.size+off)++v.cells.toList++cur.toList.drop (i.toNat * e.size+off+v.cells.toList.length)).toArray=(qaL cur.toList (i.toNat * e.size+off) v.cells.toList).toArray:=rfl
 rw [hsp]
 generalize hW:w.setRow g (qaL cur.toList (i.toNat * e.size+off) v.cells.toList).toArray=W
 have hkept:qcx (fun k=>k=g) w W:=by rw [←hW]; exact qgX _ r7
 have hheap:W.heap[g]? =some (.cells (qaL cur.toList (i.toNat * e.size+off) v.cells.toList).toArray et (0,0)):=by rw [←hW]; exact setRow_heap w g _ _ et _ r7
 have hF:∀x,F x→x<w.heap.size→F x∧x<W.heap.size∧W.heap[x]? =w.heap[x]? :=fun x hx hlt=>⟨hx,Nat.lt_of_lt_of_le hlt hkept.size,hkept.block x hlt fun e=>hF0 x hx e⟩
 refine ⟨hkept,hbs,?_⟩
 have hlx:(qbN xs i y).length=xs.length:=by simp [qcd]
 have hcut:cells=cur.toList.take (xs.length * e.size):=r11.symm
 refine ⟨(qaL cur.toList (i.toNat * e.size+off) v.cells.toList).take (xs.length * e.size),⟨?_,.inr ⟨g,cap,_,by rw [hlx],Nat.zero_le _,hheap,by rw [hlx]; exact r8,r9,?_,by rw [hlx]⟩⟩,hbs,?_⟩
 ·rw [List.length_take,qeS (by rw [hrl,hcz]; omega),hlx,hcz]; omega
 ·rw [List.size_toArray,qeS (by rw [hrl,hcz]; omega)]; simpa using r10
 ·intro j x hj
  have hjl:j<xs.length:=by
   have:=(List.getElem?_eq_some_iff.1 hj).1
   rw [hlx] at this; exact this
  have hjn:j * e.size+e.size≤xs.length * e.size:=by rw [←Nat.succ_mul]; exact Nat.mul_le_mul_right _ hjl
  have e0:(((qaL cur.toList (i.toNat * e.size+off) v.cells.toList).take (xs.length * e.size)).drop (j * e.size)).take e.size=((qaL cur.toList (i.toNat * e.size+off) v.cells.toList).drop (j * e.size)).take e.size:=by
   rw [List.drop_take,List.take_take,Nat.min_eq_left (by omega)]
  rw [e0]
  have e1:∀k,k * e.size+e.size≤xs.length * e.size→(cells.drop (k * e.size)).take e.size=(cur.toList.drop (k * e.size)).take e.size:=fun k hk=>by
   rw [hcut,List.drop_take,List.take_take,Nat.min_eq_left (by omega)]
  by_cases hji:i.toNat=j
  ·subst hji
   simp only [qcd] at hj
   rw [List.getElem?_set_self hi] at hj
   injection hj with hj
   subst hj
   rw [e1 _ hjn] at u2
   refine Rep.keep hF ?_
   have:((qaL cur.toList (i.toNat * e.size+off) v.cells.toList).drop (i.toNat * e.size)).take e.size=qaL ((cur.toList.drop (i.toNat * e.size)).take e.size) off v.cells.toList:=by
    have hs:= @qoW cur.toList v.cells.toList (i.toNat * e.size) off v.cells.toList.length e.size (by simp; omega) (by omega) rfl
    rw [qaL,hs,qaL]
    rw [List.append_assoc,List.drop_append,List.drop_of_length_le (by rw [List.length_take]; omega),List.nil_append,show i.toNat * e.size - (cur.toList.take (i.toNat * e.size)).length=0 by rw [List.length_take]; simp; omega,List.drop_zero]
    rw [List.take_append_of_le_length]
    ·rw [List.take_of_length_le]
     simp only [List.length_append,List.length_take,List.length_drop]; omega
    ·simp only [List.length_append,List.length_take,List.length_drop,Array.length_toList]; omega
   rw [this]
   rw [←hrl] at u2
   exact u2
  ·simp only [qcd] at hj
   rw [List.getElem?_set_ne hji] at hj
   have hx0:=r3 j x hj
   rw [e1 _ hjn] at hx0
   refine Rep.keep hF ?_
   have:((qaL cur.toList (i.toNat * e.size+off) v.cells.toList).drop (j * e.size)).take e.size=(cur.toList.drop (j * e.size)).take e.size:=by
    apply List.ext_getElem?
    intro k
    rw [List.getElem?_take,List.getElem?_take]
    split
    ·rename_i hk
     rw [List.getElem?_drop,List.getElem?_drop]
     have hne:j * e.size+k<i.toNat * e.size+off∨i.toNat * e.size+off+v.cells.toList.length≤j * e.size+k:=by
      rcases Nat.lt_or_gt_of_ne hji with hlt|hgt
      ·right
       have:i.toNat * e.size+e.size≤j * e.size:=by rw [←Nat.succ_mul]; exact Nat.mul_le_mul_right _ hlt
       omega
      ·left
       have:j * e.size+e.size≤i.toNat * e.size:=by rw [←Nat.succ_mul]; exact Nat.mul_le_mul_right _ hgt
       omega
     rcases hne with hne|hne
     ·rw [qaL,List.append_assoc,List.getElem?_append_left (by rw [List.length_take]; simp; omega),List.getElem?_take,if_pos hne]
     ·rw [qaL,List.getElem?_append_right (by simp only [List.length_append,List.length_take,Array.length_toList]; omega),List.getElem?_drop]
      congr 1
      simp only [List.length_append,List.length_take,Array.length_toList]
      omega
    ·rfl
   rw [this]
   exact hx0
theorem qag.mut2 {tm:Array Value} (h:qag C σ tm w own) {d s0:Nat} (hd:d<σ.length) (hs0:s0<σ.length) (hne:s0≠d) {b1 b2 b3:List Nat} (ho:own s0=b1++(b2++b3)) (hk:qcx (fun k=>k∈own d∨k∈b2) w w') {av av0:AV} {v:Value} {bs:List Nat}
  (hb:∀b∈bs,(w.heap.size≤b∧b<w'.heap.size)∨b∈own d∨b∈b2) (hnd:bs.Nodup) (hrep:qaF { sit C σ tm w own with w:=w' } av v bs) (hm:av.mentions=[]) (hrep0:qaF { sit C σ tm w own with w:=w' } av0 (tm.getD s0 undef) (b1++b3)) (hm0:av0.mentions=[]):
  ∃own',qag C (qr σ [⟨s0,true,av0⟩,⟨d,true,av⟩]) (tm.setIfInBounds d v) w' own':=by
 have eD:qt (qr σ [⟨s0,true,av0⟩,⟨d,true,av⟩]) d=((qt σ d).1+1,av):=by
  show qt (qR (qR σ ⟨s0,true,av0⟩) ⟨d,true,av⟩) d=_
  rw [qM _ ⟨d,true,av⟩ (by rw [qak]; exact hd),qv _ _ (show d≠s0 from fun e=>hne e.symm)]
  rfl
 have eS:qt (qr σ [⟨s0,true,av0⟩,⟨d,true,av⟩]) s0=((qt σ s0).1+1,av0):=by
  show qt (qR (qR σ ⟨s0,true,av0⟩) ⟨d,true,av⟩) s0=_
  rw [qv _ _ hne,qM σ ⟨s0,true,av0⟩ hs0]
  rfl
 have eO:∀x,x≠s0→x≠d→qt (qr σ [⟨s0,true,av0⟩,⟨d,true,av⟩]) x=qt σ x:=fun x h1 h2=>by
  show qt (qR (qR σ ⟨s0,true,av0⟩) ⟨d,true,av⟩) x=_
  rw [qv _ _ h2,qv _ _ h1]
 let own':Nat→List Nat:=fun x=>if x=d then bs else if x=s0 then b1++b3 else own x
 have oD:own' d=bs:=by simp [own']
 have oS:own' s0=b1++b3:=by simp [own',hne]
 have hns:=h.nodup s0
 rw [ho] at hns
 have n1:=List.nodup_append.1 hns
 have n2:=List.nodup_append.1 n1.2.1
 have sub0:∀b,b∈b1++b3→b∈own s0:=fun b hb=>by
  rw [ho]
  rcases List.mem_append.1 hb with hb|hb
  ·exact List.mem_append_left _ hb
  ·exact List.mem_append_right _ (List.mem_append_right _ hb)
 have not2:∀b,b∈b1++b3→b∉b2:=fun b hb hb2=>by
  rcases List.mem_append.1 hb with hb|hb
  ·exact n1.2.2 b hb b (List.mem_append_left _ hb2) rfl
  ·exact n2.2.2 b hb2 b hb rfl
 have dis:∀b,b∈bs→b∈b1++b3→False:=fun b h1 h2=>by
  rcases hb b h1 with h3|h3|h3
  ·have:=(h.mine s0 b (sub0 b h2)).2; omega
  ·exact hne (h.apart s0 d b (sub0 b h2) h3)
  ·exact not2 b h2 h3
 have keep:∀ {av1:AV} {v1:Value} {bs1:List Nat},av1.mentions=[]→qaF { sit C σ tm w own with w:=w' } av1 v1 bs1→qaF (sit C (qr σ [⟨s0,true,av0⟩,⟨d,true,av⟩]) (tm.setIfInBounds d v) w' own') av1 v1 bs1:=by
  intro av1 v1 bs1 hm1 hr1
  refine qaF.keep (X:= { sit C σ tm w own with w:=w' }) (X':=sit C _ _ w' own') ⟨rfl,rfl⟩ (fun x hx hlt=> ?_) (fun _ _ _=>rfl) (fun m hmm=>by rw [hm1] at hmm; cases hmm) hr1
  have hx':C.free w own x:=hx
  refine ⟨⟨hx'.1,Nat.lt_of_lt_of_le hx'.2.1 hk.size,fun s hs=> ?_⟩,hlt,rfl⟩
  have hs:x∈own' s:=hs
  simp only [own'] at hs
  split at hs
  ·rcases hb x hs with h1|h1|h1
   ·have:=hx'.2.1; omega
   ·exact hx'.2.2 _ h1
   ·exact hx'.2.2 s0 (by rw [ho]; exact List.mem_append_right _ (List.mem_append_left _ h1))
  ·split at hs
   ·exact hx'.2.2 s0 (sub0 x hs)
   ·exact hx'.2.2 _ hs
 refine ⟨own',h.update (fun x=>x=s0∨x=d) (qF _ _) (by simp) ?_ ?_ (hk.mono ?_) ?_ ?_ ?_ ?_ ?_⟩
 ·intro x hx
  have h1:x≠s0:=fun e=>hx (.inl e)
  have h2:x≠d:=fun e=>hx (.inr e)
  exact ⟨eO x h1 h2,qb1 tm _ h2,by simp [own',h1,h2]⟩
 ·rintro x (rfl|rfl)
  ·rw [eS]; exact .inl (Nat.lt_succ_self _)
  ·rw [eD]; exact .inl (Nat.lt_succ_self _)
 ·rintro k (hk|hk)
  ·exact ⟨d,.inr rfl,hk⟩
  ·exact ⟨s0,.inl rfl,by rw [ho]; exact List.mem_append_right _ (List.mem_append_left _ hk)⟩
 ·rintro x (rfl|rfl) <;> assumption
 ·rintro x (rfl|rfl)
  ·rw [oS]
   exact ⟨fun b hbm=> .inr ⟨x,.inl rfl,sub0 b hbm⟩,List.nodup_append.2 ⟨n1.1,n2.2.1,fun b hb b' hb'=>n1.2.2 b hb b' (List.mem_append_right _ hb')⟩⟩
  ·rw [oD]
   refine ⟨fun b hbm=> ?_,hnd⟩
   rcases hb b hbm with h1|h1|h1
   ·exact .inl h1
   ·exact .inr ⟨x,.inr rfl,h1⟩
   ·exact .inr ⟨s0,.inl rfl,by rw [ho]; exact List.mem_append_right _ (List.mem_append_left _ h1)⟩
 ·rintro x y b (rfl|rfl) (rfl|rfl) hb1 hb2
  ·rfl
  ·rw [oS] at hb1; rw [oD] at hb2; exact (dis b hb2 hb1).elim
  ·rw [oD] at hb1; rw [oS] at hb2; exact (dis b hb1 hb2).elim
  ·rfl
 ·rintro x (rfl|rfl)
  ·rw [eS,oS,qb1 tm _ hne]
   exact keep hm0 hrep0
  ·rw [eD,oD,qdY tm v (by rw [h.size]; exact hd)]
   exact keep hm hrep
 ·rintro x (rfl|rfl) m hmm
  ·rw [eS,hm0] at hmm; cases hmm
  ·rw [eD,hm] at hmm; cases hmm
theorem qag.mutK {tm:Array Value} (h:qag C σ tm w own) {s:Nat} (hs:s<σ.length) {b1 b2 b3:List Nat} (ho:own s=b1++(b2++b3)) (hptr:∀b,tm.getD s undef=ptr b 0→b∉b2) (hk:qcx (fun k=>k∈b2) w w') {av:AV}
  (hrep:qaF { sit C σ tm w own with w:=w' } av (tm.getD s undef) (own s)) (hm:av.mentions=[]):qag C (qr σ [⟨s,false,av⟩]) tm w' own:=by
 have eS:qt (qr σ [⟨s,false,av⟩]) s=((qt σ s).1,av):=qM σ ⟨s,false,av⟩ hs
 refine h.update (fun x=>x=s) (qF _ _) rfl ?_ ?_ (hk.mono ?_) ?_ ?_ ?_ ?_ ?_
 ·intro x hx
  exact ⟨qv σ ⟨s,false,av⟩ hx,rfl,rfl⟩
 ·rintro x rfl
  rw [eS]
  exact .inr ⟨rfl,rfl,fun b hb hp=>⟨hb,hk.block b (h.mine x b hb).2 (hptr b hp)⟩⟩
 ·intro k hk
  exact ⟨s,rfl,by rw [ho]; exact List.mem_append_right _ (List.mem_append_left _ hk)⟩
 ·rintro x rfl; exact hs
 ·rintro x rfl
  exact ⟨fun b hb=> .inr ⟨x,rfl,hb⟩,h.nodup x⟩
 ·rintro x y b rfl rfl _ _
  rfl
 ·rintro x rfl
  rw [eS]
  refine qaF.keep (X:= { sit C σ tm w own with w:=w' }) (X':=sit C _ _ w' own) ⟨rfl,rfl⟩ (fun x hx hlt=> ?_) (fun _ _ _=>rfl) (fun m hmm=>by rw [hm] at hmm; cases hmm) hrep
  have hx':C.free w own x:=hx
  exact ⟨⟨hx'.1,Nat.lt_of_lt_of_le hx'.2.1 hk.size,hx'.2.2⟩,hlt,rfl⟩
 ·rintro x rfl m hmm
  rw [eS,hm] at hmm; cases hmm
theorem qs1 (hE:qbG E C.P) (h:qag C σ a.tmps w own) (hpt:qtC (sit C σ a.tmps w own)) {t:Nat} {p1 x1:Op1} {p v:Value} (hp:qb3 (sit C σ a.tmps w own) p1 p) (ho:qb3 (sit C σ a.tmps w own) x1 v) (hdst:o.dst=none) {f:Eff}
  (he:(qsP E t p1 x1).run (qt σ)=some f) (hd:∀u∈f.upd,u.s<σ.length) (hx:(execOp a.eval o).run C.P w=((Instr.storeAt t p v).run C.P w).andThen fun _ w'=> .ok .skip w'):qdT C o a w (qr σ f.upd):=by
 have hput:(a.put o.dst undef).tmps=a.tmps:=by rw [hdst]; rfl
 unfold qsP at he
 split at he
 ·cases he
 rename_i u hu
 have hT:=hE.ty t u hu
 split at he
 ·rename_i s v0 off hb
  obtain ⟨n,h1,h2⟩:=Q.bind_some he
  split at h2
  ·rename_i hcond
   simp only [Bool.and_eq_true,List.isEmpty_iff,Bool.not_eq_true'] at hcond
   obtain ⟨hc1,hc2⟩:=hcond
   rw [Q.run_get] at h2
   split at h2
   ·rename_i hv
    split at h2
    ·rename_i c hc
     split at h2
     ·rename_i c' hput'
      have:=qL h2
      subst this
      obtain ⟨b,hpb,rfl,_⟩:=qfn h hpt hp hb hv
      obtain ⟨b',cs,bs',te,k1,k2,k3,k4⟩:=h.box hc
      rw [hpb] at k1
      obtain ⟨rfl,_⟩:=qgR k1
      obtain ⟨b2,q1,q2,q3,q4⟩:=qhK h ho h1 hc1
      obtain ⟨g1,bn,g2,g3,g4⟩:=qbg.put q1 k3 hput'
      have hrun:=qiA (w:=w) hT (v:=v) (off:=off) k2 q2 (by simp; omega) q3
      rw [hrun] at hx
      refine qhS hx ?_
      rw [hput]
      have hnd:=h.nodup s
      rw [k4] at hnd
      have hsplice:(cs.toArray.toList.take off++v.cells.toList++cs.toArray.toList.drop (off+u.size)).toArray=(qaL cs off v.cells.toList).toArray:=by
       rw [qaL,q2]
      rw [hsplice]
      generalize hW:w.setRow b (qaL cs off v.cells.toList).toArray=W
      have hkept:qcx (fun k=>k=b) w W:=by rw [←hW]; exact qgX _ k2
      have hheap:W.heap[b]? =some (.cells (qaL cs off v.cells.toList).toArray te (0,0)):=by rw [←hW]; exact setRow_heap w b _ _ te _ k2
      have hsl:s<σ.length:=hd ⟨s,true,.box c'⟩ (by simp)
      have hbs:b∈own s:=by rw [k4]; exact List.mem_cons_self
      have fin:∀cons:List Nat,n.2.2=cons.map (fun s=>⟨s,true,.undef⟩)→(∀s'∈cons,s'<σ.length∧s'≠s)→(∀x∈b2,∃s'∈cons,x∈own s')→b∉b2→(bs'++b2).Nodup→
        ∃own',qag C (qr σ (n.2.2++[⟨s,true,.box c'⟩])) a.tmps W own':=by
       intro cons e1 e2 e3 e4 e5
       have hbn:b∉bn:=fun hbm=>by
        rcases g3 b hbm with hbm|hbm
        ·exact (List.nodup_cons.1 hnd).1 hbm
        ·exact e4 hbm
       have key:=h.mut hsl cons e2 (w':=W) (hkept.mono fun k hk=> .inl (by rw [hk]; exact hbs)) (av:= .box c') (v:=a.tmps.getD s undef) (bs:=b::bn)
        (fun x hx=>by
         rcases List.mem_cons.1 hx with rfl|hx
         ·exact .inr (.inl hbs)
         ·rcases g3 x hx with hx|hx
          ·exact .inr (.inl (by rw [k4]; exact List.mem_cons_of_mem _ hx))
          ·exact .inr (.inr (e3 x hx)))
        (List.nodup_cons.2 ⟨hbn,g4 e5⟩)
        ⟨b,_,bn,te,hpb,hheap,g2.keep (fun x hx hlt=>⟨hx,Nat.lt_of_lt_of_le hlt hkept.size,hkept.block x hlt fun e=>hx.2.2 s (by rw [e]; exact hbs)⟩) (fun x hx hlt=>hkept.block x hlt fun e=>hbn (by rw [←e]; exact hx)),rfl⟩ rfl
       rw [qqL a.tmps (by rw [h.size]; exact hsl),←e1] at key
       exact key
      rcases q4 with ⟨e1,e2⟩|⟨s',e1,e2⟩
      ·subst e2
       exact fin [] (by rw [e1]; rfl) (fun _ hx=>by cases hx) (fun _ hx=>by cases hx) (by simp) (by simpa using (List.nodup_cons.1 hnd).2)
      ·subst e2
       have hne:s'≠s:=by
        intro e
        rw [e1,e] at hc2
        simp at hc2
       have hdis:∀x,x∈own s'→x∉own s:=fun x hx hx'=>hne (h.apart s' s x hx hx')
       refine fin [s'] (by rw [e1]; rfl) (fun x hx=> ?_) (fun x hx=>⟨s',by simp,hx⟩) (fun hbm=>hdis b hbm hbs) (List.nodup_append.2 ⟨(List.nodup_cons.1 hnd).2,h.nodup s',fun x hx y hy e=> ?_⟩)
       ·simp at hx
        subst hx
        exact ⟨hd ⟨x,true,.undef⟩ (by rw [e1]; simp),hne⟩
       ·subst e
        exact hdis x hy (by rw [k4]; exact List.mem_cons_of_mem _ hx)
     ·cases h2
    ·cases h2
   ·cases h2
  ·cases h2
 ·split at he
  ·rename_i s v0 fo sz i off hpa
   obtain ⟨r,h1,h2⟩:=Q.bind_some he
   split at h2
   ·cases h2
   rename_i hcond
   have hns:s∉r.2:=by simpa using hcond
   obtain ⟨fz,h3,h4⟩:=Q.bind_some h2
   clear h2
   rw [Q.run_get] at h4
   split at h4
   case isFalse=>cases h4
   rename_i hv
   split at h4
   case h_2=>cases h4
   rename_i et e xs hown
   split at h4
   case isFalse=>cases h4
   rename_i hsz
   subst hsz
   split at h4
   case h_2=>cases h4
   rename_i y hy
   split at h4
   case h_2=>cases h4
   rename_i a' hsw
   have:=qL h4
   subst this
   obtain ⟨own1,f1,_,f3,f4⟩:=qcC r.2 h h3
   obtain ⟨f5,f6⟩:=f3 s hns
   obtain ⟨_,hpp⟩:=hpa ▸ hp.unowned (by rw [hpa]; rfl)
   obtain ⟨g,n,cap,k1,k2,k3,rfl⟩:=hpp hv
   have k1':qfC (sit C (qr σ fz) a.tmps w own1) s fo (.slice (some ⟨g,0,none⟩) n cap):=by
    cases fo with
    |none=>exact k1
    |some o=>
     obtain ⟨b,m1,m2⟩:=k1
     exact ⟨b,by show b∈own1 s; rw [f5]; exact m1,m2⟩
   obtain ⟨hsl,b1,b2,b3,q1,q2,q3,q4⟩:=f1.rowAt (by rw [f6]; exact hown) k1'
   have hrv:=qcS h ho h1
   have hrc:Rep w (C.free w own1) u r.1 v.cells.toList:=hrv.1.keep fun b hb hs=>⟨f4 b hb,hs,rfl⟩
   have hg:g∈b2:=by
    obtain ⟨_,_,e2,_⟩:=q1
    rw [e2]; simp [Value.ownBlock]
   have hgs:g∈own1 s:=by rw [q2]; exact List.mem_append_right _ (List.mem_append_left _ hg)
   obtain ⟨W,hrun,hkept,hbs,hrow'⟩:=q7.store hT q1 (fun x hx e=>hx.2.2 s (by rw [e]; exact hgs)) k2 k3 hy hrc
   rw [hrun] at hx
   refine qhS hx ?_
   rw [hput]
   have hkept2:qcx (fun k=>k∈b2) w W:=hkept.mono fun k hk=>by rw [hk]; exact hg
   obtain ⟨g1,g2⟩:=q4 W (.own et e (qbN xs i y)) b2 a' hkept2 ⟨_,rfl,hrow'⟩ (by rw [f6]; exact hsw)
   rw [qbF]
   exact ⟨own1,f1.mutK hsl q2 q3 hkept2 (by rw [q2]; exact g1) g2⟩
  ·rename_i s v0 off n e i o2 hpa
   obtain ⟨r,h1,h2⟩:=Q.bind_some he
   split at h2
   case isFalse=>cases h2
   rename_i hcond
   rw [List.isEmpty_iff] at hcond
   rw [Q.run_get] at h2
   split at h2
   case isFalse=>cases h2
   rename_i hv
   split at h2
   case h_2=>cases h2
   rename_i c hc
   split at h2
   case h_2=>cases h2
   rename_i xs hg
   split at h2
   case h_2=>cases h2
   rename_i y hy
   split at h2
   case h_2=>cases h2
   rename_i c' hput'
   have:=qL h2
   subst this
   obtain ⟨i0,i1,b,hpb,rfl,_⟩:=qpB hpt (hpa ▸ hp.unowned (by rw [hpa]; rfl)) hv
   obtain ⟨b',cs,bs',te,k1,k2,k3,k4⟩:=h.box hc
   rw [hpb] at k1
   obtain ⟨rfl,_⟩:=qgR k1
   have hrv:=qcS h ho h1
   rw [hcond] at hrv
   have hrc:Rep w (C.free w own) u r.1 v.cells.toList:=hrv.1.keep fun b hb hs=>⟨qm3 hb,hs,rfl⟩
   obtain ⟨g1,_,g3⟩:=k3.get hg
   have hreg:=g3 rfl
   have hregl:=hreg.length
   obtain ⟨x,m1,m2,m3⟩:=hreg.elem (i:=i.toNat) (by omega)
   rw [qgy m1] at hy
   obtain ⟨u1,u2⟩:=m2.upd hrc hy
   have hml:=m2.length
   have hvl:=hrc.length
   have hnew:=hreg.setElem (i:=i.toNat) (by omega) u2
   have hi:((i.toNat:Nat):Int)=i:=by omega
   rw [hi] at hnew
   have hinner:List.take o2 (List.take e.size (List.drop (i.toNat * e.size) (List.take (Ty.arr n e).size (List.drop off cs))))++v.cells.toList++List.drop (o2+u.size) (List.take e.size (List.drop (i.toNat * e.size) (List.take (Ty.arr n e).size (List.drop off cs))))=qaL (List.take e.size (List.drop (i.toNat * e.size) (List.take (Ty.arr n e).size (List.drop off cs)))) o2 v.cells.toList:=by
    rw [qaL,hvl]
   rw [hinner,qlS (by omega) (by omega)] at hnew
   obtain ⟨p1',bn,p2,p3,p4⟩:=qbg.put (b2:=[]) (qbg.ofVal hnew) k3 hput'
   rw [qlS (p:=off) (n:=(Ty.arr n e).size) (q:=i.toNat * e.size+o2) (ds:=v.cells.toList) (by omega) (by omega)] at p2
   have hrun:=qiA (w:=w) hT (v:=v) (off:=off+i.toNat * e.size+o2) k2 hvl (by simp; omega) (fun z hz=>hrc.oneCell z hz)
   rw [hrun] at hx
   refine qhS hx ?_
   rw [hput]
   have hnd:=h.nodup s
   rw [k4] at hnd
   have hsplice:(cs.toArray.toList.take (off+i.toNat * e.size+o2)++v.cells.toList++cs.toArray.toList.drop (off+i.toNat * e.size+o2+u.size)).toArray=(qaL cs (off+(i.toNat * e.size+o2)) v.cells.toList).toArray:=by
    rw [qaL,hvl,Nat.add_assoc]
   rw [hsplice]
   generalize hW:w.setRow b (qaL cs (off+(i.toNat * e.size+o2)) v.cells.toList).toArray=W
   have hkept:qcx (fun k=>k=b) w W:=by rw [←hW]; exact qgX _ k2
   have hheap:W.heap[b]? =some (.cells (qaL cs (off+(i.toNat * e.size+o2)) v.cells.toList).toArray te (0,0)):=by rw [←hW]; exact setRow_heap w b _ _ te _ k2
   have hsl:s<σ.length:=hd ⟨s,true,.box c'⟩ (by simp)
   have hbs:b∈own s:=by rw [k4]; exact List.mem_cons_self
   have hbn:b∉bn:=fun hbm=>by
    rcases p3 b hbm with hbm|hbm
    ·exact (List.nodup_cons.1 hnd).1 hbm
    ·cases hbm
   have key:=h.mut hsl [] (fun _ hx=>by cases hx) (w':=W) (hkept.mono fun k hk=> .inl (by rw [hk]; exact hbs)) (av:= .box c') (v:=a.tmps.getD s undef) (bs:=b::bn)
    (fun x hx=>by
     rcases List.mem_cons.1 hx with rfl|hx
     ·exact .inr (.inl hbs)
     ·rcases p3 x hx with hx|hx
      ·exact .inr (.inl (by rw [k4]; exact List.mem_cons_of_mem _ hx))
      ·cases hx)
    (List.nodup_cons.2 ⟨hbn,p4 (by simpa using (List.nodup_cons.1 hnd).2)⟩)
    ⟨b,_,bn,te,hpb,hheap,p2.keep (fun x hx hlt=>⟨hx,Nat.lt_of_lt_of_le hlt hkept.size,hkept.block x hlt fun e=>hx.2.2 s (by rw [e]; exact hbs)⟩) (fun x hx hlt=>hkept.block x hlt fun e=>hbn (by rw [←e]; exact hx)),rfl⟩ rfl
   rw [qqL a.tmps (by rw [h.size]; exact hsl)] at key
   exact key
  ·cases he
end
end Go.Vi
