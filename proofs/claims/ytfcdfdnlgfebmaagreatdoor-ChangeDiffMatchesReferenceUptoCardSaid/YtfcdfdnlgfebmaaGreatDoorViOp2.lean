/- The abstract interpreter: boxes, addresses, picks, numbers, strings. -/
import Derived.Test.YtfcdfdnlgfebmaaGreatDoorViPut
set_option linter.unusedVariables false
set_option linter.unusedSimpArgs false
set_option linter.unnecessarySimpa false
set_option linter.unusedSectionVars false
namespace Go.Vi
open Go.RowKit
section
variable {C:Ctx} {E:Env} {σ:St} {a:Act} {w w':World} {own:Nat→List Nat} {o:Oper} [Tabbed E C]
theorem qag.newBox (h:qag C σ a.tmps w own) {d:Nat} (hd:d<σ.length) (cons:List Nat) (hcons:∀s∈cons,s<σ.length∧s≠d) {c:BC} {cs:List Value} {bs:List Nat} {te:Nat} (hc:qbg w (C.free w own) c cs bs)
  (hb:∀b∈bs,∃s∈cons,b∈own s) (hnd:bs.Nodup):∃own',qag C (qr σ (cons.map (fun s=>⟨s,true,.undef⟩)++[⟨d,true,.box c⟩])) (a.tmps.setIfInBounds d (ptr w.heap.size 0)) (w.alloc (.cells cs.toArray te)) own':=by
 have hlt:∀b∈bs,b<w.heap.size:=fun b hbm=>by
  obtain ⟨s,_,hs⟩:=hb b hbm
  exact (h.mine s b hs).2
 have hold:∀k,k<w.heap.size→(w.alloc (.cells cs.toArray te)).heap[k]? =w.heap[k]? :=fun k hk=>heap_alloc_old w _ hk
 refine h.mut hd cons hcons ((qcx.alloc (fun _=>False) w (.cells cs.toArray te)).mono fun _ h=>h.elim) (bs:=w.heap.size::bs) (fun b hbm=> ?_) (List.nodup_cons.2 ⟨fun hm=>by have:=hlt _ hm; omega,hnd⟩) ?_ rfl
 ·rcases List.mem_cons.1 hbm with rfl|hbm
  ·exact .inl ⟨Nat.le_refl _,by simp⟩
  ·exact .inr (.inr (hb b hbm))
 ·exact ⟨w.heap.size,cs,bs,te,rfl,heap_alloc_new w _,hc.keep (fun b hb hlt=>⟨hb,by simp; omega,hold b hlt⟩) (fun b _ hlt=>hold b hlt),rfl⟩
theorem qvB (h:qag C σ a.tmps w own) {t:Nat} {x1:Op1} {v:Value} (ho:qb3 (sit C σ a.tmps w own) x1 v) {f:Eff} (he:(boxE E o t x1).run (qt σ)=some f) (hd:∀u∈f.upd,u.s<σ.length)
  (hx:(execOp a.eval o).run C.P w= .ok (.value (ptr w.heap.size 0)) (w.alloc (.cells v.cells t))):qdT C o a w (qr σ f.upd):=by
 unfold boxE at he
 split at he
 ·rename_i u d hu hdst
  obtain ⟨c,h1,h2⟩:=Q.bind_some he
  split at h2
  ·rename_i hcond
   simp only [Bool.and_eq_true,List.isEmpty_iff,Bool.not_eq_true'] at hcond
   obtain ⟨hc1,hc2⟩:=hcond
   have:=qL h2
   subst this
   obtain ⟨b2,q1,q2,q3,q4⟩:=qhK h ho h1 hc1
   refine qK hx ?_
   rw [qiR a hdst]
   have hv:v.cells.toList.toArray=v.cells:=by simp
   rcases q4 with ⟨e1,e2⟩|⟨s',e1,e2⟩
   ·subst e2
    have:=h.newBox (d:=d) (hd ⟨d,true,.box c.1⟩ (by simp)) [] (fun _ hs=>by cases hs) (te:=t) q1 (fun _ hb=>by cases hb) List.nodup_nil
    rw [hv] at this
    rw [e1]
    exact this
   ·subst e2
    have hne:s'≠d:=by
     intro e
     rw [e1,e] at hc2
     simp at hc2
    have:=h.newBox (d:=d) (hd ⟨d,true,.box c.1⟩ (by simp)) [s'] (fun s hs=>by
     simp at hs
     subst hs
     exact ⟨hd ⟨s,true,.undef⟩ (by rw [e1]; simp),hne⟩) (te:=t) q1 (fun b hb=>⟨s',by simp,hb⟩) (h.nodup s')
    rw [hv] at this
    rw [e1]
    exact this
  ·cases h2
 ·cases he
theorem qr4 (hE:qbG E C.P) (h:qag C σ a.tmps w own) {t:Nat} {c:BC} (hc:E.zero t=some c) (hd:∀u∈qbV o (.box c),u.s<σ.length) {z:Value} {i:TypeInfo} (hi:C.P.info? t=some i) (hz:i.zero=some z)
  (hx:(execOp a.eval o).run C.P w= .ok (.value (ptr w.heap.size 0)) (w.alloc (.cells z.cells t))):qdT C o a w (qr σ (qbV o (.box c))):=by
 obtain ⟨i',z',h1,h2,h3⟩:=hE.zero t c hc
 rw [hi] at h1
 injection h1 with h1
 subst h1
 rw [hz] at h2
 injection h2 with h2
 subst h2
 refine qK hx ?_
 unfold qbV at *
 cases hdst:o.dst with
 |none=>exact ⟨own,h.world (qcx.alloc _ _ _)⟩
 |some d=>
  rw [hdst] at hd
  have:=h.newBox (d:=d) (hd ⟨d,true,.box c⟩ (by simp)) [] (fun _ hs=>by cases hs) (te:=t) (h3 w _) (fun _ hb=>by cases hb) List.nodup_nil
  simpa [Act.put] using this
theorem quB (h:qag C σ a.tmps w own) (hpt:qtC (sit C σ a.tmps w own)) {n:Nat} {x1:Op1} {p:Value} (ho:qb3 (sit C σ a.tmps w own) x1 p) (hw:∀m∈x1.a.mentions,m.2≤(qt σ m.1).1) {f:Eff} (he:(qvC o n x1).run (qt σ)=some f) (hd:∀u∈f.upd,u.s<σ.length)
  (hx:∀ad,p= .pointer (some ad)→(execOp a.eval o).run C.P w= .ok (.value (.pointer (some (ad.add n)))) w):qdT C o a w (qr σ f.upd):=by
 unfold qvC at he
 split at he
 ·rename_i s v0 b0 hb
  rw [Q.run_get] at he
  split at he
  ·rename_i hv
   have:=qL he
   subst this
   obtain ⟨b,h1,rfl,h2⟩:=qfn h hpt ho hb hv
   obtain ⟨q1,q2⟩:=qqs (off:=b0+n) (v:= .pointer (some ((⟨b,b0,none⟩:Addr).add n))) h hv h1 (by rw [qaK]; rfl) h2
   exact qK (hx _ rfl) (h.dst0 hd q1 q2)
  ·cases he
 ·split at he
  ·rename_i s v0 fo sz i b hxa
   rw [Q.run_get] at he
   split at he
   ·rename_i hv
    have:=qL he
    subst this
    have hp:=ho.unowned (by rw [hxa]; rfl)
    rw [hxa] at hp hw
    obtain ⟨g,k,cap,k1,k2,k3,rfl⟩:=hp.2 hv
    refine qK (hx _ rfl) (h.dst0 hd ⟨rfl,fun _=>⟨g,k,cap,k1,k2,k3,?_⟩⟩ hw)
    rw [qaK,Nat.add_assoc]; rfl
   ·cases he
  ·rename_i t x b hxa
   have:=qL he
   subst this
   have hp:=ho.unowned (by rw [hxa]; rfl)
   rw [hxa] at hp
   obtain ⟨_,ad,cs,rfl,g1⟩:=hp
   refine qK (hx _ rfl) (h.dst0 hd ⟨rfl,ad,cs,?_,g1⟩ (fun m hm=>by cases hm))
   rw [qaB]
  ·rename_i s v0 b k e i o2 hxa
   rw [Q.run_get] at he
   split at he
   case isFalse=>cases he
   rename_i hv
   have:=qL he
   subst this
   obtain ⟨i0,i1,bb,h1,rfl,h2⟩:=qpB hpt (hxa ▸ ho.unowned (by rw [hxa]; rfl)) hv
   obtain ⟨q1,q2⟩:=qtp (C:=C) (w:=w) (own:=own) (off:=b) (o2:=o2+n) (v:= .pointer (some ((⟨bb,b+i.toNat * e.size+o2,none⟩:Addr).add n))) hv i0 i1 h1 (by rw [qaK,Nat.add_assoc]; rfl) h2
   exact qK (hx _ rfl) (h.dst0 hd q1 q2)
  ·cases he
end
end Go.Vi
