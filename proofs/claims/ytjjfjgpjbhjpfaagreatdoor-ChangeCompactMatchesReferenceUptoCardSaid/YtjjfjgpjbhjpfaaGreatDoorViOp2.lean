/- The abstract interpreter: boxes, addresses, picks, numbers, strings. -/
import Derived.Test.YtjjfjgpjbhjpfaaGreatDoorViPut
set_option linter.unusedVariables false
set_option linter.unusedSimpArgs false
set_option linter.unnecessarySimpa false
set_option linter.unusedSectionVars false
namespace Go.Vi
open Go.RowKit

section
variable {C : Ctx} {E : Env} {σ : St} {a : Act} {w w' : World} {own : Nat → List Nat} {o : Oper} [Tabbed E C]

/-- A new block, that a slot now owns. -/
theorem StOk.newBox (h : StOk C σ a.tmps w own) {d : Nat} (hd : d < σ.length) (cons : List Nat) (hcons : ∀ s ∈ cons, s < σ.length ∧ s ≠ d) {c : BC} {cs : List Value} {bs : List Nat} {te : Nat} (hc : BCRep w (C.free w own) c cs bs)
    (hb : ∀ b ∈ bs, ∃ s ∈ cons, b ∈ own s) (hnd : bs.Nodup) : ∃ own', StOk C (applyUs σ (cons.map (fun s => ⟨s, true, .undef⟩) ++ [⟨d, true, .box c⟩])) (a.tmps.setIfInBounds d (ptr w.heap.size 0)) (w.alloc (.cells cs.toArray te)) own' := by
  have hlt : ∀ b ∈ bs, b < w.heap.size := fun b hbm => by
    obtain ⟨s, _, hs⟩ := hb b hbm
    exact (h.mine s b hs).2
  have hold : ∀ k, k < w.heap.size → (w.alloc (.cells cs.toArray te)).heap[k]? = w.heap[k]? := fun k hk => heap_alloc_old w _ hk
  refine h.mut hd cons hcons ((Kept.alloc (fun _ => False) w (.cells cs.toArray te)).mono fun _ h => h.elim) (bs := w.heap.size :: bs) (fun b hbm => ?_) (List.nodup_cons.2 ⟨fun hm => by have := hlt _ hm; omega, hnd⟩) ?_ rfl
  · rcases List.mem_cons.1 hbm with rfl | hbm
    · exact .inl ⟨Nat.le_refl _, by simp⟩
    · exact .inr (.inr (hb b hbm))
  · exact ⟨w.heap.size, cs, bs, te, rfl, heap_alloc_new w _, hc.keep (fun b hb hlt => ⟨hb, by simp; omega, hold b hlt⟩) (fun b _ hlt => hold b hlt), rfl⟩

theorem boxE_ok (h : StOk C σ a.tmps w own) {t : Nat} {x1 : Op1} {v : Value} (ho : OpdOk (sit C σ a.tmps w own) x1 v) {f : Eff} (he : (boxE E o t x1).run (getE σ) = some f) (hd : ∀ u ∈ f.upd, u.s < σ.length)
    (hx : (execOp a.eval o).run C.P w = .ok (.value (ptr w.heap.size 0)) (w.alloc (.cells v.cells t))) : OpOk C o a w (applyUs σ f.upd) := by
  unfold boxE at he
  split at he
  · rename_i u d hu hdst
    obtain ⟨c, h1, h2⟩ := Q.bind_some he
    split at h2
    · rename_i hcond
      simp only [Bool.and_eq_true, List.isEmpty_iff, Bool.not_eq_true'] at hcond
      obtain ⟨hc1, hc2⟩ := hcond
      have := okE_some h2
      subst this
      obtain ⟨b2, q1, q2, q3, q4⟩ := contentOf_ok h ho h1 hc1
      refine opOk_value hx ?_
      rw [put_dst a hdst]
      have hv : v.cells.toList.toArray = v.cells := by simp
      rcases q4 with ⟨e1, e2⟩ | ⟨s', e1, e2⟩
      · subst e2
        have := h.newBox (d := d) (hd ⟨d, true, .box c.1⟩ (by simp)) [] (fun _ hs => by cases hs) (te := t) q1 (fun _ hb => by cases hb) List.nodup_nil
        rw [hv] at this
        rw [e1]
        exact this
      · subst e2
        have hne : s' ≠ d := by
          intro e
          rw [e1, e] at hc2
          simp at hc2
        have := h.newBox (d := d) (hd ⟨d, true, .box c.1⟩ (by simp)) [s'] (fun s hs => by
          simp at hs
          subst hs
          exact ⟨hd ⟨s, true, .undef⟩ (by rw [e1]; simp), hne⟩) (te := t) q1 (fun b hb => ⟨s', by simp, hb⟩) (h.nodup s')
        rw [hv] at this
        rw [e1]
        exact this
    · cases h2
  · cases he

theorem allocE_ok (hE : EnvOk E C.P) (h : StOk C σ a.tmps w own) {t : Nat} {c : BC} (hc : E.zero t = some c) (hd : ∀ u ∈ dstU o (.box c), u.s < σ.length) {z : Value} {i : TypeInfo} (hi : C.P.info? t = some i) (hz : i.zero = some z)
    (hx : (execOp a.eval o).run C.P w = .ok (.value (ptr w.heap.size 0)) (w.alloc (.cells z.cells t))) : OpOk C o a w (applyUs σ (dstU o (.box c))) := by
  obtain ⟨i', z', h1, h2, h3⟩ := hE.zero t c hc
  rw [hi] at h1
  injection h1 with h1
  subst h1
  rw [hz] at h2
  injection h2 with h2
  subst h2
  refine opOk_value hx ?_
  unfold dstU at *
  cases hdst : o.dst with
  | none => exact ⟨own, h.world (Kept.alloc _ _ _)⟩
  | some d =>
    rw [hdst] at hd
    have := h.newBox (d := d) (hd ⟨d, true, .box c⟩ (by simp)) [] (fun _ hs => by cases hs) (te := t) (h3 w _) (fun _ hb => by cases hb) List.nodup_nil
    simpa [Act.put] using this

/-! ## Addresses -/
theorem addrE_ok (h : StOk C σ a.tmps w own) (hpt : PinT (sit C σ a.tmps w own)) {n : Nat} {x1 : Op1} {p : Value} (ho : OpdOk (sit C σ a.tmps w own) x1 p) (hw : ∀ m ∈ x1.a.mentions, m.2 ≤ (getE σ m.1).1) {f : Eff} (he : (addrE o n x1).run (getE σ) = some f) (hd : ∀ u ∈ f.upd, u.s < σ.length)
    (hx : ∀ ad, p = .pointer (some ad) → (execOp a.eval o).run C.P w = .ok (.value (.pointer (some (ad.add n)))) w) : OpOk C o a w (applyUs σ f.upd) := by
  unfold addrE at he
  split at he
  · rename_i s v0 b0 hb
    rw [Q.run_get] at he
    split at he
    · rename_i hv
      have := okE_some he
      subst this
      obtain ⟨b, h1, rfl, h2⟩ := isBoxPtr_ok h hpt ho hb hv
      obtain ⟨q1, q2⟩ := ptrAV_ok (off := b0 + n) (v := .pointer (some ((⟨b, b0, none⟩ : Addr).add n))) h hv h1 (by rw [addr_add_plain]; rfl) h2
      exact opOk_value (hx _ rfl) (h.dst0 hd q1 q2)
    · cases he
  · split at he
    · rename_i s v0 fo sz i b hxa
      rw [Q.run_get] at he
      split at he
      · rename_i hv
        have := okE_some he
        subst this
        have hp := ho.unowned (by rw [hxa]; rfl)
        rw [hxa] at hp hw
        obtain ⟨g, k, cap, k1, k2, k3, rfl⟩ := hp.2 hv
        refine opOk_value (hx _ rfl) (h.dst0 hd ⟨rfl, fun _ => ⟨g, k, cap, k1, k2, k3, ?_⟩⟩ hw)
        rw [addr_add_plain, Nat.add_assoc]; rfl
      · cases he
    · rename_i t x b hxa
      have := okE_some he
      subst this
      have hp := ho.unowned (by rw [hxa]; rfl)
      rw [hxa] at hp
      obtain ⟨_, ad, cs, rfl, g1⟩ := hp
      refine opOk_value (hx _ rfl) (h.dst0 hd ⟨rfl, ad, cs, ?_, g1⟩ (fun m hm => by cases hm))
      rw [addr_add_add]
    · rename_i s v0 b k e i o2 hxa
      rw [Q.run_get] at he
      split at he
      case isFalse => cases he
      rename_i hv
      have := okE_some he
      subst this
      obtain ⟨i0, i1, bb, h1, rfl, h2⟩ := parr_ok hpt (hxa ▸ ho.unowned (by rw [hxa]; rfl)) hv
      obtain ⟨q1, q2⟩ := parr_mk (C := C) (w := w) (own := own) (off := b) (o2 := o2 + n) (v := .pointer (some ((⟨bb, b + i.toNat * e.size + o2, none⟩ : Addr).add n))) hv i0 i1 h1 (by rw [addr_add_plain, Nat.add_assoc]; rfl) h2
      exact opOk_value (hx _ rfl) (h.dst0 hd q1 q2)
    · cases he

end
end Go.Vi
