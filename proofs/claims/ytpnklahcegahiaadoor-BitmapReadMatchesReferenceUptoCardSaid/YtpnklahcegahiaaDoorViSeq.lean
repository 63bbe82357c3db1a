/- The abstract interpreter: operations under a guard, and one after the other. -/
import Derived.Test.YtpnklahcegahiaaDoorViOpD
set_option linter.unusedVariables false
set_option linter.unusedSimpArgs false
set_option linter.unnecessarySimpa false
set_option linter.unusedSectionVars false
namespace Go.Vi
open Go.RowKit

section
variable {C : Ctx} {E : Env} {σ : St} {tm : Array Value} {a : Act} {w w' : World} {own : Nat → List Nat} {o : Oper} {p : Path} [Tabbed E C]

/-- Where a guard holds, so does all that it hangs on. -/
theorem guardPath_ok (h : StOk C σ tm w own) : ∀ (n s : Nat) (want : Bool) {p : Path}, (guardPath n s want).run (getE σ) = some p → 
    (∃ b r, p = (s, (getE σ s).1, want, b) :: r) ∧ (tm.getD s undef = .bool want → (∀ q ∈ p, (sit C σ tm w own).ver q.1 = q.2.1 ∧ (sit C σ tm w own).tm q.1 = .bool q.2.2.1 ∧ q.2.2.2 = q.2.2.1) ∧ pcond p = true)
  | 0, _, _, _, he => by cases he
  | n + 1, s, want, p, he => by
    simp only [guardPath, Q.run_get] at he
    have hat := h.at_ s
    split at he
    · rename_i b hb
      have := Q.ret_some he
      subst this
      rw [hb] at hat
      have hv : tm.getD s undef = .bool b := RepV.bool hat.2
      refine ⟨⟨b, [], rfl⟩, fun ht => ?_⟩
      rw [hv] at ht
      injection ht with ht
      subst ht
      refine ⟨fun q hq => ?_, by cases b <;> rfl⟩
      simp at hq
      subst hq
      exact ⟨rfl, hv, rfl⟩
    · rename_i s2 v2 w2 b hb
      obtain ⟨r, h1, he⟩ := Q.bind_some he
      obtain ⟨⟨b3, r3, hr⟩, hp⟩ := guardPath_ok h n s2 w2 h1
      rw [hr] at he
      simp only at he
      split at he
      · rename_i hv
        have := Q.ret_some he
        subst this
        rw [hb] at hat
        obtain ⟨g1, g2⟩ := hat.2 hv
        refine ⟨⟨b, _, rfl⟩, fun ht => ?_⟩
        have hw2 : tm.getD s2 undef = .bool w2 := by
          by_cases hc : tm.getD s2 undef = .bool w2
          · exact hc
          · have := g2 hc
            rw [ht] at this
            cases this
        obtain ⟨k1, k2⟩ := hp hw2
        have hv2 : tm.getD s undef = .bool b := RepV.bool (g1 hw2).2
        rw [hv2] at ht
        injection ht with ht
        subst ht
        rw [hr] at k1 k2
        refine ⟨fun q hq => ?_, ?_⟩
        · rcases List.mem_cons.1 hq with rfl | hq
          · exact ⟨rfl, hv2, rfl⟩
          · exact k1 q hq
        · have e : lit b b = true := by cases b <;> rfl
          simp only [pcond, e, Bool.true_and]
          simpa [pcond] using k2
      · cases he
    · cases he

/-- The guard's truth is known from the state. -/
theorem guardPath_sure (h : StOk C σ tm w own) : ∀ (n s : Nat) (want : Bool) {p : Path}, (guardPath n s want).run (getE σ) = some p → pcond p = true → tm.getD s undef = .bool want
  | 0, _, _, _, he, _ => by cases he
  | n + 1, s, want, p, he, hc => by
    simp only [guardPath, Q.run_get] at he
    have hat := h.at_ s
    split at he
    · rename_i b hb
      have := Q.ret_some he
      subst this
      rw [hb] at hat
      have hv : tm.getD s undef = .bool b := RepV.bool hat.2
      rw [hv]
      cases want <;> cases b <;> simp_all [pcond, lit]
    · rename_i s2 v2 w2 b hb
      obtain ⟨r, h1, he⟩ := Q.bind_some he
      obtain ⟨⟨b3, r3, hr⟩, hp⟩ := guardPath_ok h n s2 w2 h1
      have ih := guardPath_sure h n s2 w2 h1
      rw [hr] at he ih
      simp only at he
      split at he
      · rename_i hv
        have := Q.ret_some he
        subst this
        rw [hb] at hat
        have hc2 : lit want b = true ∧ pcond ((s2, (getE σ s2).1, w2, b3) :: r3) = true := by simpa [pcond] using hc
        have hv2 : tm.getD s undef = .bool b := RepV.bool ((hat.2 hv).1 (ih hc2.2)).2
        rw [hv2]
        cases want <;> cases b <;> simp_all [lit]
      · cases he
    · cases he

/-- Only the slots on the path tell. -/
theorem guardPath_congr {σ' : St} : ∀ (n s : Nat) (want : Bool) {p : Path}, (guardPath n s want).run (getE σ) = some p → (∀ q ∈ p, getE σ' q.1 = getE σ q.1) → (guardPath n s want).run (getE σ') = some p
  | 0, _, _, _, he, _ => by cases he
  | n + 1, s, want, p, he, hq => by
    simp only [guardPath, Q.run_get] at he ⊢
    split at he
    · rename_i b hb
      have := Q.ret_some he
      subst this
      have e := hq (s, (getE σ s).1, want, b) (by simp)
      simp only at e
      rw [e, hb]
      rfl
    · rename_i s2 v2 w2 b hb
      obtain ⟨r, h1, he⟩ := Q.bind_some he
      split at he
      · rename_i s3 v3 w3 b3 r3
        split at he
        · rename_i hv
          have := Q.ret_some he
          subst this
          have e := hq (s, (getE σ s).1, want, b) (by simp)
          simp only at e
          have ih := guardPath_congr n s2 w2 h1 (fun q hm => hq q (List.mem_cons_of_mem _ hm))
          rw [e, hb]
          simp only [Q.run_bind, ih, Option.bind_some, if_pos hv]
          rfl
        · cases he
      · cases he
    · cases he

theorem checkM_ok : ∀ (ms : List (Nat × Nat)) {u : Unit}, (checkM ms).run (getE σ) = some u → ∀ m ∈ ms, m.2 ≤ (getE σ m.1).1
  | [], _, _, m, hm => by cases hm
  | m :: r, u, he, m', hm => by
    simp only [checkM, Q.run_get] at he
    split at he
    · rename_i hle
      rcases List.mem_cons.1 hm with rfl | hm
      · exact hle
      · exact checkM_ok r he m' hm
    · cases he

/-- The operation, where it is wanted and where it is not. -/
def GOpOk (C : Ctx) (ops : Array Oper) (o : Oper) (a : Act) (w : World) (τ : St) : Prop :=
  ∀ (K : Act → World → Prop) (Q : Exit → Act → World → Prop), (∀ a' w' own', KeepD o a a' → StOk C τ a'.tmps w' own' → K a' w') →
    if Region.wanted o (yielded ops a.tmps) then o.wp C.P a w K Q else K (a.put o.dst undef) w

theorem yielded_at {ops : Array Oper} {j d : Nat} (hj : (ops[j]?).bind (·.dst) = some d) {tm : Array Value} (want : Bool) : (yielded ops tm j = some want) ↔ tm.getD d undef = .bool want := by
  unfold yielded
  rw [hj]
  simp only [Option.bind_some]
  cases hd : tm[d]? with
  | none =>
    have : tm.getD d undef = undef := by simp [Array.getD_eq_getD_getElem?, hd]
    rw [this]
    simp [undef]
  | some v =>
    have : tm.getD d undef = v := by simp [Array.getD_eq_getD_getElem?, hd]
    rw [this]
    cases v <;> simp

theorem evalOp_ok (hE : EnvOk E C.P) {pin : List Nat} (hF : Ready E C pin) (hpc : PinC C a.tmps) (h : StOk C σ a.tmps w own) {ops : Array Oper} {g : Option (Nat × Bool)} (hg : guardSlot ops o = some g) {f : Eff}
    (he : (evalOp E g o).run (getE σ) = some f) (hd : ∀ u ∈ f.upd, u.s < σ.length) (hc : allB f.chk) : GOpOk C ops o a w (applyUs σ f.upd) := by
  intro K Q1 hK
  unfold guardSlot at hg
  split at hg
  · rename_i hgd
    injection hg with hg
    subst hg
    have hw : Region.wanted o (yielded ops a.tmps) = true := by simp [Region.wanted, hgd]
    rw [if_pos hw]
    exact core_ok hE hF.fns hF.pins h ⟨hpc, fun q hq => by cases hq⟩ he hd hc K Q1 hK
  · rename_i j want hgd
    split at hg
    case h_2 => cases hg
    rename_i s hj
    injection hg with hg
    subst hg
    have hw : Region.wanted o (yielded ops a.tmps) = true ↔ a.tmps.getD s undef = .bool want := by
      rw [← yielded_at hj want]
      simp [Region.wanted, hgd]
    obtain ⟨pth, h1, he⟩ := Q.bind_some he
    obtain ⟨f1, h2, he⟩ := Q.bind_some he
    obtain ⟨⟨b', r', hp⟩, hpo⟩ := guardPath_ok h 8 s want h1
    subst hp
    split at he
    case h_2 => cases he
    rename_i d av d' s1 v1 w1 b1 r1 hupd hdst hpath
    simp only [List.cons.injEq, Prod.mk.injEq] at hpath
    obtain ⟨⟨rfl, rfl, rfl, rfl⟩, rfl⟩ := hpath
    split at he
    case isFalse => cases he
    rename_i hcond
    obtain ⟨hdd, hun, hnu, hpa⟩ := hcond
    subst hdd
    obtain ⟨_, hm0, he⟩ := Q.bind_some he
    have := Q.ret_some he
    subst this
    have hms := checkM_ok _ hm0
    have hdl : d < σ.length := hd _ (List.mem_singleton.2 rfl)
    have hpd : ∀ q ∈ (s, (getE σ s).1, want, b') :: r', q.1 ≠ d := fun q hq => by
      have := List.all_eq_true.1 hpa q hq
      simpa using this
    have hsd : s ≠ d := hpd _ List.mem_cons_self
    by_cases hwant : Region.wanted o (yielded ops a.tmps) = true
    · rw [if_pos hwant]
      have ht := hw.1 hwant
      obtain ⟨k1, k2⟩ := hpo ht
      have hc1 : allB f1.chk := by
        intro x hx
        have := hc (!(pcond ((s, (getE σ s).1, want, b') :: r')) || x) (List.mem_map.2 ⟨x, hx, rfl⟩)
        rw [k2] at this
        simpa using this
      have hd1 : ∀ u ∈ f1.upd, u.s < σ.length := by rw [hupd]; intro u hu; simp at hu; rw [hu]; exact hdl
      have hok := core_ok hE hF.fns hF.pins h ⟨hpc, k1⟩ h2 hd1 hc1
      rw [hupd] at hok
      refine hok K Q1 fun a' w' own0 hde hst0 => ?_
      have eA0 : getE (applyUs σ [⟨d, true, av⟩]) d = ((getE σ d).1 + 1, av) := getE_applyU_eq σ ⟨d, true, av⟩ hdl
      obtain ⟨own', hst, _, _, _⟩ := hst0.freeze d
      rw [eA0] at hst
      generalize hτ : applyU (applyUs σ [⟨d, true, av⟩]) ⟨d, false, av.freeze⟩ = τ at hst
      have hlen : τ.length = σ.length := by rw [← hτ, length_applyU, length_applyUs]
      have eA : getE τ d = ((getE σ d).1 + 1, av.freeze) := by
        rw [← hτ, getE_applyU_eq (applyUs σ [⟨d, true, av⟩]) ⟨d, false, av.freeze⟩ (by rw [length_applyUs]; exact hdl), eA0]
        rfl
      have eA1 : ∀ x, x ≠ d → getE τ x = getE σ x := fun x hx => by
        rw [← hτ, getE_applyU_ne _ _ hx]
        exact getE_applyU_ne σ ⟨d, true, av⟩ hx
      have eB : getE (applyUs σ [⟨d, true, .grd s (getE σ s).1 want av.freeze⟩]) d = ((getE σ d).1 + 1, .grd s (getE σ s).1 want av.freeze) := getE_applyU_eq σ ⟨d, true, _⟩ hdl
      have eN : ∀ x, x ≠ d → getE (applyUs σ [⟨d, true, .grd s (getE σ s).1 want av.freeze⟩]) x = getE τ x := fun x hx => by
        rw [eA1 x hx]
        exact getE_applyU_ne σ ⟨d, true, .grd s (getE σ s).1 want av.freeze⟩ hx
      have eV : ∀ x, (getE (applyUs σ [⟨d, true, .grd s (getE σ s).1 want av.freeze⟩]) x).1 = (getE τ x).1 := fun x => by
        by_cases hx : x = d
        · subst hx; rw [eA, eB]
        · rw [eN x hx]
      have hsure : a'.tmps.getD s undef = .bool want := guardPath_sure hst 8 s want (guardPath_congr 8 s want h1 fun q hq => eA1 q.1 (hpd q hq)) k2
      have hat := hst.at_ d
      rw [eA] at hat
      have hbs : own' d = [] ∧ AVRep (sit C τ a'.tmps w' own') av.freeze (a'.tmps.getD d undef) [] := by
        refine ⟨?_, hat.unowned hun⟩
        generalize av.freeze = fv at hun hnu hat
        cases fv with
        | undef => cases hnu
        | own _ _ _ => cases hun
        | agg _ => cases hun
        | box _ => cases hun
        | tup _ => cases hun
        | osl _ _ _ _ _ => exact hat
        | _ => exact hat.1
      have kp : ∀ {av' : AV} {v : Value} {bs : List Nat}, AVRep (sit C τ a'.tmps w' own') av' v bs → AVRep (sit C (applyUs σ [⟨d, true, .grd s (getE σ s).1 want av.freeze⟩]) a'.tmps w' own') av' v bs := fun hr =>
        AVRep.keep (X := sit C τ a'.tmps w' own') (X' := sit C (applyUs σ [⟨d, true, .grd s (getE σ s).1 want av.freeze⟩]) a'.tmps w' own') ⟨rfl, rfl⟩ (fun b hb hlt => ⟨hb, hlt, rfl⟩) (fun _ _ _ => rfl) (fun m _ hv => ⟨(eV m.1).symm.trans hv, rfl, fun b hb _ => ⟨hb, rfl⟩⟩) hr
      refine hK a' w' own' hde ⟨by rw [hst.size, hlen, length_applyUs], hst.kept, hst.mine, hst.nodup, hst.apart, fun x hx => hst.outside x (by rw [length_applyUs] at hx; rw [hlen]; exact hx), fun x hx => ?_, fun x m hm => ?_⟩
      · by_cases hxd : x = d
        · subst hxd
          rw [eB, hbs.1]
          exact ⟨rfl, fun _ => ⟨fun _ => kp hbs.2, fun hn => absurd hsure hn⟩⟩
        · rw [eN x hxd]
          exact kp (hst.rep x (by rw [length_applyUs] at hx; rw [hlen]; exact hx))
      · rw [eV]
        by_cases hxd : x = d
        · subst hxd
          rw [eB] at hm
          rcases List.mem_cons.1 hm with rfl | hm
          · rw [eA1 s hsd]
            exact Nat.le_refl _
          · exact hst.wf x m (by rw [eA]; exact hm)
        · rw [eN x hxd] at hm
          exact hst.wf x m hm
    · rw [if_neg hwant]
      have hnt : ¬ a.tmps.getD s undef = .bool want := fun e => hwant (hw.2 e)
      have hdu : dstU o (.grd s (getE σ s).1 want av.freeze) = [⟨d, true, .grd s (getE σ s).1 want av.freeze⟩] := by unfold dstU; rw [hdst]
      obtain ⟨own', hst⟩ := h.dst0 (o := o) (av := .grd s (getE σ s).1 want av.freeze) (v := undef) (by rw [hdu]; exact hd) ⟨rfl, fun _ => ⟨fun e => absurd e hnt, fun _ => rfl⟩⟩ (fun m hm => by
        rcases List.mem_cons.1 hm with rfl | hm
        · exact Nat.le_refl _
        · exact hms m hm)
      rw [hdu] at hst
      exact hK _ _ own' (keepD_put o a _) hst

end
end Go.Vi
