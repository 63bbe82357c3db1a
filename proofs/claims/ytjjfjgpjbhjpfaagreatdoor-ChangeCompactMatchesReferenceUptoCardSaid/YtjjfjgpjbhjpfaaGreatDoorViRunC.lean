/- The abstract interpreter: code. -/
import Derived.Test.YtjjfjgpjbhjpfaaGreatDoorViCode
import Derived.Test.YtjjfjgpjbhjpfaaGreatDoorViDraw
set_option linter.unusedVariables false
set_option linter.unusedSimpArgs false
set_option linter.unnecessarySimpa false
set_option linter.unusedSectionVars false
namespace Go.Vi
open Go.RowKit

section
variable {C : Ctx} {E : Env} {σ τ : St} {tm : Array Value} {a : Act} {w w' : World} {own : Nat → List Nat} {o : Oper} {p : Path} [Tabbed E C]

theorem conj_all : {c : List Bool} → conj c = true → allB c
  | [], _ => fun b hb => by cases hb
  | [x], h => fun b hb => by simp at hb; rw [hb]; exact h
  | x :: y :: r, h => fun b hb => by
    simp only [conj, Bool.and_eq_true] at h
    rcases List.mem_cons.1 hb with rfl | hb
    · exact h.1
    · exact conj_all h.2 b hb

theorem applyUs_fr {wr : List Nat} : (us : List U) → {σ : St} → (∀ u ∈ us, u.s ∈ wr) → Fr wr σ (applyUs σ us)
  | [], σ, _ => ⟨rfl, fun _ _ => rfl⟩
  | u :: us, σ, h => by
    obtain ⟨h1, h2⟩ := applyUs_fr us (σ := applyU σ u) (fun v hv => h v (List.mem_cons_of_mem _ hv))
    refine ⟨by rw [show applyUs σ (u :: us) = applyUs (applyU σ u) us from rfl, h1, length_applyU], fun s hs => ?_⟩
    show getE (applyUs (applyU σ u) us) s = _
    rw [h2 s hs]
    exact getE_applyU_ne σ u fun e => hs (e ▸ h u List.mem_cons_self)

theorem Fr.trans {wr : List Nat} {a b c : St} (h : Fr wr a b) (k : Fr wr b c) : Fr wr a c := ⟨k.1.trans h.1, fun s hs => (k.2 s hs).trans (h.2 s hs)⟩
theorem Fr.refl (wr : List Nat) (a : St) : Fr wr a a := ⟨rfl, fun _ _ => rfl⟩
theorem Fr.mono {wr wr' : List Nat} {a b : St} (h : Fr wr a b) (hs : ∀ s ∈ wr, s ∈ wr') : Fr wr' a b := ⟨h.1, fun s hn => h.2 s fun hm => hn (hs s hm)⟩

/-- What is known of the end of a piece of code. -/
def Vers (σ σ' : St) : Prop := ∀ s, (getE σ s).1 ≤ (getE σ' s).1
theorem applyU_vers (σ : St) (u : U) : Vers σ (applyU σ u) := fun s => by
  by_cases h : s = u.s
  · subst h
    by_cases hl : u.s < σ.length
    · rw [getE_applyU_eq σ u hl]
      simp only
      split
      · exact Nat.le_succ _
      · exact Nat.le_refl _
    · have : applyU σ u = σ := by simp only [applyU]; exact List.set_eq_of_length_le (by omega)
      rw [this]
      exact Nat.le_refl _
  · rw [getE_applyU_ne _ _ h]; exact Nat.le_refl _
theorem Vers.trans {a b c : St} (h : Vers a b) (k : Vers b c) : Vers a c := fun s => Nat.le_trans (h s) (k s)
theorem applyUs_vers : (us : List U) → (σ : St) → Vers σ (applyUs σ us)
  | [], _ => fun _ => Nat.le_refl _
  | u :: us, σ => (applyU_vers σ u).trans (applyUs_vers us (applyU σ u))

theorem evalSeq_fr {wr : List Nat} {ops : Array Oper} : (l : List Oper) → {σ σ' : St} → {c c' : List Bool} → {fs fs' : List Foot} → evalSeq E wr ops l σ c fs = some (σ', c', fs') →
    Fr wr σ σ' ∧ Vers σ σ' ∧ (∀ b ∈ c, b ∈ c') ∧ (∀ f ∈ fs, f ∈ fs') ∧ Fr (fs'.flatMap (·.wr)) σ σ'
  | [], σ, σ', c, c', fs, fs', he => by
    simp only [evalSeq, Option.some.injEq, Prod.mk.injEq] at he
    obtain ⟨rfl, rfl, rfl⟩ := he
    exact ⟨Fr.refl _ _, fun _ => Nat.le_refl _, fun _ h => h, fun _ h => h, Fr.refl _ _⟩
  | o :: r, σ, σ', c, c', fs, fs', he => by
    simp only [evalSeq] at he
    split at he
    · cases he
    rename_i g hg
    split at he
    · cases he
    rename_i f hf
    split at he
    case isFalse => cases he
    rename_i hu
    obtain ⟨h1, h2, h3, h4, h5⟩ := evalSeq_fr r he
    have hu' : ∀ u ∈ f.upd, u.s ∈ wr := fun u hm => by
      have := List.all_eq_true.1 hu u hm
      simp at this
      exact this.1
    refine ⟨(applyUs_fr f.upd hu').trans h1, (applyUs_vers _ _).trans h2, fun b hb => h3 b (List.mem_append_left _ hb), fun x hx => h4 x (List.mem_cons_of_mem _ hx), (applyUs_fr f.upd fun u hm => ?_).trans h5⟩
    exact List.mem_flatMap.2 ⟨_, h4 _ List.mem_cons_self, List.mem_map_of_mem hm⟩

/-- The pinned slots are as they were. -/
def KeepP (pin : List Nat) (a a' : Act) : Prop := a'.defers = a.defers ∧ ∀ s ∈ pin, a'.tmps.getD s undef = a.tmps.getD s undef
theorem KeepP.refl (pin : List Nat) (a : Act) : KeepP pin a a := ⟨rfl, fun _ _ => rfl⟩
theorem KeepP.trans {pin : List Nat} {a b c : Act} (h : KeepP pin b c) (k : KeepP pin a b) : KeepP pin a c := ⟨h.1.trans k.1, fun s hs => (h.2 s hs).trans (k.2 s hs)⟩

theorem KeepP.pinC {pin : List Nat} {a a' : Act} (hF : Ready E C pin) (hpc : PinC C a.tmps) (h : KeepP pin a a') : PinC C a'.tmps := fun k b hb => (h.2 k (hF.sub k b hb)).trans (hpc k b hb)

theorem evalSeq_ok (hE : EnvOk E C.P) {pin wr : List Nat} (hF : Ready E C pin) {ops : Array Oper} {Q : Exit → Act → World → Prop} : (l : List Oper) → noDstL pin l = true → {σ σ' : St} → {a : Act} → {w : World} → {own : Nat → List Nat} → {c c' : List Bool} → {fs fs' : List Foot} →
    evalSeq E wr ops l σ c fs = some (σ', c', fs') → allB c' → PinC C a.tmps → StOk C σ a.tmps w own → (∀ a' w' own', KeepP pin a a' → StOk C σ' a'.tmps w' own' → Q .normal a' w') → wpList C.P ops Q l a w
  | [], _, σ, σ', a, w, own, c, c', fs, fs', he, _, _, h, hQ => by
    simp only [evalSeq, Option.some.injEq, Prod.mk.injEq] at he
    obtain ⟨rfl, _, _⟩ := he
    exact hQ a w own (KeepP.refl _ _) h
  | o :: r, hp, σ, σ', a, w, own, c, c', fs, fs', he, hc, hpc, h, hQ => by
    simp only [noDstL, List.all_cons, Bool.and_eq_true] at hp
    simp only [evalSeq] at he
    split at he
    · cases he
    rename_i g hg
    split at he
    · cases he
    rename_i f hf
    split at he
    case isFalse => cases he
    rename_i hu
    have hu' : ∀ u ∈ f.upd, u.s < σ.length := fun u hm => by
      have := List.all_eq_true.1 hu u hm
      simp at this
      exact this.2
    obtain ⟨_, _, h3, _, _⟩ := evalSeq_fr r he
    have hcf : allB f.chk := fun b hb => hc b (h3 b (List.mem_append_right _ hb))
    have hok := evalOp_ok hE hF hpc h hg hf hu' hcf (wpList C.P ops Q r) Q fun a' w' own' hd hst => by
      have hk : KeepP pin a a' := ⟨hd.1, fun s hs => hd.2 s fun e => apart_ok hp.1 s (by simp [e]) hs⟩
      exact evalSeq_ok hE hF r hp.2 he hc (hk.pinC hF hpc) hst fun a2 w2 own2 hd2 hst2 => hQ a2 w2 own2 (hd2.trans hk) hst2
    unfold wpList
    split at hok
    · rename_i hw
      rw [if_pos hw]
      exact .inl hok
    · rename_i hw
      rw [if_neg hw]
      exact hok

theorem listed_all {listed : Array Bool} (h : listed.toList.countP (fun b => !b) = 0) {i : Nat} (hi : i < listed.size) : listed.getD i false = true := by
  have := List.countP_eq_zero.1 h listed[i] (by simp)
  rw [Array.getD_eq_getD_getElem?, Array.getElem?_eq_getElem hi]
  simpa using this

theorem drawn_ok (hE : EnvOk E C.P) {pin : List Nat} (hF : Ready E C pin) {ops : Array Oper} {Q : Exit → Act → World → Prop} {fl0 fl : List Foot} {c : List Bool} {a0 : Act} (hp : noDstL pin ops.toList = true) (hd : SeqData E ops σ ops.toList fl0 c) (hus : fl.map (·.us) = fl0.map (·.us)) (hsoft : ∀ (i : Nat) (o : Oper) (f f' : Foot), ops.toList[i]? = some o → fl0[i]? = some f → fl[i]? = some f' → f'.rd = f.rd ∨ ∃ s, hdrSlot o = some s ∧ softAt σ fl0 s = true) (hg : drawGo ops.toList fl [] [] = true) (hc : allB c) (hpc : PinC C a0.tmps)
    (hQ : ∀ a' w' own', KeepP pin a0 a' → StOk C (runAll fl σ) a'.tmps w' own' → Q .normal a' w') : ∀ (fuel : Nat) (listed : Array Bool) (a : Act) (w : World) (own : Nat → List Nat), listed.size = ops.size → listed.toList.countP (fun b => !b) = fuel → ClosedS ops (fun i => listed.getD i false) → KeepP pin a0 a →
      StOk C (runSet (fun i => listed.getD i false) 0 fl σ) a.tmps w own → wpAny C.P .any ops Q fuel listed a w := by
  have hlen0 : fl0.length = ops.size := by have := hd.1; simpa using this
  have hlen : fl.length = ops.size := by have := congrArg List.length hus; simp only [List.length_map] at this; omega
  have full : ∀ {listed : Array Bool}, (∀ i, i < ops.size → listed.getD i false = true) → runSet (fun i => listed.getD i false) 0 fl σ = runAll fl σ := by
    intro listed hall
    have hb := runSet_below fl 0 fl.length σ
    rw [List.take_length] at hb
    rw [← hb]
    apply getE_ext
    · rw [length_runSet, length_runSet]
    · intro s
      refine runSet_local fl 0 rfl rfl fun k g hg _ => ?_
      have := (List.getElem?_eq_some_iff.1 hg).1
      rw [hall (0 + k) (by omega), decide_eq_true (by omega)]
  intro fuel
  induction fuel with
  | zero =>
    intro listed a w own hs hcnt hcl hk hst
    have hall : ∀ i, i < ops.size → listed.getD i false = true := fun i hi => listed_all hcnt (by omega)
    refine ⟨?_, hQ a w own hk (by rw [full hall] at hst; exact hst)⟩
    cases hr : Region.ready .any ops listed with
    | nil => rfl
    | cons i r =>
      obtain ⟨h1, h2, _⟩ := edges_of_ready (ops := ops) (listed := listed) (i := i) (by rw [hr]; exact List.mem_cons_self)
      have h3 := hall i h1
      rw [Array.getD_eq_getD_getElem?, Array.getElem?_eq_getElem (by omega)] at h2 h3
      simp only [Option.getD_some] at h2 h3
      rw [h2] at h3
      cases h3
  | succ fuel ih =>
    intro listed a w own hs hcnt hcl hk hst
    refine ⟨fun hr => ?_, fun i hi => ?_⟩
    · have hall : ∀ i, i < ops.size → listed.getD i false = true := by
        intro i
        induction i using Nat.strongRecOn with
        | ind i ihi =>
          intro hi
          cases hb : listed.getD i false with
          | true => rfl
          | false =>
            have ho : ops[i]? = some ops[i] := Array.getElem?_eq_getElem hi
            obtain ⟨_, M, hM⟩ := drawGo_top hg
            obtain ⟨q1, _, _⟩ := hM i _ _ ho (List.getElem?_eq_getElem (by omega))
            have hb' : listed.getD i true = false := by
              rw [Array.getD_eq_getD_getElem?, Array.getElem?_eq_getElem (by omega)] at hb ⊢
              exact hb
            have := ready_of_edges ho hb' fun j hj => ihi j (q1 j hj) (by have := q1 j hj; omega)
            rw [hr] at this
            cases this
      exact hQ a w own hk (by rw [full hall] at hst; exact hst)
    · obtain ⟨h1, h2, o, ho, he⟩ := edges_of_ready hi
      have hf : fl[i]? = some fl[i] := List.getElem?_eq_getElem (by omega)
      have hn : listed.getD i false = false := by
        rw [Array.getD_eq_getD_getElem?, Array.getElem?_eq_getElem (by omega)] at h2 ⊢
        exact h2
      have hf0 : fl0[i]? = some fl0[i] := List.getElem?_eq_getElem (by omega)
      obtain ⟨g, f, k1, k2, k3, k4, k5⟩ := hd.2 i o _ (by simpa using ho) hf0
      have hui : (fl[i]).us = f.upd := by
        have h1 : (fl.map (·.us))[i]? = (fl0.map (·.us))[i]? := by rw [hus]
        simp only [List.getElem?_map, hf, hf0, Option.map_some, Option.some.injEq] at h1
        rw [h1, k3]
      have hta : runAll (fl0.take i) σ = runAll (fl.take i) σ := runAll_us _ _ (by rw [List.map_take, List.map_take, hus]) σ
      have hrun : (evalOp E g o).run (getE (runSet (fun i => listed.getD i false) 0 fl σ)) = some f := by
        rw [← k2]
        rcases hsoft i o _ _ (by simpa using ho) hf0 hf with hrd | ⟨s, hs1, hs2⟩
        · rw [hta]
          rw [hta] at k3
          refine Go.Vi.Q.run_congr _ fun s hs => ready_read hg hcl ho hf hn he (.inl ?_)
          rw [hrd, k3]
          exact hs
        · have hgn := hdr_guard hs1 k1
          subst hgn
          simp only [softAt, Bool.and_eq_true] at hs2
          obtain ⟨a1, a2⟩ := runSet_soft (S := fun i => listed.getD i false) fl0 0 hs2.1 hs2.2
          obtain ⟨b1, b2⟩ := runSet_soft (S := fun k => decide (k < 0 + i)) fl0 0 hs2.1 hs2.2
          rw [runSet_us _ fl0 fl hus.symm] at a1 a2
          rw [runSet_below fl0 0 i σ] at b1 b2
          exact move_soft hs1 b2 a2 (a1.trans b1.symm)
      have hok := evalOp_ok hE hF (hk.pinC hF hpc) hst k1 hrun (fun u hu => by rw [length_runSet]; exact k4 u hu) (fun b hb => hc b (k5 b hb)) (wpAny C.P .any ops Q fuel (listed.setIfInBounds i true)) Q fun a' w' own' hkd hst' => ?_
      · unfold wpOp
        rw [ho]
        simp only
        split at hok
        · rename_i hw
          rw [if_pos hw]
          exact .inl hok
        · rename_i hw
          rw [if_neg hw]
          exact hok
      · have hset : ∀ j, (listed.setIfInBounds i true).getD j false = if j = i then true else listed.getD j false := by
          intro j
          simp only [Array.getD_eq_getD_getElem?, Array.getElem?_setIfInBounds]
          by_cases hj : j = i
          · subst hj
            simp [hs, h1]
          · rw [if_neg (fun e => hj e.symm), if_neg hj]
        refine ih _ a' w' own' (by simpa using hs) ?_ ?_ ?_ ?_
        · rw [Array.toList_setIfInBounds, List.countP_set (by simp; omega), hcnt]
          have hb : listed.toList[i]'(by simp; omega) = false := by
            rw [Array.getD_eq_getD_getElem?, Array.getElem?_eq_getElem (by omega)] at hn
            simpa using hn
          rw [hb]
          simp
        · intro j oj hoj hSj k hkk
          simp only [hset] at hSj ⊢
          split
          · rfl
          · by_cases hji : j = i
            · subst hji
              rw [ho] at hoj
              injection hoj with hoj
              subst hoj
              exact he k hkk
            · rw [if_neg hji] at hSj
              exact hcl j oj hoj hSj k hkk
        · refine KeepP.trans ⟨hkd.1, fun s hs => hkd.2 s fun e => ?_⟩ hk
          have := List.all_eq_true.1 hp o (by have := Array.mem_of_getElem? ho; simpa using this)
          exact apart_ok this s (by simp [e]) hs
        · have e := ready_write (σ := σ) hg (S' := fun j => (listed.setIfInBounds i true).getD j false) hcl ho hf hn he (by simp [hset]) (fun j hj => by simp [hset, hj])
          rw [e]
          rw [hui]
          exact hst'

theorem evalRegion_ok (hE : EnvOk E C.P) {pin wr : List Nat} (hF : Ready E C pin) {id : Nat} {ops : Array Oper} {d : Bool} {Q : Exit → Act → World → Prop} {σ' : St} {c : List Bool} {ds : List Nat} (hp : noDstL pin ops.toList = true) (he : evalRegion E wr ops d σ = some (σ', c, ds)) (hc : allB c) (hpc : PinC C a.tmps) (h : StOk C σ a.tmps w own)
    (hQ : ∀ a' w' own', KeepP pin a a' → StOk C σ' a'.tmps w' own' → Q .normal a' w') : (Code.region id ops d).wp C.P Q a w := by
  unfold evalRegion at he
  split at he
  case h_2 => cases he
  rename_i σ1 c1 fs h1
  split at he
  case isFalse => cases he
  rename_i hd
  injection he with he
  simp only [Prod.mk.injEq] at he
  obtain ⟨rfl, rfl, rfl⟩ := he
  cases d with
  | false => exact wp_region_list (evalSeq_ok hE hF ops.toList hp h1 hc hpc h hQ)
  | true =>
    obtain ⟨fl, g1, g2, g3, _⟩ := evalSeq_data ops.toList h1
    have hfs : fs.reverse = fl := by rw [g1]; simp
    rw [hfs] at hd
    have hd : drawGo ops.toList (soften σ fl ops.toList fl) [] [] = true := by simpa using hd
    have hsu := soften_us σ fl ops.toList fl g2.1
    refine wp_region_any hE.mixed (drawn_ok hE hF (a0 := a) hp g2 hsu (soften_at σ fl ops.toList fl g2.1) hd hc hpc (by rw [runAll_us _ _ hsu, ← g3]; exact hQ) _ _ _ _ own (by simp) (by simp [List.countP_replicate]) (fun i o ho hS => ?_) (KeepP.refl _ _) ?_)
    · simp [Array.getD_eq_getD_getElem?, Array.getElem?_replicate] at hS
      split at hS <;> simp at hS
    · have e : runSet (fun i => (Array.replicate ops.size false).getD i false) 0 (soften σ fl ops.toList fl) σ = σ := by
        have : (fun i => (Array.replicate ops.size false).getD i false) = fun _ => false := by
          funext i
          simp only [Array.getD_eq_getD_getElem?, Array.getElem?_replicate]
          split <;> rfl
        rw [this, runSet_none]
      rw [e]
      exact h.drew

theorem evalRegion_fr {wr : List Nat} {ops : Array Oper} {d : Bool} {σ' : St} {c : List Bool} {ds : List Nat} (he : evalRegion E wr ops d σ = some (σ', c, ds)) : Fr wr σ σ' ∧ Vers σ σ' ∧ Fr ds σ σ' := by
  unfold evalRegion at he
  split at he
  case h_2 => cases he
  rename_i σ1 c1 fs h1
  split at he
  case isFalse => cases he
  injection he with he
  simp only [Prod.mk.injEq] at he
  obtain ⟨rfl, rfl, rfl⟩ := he
  obtain ⟨k1, k2, _, _, k5⟩ := evalSeq_fr ops.toList h1
  exact ⟨k1, k2, k5⟩

/-! ## Branches that come together again -/
theorem joinSt_at (b : Bool) (σ1 σ2 : St) : (ds : List Nat) → (σ : St) → (joinSt b ds σ σ1 σ2).length = σ.length ∧ ∀ s, (s ∈ ds ∧ s < σ.length → getE (joinSt b ds σ σ1 σ2) s = (max (getE σ1 s).1 (getE σ2 s).1 + 1, joinAV b (getE σ1 s).2 (getE σ2 s).2)) ∧ (¬ (s ∈ ds ∧ s < σ.length) → getE (joinSt b ds σ σ1 σ2) s = getE σ s)
  | [], σ => ⟨rfl, fun s => ⟨fun h => (by cases h.1), fun _ => rfl⟩⟩
  | d :: ds, σ => by
    obtain ⟨h1, h2⟩ := joinSt_at b σ1 σ2 ds (σ.set d (max (getE σ1 d).1 (getE σ2 d).1 + 1, joinAV b (getE σ1 d).2 (getE σ2 d).2))
    have e : joinSt b (d :: ds) σ σ1 σ2 = joinSt b ds (σ.set d (max (getE σ1 d).1 (getE σ2 d).1 + 1, joinAV b (getE σ1 d).2 (getE σ2 d).2)) σ1 σ2 := rfl
    rw [e]
    refine ⟨by rw [h1]; simp, fun s => ?_⟩
    obtain ⟨k1, k2⟩ := h2 s
    rw [List.length_set] at k1 k2
    by_cases hs : s ∈ ds ∧ s < σ.length
    · exact ⟨fun _ => k1 hs, fun hn => absurd ⟨List.mem_cons_of_mem _ hs.1, hs.2⟩ hn⟩
    · rw [k2 hs, getE_set]
      by_cases hd : s = d ∧ d < σ.length
      · rw [if_pos hd]
        obtain ⟨rfl, hd⟩ := hd
        exact ⟨fun _ => rfl, fun hn => absurd ⟨List.mem_cons_self, hd⟩ hn⟩
      · rw [if_neg hd]
        refine ⟨fun hn => ?_, fun _ => rfl⟩
        rcases List.mem_cons.1 hn.1 with rfl | hm
        · exact absurd ⟨rfl, hn.2⟩ hd
        · exact absurd ⟨hm, hn.2⟩ hs

/-- The state after a join is good where the branch's that was taken is. -/
theorem StOk.join {b : Bool} {ds : List Nat} {σ1 σ2 : St} (h : StOk C (bif b then σ1 else σ2) tm w own) (h1 : Fr ds σ σ1) (h2 : Fr ds σ σ2) : StOk C (joinSt b ds σ σ1 σ2) tm w own := by
  obtain ⟨j1, j2⟩ := joinSt_at b σ1 σ2 ds σ
  have hf : Fr ds σ (bif b then σ1 else σ2) := by cases b <;> assumption
  have zero : ∀ {ρ : St} {s : Nat}, ρ.length = σ.length → ¬ s < σ.length → getE ρ s = (0, .undef) := fun {ρ s} hl hs => by simp [getE, List.getD, List.getElem?_eq_none (show ρ.length ≤ s by omega)]
  refine h.retag (j1.trans hf.1.symm) (fun s => s ∈ ds ∧ s < σ.length) (fun s hs => ?_) (fun s hs => ?_) (fun s m _ hm hb => ?_)
  · rw [(j2 s).2 hs]
    by_cases hd : s ∈ ds
    · have hl : ¬ s < σ.length := fun hl => hs ⟨hd, hl⟩
      rw [zero rfl hl, zero hf.1 hl]
    · exact (hf.2 s hd).symm
  · rw [(j2 s).1 hs]
    have e : (getE (bif b then σ1 else σ2) s).2 = bif b then (getE σ1 s).2 else (getE σ2 s).2 := by cases b <;> rfl
    refine ⟨?_, fun v hv => ?_⟩
    · exact (joinAV_rep (X := sit C (bif b then σ1 else σ2) tm w own) b (by rw [← e]; exact h.at_ s)).2
    · rw [e] at hv
      exact (joinAV_rep b hv).1
  · rw [(j2 m.1).1 hb]
    have := h.wf s m hm
    have : m.2 ≤ max (getE σ1 m.1).1 (getE σ2 m.1).1 := by
      cases b
      · exact Nat.le_trans this (Nat.le_max_right _ _)
      · exact Nat.le_trans this (Nat.le_max_left _ _)
    show m.2 < _ + 1
    omega

theorem joinSt_fr {b : Bool} {ds wr : List Nat} {σ1 σ2 : St} (h : ∀ s ∈ ds, s ∈ wr) : Fr wr σ (joinSt b ds σ σ1 σ2) := by
  obtain ⟨j1, j2⟩ := joinSt_at b σ1 σ2 ds σ
  exact ⟨j1, fun s hs => (j2 s).2 fun hn => hs (h s hn.1)⟩

end
end Go.Vi
