/- The abstract interpreter: a function keeps its contract. -/
import Derived.Test.YtjjfjgpjbhjpfaaGreatDoorViFun
set_option linter.unusedVariables false
set_option linter.unusedSimpArgs false
set_option linter.unnecessarySimpa false
set_option linter.unusedSectionVars false
namespace Go.Vi
open Go.RowKit

section
variable {C : Ctx} {E : Env} {σ τ : St} {tm : Array Value} {a : Act} {w w' : World} {own : Nat → List Nat} {o : Oper} {p : Path} [Tabbed E C]

theorem nodup_flatten_apart : {l : List (List Nat)} → l.flatten.Nodup → (∀ i, (l.getD i []).Nodup) ∧ ∀ i j b, b ∈ l.getD i [] → b ∈ l.getD j [] → i = j
  | [], _ => ⟨fun i => by simp, fun i j b h => by simp at h⟩
  | x :: l, h => by
    rw [List.flatten_cons] at h
    obtain ⟨h1, h2, h3⟩ := List.nodup_append.1 h
    obtain ⟨k1, k2⟩ := nodup_flatten_apart h2
    have mem : ∀ i b, b ∈ l.getD i [] → b ∈ l.flatten := fun i b hb => by
      rw [List.getD_eq_getElem?_getD] at hb
      cases hi : l[i]? with
      | none => rw [hi] at hb; simp at hb
      | some y =>
        rw [hi] at hb
        exact List.mem_flatten.2 ⟨y, List.mem_of_getElem? hi, by simpa using hb⟩
    refine ⟨fun i => ?_, fun i j b hi hj => ?_⟩
    · cases i with
      | zero => simpa using h1
      | succ i => simpa using k1 i
    · cases i with
      | zero =>
        cases j with
        | zero => rfl
        | succ j => exact (h3 b (by simpa using hi) b (mem j b (by simpa using hj)) rfl).elim
      | succ i =>
        cases j with
        | zero => exact (h3 b (by simpa using hj) b (mem i b (by simpa using hi)) rfl).elim
        | succ j => rw [k2 i j b (by simpa using hi) (by simpa using hj)]

/-- The parameters in their slots. -/
theorem params_ok {X : Sit} {F : Nat → Prop} (hF : ∀ b, F b → b < X.w.heap.size → X.F b) : (ps : List PM) → {x : PMs.den ps} → {vs : List Value} → {g i : List Nat} → ParamsRep X.P X.w F ps x vs g i → (g ++ i).Nodup →
    ∃ owns : List (List Nat), owns.length = ps.length ∧ vs.length = ps.length ∧ (paramsSt ps x).length = ps.length ∧ owns.flatten.Nodup ∧ (∀ b ∈ owns.flatten, b ∈ g ++ i) ∧
      ∀ k, k < ps.length → AVRep X (getE (paramsSt ps x) k).2 (vs.getD k undef) (owns.getD k []) ∧ (getE (paramsSt ps x) k).2.mentions = []
  | [], x, vs, g, i, ⟨h1, h2, h3⟩, _ => ⟨[], rfl, by rw [h1]; rfl, rfl, by simp, fun b hb => by simp at hb, fun k hk => by cases hk⟩
  | .val t :: ps, x, vs, g, i, ⟨v, r, h1, h2, h3⟩, hn => by
    obtain ⟨owns, k1, k2, k3, k4, k5, k6⟩ := params_ok hF ps h3 hn
    refine ⟨[] :: owns, by simp [k1], by rw [h1]; simp [k2], by simp [paramsSt, k3], by simpa using k4, by simpa using k5, fun k hk => ?_⟩
    cases k with
    | zero => exact ⟨⟨rfl, by rw [h1]; exact h2.mono hF⟩, rfl⟩
    | succ k => rw [h1]; exact k6 k (by simpa using hk)
  | .nil et e :: ps, x, vs, g, i, ⟨r, h1, h3⟩, hn => by
    obtain ⟨owns, k1, k2, k3, k4, k5, k6⟩ := params_ok hF ps h3 hn
    refine ⟨[] :: owns, by simp [k1], by rw [h1]; simp [k2], by simp [paramsSt, k3], by simpa using k4, by simpa using k5, fun k hk => ?_⟩
    cases k with
    | zero => exact ⟨⟨rfl, by rw [h1]; rfl⟩, rfl⟩
    | succ k => rw [h1]; exact k6 k (by simpa using hk)
  | .rd t :: ps, x, vs, g, i, ⟨ad, cs, r, h1, h2, h3, h4, h5, h6⟩, hn => by
    obtain ⟨owns, k1, k2, k3, k4, k5, k6⟩ := params_ok hF ps h6 hn
    refine ⟨[] :: owns, by simp [k1], by rw [h1]; simp [k2], by simp [paramsSt, k3], by simpa using k4, by simpa using k5, fun k hk => ?_⟩
    cases k with
    | zero => exact ⟨⟨rfl, ad, cs, by rw [h1]; simp [Addr.add], hF _ h2 h3, h3, h4, h5.keep fun b hb hlt => ⟨hF b hb hlt, hlt, rfl⟩⟩, rfl⟩
    | succ k => rw [h1]; exact k6 k (by simpa using hk)
  | .ior et e :: ps, x, vs, g, i, ⟨v, r, i1, i2, h1, h2, h3, h4⟩, hn => by
    rw [h2] at hn
    have hn' := List.nodup_append.1 hn
    have hni := List.nodup_append.1 hn'.2.1
    have hn2 : (g ++ i2).Nodup := List.nodup_append.2 ⟨hn'.1, hni.2.1, fun b hb b' hb' => hn'.2.2 b hb b' (List.mem_append_right _ hb')⟩
    obtain ⟨owns, k1, k2, k3, k4, k5, k6⟩ := params_ok hF ps h4 hn2
    refine ⟨i1 :: owns, by simp [k1], by rw [h1]; simp [k2], by simp [paramsSt, k3], ?_, ?_, fun k hk => ?_⟩
    · rw [List.flatten_cons]
      refine List.nodup_append.2 ⟨hni.1, k4, fun b hb b' hb' e => ?_⟩
      subst e
      rcases List.mem_append.1 (k5 b hb') with hm | hm
      · exact hn'.2.2 b hm b (List.mem_append_left _ hb) rfl
      · exact hni.2.2 b hb b hm rfl
    · intro b hb
      rw [List.flatten_cons] at hb
      rw [h2]
      rcases List.mem_append.1 hb with hb | hb
      · exact List.mem_append_right _ (List.mem_append_left _ hb)
      · rcases List.mem_append.1 (k5 b hb) with hm | hm
        · exact List.mem_append_left _ hm
        · exact List.mem_append_right _ (List.mem_append_right _ hm)
    · cases k with
      | zero => exact ⟨by rw [h1]; exact h3.keep (fun b hb hlt => ⟨hF b hb hlt, hlt, rfl⟩) (fun _ _ _ => rfl), rfl⟩
      | succ k => rw [h1]; exact k6 k (by simpa using hk)
  | .fn ts us :: ps, x, vs, g, i, ⟨v, r, h1, h2, h3⟩, hn => by
    obtain ⟨owns, k1, k2, k3, k4, k5, k6⟩ := params_ok hF ps h3 hn
    refine ⟨[] :: owns, by simp [k1], by rw [h1]; simp [k2], by simp [paramsSt, k3], by simpa using k4, by simpa using k5, fun k hk => ?_⟩
    cases k with
    | zero => exact ⟨⟨rfl, by rw [h1]; exact h2.keep fun b hb hlt => ⟨hF b hb hlt, hlt, rfl⟩⟩, rfl⟩
    | succ k => rw [h1]; exact k6 k (by simpa using hk)
  | .own et e :: ps, x, vs, g, i, ⟨v, r, g1, g2, h1, h2, h3, h4⟩, hn => by
    rw [h2, List.append_assoc] at hn
    obtain ⟨n1, n2, n3⟩ := List.nodup_append.1 hn
    obtain ⟨owns, k1, k2, k3, k4, k5, k6⟩ := params_ok hF ps h4 n2
    refine ⟨g1 :: owns, by simp [k1], by rw [h1]; simp [k2], by simp [paramsSt, k3], ?_, ?_, fun k hk => ?_⟩
    · rw [List.flatten_cons]
      exact List.nodup_append.2 ⟨n1, k4, fun b hb b' hb' => n3 b hb b' (k5 b' hb')⟩
    · intro b hb
      rw [List.flatten_cons] at hb
      rw [h2, List.append_assoc]
      rcases List.mem_append.1 hb with hb | hb
      · exact List.mem_append_left _ hb
      · exact List.mem_append_right _ (k5 b hb)
    · cases k with
      | zero => exact ⟨by rw [h1]; exact h3.keep (fun b hb hlt => ⟨hF b hb hlt, hlt, rfl⟩) (fun _ _ _ => rfl), rfl⟩
      | succ k => rw [h1]; exact k6 k (by simpa using hk)
  | .io t :: ps, x, vs, g, i, ⟨b0, r, i2, cs, te, h1, h2, h3, h4, h5⟩, hn => by
    rw [h2] at hn
    have hn' := List.nodup_append.1 hn
    have hni := List.nodup_cons.1 hn'.2.1
    have hn2 : (g ++ i2).Nodup := List.nodup_append.2 ⟨hn'.1, hni.2, fun b hb b' hb' => hn'.2.2 b hb b' (List.mem_cons_of_mem _ hb')⟩
    obtain ⟨owns, k1, k2, k3, k4, k5, k6⟩ := params_ok hF ps h5 hn2
    refine ⟨[b0] :: owns, by simp [k1], by rw [h1]; simp [k2], by simp [paramsSt, k3], ?_, ?_, fun k hk => ?_⟩
    · rw [List.flatten_cons]
      refine List.nodup_append.2 ⟨by simp, k4, fun b hb b' hb' e => ?_⟩
      simp at hb
      subst hb; subst e
      rcases List.mem_append.1 (k5 b hb') with hm | hm
      · exact hn'.2.2 b hm b List.mem_cons_self rfl
      · exact hni.1 hm
    · intro b hb
      rw [List.flatten_cons] at hb
      rw [h2]
      rcases List.mem_append.1 hb with hb | hb
      · simp at hb; subst hb; simp
      · rcases List.mem_append.1 (k5 b hb) with hm | hm
        · exact List.mem_append_left _ hm
        · exact List.mem_append_right _ (List.mem_cons_of_mem _ hm)
    · cases k with
      | zero => exact ⟨⟨b0, cs, [], te, by rw [h1]; rfl, h3, ⟨rfl, h4.keep fun b hb hlt => ⟨hF b hb hlt, hlt, rfl⟩⟩, rfl⟩, rfl⟩
      | succ k => rw [h1]; exact k6 k (by simpa using hk)


theorem getE_start_left {fn : Func} {ps : List PM} {x : PMs.den ps} {k : Nat} (hl : (paramsSt ps x).length = ps.length) (hk : k < ps.length) : getE (startSt fn ps x) k = getE (paramsSt ps x) k := by
  simp [getE, startSt, List.getD_eq_getElem?_getD, List.getElem?_append_left (show k < (paramsSt ps x).length by omega)]
theorem getE_start_right {fn : Func} {ps : List PM} {x : PMs.den ps} {k : Nat} (hl : (paramsSt ps x).length = ps.length) (hk : ¬ k < ps.length) : getE (startSt fn ps x) k = (0, .undef) := by
  simp only [getE, startSt, List.getD_eq_getElem?_getD]
  rw [List.getElem?_append_right (by omega), List.getElem?_replicate]
  split <;> rfl

/-- Where a call begins. -/
theorem start_ok {pn : Nat → Option Nat} {P : Program} {F : Nat → Prop} {fn : Func} {ps : List PM} {x : PMs.den ps} {vs : List Value} {g i : List Nat} {T : Tabs} (hT : TabsOk T w fun b => F b ∧ ¬ b ∈ g ++ i) (hlen : ps.length ≤ fn.ntmps) (hp : ParamsRep P w F ps x vs g i) (hpre : ∀ b ∈ g ++ i, ¬ F b ∧ b < w.heap.size) (hn : (g ++ i).Nodup) :
    ∃ own, StOk { P, w0 := w, O := fun b => b ∈ g ++ i, G := F, pn, T, hT } (startSt fn ps x) (vs.toArray ++ Array.replicate (fn.ntmps - vs.toArray.size) undef) w own := by
  have base : ∃ owns : List (List Nat), owns.length = ps.length ∧ vs.length = ps.length ∧ (paramsSt ps x).length = ps.length ∧ owns.flatten.Nodup ∧ (∀ b ∈ owns.flatten, b ∈ g ++ i) ∧
      ∀ k, k < ps.length → AVRep { P, ver := fun s => (getE (startSt fn ps x) s).1, tm := fun s => (vs.toArray ++ Array.replicate (fn.ntmps - vs.toArray.size) undef).getD s undef, w, F := fun b => F b, own := fun _ => [], pn } (getE (paramsSt ps x) k).2 (vs.getD k undef) (owns.getD k []) ∧ (getE (paramsSt ps x) k).2.mentions = [] :=
    params_ok (X := { P, ver := _, tm := _, w, F := fun b => F b, own := fun _ => [], pn }) (fun b hb _ => hb) ps hp hn
  obtain ⟨owns, k1, k2, k3, k4, k5, k6⟩ := base
  obtain ⟨n1, n2⟩ := nodup_flatten_apart k4
  have mem : ∀ s b, b ∈ owns.getD s [] → b ∈ g ++ i := fun s b hb => by
    refine k5 b ?_
    rw [List.getD_eq_getElem?_getD] at hb
    cases hi : owns[s]? with
    | none => rw [hi] at hb; simp at hb
    | some y =>
      rw [hi] at hb
      exact List.mem_flatten.2 ⟨y, List.mem_of_getElem? hi, by simpa using hb⟩
  have hsl : (startSt fn ps x).length = fn.ntmps := by simp [startSt, k3]; omega
  have hz : ∀ k, ¬ k < ps.length → owns.getD k [] = [] := fun k hk => by
    rw [List.getD_eq_getElem?_getD, List.getElem?_eq_none (by omega)]; rfl
  refine ⟨fun s => owns.getD s [], ⟨?_, Kept.refl _ _, fun s b hb => ⟨.inl (mem s b hb), (hpre b (mem s b hb)).2⟩, n1, n2, fun s hs => hz s (by omega), fun s hs => ?_, fun s m hm => ?_⟩⟩
  · simp [hsl, k2]; omega
  · by_cases hk : s < ps.length
    · rw [getE_start_left k3 hk]
      obtain ⟨h1, h2⟩ := k6 s hk
      have e : (vs.toArray ++ Array.replicate (fn.ntmps - vs.toArray.size) undef).getD s undef = vs.getD s undef := by
        rw [Array.getD_eq_getD_getElem?, Array.getElem?_append_left (by simp [k2]; exact hk), List.getD_eq_getElem?_getD]
        simp
      rw [e]
      refine AVRep.keep (X := { P, ver := fun s => (getE (startSt fn ps x) s).1, tm := fun s => (vs.toArray ++ Array.replicate (fn.ntmps - vs.toArray.size) undef).getD s undef, w, F := fun b => F b, own := fun _ => [], pn }) (X' := sit { P, w0 := w, O := fun b => b ∈ g ++ i, G := F, pn, T, hT } (startSt fn ps x) (vs.toArray ++ Array.replicate (fn.ntmps - vs.toArray.size) undef) w (fun s => owns.getD s [])) ⟨rfl, rfl⟩ (fun b hb hlt => ⟨⟨.inl hb, hlt, fun s' hs' => (hpre b (mem s' b hs')).1 hb⟩, hlt, rfl⟩) (fun _ _ _ => rfl) (fun m hm => by rw [h2] at hm; cases hm) h1
    · rw [getE_start_right k3 hk]
      trivial
  · by_cases hk : s < ps.length
    · rw [getE_start_left k3 hk, (k6 s hk).2] at hm
      cases hm
    · rw [getE_start_right k3 hk] at hm
      cases hm


/-! ## Results -/
def resOf (tmps : Array Value) : ResultVar → Sem Value
  | .tmp t => pure (tmps.getD t undef)
  | .cell a t => do loadVar t (← asAddr (tmps.getD a undef))

theorem run_loadVar {P : Program} {t : Nat} {u : Ty} (h : TyB P t u) {ad : Addr} {cs : List Value} (hc : Cells w ad cs) (hl : cs.length = u.size) : (loadVar t ad).run P w = .ok (mkV u cs) w := by
  have := run_loadAt (w := w) h hc hl
  simpa only [Instr.loadAt, Instr.sureAddr, Sem.run_bind, Sem.run_pure, Result.andThen_ok] using this

theorem resVal_ok (hE : EnvOk E C.P) (h : StOk C σ tm w own) : (r : RM) → {v : ResultVar} → {x : r.den × List Nat} → (resVal E r v).run (getE σ) = some x → ∃ z, (resOf tm v).run C.P w = .ok z w ∧
    (match r, x with
      | .val t, x => RepV w (FW (sit C σ tm w own) x.2) t x.1 z
      | .own et e, x => ∃ s', x.2 = [s'] ∧ OwnRep w (C.free w own) et e x.1 z (own s') ∧ ∃ ys, (getE σ s').2 = .own et e ys)
  | .val t, .tmp s, x, he => by
    simp only [resVal, Q.run_get] at he
    exact ⟨tm.getD s undef, rfl, toVal_ok h (o := ⟨some s, (getE σ s).1, (getE σ s).2⟩) ⟨rfl, rfl, h.at_ s⟩ he⟩
  | .val u, .cell s t, x, he => by
    simp only [resVal, Q.run_get] at he
    have hat := h.at_ s
    split at he
    case h_2 => cases he
    rename_i c hc
    split at he
    case isFalse => cases he
    rename_i hcond
    split at he
    case h_2 => cases he
    rename_i y f hg
    have := Q.ret_some he
    subst this
    obtain ⟨b0, cs, bs', te, b1, b2, b3, b4⟩ := h.box (a := { tmps := tm, defers := [] }) hc
    obtain ⟨q1, q2, q3⟩ := b3.get hg
    have hcl := b3.length
    rw [List.drop_zero, List.take_of_length_le (by omega)] at q2
    rw [List.drop_zero, List.take_of_length_le (by omega)] at q3
    refine ⟨mkV u cs, ?_, RepV.ofCells ?_⟩
    · have hcs : Cells w ⟨b0, 0, none⟩ cs := by
        intro j u hj
        rw [addr_add_plain, cells_box b2, Nat.zero_add]
        exact hj
      have hl := run_loadVar (hE.ty t u hcond.1) hcs (by omega)
      have b1 : tm.getD s undef = ptr b0 0 := b1
      simp only [resOf, b1, ptr, asAddr, Sem.run_bind, Sem.run_pure, Result.andThen_ok]
      exact hl
    · cases f with
      | false => exact (q3 rfl).keep fun b hb hlt => ⟨.inl hb, hlt, rfl⟩
      | true =>
        refine q2.keep fun b hb hlt => ⟨?_, hlt, rfl⟩
        rcases hb with hb | hb
        · exact .inl hb
        · refine .inr ⟨s, List.mem_singleton.2 rfl, by show b ∈ own s; rw [b4]; exact List.mem_cons_of_mem _ hb, fun e => ?_⟩
          have e : tm.getD s undef = ptr b 0 := e
          have b1 : tm.getD s undef = ptr b0 0 := b1
          rw [b1] at e
          have e := (ptr_inj e).1
          subst e
          have hn := h.nodup s
          rw [b4] at hn
          exact (List.nodup_cons.1 hn).1 hb
  | .own et e, .tmp s, x, he => by
    simp only [resVal, Q.run_get] at he
    have hat := h.at_ s
    split at he
    · rename_i et' e' xs' h3
      rw [h3] at hat
      split at he
      · rename_i het
        subst het
        split at he
        · rename_i xs has
          have := Q.ret_some he
          subst this
          obtain ⟨e1, e2⟩ := Ty.as_some has
          injection e1 with e1
          subst e1
          have e2 : xs' = xs := e2
          subst e2
          exact ⟨_, rfl, s, rfl, hat, _, h3⟩
        · cases he
      · cases he
    · rename_i s' v0 h3
      rw [h3] at hat
      simp only [Q.run_get] at he
      split at he
      · rename_i hv
        have hu : tm.getD s' undef = tm.getD s undef := hat.2 hv
        have hat' := h.at_ s'
        rw [hu] at hat'
        split at he
        · rename_i et' e' xs' h4
          rw [h4] at hat'
          split at he
          · rename_i het
            subst het
            split at he
            · rename_i xs has
              have := Q.ret_some he
              subst this
              obtain ⟨e1, e2⟩ := Ty.as_some has
              injection e1 with e1
              subst e1
              have e2 : xs' = xs := e2
              subst e2
              exact ⟨_, rfl, s', rfl, hat', _, h4⟩
            · cases he
          · cases he
        · cases he
      · cases he
    · cases he
  | .own _ _, .cell _ _, x, he => by cases he


theorem resVals_ok (hE : EnvOk E C.P) (h : StOk C σ tm w own) : (rs : List RM) → {vars : List ResultVar} → {q : RMs.den rs × List Nat × List Nat} → (resVals E rs vars).run (getE σ) = some q → ∃ (vs : List Value) (bs : List Nat), (vars.mapM (resOf tm)).run C.P w = .ok vs w ∧
    CompsRep w (FW (sit C σ tm w own) q.2.2) (compsOf rs q.1) vs bs ∧ (∀ b ∈ bs, ∃ s ∈ q.2.1, b ∈ own s) ∧ (q.2.1.Nodup → bs.Nodup) ∧ ∀ s ∈ q.2.1, ∃ et e ys, (getE σ s).2 = .own et e ys
  | [], [], q, he => by
    have := Q.ret_some he
    subst this
    exact ⟨[], [], rfl, ⟨rfl, rfl⟩, fun b hb => (by cases hb), fun _ => List.nodup_nil, fun s hs => (by cases hs)⟩
  | .val t :: rs, v :: vars, q, he => by
    simp only [resVals] at he
    obtain ⟨x, h1, he⟩ := Q.bind_some he
    obtain ⟨q', h2, he⟩ := Q.bind_some he
    have := Q.ret_some he
    subst this
    obtain ⟨z, hz, hr⟩ := resVal_ok hE h (.val t) h1
    obtain ⟨vs, bs, k1, k2, k3, k4, k5⟩ := resVals_ok hE h rs h2
    refine ⟨z :: vs, bs, by simp only [List.mapM_cons, Sem.run_bind, hz, Result.andThen_ok, k1, Sem.run_pure], ⟨_, _, [], bs, rfl, rfl, ⟨rfl, hr.mono fun b hb _ => FW.mono (fun s hs => List.mem_append_left _ hs) hb⟩, CompsRep.turn rs (.inr fun b hb _ => FW.mono (fun s hs => List.mem_append_right _ hs) hb) k2⟩, k3, k4, k5⟩
  | .own et e :: rs, v :: vars, q, he => by
    simp only [resVals] at he
    obtain ⟨x, h1, he⟩ := Q.bind_some he
    obtain ⟨q', h2, he⟩ := Q.bind_some he
    have := Q.ret_some he
    subst this
    obtain ⟨z, hz, s', hx, hr, ys, hys⟩ := resVal_ok hE h (.own et e) h1
    obtain ⟨vs, bs, k1, k2, k3, k4, k5⟩ := resVals_ok hE h rs h2
    refine ⟨z :: vs, own s' ++ bs, by simp only [List.mapM_cons, Sem.run_bind, hz, Result.andThen_ok, k1, Sem.run_pure], ⟨_, _, own s', bs, rfl, rfl, hr.keep (fun b hb hlt => ⟨.inl hb, hlt, rfl⟩) (fun _ _ _ => rfl), k2⟩, fun b hb => ?_, fun hn => ?_, fun s2 hs2 => ?_⟩
    · rcases List.mem_append.1 hb with hb | hb
      · exact ⟨s', by simp [hx], hb⟩
      · obtain ⟨s2, g1, g2⟩ := k3 b hb
        exact ⟨s2, List.mem_append_right _ g1, g2⟩
    · simp only [hx] at hn
      have hn' := List.nodup_cons.1 hn
      refine List.nodup_append.2 ⟨h.nodup s', k4 hn'.2, fun b hb b' hb' e => ?_⟩
      subst e
      obtain ⟨s2, g1, g2⟩ := k3 b hb'
      have := h.apart s' s2 b hb g2
      subst this
      exact hn'.1 g1
    · simp only [hx] at hs2
      rcases List.mem_cons.1 hs2 with rfl | hs2
      · exact ⟨et, e, ys, hys⟩
      · exact k5 s2 hs2
  | [], _ :: _, _, he => by cases he
  | .val _ :: _, [], _, he => by cases he
  | .own _ _ :: _, [], _, he => by cases he


/-- The pinned slots still hold what they were handed. -/
def PinRel (tm : Nat → Value) : List PM → Nat → List Value → List Nat → Prop
  | [], _, _, i => i = []
  | .io _ :: ps, k, as, i => ∃ b i2, i = b :: i2 ∧ tm k = ptr b 0 ∧ PinRel tm ps (k + 1) as.tail i2
  | .ior _ _ :: ps, k, as, i => ∃ i1 i2, i = i1 ++ i2 ∧ tm k = as.headD undef ∧ i1 = (as.headD undef).ownBlock.toList ∧ PinRel tm ps (k + 1) as.tail i2
  | .val _ :: ps, k, as, i => PinRel tm ps (k + 1) as.tail i
  | .own _ _ :: ps, k, as, i => PinRel tm ps (k + 1) as.tail i
  | .fn _ _ :: ps, k, as, i => PinRel tm ps (k + 1) as.tail i
  | .nil _ _ :: ps, k, as, i => PinRel tm ps (k + 1) as.tail i
  | .rd _ :: ps, k, as, i => PinRel tm ps (k + 1) as.tail i
theorem PinRel.congr {tm tm' : Nat → Value} : (ps : List PM) → (k : Nat) → {as : List Value} → {i : List Nat} → (∀ s ∈ ioPins ps k, tm' s = tm s) → PinRel tm ps k as i → PinRel tm' ps k as i
  | [], _, _, _, _, h => h
  | .io _ :: ps, k, _, _, he, ⟨b, i2, h1, h2, h3⟩ => ⟨b, i2, h1, by rw [he k (by simp [ioPins])]; exact h2, h3.congr ps (k + 1) fun s hs => he s (by simp [ioPins, hs])⟩
  | .ior _ _ :: ps, k, _, _, he, ⟨i1, i2, h1, h2, h3, h4⟩ => ⟨i1, i2, h1, by rw [he k (by simp [ioPins])]; exact h2, h3, h4.congr ps (k + 1) fun s hs => he s (by simp [ioPins, hs])⟩
  | .val _ :: ps, k, _, _, he, h => PinRel.congr ps (k + 1) he h
  | .own _ _ :: ps, k, _, _, he, h => PinRel.congr ps (k + 1) he h
  | .fn _ _ :: ps, k, _, _, he, h => PinRel.congr ps (k + 1) he h
  | .nil _ _ :: ps, k, _, _, he, h => PinRel.congr ps (k + 1) he h
  | .rd _ :: ps, k, _, _, he, h => PinRel.congr ps (k + 1) he h
theorem PinRel.boxes {tm : Nat → Value} : (ps : List PM) → (k : Nat) → {as : List Value} → {i : List Nat} → PinRel tm ps k as i → ∃ ib : List Nat, (boxPins ps k).map tm = ib.map (fun b => ptr b 0)
  | [], _, _, _, _ => ⟨[], rfl⟩
  | .io _ :: ps, k, _, _, ⟨b, i2, h1, h2, h3⟩ => by
    obtain ⟨ib, hib⟩ := h3.boxes ps (k + 1)
    exact ⟨b :: ib, by simp [boxPins, h2, hib]⟩
  | .ior _ _ :: ps, k, _, _, ⟨i1, i2, h1, h2, h3, h4⟩ => by
    obtain ⟨ib, hib⟩ := h4.boxes ps (k + 1)
    exact ⟨ib, by simp [boxPins, hib]⟩
  | .val _ :: ps, k, _, _, h => PinRel.boxes ps (k + 1) h
  | .own _ _ :: ps, k, _, _, h => PinRel.boxes ps (k + 1) h
  | .fn _ _ :: ps, k, _, _, h => PinRel.boxes ps (k + 1) h
  | .nil _ _ :: ps, k, _, _, h => PinRel.boxes ps (k + 1) h
  | .rd _ :: ps, k, _, _, h => PinRel.boxes ps (k + 1) h
theorem boxPins_sub : (ps : List PM) → (k : Nat) → ∀ s ∈ boxPins ps k, s ∈ ioPins ps k
  | [], _, _, h => h
  | .io _ :: ps, k, s, h => by
    rcases List.mem_cons.1 h with rfl | h
    · simp [ioPins]
    · simp [ioPins, boxPins_sub ps (k + 1) s h]
  | .ior _ _ :: ps, k, s, h => by simp [ioPins, boxPins_sub ps (k + 1) s h]
  | .val _ :: ps, k, s, h => boxPins_sub ps (k + 1) s h
  | .own _ _ :: ps, k, s, h => boxPins_sub ps (k + 1) s h
  | .fn _ _ :: ps, k, s, h => boxPins_sub ps (k + 1) s h
  | .nil _ _ :: ps, k, s, h => boxPins_sub ps (k + 1) s h
  | .rd _ :: ps, k, s, h => boxPins_sub ps (k + 1) s h

/-- The boxes and rows at the end: slot, block. -/
theorem ioVals_ok (h : StOk C σ a.tmps w own) {F : Nat → Prop} (hF : ∀ b s n1 c, (getE σ s).2 = .box c → own s = n1 → b ∈ n1.tail → F b) (hF0 : ∀ b, C.free w own b → F b) : (ps : List PM) → (k : Nat) → {z : PMs.ioDen ps} → {as : List Value} → {i : List Nat} → (ioVals ps k).run (getE σ) = some z →
    PinRel (fun s => a.tmps.getD s undef) ps k as i → IosRep w F ps z as i ∧ ∀ b ∈ i, ∃ s, b ∈ own s ∧ ((a.tmps.getD s undef = ptr b 0 ∧ ∃ c, (getE σ s).2 = .box c) ∨ (s ∈ rowPins ps k ∧ ∃ et e ys, (getE σ s).2 = .own et e ys))
  | [], k, z, as, i, _, hi => by
    have hi : i = [] := hi
    subst hi
    exact ⟨rfl, fun b hb => by cases hb⟩
  | .val _ :: ps, k, z, as, i, he, hi => ioVals_ok h hF hF0 ps (k + 1) (z := z) he hi
  | .own _ _ :: ps, k, z, as, i, he, hi => ioVals_ok h hF hF0 ps (k + 1) (z := z) he hi
  | .fn _ _ :: ps, k, z, as, i, he, hi => ioVals_ok h hF hF0 ps (k + 1) (z := z) he hi
  | .nil _ _ :: ps, k, z, as, i, he, hi => ioVals_ok h hF hF0 ps (k + 1) (z := z) he hi
  | .rd _ :: ps, k, z, as, i, he, hi => ioVals_ok h hF hF0 ps (k + 1) (z := z) he hi
  | .ior et e :: ps, k, z, as, i, he, ⟨i1, i2, p1, p2, p3, p4⟩ => by
    simp only [ioVals, Q.run_get] at he
    split at he
    case h_2 => cases he
    rename_i et' e' xs hx
    split at he
    case isFalse => cases he
    rename_i hty
    subst hty
    split at he
    case h_2 => cases he
    rename_i x hs
    obtain ⟨r, h1, he⟩ := Q.bind_some he
    have := Q.ret_some he
    subst this
    obtain ⟨e1, e2⟩ := Ty.as_some hs
    injection e1 with e1
    subst e1
    have e2 : xs = x := e2
    subst e2
    obtain ⟨g1, g2⟩ := ioVals_ok h hF hF0 ps (k + 1) h1 p4
    have hat := h.at_ k
    rw [hx, show a.tmps.getD k undef = as.headD undef from p2] at hat
    have hown : OwnRep w (C.free w own) et e' xs (as.headD undef) (own k) := hat
    have hb : own k = i1 := by
      obtain ⟨cells, _, hb, _⟩ := hown
      rw [hb, p3]
    refine ⟨⟨i1, i2, p1, ?_, g1⟩, fun b hbm => ?_⟩
    · rw [hb] at hown
      exact hown.keep (fun b hb hlt => ⟨hF0 b hb, hlt, rfl⟩) (fun _ _ _ => rfl)
    · rw [p1] at hbm
      rcases List.mem_append.1 hbm with hbm | hbm
      · exact ⟨k, by rw [hb]; exact hbm, .inr ⟨by simp [rowPins], et, e', xs, hx⟩⟩
      · obtain ⟨s, q1, q2⟩ := g2 b hbm
        refine ⟨s, q1, q2.imp id fun ⟨q3, q4⟩ => ⟨by simp [rowPins, q3], q4⟩⟩
  | .io t :: ps, k, z, as, i, he, ⟨b, i2, p1, p2, p3⟩ => by
    subst p1
    simp only [ioVals, Q.run_get] at he
    split at he
    case h_2 => cases he
    rename_i c hc
    split at he
    case h_2 => cases he
    rename_i x fl hg
    split at hg
    case isFalse => cases hg
    rename_i hsz
    obtain ⟨r, h1, he⟩ := Q.bind_some he
    have := Q.ret_some he
    subst this
    obtain ⟨b0, cs, bs', te, b1, b2, b3, b4⟩ := h.box hc
    have hb : b0 = b := (ptr_inj (b1.symm.trans p2)).1
    subst hb
    obtain ⟨g1, g2⟩ := ioVals_ok h hF hF0 ps (k + 1) h1 p3
    obtain ⟨q1, q2, _⟩ := b3.get hg
    have hcl := b3.length
    rw [List.drop_zero, List.take_of_length_le (by omega)] at q2
    refine ⟨⟨b0, i2, cs, te, rfl, b2, q2.keep fun b hb hlt => ⟨?_, hlt, rfl⟩, g1⟩, fun b hb => ?_⟩
    · rcases hb with hb | hb
      · exact hF0 b hb
      · exact hF b k _ c hc b4 hb
    · rcases List.mem_cons.1 hb with rfl | hb
      · exact ⟨k, by rw [b4]; exact List.mem_cons_self, .inl ⟨b1, c, hc⟩⟩
      · exact g2 b hb

end
end Go.Vi
