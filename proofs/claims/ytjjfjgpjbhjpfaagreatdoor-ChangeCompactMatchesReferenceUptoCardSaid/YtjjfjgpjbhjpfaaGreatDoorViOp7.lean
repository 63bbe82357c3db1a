/- The abstract interpreter: parts of tuples, lengths, rows that grow. -/
import Derived.Test.YtjjfjgpjbhjpfaaGreatDoorViOp6
set_option linter.unusedVariables false
set_option linter.unusedSimpArgs false
set_option linter.unnecessarySimpa false
set_option linter.unusedSectionVars false
namespace Go.Vi
open Go.RowKit

section
variable {C : Ctx} {E : Env} {σ : St} {tm : Array Value} {a : Act} {w w' : World} {own : Nat → List Nat} {o : Oper} {p : Path} [Tabbed E C]

theorem CompsRep.at {F : Nat → Prop} : {cs : List Comp} → {vs : List Value} → {bs : List Nat} → {i : Nat} → {c : Comp} → CompsRep w F cs vs bs → cs[i]? = some c →
    ∃ v b1 b2 b3, vs[i]? = some v ∧ bs = b1 ++ b2 ++ b3 ∧ CompRep w F c v b2 ∧ CompsRep w F (cs.set i .gone) vs (b1 ++ b3)
  | [], _, _, _, _, _, hc => by cases hc
  | c :: cs, _, _, 0, _, ⟨v, r, b1, b2, h1, h2, h3, h4⟩, hc => by
    injection hc with hc
    subst hc
    exact ⟨v, [], b1, b2, by rw [h1]; rfl, by rw [h2]; rfl, h3, v, r, [], b2, h1, rfl, rfl, h4⟩
  | c :: cs, _, _, i + 1, _, ⟨v, r, b1, b2, h1, h2, h3, h4⟩, hc => by
    obtain ⟨v', c1, c2, c3, k1, k2, k3, k4⟩ := h4.at (i := i) hc
    exact ⟨v', b1 ++ c1, c2, c3, by rw [h1]; exact k1, by rw [h2, k2]; simp, k3, v, r, b1, c1 ++ c3, h1, by simp, h3, k4⟩

/-- A part of what s owns goes over to d. -/
theorem StOk.part (h : StOk C σ tm w own) {s d : Nat} (hs : s < σ.length) (hd : d < σ.length) (hne : d ≠ s) {av av' : AV} {v : Value} {b1 b2 b3 : List Nat} (hown : own s = b1 ++ b2 ++ b3)
    (hav : AVRep (sit C σ tm w own) av (tm.getD s undef) (b1 ++ b3)) (hav' : AVRep (sit C σ tm w own) av' v b2) (hm : av.mentions = []) (hm' : av'.mentions = []) :
    ∃ own', StOk C (applyUs σ [⟨s, true, av⟩, ⟨d, true, av'⟩]) (tm.setIfInBounds d v) w own' := by
  have eS : getE (applyUs σ [⟨s, true, av⟩, ⟨d, true, av'⟩]) s = ((getE σ s).1 + 1, av) := by
    show getE (applyU (applyU σ ⟨s, true, av⟩) ⟨d, true, av'⟩) s = _
    rw [getE_applyU_ne _ _ (Ne.symm hne), getE_applyU_eq σ ⟨s, true, av⟩ hs]
    rfl
  have eD : getE (applyUs σ [⟨s, true, av⟩, ⟨d, true, av'⟩]) d = ((getE σ d).1 + 1, av') := by
    show getE (applyU (applyU σ ⟨s, true, av⟩) ⟨d, true, av'⟩) d = _
    rw [getE_applyU_eq (applyU σ ⟨s, true, av⟩) ⟨d, true, av'⟩ (by rw [length_applyU]; exact hd), getE_applyU_ne _ _ hne]
    rfl
  have eO : ∀ x, x ≠ s → x ≠ d → getE (applyUs σ [⟨s, true, av⟩, ⟨d, true, av'⟩]) x = getE σ x := fun x h1 h2 => by
    show getE (applyU (applyU σ ⟨s, true, av⟩) ⟨d, true, av'⟩) x = _
    rw [getE_applyU_ne _ _ h2, getE_applyU_ne _ _ h1]
  have tD : (tm.setIfInBounds d v).getD d undef = v := getD_set_eq tm _ (by rw [h.size]; exact hd)
  have tS : (tm.setIfInBounds d v).getD s undef = tm.getD s undef := getD_set_ne tm _ (Ne.symm hne)
  let own' : Nat → List Nat := fun x => if x = d then b2 else if x = s then b1 ++ b3 else own x
  have oD : own' d = b2 := by simp [own']
  have oS : own' s = b1 ++ b3 := by simp [own', Ne.symm hne]
  have hnd := h.nodup s
  rw [hown] at hnd
  have n1 := List.nodup_append.1 hnd
  have n2 := List.nodup_append.1 n1.1
  have sub : ∀ x b, x = s ∨ x = d → b ∈ own' x → b ∈ own s := by
    rintro x b (rfl | rfl) hb
    · rw [oS] at hb
      rw [hown]
      rcases List.mem_append.1 hb with hb | hb <;> simp [hb]
    · rw [oD] at hb
      rw [hown]
      simp [hb]
  have dis : ∀ b, b ∈ own' s → b ∈ own' d → False := by
    intro b hb hb'
    rw [oS] at hb
    rw [oD] at hb'
    rcases List.mem_append.1 hb with hb | hb
    · exact n2.2.2 b hb b hb' rfl
    · exact n1.2.2 b (List.mem_append_right _ hb') b hb rfl
  refine ⟨own', h.update (fun x => x = s ∨ x = d) (length_applyUs _ _) (by simp) ?_ ?_ (Kept.refl _ _) ?_ ?_ ?_ ?_ ?_⟩
  · intro x hx
    have h1 : x ≠ s := fun e => hx (.inl e)
    have h2 : x ≠ d := fun e => hx (.inr e)
    exact ⟨eO x h1 h2, getD_set_ne tm _ h2, by simp [own', h1, h2]⟩
  · rintro x (rfl | rfl)
    · rw [eS]; exact .inl (Nat.lt_succ_self _)
    · rw [eD]; exact .inl (Nat.lt_succ_self _)
  · rintro x (rfl | rfl) <;> assumption
  · intro x hx
    refine ⟨fun b hb => .inr ⟨s, .inl rfl, sub x b hx hb⟩, ?_⟩
    rcases hx with rfl | rfl
    · rw [oS]
      exact List.nodup_append.2 ⟨n2.1, n1.2.1, fun b hb b' hb' => n1.2.2 b (List.mem_append_left _ hb) b' hb'⟩
    · rw [oD]; exact n2.2.1
  · rintro x y b (rfl | rfl) (rfl | rfl) hb hb'
    · rfl
    · exact (dis b hb hb').elim
    · exact (dis b hb' hb).elim
    · rfl
  · have hfree : ∀ b, C.free w own b → C.free w own' b := fun b hb => ⟨hb.1, hb.2.1, fun x hx => by
      by_cases h1 : x = s ∨ x = d
      · exact hb.2.2 s (sub x b h1 hx)
      · have h2 : x ≠ s := fun e => h1 (.inl e)
        have h3 : x ≠ d := fun e => h1 (.inr e)
        simp only [own', if_neg h2, if_neg h3] at hx
        exact hb.2.2 x hx⟩
    rintro x (rfl | rfl)
    · rw [eS, tS, oS]
      exact AVRep.keep (X := sit C σ tm w own) (X' := sit C _ _ w own') ⟨rfl, rfl⟩ (fun b hb hlt => ⟨hfree b hb, hlt, rfl⟩) (fun _ _ _ => rfl) (fun m hmm => by rw [hm] at hmm; cases hmm) hav
    · rw [eD, tD, oD]
      exact AVRep.keep (X := sit C σ tm w own) (X' := sit C _ _ w own') ⟨rfl, rfl⟩ (fun b hb hlt => ⟨hfree b hb, hlt, rfl⟩) (fun _ _ _ => rfl) (fun m hmm => by rw [hm'] at hmm; cases hmm) hav'
  · rintro x (rfl | rfl) m hmm
    · rw [eS, hm] at hmm; cases hmm
    · rw [eD, hm'] at hmm; cases hmm

theorem core_extract (h : StOk C σ a.tmps w own) (hp : PathOk (sit C σ a.tmps w own) p) {x : Operand} {i : Nat} (hop : o.op = .extract x i) {f : Eff}
    (he : (core E p o).run (getE σ) = some f) (hd : ∀ u ∈ f.upd, u.s < σ.length) (hc : allB f.chk) : OpOk C o a w (applyUs σ f.upd) := by
  unfold core at he
  rw [hop] at he
  simp only at he
  split at he
  case h_2 => cases he
  rename_i t
  rw [Q.run_get] at he
  split at he
  case h_2 => cases he
  rename_i cs hcs
  have hat := strip_rep hp (h.at_ t)
  rw [hcs] at hat
  obtain ⟨vs, h1, h2⟩ := hat
  have hr : ∀ v, vs[i]? = some v → (execOp a.eval o).run C.P w = .ok (.value v) w := fun v hv => by
    unfold execOp
    rw [hop]
    have e : a.eval (.tmp t) = .tuple vs.toArray := h1
    simp [Sem.run_bind, e, Instr.extract, hv]
  split at he
  · rename_i u y hi
    have := okE_some he
    subst this
    obtain ⟨v, b1, b2, b3, k1, k2, k3, k4⟩ := h2.at hi
    exact opOk_val h (hr v k1) hd k3.2
  · rename_i et e xs hi
    split at he
    case h_2 => cases he
    rename_i d hdst
    split at he
    · cases he
    · rename_i hne
      have := okE_some he
      subst this
      obtain ⟨v, b1, b2, b3, k1, k2, k3, k4⟩ := h2.at hi
      refine opOk_value (hr v k1) ?_
      rw [put_dst a hdst]
      exact h.part (s := t) (d := d) (hd ⟨t, true, .tup (cs.set i .gone)⟩ (by simp)) (hd ⟨d, true, .own et e xs⟩ (by simp)) hne k2 ⟨vs, h1, k4⟩ k3 rfl rfl
  · cases he

def OpdsOk (X : Sit) : List Op1 → List Value → Prop
  | [], [] => True
  | o :: os, v :: vs => OpdOk X o v ∧ OpdsOk X os vs
  | _, _ => False

theorem foldInt_ok (h : StOk C σ a.tmps w own) {P : Program} {g : Int → Int → Int} {m2 : Value → Value → Sem Value} (hg : ∀ k x y, (m2 (.int k x) (.int k y)).run P w = .ok (.int k (g x y)) w) (hh : ∀ (k : IntKind) x y, k.has x → k.has y → k.has (g x y)) {k : IntKind} :
    ∀ (os : List Op1) (vs : List Value) (n r : Int), k.has n → OpdsOk (sit C σ a.tmps w own) os vs → (foldInt g k n os).run (getE σ) = some r → (vs.foldlM m2 (.int k n)).run P w = .ok (.int k r) w ∧ k.has r
  | [], [], n, r, hn, _, he => by
    have := Q.ret_some he
    subst this
    exact ⟨rfl, hn⟩
  | o :: os, v :: vs, n, r, hn, ⟨ho, hos⟩, he => by
    obtain ⟨m, h1, he⟩ := Q.bind_some he
    split at he
    · rename_i hk
      obtain ⟨e1, g1⟩ := toInt_ok h ho h1
      subst hk
      subst e1
      obtain ⟨k1, k2⟩ := foldInt_ok h hg hh os vs (g n m.2) r (hh _ _ _ hn g1) hos he
      refine ⟨?_, k2⟩
      rw [List.foldlM_cons, Sem.run_bind, hg]
      exact k1
    · cases he

theorem opds_ok (h : StOk C σ a.tmps w own) (hp : PathOk (sit C σ a.tmps w own) p) : ∀ (xs : List Operand) (ts : List Nat) {os : List Op1}, (opds E p xs ts).run (getE σ) = some os → OpdsOk (sit C σ a.tmps w own) os (xs.map a.eval)
  | [], _, os, he => by
    have := Q.ret_some he
    subst this
    trivial
  | x :: xs, ts, os, he => by
    obtain ⟨o1, h1, he⟩ := Q.bind_some he
    obtain ⟨r, h2, he⟩ := Q.bind_some he
    have := Q.ret_some he
    subst this
    exact ⟨opd_ok' h hp h1, opds_ok h hp xs ts.tail h2⟩

/-! ## Rows that grow -/
theorem exists_list {α β : Type} {R : Nat → α → β → Prop} : ∀ (xs : List α), (∀ i x, xs[i]? = some x → ∃ c, R i x c) → ∃ cs : List β, cs.length = xs.length ∧ ∀ i x c, xs[i]? = some x → cs[i]? = some c → R i x c
  | [], _ => ⟨[], rfl, fun i x c hx => by cases hx⟩
  | y :: ys, h => by
    obtain ⟨c, hc⟩ := h 0 y rfl
    obtain ⟨cs, h1, h2⟩ := exists_list (R := fun i x c => R (i + 1) x c) ys fun i x hx => h (i + 1) x hx
    refine ⟨c :: cs, by simp [h1], fun i x d hx hd => ?_⟩
    cases i with
    | zero =>
      injection hx with hx
      injection hd with hd
      subst hx; subst hd
      exact hc
    | succ i => exact h2 i x d hx hd

/-- The cells of a row that is read. -/
def RowAt (w : World) (F : Nat → Prop) (e : Ty) (xs : List e.den) (v : Value) : Prop :=
  (v = .slice none 0 0 ∧ xs = []) ∨ ∃ (ad : Addr) (cap : Nat) (cells : List Value), v = .slice (some ad) xs.length cap ∧ cells.length = xs.length * e.size ∧ (∀ j u, cells[j]? = some u → w.cell? (ad.add j) = some u) ∧ ∀ i x, xs[i]? = some x → Rep w F e x ((cells.drop (i * e.size)).take e.size)

theorem OwnRep.rowAt {F : Nat → Prop} {et : Nat} {e : Ty} {xs : List e.den} {v : Value} {bs : List Nat} (h : OwnRep w F et e xs v bs) : RowAt w F e xs v := by
  obtain ⟨cells, k1, k2, k3⟩ := h
  rcases k1.2 with ⟨k4, k5⟩ | ⟨g, cap, cur, k4, _⟩
  · exact .inl ⟨k4, List.eq_nil_of_length_eq_zero k5⟩
  · exact .inr ⟨⟨g, 0, none⟩, cap, cells, k4, k1.1, k1.cells (by rw [k4]; rfl), k3⟩

theorem flatten_at {css : List (List Value)} {sz j : Nat} {u : Value} (h : ∀ c ∈ css, c.length = sz) (hu : css.flatten[j]? = some u) : ∃ i c, css[i]? = some c ∧ c[j % sz]? = some u ∧ i = j / sz ∧ j = i * sz + j % sz := by
  have hpos : 0 < sz := by
    rcases Nat.eq_zero_or_pos sz with h0 | h0
    · have : css.flatten = [] := List.flatten_eq_nil_iff.2 fun l hl => List.eq_nil_of_length_eq_zero ((h l hl).trans h0)
      rw [this] at hu; cases hu
    · exact h0
  have hj : j < css.flatten.length := (List.getElem?_eq_some_iff.1 hu).1
  rw [flatten_length h] at hj
  have hi : j / sz < css.length := (Nat.div_lt_iff_lt_mul hpos).2 hj
  have e := flatten_drop_take h (List.getElem?_eq_getElem hi)
  have hdm : j / sz * sz + j % sz = j := by rw [Nat.mul_comm]; exact Nat.div_add_mod j sz
  refine ⟨j / sz, css[j / sz], List.getElem?_eq_getElem hi, ?_, rfl, hdm.symm⟩
  rw [← e.1, List.getElem?_take, if_pos (Nat.mod_lt _ hpos), List.getElem?_drop, hdm]
  exact hu

theorem SliceRep.rowAt {F : Nat → Prop} {e : Ty} {xs : List e.den} {v : Value} (h : SliceRep w F (Rep w F e) e.size xs v) : RowAt w F e xs v := by
  rcases h with h | ⟨ad, cap, h1, h2, h3, h4⟩
  · exact .inl h
  · obtain ⟨css, k1, k2⟩ := exists_list (R := fun i x cs => Cells w (ad.add (i * e.size)) cs ∧ Rep w F e x cs) xs fun i x hx => (h4 i x hx).2.2
    have hl : ∀ c ∈ css, c.length = e.size := by
      intro c hc
      obtain ⟨i, hi, rfl⟩ := List.getElem_of_mem hc
      exact (k2 i _ _ (List.getElem?_eq_getElem (by omega)) (List.getElem?_eq_getElem hi)).2.length
    refine .inr ⟨ad, cap, css.flatten, h1, by rw [flatten_length hl, k1], fun j u hu => ?_, fun i x hx => ?_⟩
    · obtain ⟨i, c, g1, g2, g3, g4⟩ := flatten_at hl hu
      have hi : i < xs.length := by rw [← k1]; exact (List.getElem?_eq_some_iff.1 g1).1
      have := (k2 i _ c (List.getElem?_eq_getElem hi) g1).1 _ _ g2
      rw [addr_add_add] at this
      rw [g4]
      rw [g4] at this
      simpa using this
    · have hi : i < css.length := by rw [k1]; exact (List.getElem?_eq_some_iff.1 hx).1
      rw [(flatten_drop_take hl (List.getElem?_eq_getElem hi)).1]
      exact (k2 i x _ hx (List.getElem?_eq_getElem hi)).2

theorem rowOf_ok (h : StOk C σ a.tmps w own) {o1 : Op1} {v : Value} (ho : OpdOk (sit C σ a.tmps w own) o1 v) {q : ((e : Ty) × List e.den) × List Nat} (he : (rowOf o1).run (getE σ) = some q) : RowAt w (C.free w own) q.1.1 q.1.2 v := by
  obtain ⟨os, ov, oa⟩ := o1
  unfold rowOf at he
  cases oa with
  | own et e xs =>
    have := Q.ret_some he
    subst this
    cases os with
    | none => exact OwnRep.rowAt (bs := []) ho
    | some s => exact OwnRep.rowAt ho.2.2
  | nilr et e =>
    have := Q.ret_some he
    subst this
    rw [(ho.unowned rfl).2]
    exact OwnRep.rowAt (bs := []) (OwnRep.nil_ w _ et e)
  | val t xs =>
    cases t with
    | slice e =>
      have := Q.ret_some he
      subst this
      exact SliceRep.rowAt (RepV.slice (ho.unowned rfl).2)
    | _ => cases he
  | ref s v0 =>
    simp only [Q.run_get] at he
    split at he
    · rename_i hv
      have hu : a.tmps.getD s undef = v := (ho.unowned rfl).2 hv
      have hat := h.at_ s
      rw [hu] at hat
      split at he
      · rename_i et e xs h3
        rw [h3] at hat
        have := Q.ret_some he
        subst this
        exact OwnRep.rowAt hat
      · rename_i e xs h3
        rw [h3] at hat
        have := Q.ret_some he
        subst this
        exact SliceRep.rowAt (RepV.slice hat.2)
      · cases he
    · cases he
  | bref s v0 off u =>
    simp only at he
    split at he
    · rename_i hag
      rw [Q.run_get] at he
      split at he
      · rename_i hv
        split at he
        · rename_i r h3
          obtain ⟨et, e, xs⟩ := r
          have := Q.ret_some he
          subst this
          obtain ⟨_, b1, b2, b3, q1, _⟩ := h.rowAt h3 (bref_handle (ho.unowned rfl) hag hv)
          exact OwnRep.rowAt q1
        · cases he
      · cases he
    · cases he
  | _ => cases he

end
end Go.Vi
