/- The abstract interpreter: appending, the built-in functions. -/
import Derived.Test.YtjjfjgpjbhjpfaaGreatDoorViOp7
import Derived.Lib.AppendZeros
import Derived.Lib.AppendStr
set_option linter.unusedVariables false
set_option linter.unusedSimpArgs false
set_option linter.unnecessarySimpa false
set_option linter.unusedSectionVars false
namespace Go.Vi
open Go.RowKit

section
variable {C : Ctx} {E : Env} {σ : St} {tm : Array Value} {a : Act} {w w' : World} {own : Nat → List Nat} {o : Oper} {p : Path} [Tabbed E C]

/-- What is left where the row came from. -/
def LeftOk (C : Ctx) (σ : St) (tm : Array Value) (w : World) (own : Nat → List Nat) (ro : Option (Nat × AV)) (b2 : List Nat) : Prop :=
  match ro with
  | none => b2 = []
  | some p => p.1 < σ.length ∧ p.2.mentions = [] ∧ ∃ b1 b3, own p.1 = b1 ++ (b2 ++ b3) ∧ ∀ W, Kept (fun k => k ∈ b2) w W → AVRep { sit C σ tm w own with w := W } p.2 (tm.getD p.1 undef) (b1 ++ b3)

theorem ownRowOf_ok (h : StOk C σ a.tmps w own) {o1 : Op1} {v : Value} (ho : OpdOk (sit C σ a.tmps w own) o1 v) (hs : ∀ s, o1.s = some s → o1.a ≠ .undef → s < σ.length) {r : Option (Nat × AV) × Nat × ((e : Ty) × List e.den)} (he : (ownRowOf o1).run (getE σ) = some r) :
    ∃ b2, OwnRep w (C.free w own) r.2.1 r.2.2.1 r.2.2.2 v b2 ∧ LeftOk C σ a.tmps w own r.1 b2 := by
  obtain ⟨os, ov, oa⟩ := o1
  unfold ownRowOf at he
  cases oa with
  | own et e xs =>
    have := Q.ret_some he
    subst this
    cases os with
    | none => exact ⟨[], ho, rfl⟩
    | some s => exact ⟨own s, ho.2.2, hs s rfl (by simp), rfl, [], [], by simp, fun W _ => trivial⟩
  | nilr et e =>
    have := Q.ret_some he
    subst this
    rw [(ho.unowned rfl).2]
    exact ⟨[], OwnRep.nil_ w _ et e, rfl⟩
  | ref s v0 =>
    simp only [Q.run_get] at he
    split at he
    · rename_i hv
      have hu : a.tmps.getD s undef = v := (ho.unowned rfl).2 hv
      have hat := h.at_ s
      rw [hu] at hat
      split at he
      · rename_i et e xs h3
        rw [h3] at hat
        have := Q.ret_some he
        subst this
        refine ⟨own s, hat, ?_, rfl, [], [], by simp, fun W _ => trivial⟩
        by_cases hlt : s < σ.length
        · exact hlt
        · have : getE σ s = (0, .undef) := by simp [getE, List.getD, List.getElem?_eq_none (Nat.le_of_not_lt hlt)]
          rw [this] at h3
          cases h3
      · cases he
    · cases he
  | bref s v0 off u =>
    simp only at he
    split at he
    · rename_i hag
      rw [Q.run_get] at he
      split at he
      · rename_i hv
        split at he
        · rename_i r0 a0 h3 h4
          obtain ⟨et, e, xs⟩ := r0
          have := Q.ret_some he
          subst this
          obtain ⟨hlt, b1, b2, b3, q1, q2, q3, q4⟩ := h.rowAt h3 (bref_handle (ho.unowned rfl) hag hv)
          obtain ⟨_, hm⟩ := q4 w (.hole 1) [] a0 (Kept.refl _ _) ⟨rfl, rfl⟩ h4
          exact ⟨b2, q1, hlt, hm, b1, b3, q2, fun W hk => (q4 W (.hole 1) [] a0 hk ⟨rfl, rfl⟩ h4).1⟩
        · cases he
      · cases he
    · cases he
  | _ => cases he

/-- What an append comes to. -/
theorem append_run {P : Program} {t ty e : Nat} {i : TypeInfo} {z : Value} {size bytes : Nat} (ht : P.underlying t = some (.slice e)) (hi : P.info? e = some i) (hz : i.zero = some z)
    (hsize : i.size = size) (hby : i.bytes = bytes) (hzs : z.cells.size = size) (hsz : 0 < size) {v : Value} {n : Nat} {xs : List Value} (hown : w.ownsRow 0 e size v n xs)
    {ad : Addr} {m c : Nat} {news : List Value} (hl : news.length = m * size) (hnews : ∀ j u, news[j]? = some u → w.cell? (ad.add j) = some u) (h1 : ∀ u ∈ news, u.oneCell' = true)
    (h63 : n + m ≤ maxLen) (hbytes : (n + m) * bytes ≤ 140737488355328) :
    ∃ v' w', (Builtin.append_ #[t, t] ty #[v, .slice (some ad) m c]).run P w = .ok v' w' ∧ w'.ownsRow 0 e size v' (n + m) (xs ++ news) ∧ w.grownBy w' v.ownBlock ∧
      ∀ b ∈ v'.ownBlock.toList, (w.heap.size ≤ b ∧ b < w'.heap.size) ∨ b ∈ v.ownBlock.toList := by
  obtain ⟨v', w', k1, k2, k3, k4⟩ := run_append_own (P := P) w 0 t ty e i z size bytes ht hi hz hsize hby hzs hsz v n xs hown ad m c news hl hnews h1 h63 hbytes (Nat.zero_le _)
  refine ⟨v', w', k1, k2, k3, ?_⟩
  subst hsize
  subst hby
  have hsmall : n + m ≤ 9223372036854775807 := by simp only [maxLen] at h63; omega
  have fresh : ∀ {cap : Nat} {o : Obj} {w1 : World}, w1.heap.size = w.heap.size → (Builtin.append_ #[t, t] ty #[v, .slice (some ad) m c]).run P w = .ok (.slice (some ⟨w.heap.size, 0, none⟩) (n + m) cap) (w1.alloc o) → ∀ b ∈ v'.ownBlock.toList, (w.heap.size ≤ b ∧ b < w'.heap.size) ∨ b ∈ v.ownBlock.toList := by
    intro cap o w1 hs hr b hb
    rw [hr] at k1
    injection k1 with e1 e2
    subst e1
    subst e2
    simp [Value.ownBlock] at hb
    subst hb
    exact .inl ⟨Nat.le_refl _, by simp [hs]⟩
  rcases hown.2 with ⟨rfl, rfl⟩ | ⟨g, cap, cur, rfl, hbg, hg, hnc, hcm, hcs, htake⟩
  · have hx : xs = [] := List.eq_nil_of_length_eq_zero (by simpa using hown.1)
    by_cases hm : m = 0
    · have := (k4.2 ⟨rfl, hm⟩)
      subst this
      intro b hb
      cases hb
    · have hr := run_append_nil (P := P) w t ty e i z ht hi hz ad m c news hl hnews (by omega) (by omega) (by have hb := hbytes; simp only [Nat.zero_add] at hb; omega)
      exact fresh (w1 := w.drew) (cap := grownCap w m 0 e) (by rfl) (by rw [hr, Nat.zero_add])
  · by_cases hroom : n + m ≤ cap
    · have hfit : n * i.size + news.length ≤ cur.size := by rw [hl, hcs, ← Nat.add_mul]; exact Nat.mul_le_mul_right _ hroom
      have hr := run_append_room (P := P) w t ty e i ht hi g n cap cur hg ad m c news hl hnews h1 hroom hfit
      rw [hr] at k1
      injection k1 with e1 e2
      subst e1
      intro b hb
      exact .inr hb
    · have holds : ∀ j u, xs[j]? = some u → w.cell? ((⟨g, 0, none⟩ : Addr).add j) = some u := hown.cells (g := g) rfl
      have hr := run_append_grow (P := P) w t ty e i z ht hi hz ⟨g, 0, none⟩ n cap xs hown.1 holds ad m c news hl hnews (by omega) (by omega) (growslice_fits (by omega) hbytes)
      exact fresh (w1 := w.drew) (by rfl) hr

/-- The end of every append onto a row of the call's own. -/
theorem append_fin (h : StOk C σ a.tmps w own) {d et : Nat} {e : Ty} {xs zs : List e.den} {ro : Option (Nat × AV)} {x : Value} {cells : List Value} (hdst : o.dst = some d) (c6 : ro.map (·.1) ≠ some d) (hdl : d < σ.length)
    (hleft : LeftOk C σ a.tmps w own ro x.ownBlock.toList) (g1 : w.ownsRow 0 et e.size x xs.length cells) (g3 : ∀ (i : Nat) (u : e.den), xs[i]? = some u → Rep w (C.free w own) e u ((cells.drop (i * e.size)).take e.size))
    (key : ∃ v' w' news, (execOp a.eval o).run C.P w = .ok (.value v') w' ∧ w'.ownsRow 0 et e.size v' (xs.length + zs.length) (cells ++ news) ∧ w.grownBy w' x.ownBlock ∧
      (∀ b ∈ v'.ownBlock.toList, (w.heap.size ≤ b ∧ b < w'.heap.size) ∨ b ∈ x.ownBlock.toList) ∧ (∀ (i : Nat) (u : e.den), zs[i]? = some u → Rep w (C.free w own) e u ((news.drop (i * e.size)).take e.size))) :
    OpOk C o a w (applyUs σ (leftU ro ++ [⟨d, true, .own et e (lapp xs zs)⟩])) := by
  obtain ⟨v', w', news, a1, a2, a3, a4, a5⟩ := key
  refine opOk_value (v := v') (w' := w') a1 ?_
  rw [put_dst a hdst]
  have hkept : Kept (fun k => k ∈ x.ownBlock.toList) w w' := (Kept.grown a3).mono fun k hk => by rw [← hk]; simp
  have hnot : ∀ b, C.free w own b → some b ≠ x.ownBlock := fun b hb e => by
    cases ro with
    | none =>
      have : x.ownBlock.toList = [] := hleft
      rw [← e] at this
      cases this
    | some p =>
      obtain ⟨_, _, b1, b3, q2, _⟩ := hleft
      refine hb.2.2 p.1 ?_
      rw [q2, ← e]
      exact List.mem_append_right _ (List.mem_append_left _ (by simp))
  have hfree : ∀ b, C.free w own b → b < w.heap.size → (C.free w own b) ∧ b < w'.heap.size ∧ w'.heap[b]? = w.heap[b]? := fun b hb hlt => ⟨hb, Nat.lt_of_lt_of_le hlt a3.size, a3.block b hlt (hnot b hb)⟩
  have hnd : v'.ownBlock.toList.Nodup := by cases v'.ownBlock <;> simp
  have hrow : OwnRep w' (C.free w own) et e (lapp xs zs) v' v'.ownBlock.toList := by
    refine ⟨cells ++ news, by simpa [lapp_def] using a2, rfl, fun i u hi => ?_⟩
    have hcl : cells.length = xs.length * e.size := g1.1
    by_cases hlt : i < xs.length
    · have hi' : xs[i]? = some u := by
        rw [lapp_def] at hi
        rwa [List.getElem?_append_left hlt] at hi
      have hle : (i + 1) * e.size ≤ xs.length * e.size := Nat.mul_le_mul_right _ hlt
      rw [Nat.add_mul, Nat.one_mul] at hle
      rw [drop_take_of_left (by omega)]
      exact (g3 i u hi').keep hfree
    · have hi' : zs[i - xs.length]? = some u := by
        rw [lapp_def] at hi
        rwa [List.getElem?_append_right (by omega)] at hi
      have hle : xs.length * e.size ≤ i * e.size := Nat.mul_le_mul_right _ (by omega)
      rw [drop_take_of_right (by omega), hcl, ← Nat.sub_mul]
      exact (a5 _ u hi').keep hfree
  cases ro with
  | none =>
    have h0 : x.ownBlock.toList = [] := hleft
    exact h.mut hdl [] (fun _ hx => by cases hx) (hkept.mono fun k hk => by rw [h0] at hk; cases hk) (av := .own et e (lapp xs zs)) (v := v') (bs := v'.ownBlock.toList) (fun b hb => by
      rcases a4 b hb with h | h
      · exact .inl h
      · rw [h0] at h; cases h) hnd hrow rfl
  | some p =>
    obtain ⟨q0, qm, b1, b3, q2, q4⟩ := hleft
    have hne : p.1 ≠ d := fun e => c6 (by rw [← e]; rfl)
    exact h.mut2 hdl q0 hne q2 (hkept.mono fun k hk => .inr hk) (fun b hb => by
      rcases a4 b hb with h | h
      · exact .inl h
      · exact .inr (.inr h)) hnd hrow rfl (q4 w' hkept) qm

theorem appendE_ok (hE : EnvOk E C.P) (h : StOk C σ a.tmps w own) {t : Nat} {x1 y1 : Op1} {x y : Value} (hx : OpdOk (sit C σ a.tmps w own) x1 x) (hxs : ∀ s, x1.s = some s → x1.a ≠ .undef → s < σ.length) (hy : OpdOk (sit C σ a.tmps w own) y1 y)
    {f : Eff} (he : (appendE E o t x1 y1).run (getE σ) = some f) (hd : ∀ u ∈ f.upd, u.s < σ.length) (hc : allB f.chk)
    (hr : ∃ ty, (execOp a.eval o).run C.P w = ((Builtin.append_ #[t, t] ty #[x, y]).run C.P w).andThen fun v w => .ok (.value v) w) : OpOk C o a w (applyUs σ f.upd) := by
  unfold appendE at he
  obtain ⟨r, h1, he⟩ := Q.bind_some he
  obtain ⟨q, h2, he⟩ := Q.bind_some he
  split at he
  case h_2 => cases he
  rename_i d hdst
  split at he
  case isFalse => cases he
  rename_i hcond
  obtain ⟨c1, c2, c3, c4, c5, c6⟩ := hcond
  split at he
  case h_2 => cases he
  rename_i ys hys
  have := Q.ret_some he
  subst this
  obtain ⟨bs, r1, r2⟩ := ownRowOf_ok h hx hxs h1
  have hrow := rowOf_ok h hy h2
  obtain ⟨i, z, k1, k2, k3, k4, k5, k6, k7⟩ := hE.elem' c1
  obtain ⟨ro, et, ⟨e, xs⟩⟩ := r
  obtain ⟨⟨e', zs⟩, qo⟩ := q
  simp only at c1 c2 c3 c4 c5 c6 r1 r2 hrow hd hc hys k3 k5 k7 ⊢
  have hee : e' = e := by
    obtain ⟨e1, _⟩ := Ty.as_some hys
    injection e1
  subst hee
  have hzs : zs = ys := by
    obtain ⟨e1, e2⟩ := Ty.as_some hys
    exact e2
  subst hzs
  obtain ⟨cells, g1, g2, g3⟩ := r1
  obtain ⟨ty, hr⟩ := hr
  have hroom : ((xs.length : Int) + (zs.length : Int)) * (E.bytes et : Int) ≤ 140737488355328 := by
    have := hc _ (List.mem_singleton.2 rfl)
    rw [room2_def, lenI_def, lenI_def] at this
    exact of_decide_eq_true this
  have hbytes : (xs.length + zs.length) * E.bytes et ≤ 140737488355328 := by
    have : (((xs.length + zs.length) * E.bytes et : Nat) : Int) ≤ 140737488355328 := by
      rw [Int.natCast_mul, Int.natCast_add]; exact hroom
    omega
  have h63 : xs.length + zs.length ≤ maxLen := by
    have : (xs.length + zs.length) * 1 ≤ (xs.length + zs.length) * E.bytes et := Nat.mul_le_mul_left _ (by omega)
    simp only [maxLen]; omega
  have hdl : d < σ.length := hd ⟨d, true, .own et e' (lapp xs zs)⟩ (by simp)
  rw [g2] at r2
  -- what it comes to
  have key : ∃ v' w' news, (execOp a.eval o).run C.P w = .ok (.value v') w' ∧ w'.ownsRow 0 et e'.size v' (xs.length + zs.length) (cells ++ news) ∧ w.grownBy w' x.ownBlock ∧
      (∀ b ∈ v'.ownBlock.toList, (w.heap.size ≤ b ∧ b < w'.heap.size) ∨ b ∈ x.ownBlock.toList) ∧ (∀ (i : Nat) (u : e'.den), zs[i]? = some u → Rep w (C.free w own) e' u ((news.drop (i * e'.size)).take e'.size)) := by
    rcases hrow with ⟨rfl, hz0⟩ | ⟨ad, cap, news, rfl, n1, n2, n3⟩
    · have hz0 : zs = [] := hz0
      subst hz0
      refine ⟨x, w, [], ?_, by simpa using g1, ⟨rfl, rfl, rfl, Nat.le_refl _, fun _ _ _ => rfl⟩, fun b hb => .inr hb, fun i u hi => by cases hi⟩
      rw [hr]
      rw [run_append_owned_none (w := w) 0 t ty et i e'.size (by rw [k1, c2]) (by rw [c2]; exact k2) x xs.length cells g1]
      rfl
    · obtain ⟨v', w', a1, a2, a3, a4⟩ := append_run (P := C.P) (t := t) (ty := ty) (e := et) (i := i) (z := z) (size := e'.size) (bytes := E.bytes et) (by rw [k1, c2]) (by rw [c2]; exact k2) k4 k3 (by rw [k6, c2]) k5 (by omega) g1 (c := cap) n1 n2 (by
        intro u hu
        obtain ⟨j, hj, rfl⟩ := List.getElem_of_mem hu
        have hpos : 0 < e'.size := by omega
        have hjlt : j / e'.size < zs.length := (Nat.div_lt_iff_lt_mul hpos).2 (by rw [← n1]; exact hj)
        have hrep := n3 _ _ (List.getElem?_eq_getElem hjlt)
        have hm := Nat.mod_lt j hpos
        have hdm : j / e'.size * e'.size + j % e'.size = j := by rw [Nat.mul_comm]; exact Nat.div_add_mod j _
        refine hrep.oneCell _ (List.mem_of_getElem? (i := j % e'.size) ?_)
        rw [List.getElem?_take, if_pos hm, List.getElem?_drop, hdm]
        exact List.getElem?_eq_getElem hj) h63 hbytes
      exact ⟨v', w', news, by rw [hr, a1]; rfl, a2, a3, a4, n3⟩
  exact append_fin h hdst c6 hdl r2 g1 g3 key

theorem append_runS {P : Program} {t u ty e : Nat} {i : TypeInfo} (ht : P.underlying t = some (.slice e)) (hu : P.underlying u = some .string) (hi : P.info? e = some i) (hz : i.zero = some (.int .u8 0))
    (hsize : i.size = 1) (hby : i.bytes = 1) {v : Value} {n : Nat} {xs : List Value} (hown : w.ownsRow 0 e 1 v n xs) (s : ByteArray) (h63 : n + s.size ≤ maxLen) (hbytes : n + s.size ≤ 140737488355328) :
    ∃ v' w', (Builtin.append_ #[t, u] ty #[v, .string s]).run P w = .ok v' w' ∧ w'.ownsRow 0 e 1 v' (n + s.size) (xs ++ Lib.strCells s) ∧ w.grownBy w' v.ownBlock ∧
      ∀ b ∈ v'.ownBlock.toList, (w.heap.size ≤ b ∧ b < w'.heap.size) ∨ b ∈ v.ownBlock.toList := by
  obtain ⟨v', w', k1, k2, k3, k4⟩ := Lib.run_append_own_string (P := P) w 0 t u ty e i ht hu hi hz hsize hby v n xs hown s h63 hbytes (Nat.zero_le _)
  refine ⟨v', w', k1, k2, k3, ?_⟩
  have hsmall : n + s.size ≤ 9223372036854775807 := by simp only [maxLen] at h63; omega
  have fresh : ∀ {cap : Nat} {o : Obj} {w1 : World} {m : Nat}, w1.heap.size = w.heap.size → (Builtin.append_ #[t, u] ty #[v, .string s]).run P w = .ok (.slice (some ⟨w.heap.size, 0, none⟩) m cap) (w1.alloc o) → ∀ b ∈ v'.ownBlock.toList, (w.heap.size ≤ b ∧ b < w'.heap.size) ∨ b ∈ v.ownBlock.toList := by
    intro cap o w1 m hs hr b hb
    rw [hr] at k1
    injection k1 with e1 e2
    subst e1
    subst e2
    simp [Value.ownBlock] at hb
    subst hb
    exact .inl ⟨Nat.le_refl _, by simp [hs]⟩
  rcases hown.2 with ⟨rfl, rfl⟩ | ⟨g, cap, cur, rfl, hbg, hg, hnc, hcm, hcs, htake⟩
  · by_cases hm : s.size = 0
    · have := (k4.2 ⟨rfl, hm⟩)
      subst this
      intro b hb
      cases hb
    · have hr := run_append_nil_string (P := P) w t u ty e i (.int .u8 0) ht hu hi hz s (by omega) (by omega) (by rw [hby]; omega)
      exact fresh (w1 := w.drew) (by rfl) hr
  · by_cases hroom : n + s.size ≤ cap
    · have hcs' : cur.size = cap := by simpa using hcs
      have hr := Lib.run_append_room_string (P := P) w t u ty e i ht hu hi hsize g n cap cur hg s hroom (by omega)
      rw [hr] at k1
      injection k1 with e1 e2
      subst e1
      intro b hb
      exact .inr hb
    · have holds : ∀ j x, xs[j]? = some x → w.cell? ((⟨g, 0, none⟩ : Addr).add j) = some x := hown.cells (g := g) rfl
      have hr := Lib.run_append_grow_string (P := P) w t u ty e i (.int .u8 0) ht hu hi hz ⟨g, 0, none⟩ n cap xs (by rw [hsize]; exact hown.1) holds s (by omega) (by omega) (by rw [hby]; exact growslice_fits (by omega) (by omega))
      exact fresh (w1 := w.drew) (by rfl) hr

theorem getElem?_drop_take_one {l : List Value} {i : Nat} {u : Value} (h : l[i]? = some u) : (l.drop (i * 1)).take 1 = [u] := by
  rw [Nat.mul_one]
  obtain ⟨hi, rfl⟩ := List.getElem?_eq_some_iff.1 h
  rw [List.drop_eq_getElem_cons hi]
  rfl

theorem appendS_ok (hE : EnvOk E C.P) (h : StOk C σ a.tmps w own) {t t' : Nat} {x1 y1 : Op1} {x y : Value} (hx : OpdOk (sit C σ a.tmps w own) x1 x) (hxs : ∀ s, x1.s = some s → x1.a ≠ .undef → s < σ.length) (hy : OpdOk (sit C σ a.tmps w own) y1 y)
    {f : Eff} (he : (appendS E o t t' x1 y1).run (getE σ) = some f) (hd : ∀ u ∈ f.upd, u.s < σ.length) (hc : allB f.chk)
    (hr : ∃ ty, (execOp a.eval o).run C.P w = ((Builtin.append_ #[t, t'] ty #[x, y]).run C.P w).andThen fun v w => .ok (.value v) w) : OpOk C o a w (applyUs σ f.upd) := by
  unfold appendS at he
  obtain ⟨r, h1, he⟩ := Q.bind_some he
  obtain ⟨q, h2, he⟩ := Q.bind_some he
  split at he
  case h_2 => cases he
  rename_i d hdst
  split at he
  case isFalse => cases he
  rename_i hcond
  obtain ⟨c1, c2, c3, c5, c6⟩ := hcond
  split at he
  case h_2 => cases he
  rename_i xs0 hxs0
  have := Q.ret_some he
  subst this
  obtain ⟨bs, r1, r2⟩ := ownRowOf_ok h hx hxs h1
  obtain ⟨i, z, k1, k2, k3, k4, k5, k6, k7⟩ := hE.elem' c1
  obtain ⟨ro, et, ⟨e, xs⟩⟩ := r
  simp only at c1 c2 c3 c5 c6 r1 r2 hd hc hxs0 ⊢
  have hee : e = .int .u8 := by
    obtain ⟨e1, _⟩ := Ty.as_some hxs0
    injection e1
  subst hee
  have hzs : xs = xs0 := by
    obtain ⟨e1, e2⟩ := Ty.as_some hxs0
    exact e2
  subst hzs
  obtain ⟨s, qo⟩ := q
  simp only at hd hc ⊢
  obtain ⟨e2, hsl⟩ := RepV.str (toVal_ok h hy h2)
  obtain ⟨cells, g1, g2, g3⟩ := r1
  obtain ⟨ty, hr⟩ := hr
  rw [g2] at r2
  have hroom : (xs.length : Int) + (s.length : Int) ≤ 140737488355328 := by
    have := hc _ (List.mem_singleton.2 rfl)
    rw [room2_def, lenI_def, lenI_def] at this
    have := of_decide_eq_true this
    simpa using this
  have hz : z = .int .u8 0 := by
    have hrep : z.cells.toList = [.int .u8 0] := (k7 w (fun _ => True)).1
    obtain ⟨i', z', q1, q2, q3, _⟩ := hE.dflt t _ c1
    rw [k2] at q1
    injection q1 with q1
    subst q1
    rw [k4] at q2
    injection q2 with q2
    subst q2
    have q3 := q3 rfl
    cases z with
    | agg cs => exact absurd rfl (q3 cs)
    | _ => simpa [Value.cells] using hrep
  refine append_fin h hdst c6 (hd ⟨d, true, .own et (.int .u8) (lapp xs (bytesI s))⟩ (by simp)) r2 g1 g3 ?_
  have hss : (⟨s.toArray⟩ : ByteArray).size = s.length := by simp [ByteArray.size]
  have g1' : w.ownsRow 0 et 1 x xs.length cells := g1
  obtain ⟨v', w', a1, a2, a3, hfresh⟩ := append_runS (P := C.P) (w := w) (t := t) (u := t') (ty := ty) (e := et) (i := i) (by rw [k1, c2]) (hE.str t' c5) (by rw [c2]; exact k2) (by rw [k4, hz]) k3 (by rw [k6, ← c2, c3]) g1' ⟨s.toArray⟩ (by rw [hss]; simp only [maxLen]; omega) (by rw [hss]; omega)
  refine ⟨v', w', Lib.strCells ⟨s.toArray⟩, by rw [hr, e2, a1]; rfl, ?_, a3, hfresh, fun i u hi => ?_⟩
  · rw [show (bytesI s).length = s.length by rw [bytesI_def]; simp]
    rw [hss] at a2
    exact a2
  · rw [bytesI_def] at hi
    rw [List.getElem?_map] at hi
    obtain ⟨b, hb, rfl⟩ := Option.map_eq_some_iff.1 hi
    have : (Lib.strCells ⟨s.toArray⟩)[i]? = some (.int .u8 b.toNat) := by
      simp only [Lib.strCells, List.getElem?_map, hb, Option.map_some]
    show Rep w (C.free w own) (.int .u8) (byteI b) ((List.drop (i * 1) _).take 1)
    rw [getElem?_drop_take_one this, byteI_def]
    refine ⟨rfl, ?_⟩
    have := b.toNat_lt
    simp [IntKind.has, IntKind.min, IntKind.max, IntKind.signed, IntKind.bits]
    omega

theorem has_max {k : IntKind} {x y : Int} (hx : k.has x) (hy : k.has y) : k.has (maxI x y) := by rw [maxI_def]; split <;> assumption
theorem has_min {k : IntKind} {x y : Int} (hx : k.has x) (hy : k.has y) : k.has (minI x y) := by rw [minI_def]; split <;> assumption

theorem goInt_has {n : Nat} (h : n ≤ maxLen) : IntKind.i64.has (n : Int) := by
  simp only [maxLen] at h
  simp [IntKind.has, IntKind.min, IntKind.max, IntKind.signed, IntKind.bits]
  omega

theorem StOk.drewn {tm : Array Value} (h : StOk C σ tm w own) : StOk C σ tm w.drew own :=
  h.world ⟨rfl, rfl, rfl, Nat.le_refl _, fun _ _ _ => rfl⟩

theorem appendZ_ok (hE : EnvOk E C.P) (h : StOk C σ a.tmps w own) {t t' : Nat} {x y : Op1} {v u : Value} (hx : OpdOk (sit C σ a.tmps w own) x v) (hy : OpdOk (sit C σ a.tmps w own) y u) {f : Eff}
    (he : (appendZ E o t t' x y).run (getE σ) = some f) (hd : ∀ u ∈ f.upd, u.s < σ.length) (hc : allB f.chk)
    (hr : ∃ ty, (execOp a.eval o).run C.P w = ((Builtin.append_ #[t, t'] ty #[v, u]).run C.P w).andThen fun v w => .ok (.value v) w) : OpOk C o a w (applyUs σ f.upd) := by
  obtain ⟨ty, hr⟩ := hr
  unfold appendZ at he
  split at he
  case h_2 => cases he
  rename_i et e hxa
  obtain ⟨n, h1, he⟩ := Q.bind_some he
  split at he
  case isFalse => cases he
  rename_i hcond
  obtain ⟨hty, het, hsz, hby, hint⟩ := hcond
  have := Q.ret_some he
  subst this
  obtain ⟨e1, g1⟩ := toInt_ok h hy h1
  have hv : v = .slice none 0 0 := by
    have := hx.unowned (by rw [hxa]; rfl)
    rw [hxa] at this
    exact this.2
  obtain ⟨kn, htn⟩ : ∃ k, C.P.underlying t' = some (.int k) := by
    unfold isIntTy at hint
    split at hint
    · rename_i k hk; exact ⟨k, hE.int t' k hk⟩
    · cases hint
  obtain ⟨i, z, k1, k2, k3, k4, k5, k6, k7⟩ := hE.elem' hty
  have c1 : 0 < n.2 := by have := hc (ltI 0 n.2) (by simp); simpa [ltI_def] using this
  have c2 : n.2 * (E.bytes et : Int) ≤ 140737488355328 := by
    have := hc (room n.2 (E.bytes et)) (by simp)
    simp [room_def] at this
    exact this.2
  have c3 : n.2 ≤ 140737488355328 := by
    have h1 : (1 : Int) ≤ (E.bytes et : Int) := by omega
    have h2 : n.2 * 1 ≤ n.2 * (E.bytes et : Int) := Int.mul_le_mul_of_nonneg_left h1 (by omega)
    omega
  obtain ⟨m, hm⟩ : ∃ m : Nat, n.2 = (m : Int) := ⟨n.2.toNat, by omega⟩
  rw [hm] at c1 c2 c3 e1
  have c2' : m * i.bytes ≤ 281474976710656 := by
    rw [k6, ← het]
    have : ((m * E.bytes et : Nat) : Int) ≤ 140737488355328 := by rw [Int.natCast_mul]; exact c2
    omega
  have hrun := Lib.run_append_nil_zeros (P := C.P) w t t' ty (E.etid t) i z n.1 kn k1 htn k2 k4 m (by omega) (by omega) (by omega) c2'
  have hx2 : (execOp a.eval o).run C.P w = .ok (.value (.slice (some ⟨w.heap.size, 0, none⟩) m (grownCap w m 0 (E.etid t)))) (w.drew.alloc (.cells (Builtin.zeroCells z.cells m ++ Builtin.zeroCells z.cells (grownCap w m 0 (E.etid t) - m)) (E.etid t))) := by
    rw [hr, hv, e1, hrun]; rfl
  generalize hcap : grownCap w m 0 (E.etid t) = cap at hx2
  have hge : m ≤ cap := by rw [← hcap]; exact grownCap_ge w m 0 (E.etid t)
  have hle : cap ≤ maxLen := by rw [← hcap]; exact grownCap_le_maxLen w m 0 (E.etid t) (by simp only [maxLen]; omega)
  generalize hcur : (Builtin.zeroCells z.cells m ++ Builtin.zeroCells z.cells (cap - m)) = cur at hx2
  have hcs : cur.size = cap * e.size := by
    rw [← hcur, Array.size_append, size_zeroCells, size_zeroCells, k5, ← Nat.add_mul]
    congr 1; omega
  have hlr : lrep n.2 e.dflt = List.replicate m e.dflt := by rw [lrep_def, hm]; simp
  rw [hlr, het]
  simp only [hlr, het] at hd
  have hD := h.drewn
  refine opOk_value hx2 (hD.dst (bs := [w.heap.size]) (w' := w.drew.alloc (.cells cur (E.etid t))) (Kept.alloc _ _ _) hd (fun b hb => ?_) (by simp) ?_ (fun m hm => by cases hm))
  · simp at hb
    subst hb
    exact ⟨Nat.le_refl _, by show w.heap.size < (w.heap.push _).size; simp⟩
  · refine ⟨cur.toList.take (m * e.size), ⟨?_, .inr ⟨w.heap.size, cap, cur, by simp, Nat.zero_le _, heap_alloc_new w.drew _, by simpa using hge, hle, hcs, by simp⟩⟩, rfl, fun i x hi => ?_⟩
    · rw [List.length_take, Array.length_toList, hcs, List.length_replicate]
      exact Nat.min_eq_left (Nat.mul_le_mul_right _ hge)
    · have hlt : i < m := by
        have := (List.getElem?_eq_some_iff.1 hi).1
        simpa using this
      have hu : x = e.dflt := List.eq_of_mem_replicate (List.mem_of_getElem? hi)
      have hle2 : i * e.size + e.size ≤ m * e.size := by
        have := Nat.mul_le_mul_right e.size (show i + 1 ≤ m by omega)
        rw [Nat.add_mul, Nat.one_mul] at this
        exact this
      rw [hu, List.drop_take, List.take_take, Nat.min_eq_left (by omega), ← hcur, ← k5, drop_zeroCells _ _ _ _ hlt]
      exact k7 _ _

theorem builtinE_ok (hE : EnvOk E C.P) (h : StOk C σ a.tmps w own) {b : Builtin} {ts : List Nat} {os : List Op1} {vs : List Value} (ho : OpdsOk (sit C σ a.tmps w own) os vs) (hos : ∀ o1 ∈ os, ∀ s, o1.s = some s → o1.a ≠ .undef → s < σ.length)
    {f : Eff} (he : (builtinE E o b ts os).run (getE σ) = some f) (hd : ∀ u ∈ f.upd, u.s < σ.length) (hc : allB f.chk)
    (hr : ∃ ty cs, (execOp a.eval o).run C.P w = (builtin b ts.toArray ty cs vs.toArray).run C.P w) : OpOk C o a w (applyUs σ f.upd) := by
  obtain ⟨ty, cs, hr⟩ := hr
  unfold builtinE at he
  split at he
  · rename_i x
    match vs, ho with
    | [v], ho =>
      obtain ⟨r, h1, he⟩ := Q.bind_some he
      have rx := toVR_ok h ho.1 h1
      split at he
      · rename_i e xs _ t _ _
        split at he
        case isFalse => cases he
        rename_i hty
        have := okE_some he
        subst this
        have hu := (hE.elem t e hty).under
        rcases RepV.slice rx with ⟨e1, e2⟩ | ⟨ad, cap, e1, e2, e3, _⟩
        · have e2 : xs = [] := e2
          subst e2
          refine opOk_val h (v := .int .i64 0) ?_ hd (by rw [lenI_def]; exact RepV.ofInt _ _ (goInt_has (n := 0) (by simp)))
          rw [hr, e1]
          simp [builtin, Builtin.len_, run_underlying hu, goInt]
        · refine opOk_val h (v := .int .i64 (lenI xs)) ?_ hd (RepV.ofInt _ _ (by rw [lenI_def]; exact goInt_has (n := xs.length) (Nat.le_trans e2 e3)))
          rw [hr, e1]
          simp [builtin, Builtin.len_, run_underlying hu, goInt, lenI_def]
      · rename_i xs _ t _ _
        split at he
        case isFalse => cases he
        rename_i hty
        have := okE_some he
        subst this
        have hu := hE.str t hty
        obtain ⟨e1, e2⟩ := RepV.str rx
        have e2 : xs.length ≤ maxLen := e2
        refine opOk_val h (v := .int .i64 (lenI xs)) ?_ hd (RepV.ofInt _ _ (by rw [lenI_def]; exact goInt_has (n := xs.length) e2))
        rw [hr, e1]
        simp [builtin, Builtin.len_, run_underlying hu, goInt, lenI_def, ByteArray.size_mk']
      · cases he
  · rename_i x y
    match vs, ho with
    | [v, u], ho =>
      split at he
      · rename_i t t'
        split at he
        · rename_i htt
          subst htt
          refine appendE_ok hE h ho.1 (hos x (by simp)) ho.2.1 he hd hc ⟨ty, ?_⟩
          rw [hr]
          simp only [builtin, Sem.run_bind]
          rfl
        · split at he
          · refine appendZ_ok hE h ho.1 ho.2.1 he hd hc ⟨ty, ?_⟩
            rw [hr]
            simp only [builtin, Sem.run_bind]
            rfl
          · refine appendS_ok hE h ho.1 (hos x (by simp)) ho.2.1 he hd hc ⟨ty, ?_⟩
            rw [hr]
            simp only [builtin, Sem.run_bind]
            rfl
      · cases he
  · rename_i x
    match vs, ho with
    | [v], ho =>
      split at he
      case h_2 => cases he
      rename_i et e t ts' hxa
      split at he
      case isFalse => cases he
      rename_i hty
      have := okE_some he
      subst this
      have hv : v = .slice none 0 0 := by
        have := ho.1.unowned (by rw [hxa]; rfl)
        rw [hxa] at this
        exact this.2
      have hu := (hE.elem t e hty).under
      refine opOk_val h (v := .int .i64 0) ?_ hd (RepV.ofInt _ _ (goInt_has (n := 0) (by simp)))
      rw [hr, hv]
      simp [builtin, Builtin.cap_, goInt, run_underlying hu]
  · rename_i x r
    match vs, ho with
    | v :: vs, ho =>
      obtain ⟨m, h1, he⟩ := Q.bind_some he
      obtain ⟨n, h2, he⟩ := Q.bind_some he
      have := okE_some he
      subst this
      obtain ⟨e1, g1⟩ := toInt_ok h ho.1 h1
      obtain ⟨k1, k2⟩ := foldInt_ok (P := C.P) h (m2 := Builtin.max2) (fun k x y => by simp [Builtin.max2, maxI_def]) (fun k x y => has_max) r vs m.2 n g1 ho.2 h2
      refine opOk_val h ?_ hd (RepV.ofInt _ _ k2)
      rw [hr, e1]
      simp [builtin, Builtin.max_, k1]
  · rename_i x r
    match vs, ho with
    | v :: vs, ho =>
      obtain ⟨m, h1, he⟩ := Q.bind_some he
      obtain ⟨n, h2, he⟩ := Q.bind_some he
      have := okE_some he
      subst this
      obtain ⟨e1, g1⟩ := toInt_ok h ho.1 h1
      obtain ⟨k1, k2⟩ := foldInt_ok (P := C.P) h (m2 := Builtin.min2) (fun k x y => by simp [Builtin.min2, minI_def]) (fun k x y => has_min) r vs m.2 n g1 ho.2 h2
      refine opOk_val h ?_ hd (RepV.ofInt _ _ k2)
      rw [hr, e1]
      simp [builtin, Builtin.min_, k1]
  · cases he

end
end Go.Vi
