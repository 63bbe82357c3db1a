/- Rows of the call's own, written in place: copies within a block, of elements of any number of cells. -/
import Derived.Test.YtpnklahcegahiaaDoorViStd
import Derived.Laws.CopyRow
import Derived.Laws.IdiomCopy
set_option linter.unusedVariables false
set_option linter.unusedSimpArgs false
set_option linter.unnecessarySimpa false
set_option linter.unusedSectionVars false
namespace Go.Vi
open Go.RowKit

theorem run_copy_rowS {P : Program} (w : World) (dT sT ty elem : TypeId) (sz : Nat) (g o dLen dCap : Nat) (a : Addr) (sLen sCap : Nat) (cur : List Value) (t : TypeId) (cs : List Value)
    (hu : P.underlying dT = some (.slice elem)) (hs : (P.info? elem).map (·.size) = some sz)
    (hg : w.heap[g]? = some (.cells cur.toArray t (0, 0))) (hn : cs.length = Nat.min sLen dLen * sz)
    (hsrc : ∀ j v, cs[j]? = some v → w.cell? (a.add j) = some v) (hfit : o + cs.length ≤ cur.length) (h1 : ∀ v ∈ cs, v.oneCell' = true) :
    (Builtin.copy_ #[dT, sT] ty #[.slice (some ⟨g, o, none⟩) dLen dCap, .slice (some a) sLen sCap]).run P w =
      .ok (goInt (Nat.min sLen dLen)) (w.setRow g (cur.take o ++ cs ++ cur.drop (o + cs.length)).toArray) := by
  have hl := run_loadCells_list (P := P) w a cs hsrc
  have hst := run_storeCells_at P g o t cs 0 cur.toArray w hg (by simpa using hfit) h1
  simp only [Nat.add_zero] at hst
  cases hq : P.info? elem with
  | none => simp [hq] at hs
  | some i =>
    have hi : i.size = sz := by simpa [hq] using hs
    simp [Builtin.copy_, run_underlying hu, Builtin.lenOf, Builtin.firstCells, sizeOf, typeInfo, hq, hi, ← hn, hl, hst]

/-- One step of a region that draws, its run known. -/
theorem step_copy_run {P : Program} {ops : Array Oper} {o : Oper} {a : Act} {w : World} {K : Act → World → Prop} {Q : Exit → Act → World → Prop} {E : Prop}
    (hg : o.guard = none) (d x : Operand) (dT sT : TypeId) (hop : o.op = Op.call { callee := Callee.builtin Builtin.copy, args := #[d, x], argTypes := #[dT, sT] })
    (v u : Value) (hd : a.eval d = v) (hx : a.eval x = u) {v' : Value} {w' : World} (hr : (Builtin.copy_ #[dT, sT] o.type #[v, u]).run P w = .ok v' w') (hK : K (a.put o.dst v') w') :
    if Region.wanted o (yielded ops a.tmps) = true then Oper.wp P o a w K Q else E := by
  have hw : Region.wanted o (yielded ops a.tmps) = true := by simp [Region.wanted, hg]
  rw [if_pos hw]
  unfold Oper.wp
  simp [execOp, hop, resolve, invoke, builtin, hd, hx, hr, Result.andThen]
  exact hK

theorem list_copy_run {P : Program} (w : World) {ops : Array Oper} {rest : List Oper} {o : Oper} {a : Act} {Q : Exit → Act → World → Prop} (hgd : o.guard = none) (d s : Operand) (t t' : TypeId)
    (ho : o.op = .call { callee := .builtin .copy, args := #[d, s], argTypes := #[t, t'] }) (v u : Value) (hd : a.eval d = v) (hs : a.eval s = u) {v' : Value} {w' : World}
    (hr : (Builtin.copy_ #[t, t'] o.type #[v, u]).run P w = .ok v' w') (h : wpList P ops Q rest (a.put o.dst v') w') : wpList P ops Q (o :: rest) a w := by
  refine wpList_plain hgd fun K hK => ?_
  unfold Oper.wp
  simp [execOp, ho, resolve, invoke, builtin, hd, hs, hr, Result.andThen]
  exact hK _ _ h

theorem Kept.setRow {O : Nat → Prop} {w0 w : World} {g : Nat} (h : Kept O w0 w) (hg : O g) (cs : Array Value) : Kept O w0 (w.setRow g cs) :=
  h.trans ⟨rfl, rfl, rfl, by simp [World.setRow], fun k _ hk => setRow_other w g k cs (fun e => hk (e ▸ hg))⟩

theorem heap_setRow {w : World} {g : Nat} {cur : List Value} {t : TypeId} {fz : Nat × Nat} (h : w.heap[g]? = some (.cells cur.toArray t fz)) (cs : Array Value) : (w.setRow g cs).heap[g]? = some (.cells cs t fz) := setRow_heap w g _ cs t fz h

/-! ## Rows in pieces -/
/-- The cells hold the elements, sz cells each. -/
def Chunks {α : Type} (R : α → List Value → Prop) (sz : Nat) (xs : List α) (cells : List Value) : Prop :=
  cells.length = xs.length * sz ∧ ∀ (j : Nat) (x : α), xs[j]? = some x → R x ((cells.drop (j * sz)).take sz)

theorem Chunks.append {α : Type} {R : α → List Value → Prop} {sz : Nat} {xs ys : List α} {a b : List Value} (h : Chunks R sz xs a) (k : Chunks R sz ys b) : Chunks R sz (xs ++ ys) (a ++ b) := by
  refine ⟨by rw [List.length_append, List.length_append, h.1, k.1, Nat.add_mul], fun j x hj => ?_⟩
  by_cases hlt : j < xs.length
  · rw [List.getElem?_append_left hlt] at hj
    have h1 : (j + 1) * sz ≤ xs.length * sz := Nat.mul_le_mul_right _ hlt
    rw [Nat.add_mul, Nat.one_mul] at h1
    have h2 := h.2 j x hj
    rwa [List.drop_append_of_le_length (by rw [h.1]; omega), List.take_append_of_le_length (by rw [List.length_drop, h.1]; omega)]
  · rw [List.getElem?_append_right (by omega)] at hj
    have h2 := k.2 _ x hj
    have e : j * sz = xs.length * sz + (j - xs.length) * sz := by rw [← Nat.add_mul]; congr 1; omega
    rw [e, List.drop_append, List.drop_of_length_le (l := a) (by rw [h.1]; omega), List.nil_append, h.1, Nat.add_sub_cancel_left]
    exact h2
theorem Chunks.take {α : Type} {R : α → List Value → Prop} {sz : Nat} {xs : List α} {a : List Value} (h : Chunks R sz xs a) (k : Nat) (hk : k ≤ xs.length) : Chunks R sz (xs.take k) (a.take (k * sz)) := by
  have h0 : k * sz ≤ xs.length * sz := Nat.mul_le_mul_right _ hk
  refine ⟨by rw [List.length_take, List.length_take, h.1, Nat.min_eq_left h0, Nat.min_eq_left hk], fun j x hj => ?_⟩
  rw [List.getElem?_take] at hj
  split at hj
  case isFalse => cases hj
  rename_i hlt
  have h1 : (j + 1) * sz ≤ k * sz := Nat.mul_le_mul_right _ hlt
  rw [Nat.add_mul, Nat.one_mul] at h1
  have h2 := h.2 j x hj
  rwa [List.drop_take, List.take_take, Nat.min_eq_left (by omega)]
theorem Chunks.drop {α : Type} {R : α → List Value → Prop} {sz : Nat} {xs : List α} {a : List Value} (h : Chunks R sz xs a) (k : Nat) : Chunks R sz (xs.drop k) (a.drop (k * sz)) := by
  refine ⟨by rw [List.length_drop, List.length_drop, h.1, Nat.sub_mul], fun j x hj => ?_⟩
  rw [List.getElem?_drop] at hj
  have h2 := h.2 _ x hj
  rwa [List.drop_drop, ← Nat.add_mul]
theorem Chunks.mono {α : Type} {R R' : α → List Value → Prop} {sz : Nat} {xs : List α} {a : List Value} (h : Chunks R sz xs a) (hR : ∀ x c, R x c → R' x c) : Chunks R' sz xs a := ⟨h.1, fun j x hj => hR _ _ (h.2 j x hj)⟩
theorem OwnRep.chunks {w : World} {F : Nat → Prop} {et : Nat} {e : Ty} {xs : List e.den} {v : Value} {bs : List Nat} (h : OwnRep w F et e xs v bs) : ∃ cells, w.ownsRow 0 et e.size v xs.length cells ∧ bs = v.ownBlock.toList ∧ Chunks (Rep w F e) e.size xs cells := by
  obtain ⟨cells, h1, h2, h3⟩ := h
  exact ⟨cells, h1, h2, h1.1, h3⟩
theorem Chunks.own {w : World} {F : Nat → Prop} {et : Nat} {e : Ty} {xs : List e.den} {v : Value} {cells : List Value} {n : Nat} (h : Chunks (Rep w F e) e.size xs cells) (ho : w.ownsRow 0 et e.size v n cells) (hn : n = xs.length) : OwnRep w F et e xs v v.ownBlock.toList := by
  subst hn
  exact ⟨cells, ho, rfl, h.2⟩
theorem Chunks.oneCell {w : World} {F : Nat → Prop} {e : Ty} : {xs : List e.den} → {cells : List Value} → Chunks (Rep w F e) e.size xs cells → ∀ u ∈ cells, u.oneCell' = true
  | [], cells, h, u, hu => by
    have : cells = [] := List.eq_nil_of_length_eq_zero (by rw [h.1]; simp)
    rw [this] at hu
    cases hu
  | x :: xs, cells, h, u, hu => by
    have h0 := h.2 0 x rfl
    rw [Nat.zero_mul, List.drop_zero] at h0
    rw [← List.take_append_drop e.size cells] at hu
    rcases List.mem_append.1 hu with hu | hu
    · exact h0.oneCell u hu
    · have h1 := h.drop 1
      rw [Nat.one_mul] at h1
      exact Chunks.oneCell (xs := xs) h1 u hu

/-! ## slices.Insert -/
/-- What its walk says. -/
def InsWalk (P : Program) (f te sz bytes : Nat) : Prop := ∀ (w : World) (v vv : Value) (n m i : Nat) (xs vs : List Value), w.ownsRow 0 te sz v n xs → w.ownsRow 0 te sz vv m vs → (∀ b, v.ownBlock = some b → vv.ownBlock ≠ some b) → i ≤ n →
  (n + m) * bytes ≤ 140737488355328 → (∀ u ∈ xs, u.oneCell' = true) → (∀ u ∈ vs, u.oneCell' = true) →
  Calls P f #[v, .int .i64 i, vv] w fun e w' => ∃ v', e = .returned v' ∧ w'.ownsRow 0 te sz v' (n + m) (xs.take (i * sz) ++ vs ++ xs.drop (i * sz)) ∧ Kept (fun b => v.ownBlock = some b) w w' ∧ ∀ b, v'.ownBlock = some b → v.ownBlock = some b ∨ w.heap.size ≤ b

theorem own_lt {w : World} {te sz n : Nat} {v : Value} {xs : List Value} (h : w.ownsRow 0 te sz v n xs) : ∀ b, v.ownBlock = some b → b < w.heap.size := fun b hb => (h.lt b hb).2

theorem toList_of {o : Option Nat} {b : Nat} (h : b ∈ o.toList) : o = some b := by
  cases o with
  | none => cases h
  | some c => simp at h; rw [h]

theorem nat_of {i : Int} {n : Nat} (h0 : 0 ≤ i) (h1 : i ≤ (n : Int)) : ∃ j : Nat, i = (j : Int) ∧ j ≤ n := ⟨i.toNat, by omega, by omega⟩

theorem ok_insert {P : Program} {T : Tabs} {f te bytes : Nat} {fn : Func} {e : Ty} (hf : P.funcs[f]? = some fn) (hb : fn.body.isSome = true) (hname : (fn.name == "runtime.NumGoroutine") = false) (hw : InsWalk P f te e.size bytes) :
    Contract.okT P T f ⟨[.own te e, .val (.int .i64), .own te e], [.own te e], fun x => if 0 ≤ x.2.1 ∧ x.2.1 ≤ (x.1.length : Int) ∧ (x.1.length + x.2.2.1.length) * bytes ≤ 140737488355328 then some ((x.1.take x.2.1.toNat ++ x.2.2.1 ++ x.1.drop x.2.1.toNat, ()), ()) else none⟩ := by
  obtain ⟨c, hc⟩ := Option.isSome_iff_exists.1 hb
  refine ⟨fun as w => run_callFunc hf hc hname as w, fun w F x y as g io hT hp hpre hn hy => ?_⟩
  obtain ⟨xs, i, vs, ⟨⟩⟩ := x
  obtain ⟨v1, r1, g1, g2, rfl, rfl, o1, v2, r2, rfl, h2, v3, r3, g3, g4, rfl, rfl, o3, rfl, rfl, rfl⟩ := hp
  simp only at hy
  split at hy
  case isFalse => cases hy
  rename_i hcond
  obtain ⟨c1, c2, c3⟩ := hcond
  injection hy with hy
  subst hy
  obtain ⟨rfl, _⟩ := RepV.int h2
  simp only at o1 o3 c1 c2 c3
  obtain ⟨cs1, w1, rfl, k1⟩ := o1.chunks
  obtain ⟨cs3, w3, rfl, k3⟩ := o3.chunks
  obtain ⟨j, rfl, hj⟩ := nat_of c1 c2
  simp only [List.append_nil] at hpre hn
  have hne : ∀ b, v1.ownBlock = some b → v3.ownBlock ≠ some b := fun b h1 h3 => by
    rw [h1, h3] at hn
    simp at hn
  have hF : ∀ b, F b → v1.ownBlock ≠ some b := fun b hb h => (hpre b (List.mem_append_left _ (by rw [h]; simp))).1 hb
  refine (hw w v1 v3 xs.length vs.length j cs1 cs3 w1 w3 hne hj c3 k1.oneCell k3.oneCell).mono ?_
  rintro en w' ⟨v', rfl, a1, a2, a3⟩
  have inBs : ∀ b, b ∈ v'.ownBlock.toList → (v1.ownBlock = some b ∨ w.heap.size ≤ b) ∧ b < w'.heap.size := fun b hb => by
    have e := toList_of hb
    exact ⟨a3 b e, own_lt a1 b e⟩
  have keep : ∀ b, F b → b < w.heap.size → PostF w F (v1.ownBlock.toList ++ v3.ownBlock.toList) [] v'.ownBlock.toList b ∧ b < w'.heap.size ∧ w'.heap[b]? = w.heap[b]? := fun b hb hlt => by
    refine ⟨⟨.inl hb, fun hm => ?_, by simp⟩, Nat.lt_of_lt_of_le hlt a2.size, a2.block b hlt (hF b hb)⟩
    rcases (inBs b hm).1 with h | h
    · exact hF b hb h
    · omega
  refine ⟨v', rfl, [v'], v'.ownBlock.toList, rfl, ?_, fun b hb => ?_, ⟨v', [], _, [], rfl, by rw [List.append_nil], ?_, rfl, rfl⟩, rfl, ?_⟩
  · cases v'.ownBlock <;> simp
  · obtain ⟨h1, h2⟩ := inBs b hb
    refine ⟨h1.imp (fun h => ?_) id, h2⟩
    rw [List.append_nil]
    exact List.mem_append_left _ (by rw [h]; simp)
  · have hk := ((k1.take j hj).append k3).append (k1.drop j)
    have hl : (xs.take j ++ vs ++ xs.drop j).length = xs.length + vs.length := by
      simp only [List.length_append, List.length_take, List.length_drop]; omega
    have := (hk.mono fun x c h => h.keep keep).own a1 hl.symm
    simp only [Int.toNat_natCast, List.append_nil]
    exact this
  · refine a2.mono fun b hb => ?_
    rw [List.append_nil, List.append_nil]
    exact List.mem_append_left _ (by rw [hb]; simp)

/-! ## slices.Delete -/
theorem run_append_rowS {P : Program} (w : World) (t ty e : TypeId) (sz : Nat) (ht : P.underlying t = some (.slice e)) (hs : (P.info? e).map (·.size) = some sz) (g sLen sCap : Nat) (a : Addr) (m c : Nat) (cur : List Value) (t' : TypeId) (cs : List Value)
    (hg : w.heap[g]? = some (.cells cur.toArray t' (0, 0))) (hn : cs.length = m * sz) (hsrc : ∀ j v, cs[j]? = some v → w.cell? (a.add j) = some v) (h1 : ∀ v ∈ cs, v.oneCell' = true) (hroom : sLen + m ≤ sCap) (hfit : sLen * sz + cs.length ≤ cur.length) :
    (Builtin.append_ #[t, t] ty #[.slice (some ⟨g, 0, none⟩) sLen sCap, .slice (some a) m c]).run P w = .ok (.slice (some ⟨g, 0, none⟩) (sLen + m) sCap) (w.setRow g (cur.take (sLen * sz) ++ cs ++ cur.drop (sLen * sz + cs.length)).toArray) := by
  obtain ⟨i, hi, hiz⟩ := Option.map_eq_some_iff.1 hs
  have hfc := run_firstCells_some (P := P) w i.size m a m c cs (by rw [hiz]; exact hn) hsrc
  have hst := run_storeCells_at P g (sLen * sz) t' cs 0 cur.toArray w hg (by simpa using hfit) h1
  simp only [Nat.add_zero] at hst
  rw [hiz] at hfc
  simp [Builtin.append_, run_underlying ht, sizeOf, typeInfo, hi, hiz, Builtin.lenOf, hroom, hfc, Addr.add_lit, hst]

theorem run_clear_rowS {P : Program} (w : World) (t ty e : TypeId) (z : Value) (ht : P.underlying t = some (.slice e)) (hv : ∀ w, (zeroValue e).run P w = .ok z w) (g o n c : Nat) (cur : List Value) (t' : TypeId)
    (hg : w.heap[g]? = some (.cells cur.toArray t' (0, 0))) (hn : 0 < n) (hfit : o + n * z.cells.size ≤ cur.length) (h1 : ∀ v ∈ (Builtin.zeroCells z.cells n).toList, v.oneCell' = true) :
    (Builtin.clear_ #[t] ty #[.slice (some ⟨g, o, none⟩) n c]).run P w = .ok (.tuple #[]) (w.setRow g (cur.take o ++ (Builtin.zeroCells z.cells n).toList ++ cur.drop (o + n * z.cells.size)).toArray) := by
  have hzl : (Builtin.zeroCells z.cells n).toList.length = n * z.cells.size := by simp [Builtin.zeroCells]
  have hst := run_storeCells_at P g o t' (Builtin.zeroCells z.cells n).toList 0 cur.toArray w hg (by rw [hzl]; simpa using hfit) h1
  simp only [Nat.add_zero, hzl] at hst
  obtain ⟨m, rfl⟩ : ∃ m, n = m + 1 := ⟨n - 1, by omega⟩
  simp [Builtin.clear_, run_underlying ht, hv, hst]

theorem step_append_run {P : Program} {ops : Array Oper} {o : Oper} {a : Act} {w : World} {K : Act → World → Prop} {Q : Exit → Act → World → Prop} {E : Prop}
    (hg : o.guard = none) (d x : Operand) (dT sT : TypeId) (hop : o.op = Op.call { callee := Callee.builtin Builtin.append, args := #[d, x], argTypes := #[dT, sT] })
    (v u : Value) (hd : a.eval d = v) (hx : a.eval x = u) {v' : Value} {w' : World} (hr : (Builtin.append_ #[dT, sT] o.type #[v, u]).run P w = .ok v' w') (hK : K (a.put o.dst v') w') :
    if Region.wanted o (yielded ops a.tmps) = true then Oper.wp P o a w K Q else E := by
  have hw : Region.wanted o (yielded ops a.tmps) = true := by simp [Region.wanted, hg]
  rw [if_pos hw]
  unfold Oper.wp
  simp [execOp, hop, resolve, invoke, builtin, hd, hx, hr, Result.andThen]
  exact hK

/-- What its walk says. -/
def DelWalk (P : Program) (f te sz : Nat) : Prop := ∀ (w : World) (v : Value) (n i j : Nat) (xs : List Value), w.ownsRow 0 te sz v n xs → i ≤ j → j ≤ n → (∀ u ∈ xs, u.oneCell' = true) →
  Calls P f #[v, .int .i64 i, .int .i64 j] w fun e w' => ∃ v', e = .returned v' ∧ w'.ownsRow 0 te sz v' (i + (n - j)) (xs.take (i * sz) ++ xs.drop (j * sz)) ∧ Kept (fun b => v.ownBlock = some b) w w' ∧ v'.ownBlock = v.ownBlock

theorem ok_delete {P : Program} {T : Tabs} {f te : Nat} {fn : Func} {e : Ty} (hf : P.funcs[f]? = some fn) (hb : fn.body.isSome = true) (hname : (fn.name == "runtime.NumGoroutine") = false) (hw : DelWalk P f te e.size) :
    Contract.okT P T f ⟨[.own te e, .val (.int .i64), .val (.int .i64)], [.own te e], fun x => if 0 ≤ x.2.1 ∧ x.2.1 ≤ x.2.2.1 ∧ x.2.2.1 ≤ (x.1.length : Int) then some ((x.1.take x.2.1.toNat ++ x.1.drop x.2.2.1.toNat, ()), ()) else none⟩ := by
  obtain ⟨c, hc⟩ := Option.isSome_iff_exists.1 hb
  refine ⟨fun as w => run_callFunc hf hc hname as w, fun w F x y as g io hT hp hpre hn hy => ?_⟩
  obtain ⟨xs, i, j, ⟨⟩⟩ := x
  obtain ⟨v1, r1, g1, g2, rfl, rfl, o1, v2, r2, rfl, h2, v3, r3, rfl, h3, rfl, rfl, rfl⟩ := hp
  simp only at hy
  split at hy
  case isFalse => cases hy
  rename_i hcond
  obtain ⟨c1, c2, c3⟩ := hcond
  injection hy with hy
  subst hy
  obtain ⟨rfl, _⟩ := RepV.int h2
  obtain ⟨rfl, _⟩ := RepV.int h3
  simp only at o1 c1 c2 c3
  obtain ⟨cs1, w1, rfl, k1⟩ := o1.chunks
  obtain ⟨b, rfl, hj⟩ := nat_of (Int.le_trans c1 c2) c3
  obtain ⟨a, rfl, hi⟩ := nat_of c1 c2
  simp only [List.append_nil] at hpre hn
  have hF : ∀ b, F b → v1.ownBlock ≠ some b := fun b hb h => (hpre b (by rw [h]; simp)).1 hb
  refine (hw w v1 xs.length a b cs1 w1 hi hj k1.oneCell).mono ?_
  rintro en w' ⟨v', rfl, a1, a2, a3⟩
  have keep : ∀ b, F b → b < w.heap.size → PostF w F v1.ownBlock.toList [] v'.ownBlock.toList b ∧ b < w'.heap.size ∧ w'.heap[b]? = w.heap[b]? := fun b hb hlt =>
    ⟨⟨.inl hb, fun hm => hF b hb (by rw [← a3]; exact toList_of hm), by simp⟩, Nat.lt_of_lt_of_le hlt a2.size, a2.block b hlt (hF b hb)⟩
  refine ⟨v', rfl, [v'], v'.ownBlock.toList, rfl, ?_, fun b hb => ?_, ⟨v', [], _, [], rfl, by rw [List.append_nil], ?_, rfl, rfl⟩, rfl, ?_⟩
  · cases v'.ownBlock <;> simp
  · rw [List.append_nil, ← a3]
    exact ⟨.inl hb, own_lt a1 b (toList_of hb)⟩
  · have hk := (k1.take a (Nat.le_trans hi hj)).append (k1.drop b)
    have hl : (xs.take a ++ xs.drop b).length = a + (xs.length - b) := by
      simp only [List.length_append, List.length_take, List.length_drop]; omega
    have := (hk.mono fun x c h => h.keep keep).own a1 hl.symm
    simp only [Int.toNat_natCast, List.append_nil]
    exact this
  · refine a2.mono fun b hb => ?_
    rw [List.append_nil, List.append_nil]
    rw [hb]; simp

end Go.Vi
