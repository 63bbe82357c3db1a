/- ValueMatchesReference: for every input the law returns true, and each argument reads behind the call as it read before. -/
import Derived.Test.YtjbkbaknjfinnaaRows
import Derived.Test.YtjbkbaknjfinnaaVal
import Derived.WalkKit
import Derived.ProofKit
import Derived.OpenShut
namespace Go.Proofs.Ytjbkbaknjfinnaa.valueMatchesReference
open Go.ChangeShapes Go.WideShapes Go.ChangeAt Go.RowKit Go.Vi

theorem own : ownKnob Try.prog.godebug = none := by kernel_rfl
theorem bulky (H : Type) : Bulky (H := H) Rows.uptoBulk Rows.uptoBulkAll where
  int k n := by simp [Rows.uptoBulk]
  bool b := by simp [Rows.uptoBulk]
  str s := by simp [Rows.uptoBulk]
  nil := by simp [Rows.uptoBulk]
  slice es sp := by simp only [Rows.uptoBulk]; omega
  agg ps := by simp only [Rows.uptoBulk]; omega
  cons d r := by simp only [Rows.uptoBulkAll]; omega

theorem specAt (H : Type) : ∀ ds : List (DataW H), ds.length = 5 → Rows.valueMatchesReferenceSpec.fn H ds = { results := [.lit (.bool true)], args := ds }
  | [d0, d1, d2, d3, d4], _ => rfl

set_option maxRecDepth 100000 in
theorem lifted (os : Os) (started : os.Started) (H : Type) (enc : TypeId × Value → H) :
    ReturnsInHanded {} Try.checked os 4 .any (Rows.valueMatchesReferenceSpec.pre6 enc Try.prog Try.f4 Rows.valueMatchesReferenceRow.domain false) (Rows.valueMatchesReferenceSpec.post enc Try.prog Try.f4 false true false false) := by
  refine returnsInHanded_of_change (C := Try.checked) own started (by kernel_rfl) Try.func4
    (ChangeSpec.witness6 (enc := enc) (C := Try.checked) false ⟨#[], #[.agg #[.int .i64 0, .int .i64 0, .string .empty], .agg #[.int .i64 0, .int .i64 0, .string .empty], .string .empty, .int .i64 0, .bool false], []⟩ 8 (by kernel_rfl) (by kernel_rfl) (by kernel_rfl) (by kernel_rfl)) ?_
  intro W base args ds gs before hval hW _ _
  exact law_contract (bulky H) (B := Rows.uptoBulkAll (ds ++ gs)) (us := [(.pair (.int .i64) (.pair (.int .i64) (.pair .str .unit))), (.pair (.int .i64) (.pair (.int .i64) (.pair .str .unit))), .str, (.int .i64), .bool]) (ts := [29, 29, 9, 3, 4]) (tb := 4) (by kernel_rfl) (by kernel_rfl) (by kernel_rfl) (by kernel_rfl) (by kernel_rfl) (by kernel_rfl) rfl (specAt H) ok_stemlaw2_ValueMatchesReference (fun x _ => valueUpto x) hval hW (Nat.le_refl _)

theorem proved : Rows.ValueMatchesReferenceSaid :=
  OpenClaim.holds_of_wide 4 Try.f4 rfl rfl rfl rfl rfl rfl rfl ⟨rfl, rfl, rfl, rfl, rfl⟩ rfl rfl rfl rfl rfl (by kernel_rfl) Try.func4 (by kernel_rfl)
    (of_decide_eq_true (by kernel_rfl)) (by unfold Func.isWrapper; first | (rw [if_pos (by decide +kernel)]; kernel_rfl) | (rw [if_neg (by decide +kernel)]; exact ⟨rfl, rfl⟩))
    (fun os started H enc _ => lifted os started H enc)
end Go.Proofs.Ytjbkbaknjfinnaa.valueMatchesReference

