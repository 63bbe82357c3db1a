/- What the functions compute, and that they do. -/
import Derived.Test.YtjbkbaknjfinnaaChecked
import Derived.Test.YtjbkbaknjfinnaaViPost
import Derived.KernelRfl
import Derived.Lib.Strings
import Derived.Lib.Slices
import Derived.Lib.Walk
import Derived.Lib.Bytealg
import Derived.WalkKit
import Derived.Test.YtjbkbaknjfinnaaViHand
set_option maxRecDepth 100000
set_option maxHeartbeats 0
namespace Go.Proofs.Ytjbkbaknjfinnaa
open Go.Vi

abbrev T_api_Value : Ty := (.pair (.int .i64) (.pair (.int .i64) (.pair .str .unit)))
abbrev D_api_Value : Type := (Int × (Int × ((List UInt8) × Unit)))
abbrev T_rle_Run : Ty := (.pair T_api_Value (.pair (.int .i64) .unit))
abbrev D_rle_Run : Type := (D_api_Value × (Int × Unit))

def tabT : List TI := [
  ⟨3, (.int .i64), 0, [], (.val (.int .i64)), 8, false⟩,
  ⟨4, .bool, 0, [], (.val .bool), 1, false⟩,
  ⟨9, .str, 0, [], (.val .str), 16, false⟩,
  ⟨22, (.slice T_api_Value), 29, [], (.own 29 T_api_Value), 24, false⟩,
  ⟨23, (.slice T_rle_Run), 34, [], (.own 34 T_rle_Run), 24, false⟩,
  ⟨24, (.int .i64), 0, [], (.val (.int .i64)), 8, false⟩,
  ⟨29, T_api_Value, 0, [(0, 3), (1, 3), (2, 9)], (.val T_api_Value), 32, true⟩,
  ⟨34, T_rle_Run, 0, [(0, 29), (3, 3)], (.val T_rle_Run), 40, true⟩]
theorem tabT_ok : tabOk Try.prog tabT = true := by kernel_rfl

/-- stemma/value.Validate -/
noncomputable def F_value_Validate (N : Nat) (x : (D_api_Value × Unit)) : Option ((Int × Unit) × Unit) :=
  (bif (eqI x.1.1 0) then (letJ ((neI x.1.2.1 0) || (!(eqS x.1.2.2.1 []))) (fun y0 => (bif y0 then (some ((3, ()), ())) else (some ((0, ()), ()))))) else (letJ (bif (eqI x.1.1 1) then (eqI x.1.1 1) else (eqI x.1.1 2)) (fun y0 => (bif y0 then (bif (!(eqS x.1.2.2.1 [])) then (some ((3, ()), ())) else (letJ (((((eqI x.1.1 2) && (neI x.1.2.1 0)) && (neI x.1.2.1 1)) || (ltI x.1.2.1 (-1000000000000))) || (ltI 1000000000000 x.1.2.1)) (fun y1 => (bif y1 then (some ((1, ()), ())) else (some ((0, ()), ())))))) else (bif (eqI x.1.1 3) then (bif (neI x.1.2.1 0) then (some ((3, ()), ())) else (bif (ltI 24 (lenI x.1.2.2.1)) then (some ((2, ()), ())) else (some ((0, ()), ())))) else (some ((7, ()), ())))))))
theorem ok_value_Validate (N : Nat) : Contract.ok Try.prog 14 ⟨[.val T_api_Value], [.val (.int .i64)], F_value_Validate N⟩ :=
  keeps (E := Env.tab tabT []) (tabOk_env tabT_ok _) fnsOk_nil (N := N) (anns := ⟨[], [(1000008, [15]), (1000011, [43]), (1000005, [14])]⟩) Try.func14 (by kernel_rfl) (by kernel_rfl) (fun x => by kernel_rfl)
/-- stemma/rle.appendRun -/
noncomputable def F_rle_appendRun (N : Nat) (x : ((List D_rle_Run) × (D_rle_Run × Unit))) : Option (((List D_rle_Run) × Unit) × Unit) :=
  (bif (eqI x.2.1.2.1 0) then (some ((x.1, ()), ())) else (letJ (lenI x.1) (fun y0 => (bif ((!(ltI 0 y0)) || (inB (isub .i64 y0 1) (lenI x.1))) then (letJ ((ltI 0 y0) && ((eqI (lget x.1 (isub .i64 y0 1) ((0, (0, ([], ()))), (0, ()))).1.1 x.2.1.1.1) && ((eqI (lget x.1 (isub .i64 y0 1) ((0, (0, ([], ()))), (0, ()))).1.2.1 x.2.1.1.2.1) && (eqS (lget x.1 (isub .i64 y0 1) ((0, (0, ([], ()))), (0, ()))).1.2.2.1 x.2.1.1.2.2.1)))) (fun y1 => (bif y1 then (bif ((inB (isub .i64 y0 1) (lenI x.1)) && (inB (isub .i64 y0 1) (lenI x.1))) then (some (((lset x.1 (isub .i64 y0 1) ((lget x.1 (isub .i64 y0 1) ((0, (0, ([], ()))), (0, ()))).1, ((iadd .i64 (lget x.1 (isub .i64 y0 1) ((0, (0, ([], ()))), (0, ()))).2.1 x.2.1.2.1), (lget x.1 (isub .i64 y0 1) ((0, (0, ([], ()))), (0, ()))).2.2))), ()), ())) else none) else (bif (room2 (lenI x.1) (lenI ([x.2.1] : List D_rle_Run)) 40) then (some (((lapp x.1 ([x.2.1] : List D_rle_Run)), ()), ())) else none)))) else none))))
theorem ok_rle_appendRun (N : Nat) : Contract.ok Try.prog 19 ⟨[.own 34 T_rle_Run, .val T_rle_Run], [.own 34 T_rle_Run], F_rle_appendRun N⟩ :=
  keeps (E := Env.tab tabT []) (tabOk_env tabT_ok _) fnsOk_nil (N := N) (anns := ⟨[], [(4, [5]), (1000005, [24])]⟩) Try.func19 (by kernel_rfl) (by kernel_rfl) (fun x => by kernel_rfl)
/-- stemma/rle.bounded -/
noncomputable def F_rle_bounded (N : Nat) (x : ((List D_rle_Run) × Unit)) : Option (((List D_rle_Run) × (Int × Unit)) × Unit) :=
  (bif (ltI 400 (lenI x.1)) then (some (([], (2, ())), ())) else (some ((x.1, (0, ())), ())))
theorem ok_rle_bounded (N : Nat) : Contract.ok Try.prog 20 ⟨[.val (.slice T_rle_Run)], [.val (.slice T_rle_Run), .val (.int .i64)], F_rle_bounded N⟩ :=
  keeps (E := Env.tab tabT []) (tabOk_env tabT_ok _) fnsOk_nil (N := N) (anns := ⟨[], []⟩) Try.func20 (by kernel_rfl) (by kernel_rfl) (fun x => by kernel_rfl)
/-- stemma/rle.Encode -/
noncomputable def F_rle_Encode (N : Nat) (x : ((List D_api_Value) × Unit)) : Option (((List D_rle_Run) × (Int × Unit)) × Unit) :=
  (bif (ltI 100000 (lenI x.1)) then (some (([], (2, ())), ())) else (iterF (S := ((List D_rle_Run) × (Int × Unit))) (R := (((List D_rle_Run) × (Int × Unit)) × Unit)) N (fun ih0 => (fun p1 => (bif (ltI p1.2.1 (lenI x.1)) then (bif (inB p1.2.1 (lenI x.1)) then (bif (oSome (F_value_Validate N ((lget x.1 p1.2.1 (0, (0, ([], ())))), ()))) then (letJ (oGet (F_value_Validate N ((lget x.1 p1.2.1 (0, (0, ([], ())))), ())) ((0, ()), ())).1.1 (fun y2 => (bif (neI y2 0) then (some (([], (y2, ())), ())) else (bif (oSome (F_rle_appendRun N (p1.1, (((lget x.1 p1.2.1 (0, (0, ([], ())))), (1, ())), ())))) then (ih0 ((oGet (F_rle_appendRun N (p1.1, (((lget x.1 p1.2.1 (0, (0, ([], ())))), (1, ())), ()))) (([], ()), ())).1.1, ((iadd .i64 p1.2.1 1), ()))) else none)))) else none) else none) else (bif (oSome (F_rle_bounded N (p1.1, ()))) then (some (((oGet (F_rle_bounded N (p1.1, ())) (([], (0, ())), ())).1.1, ((oGet (F_rle_bounded N (p1.1, ())) (([], (0, ())), ())).1.2.1, ())), ())) else none)))) ([], (0, ()))))
theorem ok_rle_Encode (N : Nat) : Contract.ok Try.prog 5 ⟨[.val (.slice T_api_Value)], [.val (.slice T_rle_Run), .val (.int .i64)], F_rle_Encode N⟩ :=
  keeps (E := Env.tab tabT [(14, ⟨[.val T_api_Value], [.val (.int .i64)], F_value_Validate N⟩), (19, ⟨[.own 34 T_rle_Run, .val T_rle_Run], [.own 34 T_rle_Run], F_rle_appendRun N⟩), (20, ⟨[.val (.slice T_rle_Run)], [.val (.slice T_rle_Run), .val (.int .i64)], F_rle_bounded N⟩)]) (tabOk_env tabT_ok _) (fnsOk_cons (ok_value_Validate N) (fnsOk_cons (ok_rle_appendRun N) (fnsOk_cons (ok_rle_bounded N) fnsOk_nil))) (N := N) (anns := ⟨[⟨5, [2, 3, 4, 6, 7, 13, 14, 15, 16, 17, 18, 19, 20, 21, 22, 23, 24, 25, 26], [(4, (.own 34 T_rle_Run)), (13, (.val (.int .i64)))]⟩], [(8, [7])]⟩) Try.func5 (by kernel_rfl) (by kernel_rfl) (fun x => by kernel_rfl)
/-- stemma/stemref4.CollapseRuns -/
noncomputable def F_stemref4_CollapseRuns (N : Nat) (x : ((List D_api_Value) × Unit)) : Option (((List D_rle_Run) × Unit) × Unit) :=
  (iterF (S := ((List D_rle_Run) × (Int × Unit))) (R := (((List D_rle_Run) × Unit) × Unit)) N (fun ih0 => (fun p1 => (bif (ltI p1.2.1 (lenI x.1)) then (bif (inB p1.2.1 (lenI x.1)) then (bif ((!(!(eqI p1.2.1 0))) || (inB (isub .i64 p1.2.1 1) (lenI x.1))) then (letJ ((eqI p1.2.1 0) || (!((eqI (lget x.1 (isub .i64 p1.2.1 1) (0, (0, ([], ())))).1 (lget x.1 p1.2.1 (0, (0, ([], ())))).1) && ((eqI (lget x.1 (isub .i64 p1.2.1 1) (0, (0, ([], ())))).2.1 (lget x.1 p1.2.1 (0, (0, ([], ())))).2.1) && (eqS (lget x.1 (isub .i64 p1.2.1 1) (0, (0, ([], ())))).2.2.1 (lget x.1 p1.2.1 (0, (0, ([], ())))).2.2.1))))) (fun y2 => (bif (bif y2 then (room2 (lenI p1.1) (lenI ([((lget x.1 p1.2.1 (0, (0, ([], ())))), (0, ()))] : List D_rle_Run)) 40) else true) then (letJ (bif y2 then (lapp p1.1 ([((lget x.1 p1.2.1 (0, (0, ([], ())))), (0, ()))] : List D_rle_Run)) else p1.1) (fun ys3 => (bif ((inB (isub .i64 (lenI ys3) 1) (lenI ys3)) && (inB (isub .i64 (lenI ys3) 1) (lenI ys3))) then (ih0 ((lset ys3 (isub .i64 (lenI ys3) 1) ((lget ys3 (isub .i64 (lenI ys3) 1) ((0, (0, ([], ()))), (0, ()))).1, ((iadd .i64 (lget ys3 (isub .i64 (lenI ys3) 1) ((0, (0, ([], ()))), (0, ()))).2.1 1), (lget ys3 (isub .i64 (lenI ys3) 1) ((0, (0, ([], ()))), (0, ()))).2.2))), ((iadd .i64 p1.2.1 1), ()))) else none))) else none))) else none) else none) else (some ((p1.1, ()), ()))))) ([], (0, ())))
theorem ok_stemref4_CollapseRuns (N : Nat) : Contract.ok Try.prog 6 ⟨[.val (.slice T_api_Value)], [.val (.slice T_rle_Run)], F_stemref4_CollapseRuns N⟩ :=
  keeps (E := Env.tab tabT []) (tabOk_env tabT_ok _) fnsOk_nil (N := N) (anns := ⟨[⟨3, [3, 4, 5, 8, 9, 10, 11, 12, 13, 14, 15, 16, 17, 18, 19, 20, 21, 22, 23, 24, 25, 26, 27, 28, 29, 30, 31, 32, 33, 34, 35, 36, 37, 38, 39], [(3, (.own 34 T_rle_Run)), (8, (.val (.int .i64)))]⟩], [(1000006, [23]), (7, [3])]⟩) Try.func6 (by kernel_rfl) (by kernel_rfl) (fun x => by kernel_rfl)
/-- stemma/stemref2.ValidateValue -/
noncomputable def F_stemref2_ValidateValue (N : Nat) (x : (D_api_Value × Unit)) : Option ((Int × Unit) × Unit) :=
  (letJ ((ltI x.1.1 0) || (ltI 3 x.1.1)) (fun y0 => (bif y0 then (some ((7, ()), ())) else (letJ ((neI x.1.1 3) && (!(eqS x.1.2.2.1 []))) (fun y1 => (letJ (bif y1 then y1 else (((eqI x.1.1 0) || (eqI x.1.1 3)) && (neI x.1.2.1 0))) (fun y2 => (bif y2 then (some ((3, ()), ())) else (letJ ((eqI x.1.1 2) && ((ltI x.1.2.1 0) || (ltI 1 x.1.2.1))) (fun y3 => (letJ (bif y3 then y3 else (bif (ltI 1000000000000 x.1.2.1) then (ltI 1000000000000 x.1.2.1) else (ltI x.1.2.1 (-1000000000000)))) (fun y4 => (bif y4 then (some ((1, ()), ())) else (bif (ltI 24 (lenI x.1.2.2.1)) then (some ((2, ()), ())) else (some ((0, ()), ()))))))))))))))))
theorem ok_stemref2_ValidateValue (N : Nat) : Contract.ok Try.prog 7 ⟨[.val T_api_Value], [.val (.int .i64)], F_stemref2_ValidateValue N⟩ :=
  keeps (E := Env.tab tabT []) (tabOk_env tabT_ok _) fnsOk_nil (N := N) (anns := ⟨[], [(1000002, [3]), (1000004, [12]), (1000005, [12]), (1000007, [34]), (1000009, [34])]⟩) Try.func7 (by kernel_rfl) (by kernel_rfl) (fun x => by kernel_rfl)
/-- stemma/stemlaw4.rleWorks -/
noncomputable def F_stemlaw4_rleWorks (N : Nat) (x : Unit) : Option ((Bool × Unit) × Unit) :=
  (bif (oSome (F_rle_Encode N (([(1, (5, ([], ()))), (1, (5, ([], ())))] : List D_api_Value), ()))) then (letJ (oGet (F_rle_Encode N (([(1, (5, ([], ()))), (1, (5, ([], ())))] : List D_api_Value), ())) (([], (0, ())), ())).1.1 (fun y0 => (letJ (oGet (F_rle_Encode N (([(1, (5, ([], ()))), (1, (5, ([], ())))] : List D_api_Value), ())) (([], (0, ())), ())).1.2.1 (fun y1 => (bif ((!((eqI y1 0) && (eqI (lenI y0) 1))) || (inB 0 (lenI y0))) then (some (((((eqI y1 0) && (eqI (lenI y0) 1)) && (eqI (lget y0 0 ((0, (0, ([], ()))), (0, ()))).2.1 2)), ()), ())) else none))))) else none)
theorem ok_stemlaw4_rleWorks (N : Nat) : Contract.ok Try.prog 8 ⟨[], [.val .bool], F_stemlaw4_rleWorks N⟩ :=
  keeps (E := Env.tab tabT [(5, ⟨[.val (.slice T_api_Value)], [.val (.slice T_rle_Run), .val (.int .i64)], F_rle_Encode N⟩)]) (tabOk_env tabT_ok _) (fnsOk_cons (ok_rle_Encode N) fnsOk_nil) (N := N) (anns := ⟨[], [(3, [2, 3])]⟩) Try.func8 (by kernel_rfl) (by kernel_rfl) (fun x => by kernel_rfl)
/-- slices.Equal(()stemma/rle.Run,stemma/rle.Run) -/
noncomputable def F_slices_Equal_rle_Run (N : Nat) (x : ((List D_rle_Run) × ((List D_rle_Run) × Unit))) : Option ((Bool × Unit) × Unit) :=
  (bif (neI (lenI x.1) (lenI x.2.1)) then (some ((false, ()), ())) else (iterF (S := (Int × Unit)) (R := ((Bool × Unit) × Unit)) N (fun ih0 => (fun p1 => (bif (ltI p1.1 (lenI x.1)) then (bif ((inB p1.1 (lenI x.1)) && (inB p1.1 (lenI x.2.1))) then (bif (!(((eqI (lget x.1 p1.1 ((0, (0, ([], ()))), (0, ()))).1.1 (lget x.2.1 p1.1 ((0, (0, ([], ()))), (0, ()))).1.1) && ((eqI (lget x.1 p1.1 ((0, (0, ([], ()))), (0, ()))).1.2.1 (lget x.2.1 p1.1 ((0, (0, ([], ()))), (0, ()))).1.2.1) && (eqS (lget x.1 p1.1 ((0, (0, ([], ()))), (0, ()))).1.2.2.1 (lget x.2.1 p1.1 ((0, (0, ([], ()))), (0, ()))).1.2.2.1))) && (eqI (lget x.1 p1.1 ((0, (0, ([], ()))), (0, ()))).2.1 (lget x.2.1 p1.1 ((0, (0, ([], ()))), (0, ()))).2.1))) then (some ((false, ()), ())) else (ih0 ((iadd .i64 p1.1 1), ()))) else none) else (some ((true, ()), ()))))) (0, ())))
theorem ok_slices_Equal_rle_Run (N : Nat) : Contract.ok Try.prog 9 ⟨[.val (.slice T_rle_Run), .val (.slice T_rle_Run)], [.val .bool], F_slices_Equal_rle_Run N⟩ :=
  keeps (E := Env.tab tabT []) (tabOk_env tabT_ok _) fnsOk_nil (N := N) (anns := ⟨[⟨4, [4, 5, 13, 14, 15, 16, 17, 18, 19, 20, 21, 22, 23, 24, 25], [(13, (.val (.int .i64)))]⟩], []⟩) Try.func9 (by kernel_rfl) (by kernel_rfl) (fun x => by kernel_rfl)
/-- stemma/stemlaw4.RLEEncodeMatchesReference -/
noncomputable def F_stemlaw4_RLEEncodeMatchesReference (N : Nat) (x : ((List D_api_Value) × Unit)) : Option ((Bool × Unit) × Unit) :=
  (bif (oSome (F_rle_Encode N (x.1, ()))) then (letJ (oGet (F_rle_Encode N (x.1, ())) (([], (0, ())), ())).1.1 (fun y0 => (letJ (oGet (F_rle_Encode N (x.1, ())) (([], (0, ())), ())).1.2.1 (fun y1 => (bif (oSome (F_stemref4_CollapseRuns N (x.1, ()))) then (letJ (oGet (F_stemref4_CollapseRuns N (x.1, ())) (([], ()), ())).1.1 (fun y2 => (letJ (bif (ltI 100000 (lenI x.1)) then 2 else 0) (fun y3 => (iterF (S := (Int × (Int × Unit))) (R := ((Bool × Unit) × Unit)) N (fun ih4 => (fun p5 => (bif (ltI p5.2.1 (lenI x.1)) then (bif (inB p5.2.1 (lenI x.1)) then (bif (bif (eqI p5.1 0) then (oSome (F_stemref2_ValidateValue N ((lget x.1 p5.2.1 (0, (0, ([], ())))), ()))) else true) then (ih4 ((bif (eqI p5.1 0) then (oGet (F_stemref2_ValidateValue N ((lget x.1 p5.2.1 (0, (0, ([], ())))), ())) ((0, ()), ())).1.1 else p5.1), ((iadd .i64 p5.2.1 1), ()))) else none) else none) else (letJ ((eqI p5.1 0) && (ltI 400 (lenI y2))) (fun y6 => (letJ (bif y6 then 2 else p5.1) (fun y7 => (letJ (bif (neI y7 0) then [] else y2) (fun y8 => (bif ((oSome (F_stemlaw4_rleWorks N ())) && ((!(oGet (F_stemlaw4_rleWorks N ()) ((false, ()), ())).1.1) || (oSome (F_slices_Equal_rle_Run N (y0, (y8, ())))))) then (some (((((oGet (F_stemlaw4_rleWorks N ()) ((false, ()), ())).1.1 && (oGet (F_slices_Equal_rle_Run N (y0, (y8, ()))) ((false, ()), ())).1.1) && (eqI y1 y7)), ()), ())) else none)))))))))) (y3, (0, ()))))))) else none))))) else none)
theorem ok_stemlaw4_RLEEncodeMatchesReference (N : Nat) : Contract.ok Try.prog 3 ⟨[.val (.slice T_api_Value)], [.val .bool], F_stemlaw4_RLEEncodeMatchesReference N⟩ :=
  keeps (E := Env.tab tabT [(5, ⟨[.val (.slice T_api_Value)], [.val (.slice T_rle_Run), .val (.int .i64)], F_rle_Encode N⟩), (6, ⟨[.val (.slice T_api_Value)], [.val (.slice T_rle_Run)], F_stemref4_CollapseRuns N⟩), (7, ⟨[.val T_api_Value], [.val (.int .i64)], F_stemref2_ValidateValue N⟩), (8, ⟨[], [.val .bool], F_stemlaw4_rleWorks N⟩), (9, ⟨[.val (.slice T_rle_Run), .val (.slice T_rle_Run)], [.val .bool], F_slices_Equal_rle_Run N⟩)]) (tabOk_env tabT_ok _) (fnsOk_cons (ok_rle_Encode N) (fnsOk_cons (ok_stemref4_CollapseRuns N) (fnsOk_cons (ok_stemref2_ValidateValue N) (fnsOk_cons (ok_stemlaw4_rleWorks N) (fnsOk_cons (ok_slices_Equal_rle_Run N) fnsOk_nil))))) (N := N) (anns := ⟨[⟨6, [6, 8, 21, 22, 23, 24, 25, 26, 27, 28, 29], [(6, (.val (.int .i64))), (21, (.val (.int .i64)))]⟩], [(2, [3, 4]), (3, [5]), (5, [6]), (1000012, [36]), (13, [6]), (15, [5])]⟩) Try.func3 (by kernel_rfl) (by kernel_rfl) (fun x => by kernel_rfl)
/-- stemma/stemref2.LessValue -/
noncomputable def F_stemref2_LessValue (N : Nat) (x : (D_api_Value × (D_api_Value × Unit))) : Option ((Bool × Unit) × Unit) :=
  (bif (neI x.1.1 x.2.1.1) then (some (((ltI x.1.1 x.2.1.1), ()), ())) else (bif (neI x.1.2.1 x.2.1.2.1) then (some (((ltI x.1.2.1 x.2.1.2.1), ()), ())) else (some (((bless x.1.2.2.1 x.2.1.2.2.1), ()), ()))))
theorem ok_stemref2_LessValue (N : Nat) : Contract.ok Try.prog 10 ⟨[.val T_api_Value, .val T_api_Value], [.val .bool], F_stemref2_LessValue N⟩ :=
  keeps (E := Env.tab tabT []) (tabOk_env tabT_ok _) fnsOk_nil (N := N) (anns := ⟨[], []⟩) Try.func10 (by kernel_rfl) (by kernel_rfl) (fun x => by kernel_rfl)
/-- stemma/value.compareInts -/
noncomputable def F_value_compareInts (N : Nat) (x : (Int × (Int × Unit))) : Option ((Int × Unit) × Unit) :=
  (bif (ltI x.1 x.2.1) then (some (((-1), ()), ())) else (bif (ltI x.2.1 x.1) then (some ((1, ()), ())) else (some ((0, ()), ()))))
theorem ok_value_compareInts (N : Nat) : Contract.ok Try.prog 21 ⟨[.val (.int .i64), .val (.int .i64)], [.val (.int .i64)], F_value_compareInts N⟩ :=
  keeps (E := Env.tab tabT []) (tabOk_env tabT_ok _) fnsOk_nil (N := N) (anns := ⟨[], []⟩) Try.func21 (by kernel_rfl) (by kernel_rfl) (fun x => by kernel_rfl)
/-- internal/bytealg.CompareString -/
noncomputable def F_internal_bytealg_CompareString (N : Nat) (x : ((List UInt8) × ((List UInt8) × Unit))) : Option ((Int × Unit) × Unit) := some ((Lib.compareBytes x.1 x.2.1, ()), ())
set_option maxHeartbeats 1000000 in
theorem walk_CompareString (a b : ByteArray) (w : World) :
    Calls Try.prog 23 #[.string a, .string b] w fun e w' => e = .returned (.int .i64 (Lib.compareBytes a.data.toList b.data.toList)) ∧ w' = w := by
  go_enter Try.func23, Try.ntmps23
  go_wp2
  rw [run_callFunc_extern Try.func24 (by kernel_rfl) (by kernel_rfl) (by kernel_rfl) (e := Extern.BytealgCompare.compare) (by kernel_rfl), Lib.run_compareString]
  simp only [Result.andThen]
  rw [Oper.upon_value]
  go_wp2
  go_ret
  exact ⟨rfl, rfl⟩
theorem ok_internal_bytealg_CompareString (N : Nat) : Contract.ok Try.prog 23 ⟨[.val .str, .val .str], [.val (.int .i64)], F_internal_bytealg_CompareString N⟩ :=
  ok_str2int Try.func23 (by kernel_rfl) (by kernel_rfl) Lib.compareBytes compareBytes_has walk_CompareString

/-- strings.Compare -/
noncomputable def F_strings_Compare (N : Nat) (x : ((List UInt8) × ((List UInt8) × Unit))) : Option ((Int × Unit) × Unit) :=
  (bif (oSome (F_internal_bytealg_CompareString N (x.1, (x.2.1, ())))) then (some (((oGet (F_internal_bytealg_CompareString N (x.1, (x.2.1, ()))) ((0, ()), ())).1.1, ()), ())) else none)
theorem ok_strings_Compare (N : Nat) : Contract.ok Try.prog 22 ⟨[.val .str, .val .str], [.val (.int .i64)], F_strings_Compare N⟩ :=
  keeps (E := Env.tab tabT [(23, ⟨[.val .str, .val .str], [.val (.int .i64)], F_internal_bytealg_CompareString N⟩)]) (tabOk_env tabT_ok _) (fnsOk_cons (ok_internal_bytealg_CompareString N) fnsOk_nil) (N := N) (anns := ⟨[], []⟩) Try.func22 (by kernel_rfl) (by kernel_rfl) (fun x => by kernel_rfl)
/-- stemma/value.Compare -/
noncomputable def F_value_Compare (N : Nat) (x : (D_api_Value × (D_api_Value × Unit))) : Option ((Int × Unit) × Unit) :=
  (bif (oSome (F_value_compareInts N (x.1.1, (x.2.1.1, ())))) then (letJ (oGet (F_value_compareInts N (x.1.1, (x.2.1.1, ()))) ((0, ()), ())).1.1 (fun y0 => (bif (neI y0 0) then (some ((y0, ()), ())) else (bif (oSome (F_value_compareInts N (x.1.2.1, (x.2.1.2.1, ())))) then (letJ (oGet (F_value_compareInts N (x.1.2.1, (x.2.1.2.1, ()))) ((0, ()), ())).1.1 (fun y1 => (bif (neI y1 0) then (some ((y1, ()), ())) else (bif (oSome (F_strings_Compare N (x.1.2.2.1, (x.2.1.2.2.1, ())))) then (some (((oGet (F_strings_Compare N (x.1.2.2.1, (x.2.1.2.2.1, ()))) ((0, ()), ())).1.1, ()), ())) else none)))) else none)))) else none)
theorem ok_value_Compare (N : Nat) : Contract.ok Try.prog 15 ⟨[.val T_api_Value, .val T_api_Value], [.val (.int .i64)], F_value_Compare N⟩ :=
  keeps (E := Env.tab tabT [(21, ⟨[.val (.int .i64), .val (.int .i64)], [.val (.int .i64)], F_value_compareInts N⟩), (22, ⟨[.val .str, .val .str], [.val (.int .i64)], F_strings_Compare N⟩)]) (tabOk_env tabT_ok _) (fnsOk_cons (ok_value_compareInts N) (fnsOk_cons (ok_strings_Compare N) fnsOk_nil)) (N := N) (anns := ⟨[], [(2, [5]), (5, [6])]⟩) Try.func15 (by kernel_rfl) (by kernel_rfl) (fun x => by kernel_rfl)
/-- stemma/value.Satisfies -/
noncomputable def F_value_Satisfies (N : Nat) (x : (D_api_Value × ((List UInt8) × (D_api_Value × Unit)))) : Option ((Bool × (Int × Unit)) × Unit) :=
  (letJ (((!(eqS x.2.1 [61])) && (!(eqS x.2.1 [60]))) && (!(eqS x.2.1 [60, 61]))) (fun y0 => (bif y0 then (some ((false, (3, ())), ())) else (letJ ((eqI x.1.1 0) || (eqI x.2.2.1.1 0)) (fun y1 => (bif y1 then (some ((true, (0, ())), ())) else (bif (oSome (F_value_Compare N (x.1, (x.2.2.1, ())))) then (letJ (oGet (F_value_Compare N (x.1, (x.2.2.1, ()))) ((0, ()), ())).1.1 (fun y2 => (some (((((eqI y2 0) && (!(eqS x.2.1 [60]))) || ((ltI y2 0) && (!(eqS x.2.1 [61])))), (0, ())), ())))) else none)))))))
theorem ok_value_Satisfies (N : Nat) : Contract.ok Try.prog 11 ⟨[.val T_api_Value, .val .str, .val T_api_Value], [.val .bool, .val (.int .i64)], F_value_Satisfies N⟩ :=
  keeps (E := Env.tab tabT [(15, ⟨[.val T_api_Value, .val T_api_Value], [.val (.int .i64)], F_value_Compare N⟩)]) (tabOk_env tabT_ok _) (fnsOk_cons (ok_value_Compare N) fnsOk_nil) (N := N) (anns := ⟨[], [(1000002, [18]), (1000004, [26]), (6, [8])]⟩) Try.func11 (by kernel_rfl) (by kernel_rfl) (fun x => by kernel_rfl)
/-- stemma/stemref2.ValidOp -/
noncomputable def F_stemref2_ValidOp (N : Nat) (x : ((List UInt8) × Unit)) : Option ((Bool × Unit) × Unit) :=
  (some (((((eqS x.1 [61]) || (eqS x.1 [60])) || (eqS x.1 [60, 61])), ()), ()))
theorem ok_stemref2_ValidOp (N : Nat) : Contract.ok Try.prog 12 ⟨[.val .str], [.val .bool], F_stemref2_ValidOp N⟩ :=
  keeps (E := Env.tab tabT []) (tabOk_env tabT_ok _) fnsOk_nil (N := N) (anns := ⟨[], []⟩) Try.func12 (by kernel_rfl) (by kernel_rfl) (fun x => by kernel_rfl)
/-- stemma/stemref2.Predicate -/
noncomputable def F_stemref2_Predicate (N : Nat) (x : (D_api_Value × ((List UInt8) × (D_api_Value × Unit)))) : Option ((Bool × Unit) × Unit) :=
  (letJ ((eqI x.1.1 0) || (eqI x.2.2.1.1 0)) (fun y0 => (bif y0 then (some ((true, ()), ())) else (bif (eqS x.2.1 [61]) then (some ((((eqI x.1.1 x.2.2.1.1) && ((eqI x.1.2.1 x.2.2.1.2.1) && (eqS x.1.2.2.1 x.2.2.1.2.2.1))), ()), ())) else (bif (eqS x.2.1 [60]) then (bif (oSome (F_stemref2_LessValue N (x.1, (x.2.2.1, ())))) then (some (((oGet (F_stemref2_LessValue N (x.1, (x.2.2.1, ()))) ((false, ()), ())).1.1, ()), ())) else none) else (bif (oSome (F_stemref2_LessValue N (x.2.2.1, (x.1, ())))) then (some (((!(oGet (F_stemref2_LessValue N (x.2.2.1, (x.1, ()))) ((false, ()), ())).1.1), ()), ())) else none))))))
theorem ok_stemref2_Predicate (N : Nat) : Contract.ok Try.prog 13 ⟨[.val T_api_Value, .val .str, .val T_api_Value], [.val .bool], F_stemref2_Predicate N⟩ :=
  keeps (E := Env.tab tabT [(10, ⟨[.val T_api_Value, .val T_api_Value], [.val .bool], F_stemref2_LessValue N⟩)]) (tabOk_env tabT_ok _) (fnsOk_cons (ok_stemref2_LessValue N) fnsOk_nil) (N := N) (anns := ⟨[], [(1000002, [7])]⟩) Try.func13 (by kernel_rfl) (by kernel_rfl) (fun x => by kernel_rfl)
/-- stemma/value.Less -/
noncomputable def F_value_Less (N : Nat) (x : (D_api_Value × (D_api_Value × Unit))) : Option ((Bool × Unit) × Unit) :=
  (bif (oSome (F_value_Compare N (x.1, (x.2.1, ())))) then (some (((ltI (oGet (F_value_Compare N (x.1, (x.2.1, ()))) ((0, ()), ())).1.1 0), ()), ())) else none)
theorem ok_value_Less (N : Nat) : Contract.ok Try.prog 16 ⟨[.val T_api_Value, .val T_api_Value], [.val .bool], F_value_Less N⟩ :=
  keeps (E := Env.tab tabT [(15, ⟨[.val T_api_Value, .val T_api_Value], [.val (.int .i64)], F_value_Compare N⟩)]) (tabOk_env tabT_ok _) (fnsOk_cons (ok_value_Compare N) fnsOk_nil) (N := N) (anns := ⟨[], []⟩) Try.func16 (by kernel_rfl) (by kernel_rfl) (fun x => by kernel_rfl)
/-- stemma/value.Zero -/
noncomputable def F_value_Zero (N : Nat) (x : (Int × (Bool × Unit))) : Option ((D_api_Value × Unit) × Unit) :=
  (letJ ((x.2.1 || (ltI x.1 1)) || (ltI 3 x.1)) (fun y0 => (bif y0 then (some (((0, (0, ([], ()))), ()), ())) else (some (((x.1, (0, ([], ()))), ()), ())))))
theorem ok_value_Zero (N : Nat) : Contract.ok Try.prog 17 ⟨[.val (.int .i64), .val .bool], [.val T_api_Value], F_value_Zero N⟩ :=
  keeps (E := Env.tab tabT []) (tabOk_env tabT_ok _) fnsOk_nil (N := N) (anns := ⟨[], [(1000002, [13])]⟩) Try.func17 (by kernel_rfl) (by kernel_rfl) (fun x => by kernel_rfl)
/-- stemma/stemref2.DefaultValue -/
noncomputable def F_stemref2_DefaultValue (N : Nat) (x : (Int × (Bool × Unit))) : Option ((D_api_Value × Unit) × Unit) :=
  (letJ (((!x.2.1) && (leI 1 x.1)) && (leI x.1 3)) (fun y0 => (bif y0 then (some (((x.1, (0, ([], ()))), ()), ())) else (some (((0, (0, ([], ()))), ()), ())))))
theorem ok_stemref2_DefaultValue (N : Nat) : Contract.ok Try.prog 18 ⟨[.val (.int .i64), .val .bool], [.val T_api_Value], F_stemref2_DefaultValue N⟩ :=
  keeps (E := Env.tab tabT []) (tabOk_env tabT_ok _) fnsOk_nil (N := N) (anns := ⟨[], [(1000002, [14])]⟩) Try.func18 (by kernel_rfl) (by kernel_rfl) (fun x => by kernel_rfl)
/-- stemma/stemlaw2.ValueMatchesReference -/
noncomputable def F_stemlaw2_ValueMatchesReference (N : Nat) (x : (D_api_Value × (D_api_Value × ((List UInt8) × (Int × (Bool × Unit)))))) : Option ((Bool × Unit) × Unit) :=
  (bif (oSome (F_stemref2_LessValue N (x.1, (x.2.1, ())))) then (letJ (oGet (F_stemref2_LessValue N (x.1, (x.2.1, ()))) ((false, ()), ())).1.1 (fun y0 => (bif (y0 || (oSome (F_stemref2_LessValue N (x.2.1, (x.1, ()))))) then (letJ (bif y0 then (-1) else (bif (oGet (F_stemref2_LessValue N (x.2.1, (x.1, ()))) ((false, ()), ())).1.1 then 1 else 0)) (fun y1 => (bif (oSome (F_value_Satisfies N (x.1, (x.2.2.1, (x.2.1, ()))))) then (letJ (oGet (F_value_Satisfies N (x.1, (x.2.2.1, (x.2.1, ())))) ((false, (0, ())), ())).1.1 (fun y2 => (letJ (oGet (F_value_Satisfies N (x.1, (x.2.2.1, (x.2.1, ())))) ((false, (0, ())), ())).1.2.1 (fun y3 => (bif ((oSome (F_stemref2_ValidOp N (x.2.2.1, ()))) && (((!(!((!(oGet (F_stemref2_ValidOp N (x.2.2.1, ())) ((false, ()), ())).1.1) && (y2 || (neI y3 3))))) || (oSome (F_stemref2_ValidOp N (x.2.2.1, ())))) && ((!((!(neI y3 0)) && ((oGet (F_stemref2_ValidOp N (x.2.2.1, ())) ((false, ()), ())).1.1 && (!((!(oGet (F_stemref2_ValidOp N (x.2.2.1, ())) ((false, ()), ())).1.1) && (y2 || (neI y3 3))))))) || (oSome (F_stemref2_Predicate N (x.1, (x.2.2.1, (x.2.1, ())))))))) then (letJ (((!(oGet (F_stemref2_ValidOp N (x.2.2.1, ())) ((false, ()), ())).1.1) && (y2 || (neI y3 3))) || ((oGet (F_stemref2_ValidOp N (x.2.2.1, ())) ((false, ()), ())).1.1 && ((neI y3 0) || (!(eqB y2 (oGet (F_stemref2_Predicate N (x.1, (x.2.2.1, (x.2.1, ())))) ((false, ()), ())).1.1))))) (fun y4 => (bif y4 then (some ((false, ()), ())) else (bif ((oSome (F_value_Validate N (x.1, ()))) && ((oSome (F_stemref2_ValidateValue N (x.1, ()))) && (((!(eqI (oGet (F_value_Validate N (x.1, ())) ((0, ()), ())).1.1 (oGet (F_stemref2_ValidateValue N (x.1, ())) ((0, ()), ())).1.1)) || (oSome (F_value_Compare N (x.1, (x.2.1, ()))))) && (((!((eqI (oGet (F_value_Validate N (x.1, ())) ((0, ()), ())).1.1 (oGet (F_stemref2_ValidateValue N (x.1, ())) ((0, ()), ())).1.1) && (eqI (oGet (F_value_Compare N (x.1, (x.2.1, ()))) ((0, ()), ())).1.1 y1))) || (oSome (F_value_Less N (x.1, (x.2.1, ()))))) && (((!(((eqI (oGet (F_value_Validate N (x.1, ())) ((0, ()), ())).1.1 (oGet (F_stemref2_ValidateValue N (x.1, ())) ((0, ()), ())).1.1) && (eqI (oGet (F_value_Compare N (x.1, (x.2.1, ()))) ((0, ()), ())).1.1 y1)) && (eqB (oGet (F_value_Less N (x.1, (x.2.1, ()))) ((false, ()), ())).1.1 (ltI y1 0)))) || (oSome (F_value_Zero N (x.2.2.2.1, (x.2.2.2.2.1, ()))))) && ((!(((eqI (oGet (F_value_Validate N (x.1, ())) ((0, ()), ())).1.1 (oGet (F_stemref2_ValidateValue N (x.1, ())) ((0, ()), ())).1.1) && (eqI (oGet (F_value_Compare N (x.1, (x.2.1, ()))) ((0, ()), ())).1.1 y1)) && (eqB (oGet (F_value_Less N (x.1, (x.2.1, ()))) ((false, ()), ())).1.1 (ltI y1 0)))) || (oSome (F_stemref2_DefaultValue N (x.2.2.2.1, (x.2.2.2.2.1, ())))))))))) then (some ((((((eqI (oGet (F_value_Validate N (x.1, ())) ((0, ()), ())).1.1 (oGet (F_stemref2_ValidateValue N (x.1, ())) ((0, ()), ())).1.1) && (eqI (oGet (F_value_Compare N (x.1, (x.2.1, ()))) ((0, ()), ())).1.1 y1)) && (eqB (oGet (F_value_Less N (x.1, (x.2.1, ()))) ((false, ()), ())).1.1 (ltI y1 0))) && ((eqI (oGet (F_value_Zero N (x.2.2.2.1, (x.2.2.2.2.1, ()))) (((0, (0, ([], ()))), ()), ())).1.1.1 (oGet (F_stemref2_DefaultValue N (x.2.2.2.1, (x.2.2.2.2.1, ()))) (((0, (0, ([], ()))), ()), ())).1.1.1) && ((eqI (oGet (F_value_Zero N (x.2.2.2.1, (x.2.2.2.2.1, ()))) (((0, (0, ([], ()))), ()), ())).1.1.2.1 (oGet (F_stemref2_DefaultValue N (x.2.2.2.1, (x.2.2.2.2.1, ()))) (((0, (0, ([], ()))), ()), ())).1.1.2.1) && (eqS (oGet (F_value_Zero N (x.2.2.2.1, (x.2.2.2.2.1, ()))) (((0, (0, ([], ()))), ()), ())).1.1.2.2.1 (oGet (F_stemref2_DefaultValue N (x.2.2.2.1, (x.2.2.2.2.1, ()))) (((0, (0, ([], ()))), ()), ())).1.1.2.2.1)))), ()), ())) else none)))) else none))))) else none))) else none))) else none)
theorem ok_stemlaw2_ValueMatchesReference (N : Nat) : Contract.ok Try.prog 4 ⟨[.val T_api_Value, .val T_api_Value, .val .str, .val (.int .i64), .val .bool], [.val .bool], F_stemlaw2_ValueMatchesReference N⟩ :=
  keeps (E := Env.tab tabT [(7, ⟨[.val T_api_Value], [.val (.int .i64)], F_stemref2_ValidateValue N⟩), (10, ⟨[.val T_api_Value, .val T_api_Value], [.val .bool], F_stemref2_LessValue N⟩), (11, ⟨[.val T_api_Value, .val .str, .val T_api_Value], [.val .bool, .val (.int .i64)], F_value_Satisfies N⟩), (12, ⟨[.val .str], [.val .bool], F_stemref2_ValidOp N⟩), (13, ⟨[.val T_api_Value, .val .str, .val T_api_Value], [.val .bool], F_stemref2_Predicate N⟩), (14, ⟨[.val T_api_Value], [.val (.int .i64)], F_value_Validate N⟩), (15, ⟨[.val T_api_Value, .val T_api_Value], [.val (.int .i64)], F_value_Compare N⟩), (16, ⟨[.val T_api_Value, .val T_api_Value], [.val .bool], F_value_Less N⟩), (17, ⟨[.val (.int .i64), .val .bool], [.val T_api_Value], F_value_Zero N⟩), (18, ⟨[.val (.int .i64), .val .bool], [.val T_api_Value], F_stemref2_DefaultValue N⟩)]) (tabOk_env tabT_ok _) (fnsOk_cons (ok_stemref2_ValidateValue N) (fnsOk_cons (ok_stemref2_LessValue N) (fnsOk_cons (ok_value_Satisfies N) (fnsOk_cons (ok_stemref2_ValidOp N) (fnsOk_cons (ok_stemref2_Predicate N) (fnsOk_cons (ok_value_Validate N) (fnsOk_cons (ok_value_Compare N) (fnsOk_cons (ok_value_Less N) (fnsOk_cons (ok_value_Zero N) (fnsOk_cons (ok_stemref2_DefaultValue N) fnsOk_nil)))))))))) (N := N) (anns := ⟨[], [(1000003, [16]), (1000005, [19]), (6, [11]), (7, [12, 13]), (1000008, [52])]⟩) Try.func4 (by kernel_rfl) (by kernel_rfl) (fun x => by kernel_rfl)

end Go.Proofs.Ytjbkbaknjfinnaa
