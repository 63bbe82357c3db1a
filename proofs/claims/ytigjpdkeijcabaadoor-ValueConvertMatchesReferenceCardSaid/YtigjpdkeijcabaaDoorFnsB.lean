/- What the functions compute, and that they do. -/
import Derived.Test.YtigjpdkeijcabaaDoorChecked
import Derived.Test.YtigjpdkeijcabaaDoorViPost
import Derived.KernelRfl
import Derived.Test.YtigjpdkeijcabaaDoorViStd
import Derived.Test.YtigjpdkeijcabaaDoorShf
import Derived.Test.YtigjpdkeijcabaaDoorViHand
set_option linter.unusedVariables false
set_option linter.unusedSimpArgs false
set_option linter.unnecessarySimpa false
set_option linter.unusedSectionVars false
set_option maxRecDepth 100000
set_option maxHeartbeats 0
namespace Go.Proofs.YtigjpdkeijcabaaDoor
open Go.Vi

abbrev T_errors_errorString : Ty := (.pair .str .unit)
abbrev D_errors_errorString : Type := ((List UInt8) × Unit)
abbrev T_unicode_utf8_acceptRange : Ty := (.pair (.int .u8) (.pair (.int .u8) .unit))
abbrev D_unicode_utf8_acceptRange : Type := (Int × (Int × Unit))
abbrev T_api_Value : Ty := (.pair (.int .i64) (.pair (.int .i64) T_errors_errorString))
abbrev D_api_Value : Type := (Int × (Int × D_errors_errorString))

def tabT : List TI := [
  ⟨2, (.int .i64), 0, [], (.val (.int .i64)), 8, false⟩,
  ⟨3, (.int .i64), 0, [], (.val (.int .i64)), 8, false⟩,
  ⟨4, .bool, 0, [], (.val .bool), 1, false⟩,
  ⟨9, .str, 0, [], (.val .str), 16, false⟩,
  ⟨24, (.int .i64), 0, [], (.val (.int .i64)), 8, false⟩,
  ⟨33, T_api_Value, 0, [(0, 3), (1, 3), (2, 9)], (.val T_api_Value), 32, true⟩,
  ⟨43, (.slice T_api_Value), 33, [], (.own 33 T_api_Value), 24, false⟩,
  ⟨55, .err, 0, [], (.val .err), 16, false⟩,
  ⟨73, (.slice .str), 9, [], (.own 9 .str), 24, false⟩]
theorem tabT_ok : tabOk Tryd.prog tabT = true := by kernel_rfl
def tab_2_is : List Int := [1, 10, 100, 1000, 10000, 100000, 1000000, 10000000, 100000000, 1000000000, 10000000000, 100000000000, 1000000000000, 10000000000000, 100000000000000, 1000000000000000, 10000000000000000, 100000000000000000, 1000000000000000000, 10000000000000000000]
noncomputable def tab_2 : List Int := (sealed tab_2_is).1
theorem tab_2_def : tab_2 = tab_2_is := by unfold tab_2; rw [(sealed _).2]
noncomputable def gT : Tabs := fun g => match decEq g 0 with | isTrue _ => some ⟨.err, false⟩ | isFalse _ => match decEq g 1 with | isTrue _ => some ⟨.err, false⟩ | isFalse _ => match decEq g 2 with | isTrue _ => some ⟨.arr 20 (.int .u64), tab_2⟩ | isFalse _ => none

/-- stemma/value.Validate -/
noncomputable def F_value_Validate (N : Nat) (x : (D_api_Value × Unit)) : Option ((Int × Unit) × Unit) :=
  (bif (eqI x.1.1 0) then (letJ ((neI x.1.2.1 0) || (!(eqS x.1.2.2.1 ([] : List UInt8)))) (fun y0 => (bif y0 then (some ((3, ()), ())) else (some ((0, ()), ()))))) else (letJ x.1 (fun y0 => (letJ (bif (eqI x.1.1 1) then (eqI x.1.1 1) else (eqI x.1.1 2)) (fun y1 => (bif y1 then (bif (!(eqS y0.2.2.1 ([] : List UInt8))) then (some ((3, ()), ())) else (letJ (((((eqI y0.1 2) && (neI y0.2.1 0)) && (neI y0.2.1 1)) || (ltI y0.2.1 (-1000000000000))) || (ltI 1000000000000 y0.2.1)) (fun y2 => (bif y2 then (some ((1, ()), ())) else (some ((0, ()), ())))))) else (bif (eqI x.1.1 3) then (bif (neI y0.2.1 0) then (some ((3, ()), ())) else (bif (ltI 24 (lenI y0.2.2.1)) then (some ((2, ()), ())) else (some ((0, ()), ())))) else (some ((7, ()), ())))))))))
theorem ok_value_Validate (N : Nat) : Contract.okT Tryd.prog gT 17 ⟨[.val T_api_Value], [.val (.int .i64)], F_value_Validate N⟩ :=
  keeps (E := Env.tabG gT tabT []) (tabOk_envG gT tabT_ok _) fnsOkG_nil (N := N) (anns := ⟨[], [(1000008, [1, 15]), (1000011, [43]), (1000005, [14])], []⟩) Tryd.func17 (by kernel_rfl) (by kernel_rfl) (fun x => by kernel_rfl)
/-- strconv.Itoa: the decimal numeral -/
noncomputable def F_strconv_Itoa (N : Nat) (x : (Int × Unit)) : Option (D_errors_errorString × Unit) := some ((Lib.itoa x.1, ()), ())
theorem gT_pow10 : gT 2 = some ⟨.arr 20 (.int .u64), tab_2⟩ := rfl
theorem pow10_is : tab_2 = Lib.pow10Tab := by rw [tab_2_def]; kernel_rfl
theorem ok_strconv_Itoa (N : Nat) : Contract.okT Tryd.prog gT 18 ⟨[.val (.int .i64)], [.val .str], F_strconv_Itoa N⟩ :=
  ok_itoa Tryd.func18 (by kernel_rfl) (by kernel_rfl) (by kernel_rfl) gT_pow10 pow10_is (fun n h0 h1 w ht => Tryd.strconv_Itoa n h0 h1 w ht)

/-- internal/strconv.FormatBool -/
noncomputable def F_internal_strconv_FormatBool (N : Nat) (x : (Bool × Unit)) : Option (D_errors_errorString × Unit) :=
  (bif x.1 then (some (([116, 114, 117, 101], ()), ())) else (some (([102, 97, 108, 115, 101], ()), ())))
theorem ok_internal_strconv_FormatBool (N : Nat) : Contract.okT Tryd.prog gT 36 ⟨[.val .bool], [.val .str], F_internal_strconv_FormatBool N⟩ :=
  keeps (E := Env.tabG gT tabT []) (tabOk_envG gT tabT_ok _) fnsOkG_nil (N := N) (anns := ⟨[], [], []⟩) Tryd.func36 (by kernel_rfl) (by kernel_rfl) (fun x => by kernel_rfl)
/-- strconv.FormatBool -/
noncomputable def F_strconv_FormatBool (N : Nat) (x : (Bool × Unit)) : Option (D_errors_errorString × Unit) :=
  (bif (oSome (F_internal_strconv_FormatBool N (x.1, ()))) then (some (((oGet (F_internal_strconv_FormatBool N (x.1, ())) ((([] : List UInt8), ()), ())).1.1, ()), ())) else none)
theorem ok_strconv_FormatBool (N : Nat) : Contract.okT Tryd.prog gT 19 ⟨[.val .bool], [.val .str], F_strconv_FormatBool N⟩ :=
  keeps (E := Env.tabG gT tabT [(36, ⟨[.val .bool], [.val .str], F_internal_strconv_FormatBool N⟩)]) (tabOk_envG gT tabT_ok _) (fnsOkG_cons (ok_internal_strconv_FormatBool N) fnsOkG_nil) (N := N) (anns := ⟨[], [], []⟩) Tryd.func19 (by kernel_rfl) (by kernel_rfl) (fun x => by kernel_rfl)
/-- stemma/value.parseBool -/
noncomputable def F_value_parseBool (N : Nat) (x : D_errors_errorString) : Option ((D_api_Value × (Bool × Unit)) × Unit) :=
  (bif (eqS x.1 [116, 114, 117, 101]) then (some (((2, (1, (([] : List UInt8), ()))), (true, ())), ())) else (bif (eqS x.1 [102, 97, 108, 115, 101]) then (some (((2, (0, (([] : List UInt8), ()))), (true, ())), ())) else (some (((0, (0, (([] : List UInt8), ()))), (false, ())), ()))))
theorem ok_value_parseBool (N : Nat) : Contract.okT Tryd.prog gT 20 ⟨[.val .str], [.val T_api_Value, .val .bool], F_value_parseBool N⟩ :=
  keeps (E := Env.tabG gT tabT []) (tabOk_envG gT tabT_ok _) fnsOkG_nil (N := N) (anns := ⟨[], [], []⟩) Tryd.func20 (by kernel_rfl) (by kernel_rfl) (fun x => by kernel_rfl)
/-- strconv.Atoi, at texts that are not too long -/
noncomputable def F_strconv_Atoi (N : Nat) (x : D_errors_errorString) : Option ((Int × (Bool × Unit)) × Unit) := omap (fun y => ((y.1, (y.2, ())), ())) (atoiF x.1)
theorem ok_strconv_Atoi (N : Nat) : Contract.okT Tryd.prog gT 37 ⟨[.val .str], [.val (.int .i64), .val .err], F_strconv_Atoi N⟩ :=
  ok_atoi (g1 := 0) (g2 := 1) Tryd.func37 (by kernel_rfl) (by kernel_rfl) rfl rfl (fun s hl v hv w => Tryd.strconv_Atoi_ok s hl v hv w) (fun s hl hv ev w h1 h2 => Tryd.strconv_Atoi_syntax s hl hv ev w h1 h2) (fun s hl hv ev w h1 h2 => Tryd.strconv_Atoi_range s hl hv ev w h1 h2)

/-- stemma/value.parseInt -/
noncomputable def F_value_parseInt (N : Nat) (x : D_errors_errorString) : Option ((D_api_Value × (Bool × Unit)) × Unit) :=
  (bif (oSome (F_strconv_Atoi N (x.1, ()))) then (letJ x.1 (fun y0 => (letJ (oGet (F_strconv_Atoi N (x.1, ())) ((0, (true, ())), ())).1.1 (fun y1 => (letJ (oGet (F_strconv_Atoi N (x.1, ())) ((0, (true, ())), ())).1.2.1 (fun y2 => (bif ((!(!(!y2))) || (oSome (F_strconv_Itoa N (y1, ())))) then (letJ y1 (fun y3 => (letJ ((((!y2) || (!(eqS (oGet (F_strconv_Itoa N (y1, ())) ((([] : List UInt8), ()), ())).1.1 y0))) || (ltI y1 (-1000000000000))) || (ltI 1000000000000 y1)) (fun y4 => (bif y4 then (some (((0, (0, (([] : List UInt8), ()))), (false, ())), ())) else (some (((1, (y3, (([] : List UInt8), ()))), (true, ())), ()))))))) else none))))))) else none)
theorem ok_value_parseInt (N : Nat) : Contract.okT Tryd.prog gT 21 ⟨[.val .str], [.val T_api_Value, .val .bool], F_value_parseInt N⟩ :=
  keeps (E := Env.tabG gT tabT [(18, ⟨[.val (.int .i64)], [.val .str], F_strconv_Itoa N⟩), (37, ⟨[.val .str], [.val (.int .i64), .val .err], F_strconv_Atoi N⟩)]) (tabOk_envG gT tabT_ok _) (fnsOkG_cons (ok_strconv_Itoa N) (fnsOkG_cons (ok_strconv_Atoi N) fnsOkG_nil)) (N := N) (anns := ⟨[], [(2, [0, 4, 5]), (1000003, [4, 26])], []⟩) Tryd.func21 (by kernel_rfl) (by kernel_rfl) (fun x => by kernel_rfl)
/-- stemma/value.Convert -/
noncomputable def F_value_Convert (N : Nat) (x : (D_api_Value × (Int × Unit))) : Option ((D_api_Value × (Bool × Unit)) × Unit) :=
  (bif (oSome (F_value_Validate N (x.1, ()))) then (letJ (((neI (oGet (F_value_Validate N (x.1, ())) ((0, ()), ())).1.1 0) || (ltI x.2.1 1)) || (ltI 3 x.2.1)) (fun y0 => (bif y0 then (some (((0, (0, (([] : List UInt8), ()))), (false, ())), ())) else (letJ ((eqI x.1.1 0) || (eqI x.1.1 x.2.1)) (fun y1 => (bif y1 then (some ((x.1, (true, ())), ())) else (letJ ((eqI x.2.1 3) && (eqI x.1.1 1)) (fun y2 => (bif y2 then (bif (oSome (F_strconv_Itoa N (x.1.2.1, ()))) then (some (((x.2.1, (0, ((oGet (F_strconv_Itoa N (x.1.2.1, ())) ((([] : List UInt8), ()), ())).1.1, ()))), (true, ())), ())) else none) else (bif (eqI x.2.1 3) then (bif (oSome (F_strconv_FormatBool N ((eqI x.1.2.1 1), ()))) then (some (((x.2.1, (0, ((oGet (F_strconv_FormatBool N ((eqI x.1.2.1 1), ())) ((([] : List UInt8), ()), ())).1.1, ()))), (true, ())), ())) else none) else (letJ ((eqI x.1.1 3) && (eqI x.2.1 2)) (fun y3 => (bif y3 then (bif (oSome (F_value_parseBool N (x.1.2.2.1, ()))) then (some (((oGet (F_value_parseBool N (x.1.2.2.1, ())) (((0, (0, (([] : List UInt8), ()))), (false, ())), ())).1.1, ((oGet (F_value_parseBool N (x.1.2.2.1, ())) (((0, (0, (([] : List UInt8), ()))), (false, ())), ())).1.2.1, ())), ())) else none) else (bif (eqI x.1.1 3) then (bif (oSome (F_value_parseInt N (x.1.2.2.1, ()))) then (some (((oGet (F_value_parseInt N (x.1.2.2.1, ())) (((0, (0, (([] : List UInt8), ()))), (false, ())), ())).1.1, ((oGet (F_value_parseInt N (x.1.2.2.1, ())) (((0, (0, (([] : List UInt8), ()))), (false, ())), ())).1.2.1, ())), ())) else none) else (letJ ((eqI x.1.2.1 0) || (eqI x.1.2.1 1)) (fun y4 => (bif y4 then (some (((x.2.1, (x.1.2.1, (([] : List UInt8), ()))), (true, ())), ())) else (some (((0, (0, (([] : List UInt8), ()))), (false, ())), ()))))))))))))))))))) else none)
theorem ok_value_Convert (N : Nat) : Contract.okT Tryd.prog gT 10 ⟨[.val T_api_Value, .val (.int .i64)], [.val T_api_Value, .val .bool], F_value_Convert N⟩ :=
  keeps (E := Env.tabG gT tabT [(17, ⟨[.val T_api_Value], [.val (.int .i64)], F_value_Validate N⟩), (18, ⟨[.val (.int .i64)], [.val .str], F_strconv_Itoa N⟩), (19, ⟨[.val .bool], [.val .str], F_strconv_FormatBool N⟩), (20, ⟨[.val .str], [.val T_api_Value, .val .bool], F_value_parseBool N⟩), (21, ⟨[.val .str], [.val T_api_Value, .val .bool], F_value_parseInt N⟩)]) (tabOk_envG gT tabT_ok _) (fnsOkG_cons (ok_value_Validate N) (fnsOkG_cons (ok_strconv_Itoa N) (fnsOkG_cons (ok_strconv_FormatBool N) (fnsOkG_cons (ok_value_parseBool N) (fnsOkG_cons (ok_value_parseInt N) fnsOkG_nil))))) (N := N) (anns := ⟨[], [(1000002, [16]), (1000004, [26]), (1000006, [28]), (1000010, [50]), (1000014, [72])], []⟩) Tryd.func10 (by kernel_rfl) (by kernel_rfl) (fun x => by kernel_rfl)
/-- stemma/stemref2.ValidateValue -/
noncomputable def F_stemref2_ValidateValue (N : Nat) (x : (D_api_Value × Unit)) : Option ((Int × Unit) × Unit) :=
  (letJ ((ltI x.1.1 0) || (ltI 3 x.1.1)) (fun y0 => (bif y0 then (some ((7, ()), ())) else (letJ ((neI x.1.1 3) && (!(eqS x.1.2.2.1 ([] : List UInt8)))) (fun y1 => (letJ x.1 (fun y2 => (letJ (bif y1 then y1 else (((eqI x.1.1 0) || (eqI x.1.1 3)) && (neI x.1.2.1 0))) (fun y3 => (bif y3 then (some ((3, ()), ())) else (letJ ((eqI y2.1 2) && ((ltI y2.2.1 0) || (ltI 1 y2.2.1))) (fun y4 => (letJ y2 (fun y5 => (letJ (bif y4 then y4 else (bif (ltI 1000000000000 y2.2.1) then (ltI 1000000000000 y2.2.1) else (ltI y2.2.1 (-1000000000000)))) (fun y6 => (bif y6 then (some ((1, ()), ())) else (bif (ltI 24 (lenI y5.2.2.1)) then (some ((2, ()), ())) else (some ((0, ()), ()))))))))))))))))))))
theorem ok_stemref2_ValidateValue (N : Nat) : Contract.okT Tryd.prog gT 22 ⟨[.val T_api_Value], [.val (.int .i64)], F_stemref2_ValidateValue N⟩ :=
  keeps (E := Env.tabG gT tabT []) (tabOk_envG gT tabT_ok _) fnsOkG_nil (N := N) (anns := ⟨[], [(1000002, [3]), (1000004, [12]), (1000005, [1, 12]), (1000007, [34]), (1000009, [1, 34])], []⟩) Tryd.func22 (by kernel_rfl) (by kernel_rfl) (fun x => by kernel_rfl)
/-- stemma/stemref2.textForm -/
noncomputable def F_stemref2_textForm (N : Nat) (x : (D_api_Value × Unit)) : Option (D_errors_errorString × Unit) :=
  (bif (eqI x.1.1 1) then (bif (oSome (F_strconv_Itoa N (x.1.2.1, ()))) then (some (((oGet (F_strconv_Itoa N (x.1.2.1, ())) ((([] : List UInt8), ()), ())).1.1, ()), ())) else none) else (bif (eqI x.1.1 2) then (bif (inB x.1.2.1 (lenI ([[102, 97, 108, 115, 101], [116, 114, 117, 101]] : List (List UInt8)))) then (some (((lget ([[102, 97, 108, 115, 101], [116, 114, 117, 101]] : List (List UInt8)) x.1.2.1 ([] : List UInt8)), ()), ())) else none) else (some ((x.1.2.2.1, ()), ()))))
theorem ok_stemref2_textForm (N : Nat) : Contract.okT Tryd.prog gT 23 ⟨[.val T_api_Value], [.val .str], F_stemref2_textForm N⟩ :=
  keeps (E := Env.tabG gT tabT [(18, ⟨[.val (.int .i64)], [.val .str], F_strconv_Itoa N⟩)]) (tabOk_envG gT tabT_ok _) (fnsOkG_cons (ok_strconv_Itoa N) fnsOkG_nil) (N := N) (anns := ⟨[], [], []⟩) Tryd.func23 (by kernel_rfl) (by kernel_rfl) (fun x => by kernel_rfl)
/-- strconv.ParseInt at base 10, 64 bits -/
noncomputable def F_strconv_ParseInt (N : Nat) (x : ((List UInt8) × D_unicode_utf8_acceptRange)) : Option ((Int × (Bool × Unit)) × Unit) := if x.2.1 = 10 ∧ x.2.2.1 = 64 then omap (fun y => ((y.1, (y.2, ())), ())) (atoiF x.1) else none
theorem ok_strconv_ParseInt (N : Nat) : Contract.okT Tryd.prog gT 24 ⟨[.val .str, .val (.int .i64), .val (.int .i64)], [.val (.int .i64), .val .err], F_strconv_ParseInt N⟩ :=
  ok_parseInt (g1 := 0) (g2 := 1) Tryd.func24 (by kernel_rfl) (by kernel_rfl) rfl rfl (fun s hl v hv w => Tryd.strconv_ParseInt_10_at64_ok s hl v hv w) (fun s hl hv ev w h1 h2 => Tryd.strconv_ParseInt_10_at64_syntax s hl hv ev w h1 h2) (fun s hl hv ev w h1 h2 => Tryd.strconv_ParseInt_10_at64_range s hl hv ev w h1 h2)

/-- stemma/stemref2.ConvertValue -/
noncomputable def F_stemref2_ConvertValue (N : Nat) (x : (D_api_Value × (Int × Unit))) : Option ((D_api_Value × (Bool × Unit)) × Unit) :=
  (bif (oSome (F_stemref2_ValidateValue N (x.1, ()))) then (letJ (((neI (oGet (F_stemref2_ValidateValue N (x.1, ())) ((0, ()), ())).1.1 0) || (ltI x.2.1 1)) || (ltI 3 x.2.1)) (fun y0 => (bif y0 then (some (((0, (0, (([] : List UInt8), ()))), (false, ())), ())) else (letJ ((eqI x.1.1 x.2.1) || (eqI x.1.1 0)) (fun y1 => (bif y1 then (some ((x.1, (true, ())), ())) else (bif (eqI x.2.1 3) then (bif (oSome (F_stemref2_textForm N (x.1, ()))) then (some (((x.2.1, (0, ((oGet (F_stemref2_textForm N (x.1, ())) ((([] : List UInt8), ()), ())).1.1, ()))), (true, ())), ())) else none) else (bif (oSome (F_strconv_ParseInt N (x.1.2.2.1, (10, (64, ()))))) then (letJ (oGet (F_strconv_ParseInt N (x.1.2.2.1, (10, (64, ())))) ((0, (true, ())), ())).1.1 (fun y2 => (letJ (oGet (F_strconv_ParseInt N (x.1.2.2.1, (10, (64, ())))) ((0, (true, ())), ())).1.2.1 (fun y3 => (letJ ((y3 && (eqI x.2.1 1)) && (eqI x.1.1 3)) (fun y4 => (letJ x.1 (fun y5 => (letJ (0, (0, (([] : List UInt8), ()))) (fun y6 => (letJ (bif y4 then ([(x.2.1, (y2, (([] : List UInt8), ())))] : List D_api_Value) else ([(x.2.1, (0, (([] : List UInt8), ()))), (x.2.1, (1, (([] : List UInt8), ())))] : List D_api_Value)) (fun ys7 => (iterF (S := (D_api_Value × (Int × Unit))) (R := ((D_api_Value × (Bool × Unit)) × Unit)) N (fun ih8 => (fun p9 => (bif (ltI p9.2.1 (lenI ys7)) then (bif (inB p9.2.1 (lenI ys7)) then (bif (((!((eqI y5.1 3) && (!((neI y5.1 3) && (eqI (lget ys7 p9.2.1 (0, (0, (([] : List UInt8), ())))).2.1 y5.2.1))))) || (oSome (F_stemref2_textForm N ((lget ys7 p9.2.1 (0, (0, (([] : List UInt8), ())))), ())))) && ((!(((eqI y5.1 3) && (eqS (oGet (F_stemref2_textForm N ((lget ys7 p9.2.1 (0, (0, (([] : List UInt8), ())))), ())) ((([] : List UInt8), ()), ())).1.1 y5.2.2.1)) && (!((neI y5.1 3) && (eqI (lget ys7 p9.2.1 (0, (0, (([] : List UInt8), ())))).2.1 y5.2.1))))) || (oSome (F_stemref2_ValidateValue N ((lget ys7 p9.2.1 (0, (0, (([] : List UInt8), ())))), ()))))) then (letJ (((neI y5.1 3) && (eqI (lget ys7 p9.2.1 (0, (0, (([] : List UInt8), ())))).2.1 y5.2.1)) || (((eqI y5.1 3) && (eqS (oGet (F_stemref2_textForm N ((lget ys7 p9.2.1 (0, (0, (([] : List UInt8), ())))), ())) ((([] : List UInt8), ()), ())).1.1 y5.2.2.1)) && (eqI (oGet (F_stemref2_ValidateValue N ((lget ys7 p9.2.1 (0, (0, (([] : List UInt8), ())))), ())) ((0, ()), ())).1.1 0))) (fun y10 => (bif y10 then (some (((lget ys7 p9.2.1 (0, (0, (([] : List UInt8), ())))), (true, ())), ())) else (ih8 (p9.1, ((iadd .i64 p9.2.1 1), ())))))) else none) else none) else (some (((0, (0, (([] : List UInt8), ()))), (false, ())), ()))))) (y6, (0, ()))))))))))))))) else none)))))))) else none)
theorem ok_stemref2_ConvertValue (N : Nat) : Contract.okT Tryd.prog gT 11 ⟨[.val T_api_Value, .val (.int .i64)], [.val T_api_Value, .val .bool], F_stemref2_ConvertValue N⟩ :=
  keeps (E := Env.tabG gT tabT [(22, ⟨[.val T_api_Value], [.val (.int .i64)], F_stemref2_ValidateValue N⟩), (23, ⟨[.val T_api_Value], [.val .str], F_stemref2_textForm N⟩), (24, ⟨[.val .str, .val (.int .i64), .val (.int .i64)], [.val (.int .i64), .val .err], F_strconv_ParseInt N⟩)]) (tabOk_envG gT tabT_ok _) (fnsOkG_cons (ok_stemref2_ValidateValue N) (fnsOkG_cons (ok_stemref2_textForm N) (fnsOkG_cons (ok_strconv_ParseInt N) fnsOkG_nil))) (N := N) (anns := ⟨[⟨12, [4, 5, 10, 67, 68, 69, 70, 71, 72, 73, 74, 75, 76, 77, 78, 79, 80, 81, 82, 83, 84, 85, 86, 87, 88, 89, 90, 91, 92, 93, 94, 95, 96, 97, 98, 99], [(4, (.box (.val T_api_Value))), (67, (.val (.int .i64)))]⟩], [(1000002, [21]), (1000004, [31]), (9, [7, 8]), (1000010, [60]), (11, [2, 4, 6]), (1000015, [97])], []⟩) Tryd.func11 (by kernel_rfl) (by kernel_rfl) (fun x => by kernel_rfl)
/-- stemma/stemlaw2.ValueConvertMatchesReference -/
noncomputable def F_stemlaw2_ValueConvertMatchesReference (N : Nat) (x : (D_api_Value × (Int × Unit))) : Option ((Bool × Unit) × Unit) :=
  (bif (oSome (F_value_Convert N (x.1, (x.2.1, ())))) then (letJ x.2.1 (fun y0 => (letJ (oGet (F_value_Convert N (x.1, (x.2.1, ()))) (((0, (0, (([] : List UInt8), ()))), (false, ())), ())).1.2.1 (fun y1 => (bif (oSome (F_stemref2_ConvertValue N (x.1, (y0, ())))) then (letJ y0 (fun y2 => (letJ (oGet (F_stemref2_ConvertValue N (x.1, (y0, ()))) (((0, (0, (([] : List UInt8), ()))), (false, ())), ())).1.2.1 (fun y3 => (bif (oSome (F_value_Convert N ((1, (7, (([] : List UInt8), ()))), (3, ())))) then (letJ (oGet (F_value_Convert N ((1, (7, (([] : List UInt8), ()))), (3, ()))) (((0, (0, (([] : List UInt8), ()))), (false, ())), ())).1.2.1 (fun y4 => (some ((((((eqB y1 y3) && ((eqI (oGet (F_value_Convert N (x.1, (x.2.1, ()))) (((0, (0, (([] : List UInt8), ()))), (false, ())), ())).1.1.1 (oGet (F_stemref2_ConvertValue N (x.1, (y0, ()))) (((0, (0, (([] : List UInt8), ()))), (false, ())), ())).1.1.1) && ((eqI (oGet (F_value_Convert N (x.1, (x.2.1, ()))) (((0, (0, (([] : List UInt8), ()))), (false, ())), ())).1.1.2.1 (oGet (F_stemref2_ConvertValue N (x.1, (y0, ()))) (((0, (0, (([] : List UInt8), ()))), (false, ())), ())).1.1.2.1) && (eqS (oGet (F_value_Convert N (x.1, (x.2.1, ()))) (((0, (0, (([] : List UInt8), ()))), (false, ())), ())).1.1.2.2.1 (oGet (F_stemref2_ConvertValue N (x.1, (y0, ()))) (((0, (0, (([] : List UInt8), ()))), (false, ())), ())).1.1.2.2.1)))) && y4) && (eqS (oGet (F_value_Convert N ((1, (7, (([] : List UInt8), ()))), (3, ()))) (((0, (0, (([] : List UInt8), ()))), (false, ())), ())).1.1.2.2.1 [55])), ()), ())))) else none))))) else none))))) else none)
theorem ok_stemlaw2_ValueConvertMatchesReference (N : Nat) : Contract.okT Tryd.prog gT 4 ⟨[.val T_api_Value, .val (.int .i64)], [.val .bool], F_stemlaw2_ValueConvertMatchesReference N⟩ :=
  keeps (E := Env.tabG gT tabT [(10, ⟨[.val T_api_Value, .val (.int .i64)], [.val T_api_Value, .val .bool], F_value_Convert N⟩), (11, ⟨[.val T_api_Value, .val (.int .i64)], [.val T_api_Value, .val .bool], F_stemref2_ConvertValue N⟩)]) (tabOk_envG gT tabT_ok _) (fnsOkG_cons (ok_value_Convert N) (fnsOkG_cons (ok_stemref2_ConvertValue N) fnsOkG_nil)) (N := N) (anns := ⟨[], [(2, [1, 6]), (3, [1, 8]), (4, [10])], []⟩) Tryd.func4 (by kernel_rfl) (by kernel_rfl) (fun x => by kernel_rfl)

end Go.Proofs.YtigjpdkeijcabaaDoor
