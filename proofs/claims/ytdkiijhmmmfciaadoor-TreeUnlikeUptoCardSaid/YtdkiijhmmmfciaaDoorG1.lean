/- Facts of types. Printed by tr.py. -/
import Derived.Test.YtdkiijhmmmfciaaDoorBU
import Derived.Test.YtdkiijhmmmfciaaDoorIT
import Derived.Test.YtdkiijhmmmfciaaDoorProg
import Derived.KernelRfl
set_option linter.unusedVariables false
set_option linter.unusedSimpArgs false
namespace Go.Proofs.YtdkiijhmmmfciaaDoor
open Go
theorem mo : Tryd.prog.follows .mixedOrders = true := rfl
set_option maxRecDepth 20000 in
theorem arr_84 : arrB Tryd.prog 84 9 3 1 = true := by kernel_rfl
set_option maxRecDepth 20000 in
theorem arr_91 : arrB Tryd.prog 91 9 6 1 = true := by kernel_rfl
set_option maxRecDepth 20000 in
theorem bf_33 : buildB Tryd.prog 33 [(0, 1), (1, 1), (2, 1), (3, 1), (4, 1), (5, 1)] = true := by kernel_rfl
set_option maxRecDepth 20000 in
theorem bf_37 : buildB Tryd.prog 37 [(0, 1), (1, 1), (2, 1)] = true := by kernel_rfl
set_option maxRecDepth 20000 in
theorem bf_39 : buildB Tryd.prog 39 [(0, 1), (1, 6), (7, 3), (10, 1)] = true := by kernel_rfl
set_option maxRecDepth 20000 in
theorem bf_41 : buildB Tryd.prog 41 [(0, 1), (1, 1)] = true := by kernel_rfl
set_option maxRecDepth 20000 in
theorem bf_51 : buildB Tryd.prog 51 [(0, 2)] = true := by kernel_rfl
set_option maxRecDepth 20000 in
theorem cbs_47_9 : cbsB Tryd.prog 47 9 = true := by kernel_rfl
set_option maxRecDepth 20000 in
theorem eg_37 : Tryd.prog.eqGuardType Tryd.prog.depth 37 = false := by kernel_rfl
set_option maxRecDepth 20000 in
theorem eg_41 : Tryd.prog.eqGuardType Tryd.prog.depth 41 = false := by kernel_rfl
set_option maxRecDepth 20000 in
theorem eh_37 : Tryd.prog.stoodInHeld 37 = false := by kernel_rfl
set_option maxRecDepth 20000 in
theorem eh_41 : Tryd.prog.stoodInHeld 41 = false := by kernel_rfl
set_option maxRecDepth 20000 in
theorem en_10 : enterB Tryd.prog 10 = true := by kernel_rfl
set_option maxRecDepth 20000 in
theorem en_11 : enterB Tryd.prog 11 = true := by kernel_rfl
set_option maxRecDepth 20000 in
theorem en_12 : enterB Tryd.prog 12 = true := by kernel_rfl
set_option maxRecDepth 20000 in
theorem en_13 : enterB Tryd.prog 13 = true := by kernel_rfl
set_option maxRecDepth 20000 in
theorem en_14 : enterB Tryd.prog 14 = true := by kernel_rfl
set_option maxRecDepth 20000 in
theorem en_15 : enterB Tryd.prog 15 = true := by kernel_rfl
set_option maxRecDepth 20000 in
theorem en_16 : enterB Tryd.prog 16 = true := by kernel_rfl
set_option maxRecDepth 20000 in
theorem en_17 : enterB Tryd.prog 17 = true := by kernel_rfl
set_option maxRecDepth 20000 in
theorem en_18 : enterB Tryd.prog 18 = true := by kernel_rfl
set_option maxRecDepth 20000 in
theorem en_19 : enterB Tryd.prog 19 = true := by kernel_rfl
set_option maxRecDepth 20000 in
theorem en_20 : enterB Tryd.prog 20 = true := by kernel_rfl
set_option maxRecDepth 20000 in
theorem en_21 : enterB Tryd.prog 21 = true := by kernel_rfl
set_option maxRecDepth 20000 in
theorem en_22 : enterB Tryd.prog 22 = true := by kernel_rfl
set_option maxRecDepth 20000 in
theorem en_23 : enterB Tryd.prog 23 = true := by kernel_rfl
set_option maxRecDepth 20000 in
theorem en_24 : enterB Tryd.prog 24 = true := by kernel_rfl
set_option maxRecDepth 20000 in
theorem en_25 : enterB Tryd.prog 25 = true := by kernel_rfl
set_option maxRecDepth 20000 in
theorem en_26 : enterB Tryd.prog 26 = true := by kernel_rfl
set_option maxRecDepth 20000 in
theorem en_27 : enterB Tryd.prog 27 = true := by kernel_rfl
set_option maxRecDepth 20000 in
theorem en_28 : enterB Tryd.prog 28 = true := by kernel_rfl
set_option maxRecDepth 20000 in
theorem en_29 : enterB Tryd.prog 29 = true := by kernel_rfl
set_option maxRecDepth 20000 in
theorem en_30 : enterB Tryd.prog 30 = true := by kernel_rfl
set_option maxRecDepth 20000 in
theorem en_31 : enterB Tryd.prog 31 = true := by kernel_rfl
set_option maxRecDepth 20000 in
theorem en_32 : enterB Tryd.prog 32 = true := by kernel_rfl
set_option maxRecDepth 20000 in
theorem en_33 : enterB Tryd.prog 33 = true := by kernel_rfl
set_option maxRecDepth 20000 in
theorem en_34 : enterB Tryd.prog 34 = true := by kernel_rfl
set_option maxRecDepth 20000 in
theorem en_35 : enterB Tryd.prog 35 = true := by kernel_rfl
set_option maxRecDepth 20000 in
theorem en_36 : enterB Tryd.prog 36 = true := by kernel_rfl
set_option maxRecDepth 20000 in
theorem en_37 : enterB Tryd.prog 37 = true := by kernel_rfl
set_option maxRecDepth 20000 in
theorem en_38 : enterB Tryd.prog 38 = true := by kernel_rfl
set_option maxRecDepth 20000 in
theorem en_39 : enterB Tryd.prog 39 = true := by kernel_rfl
set_option maxRecDepth 20000 in
theorem en_40 : enterB Tryd.prog 40 = true := by kernel_rfl
set_option maxRecDepth 20000 in
theorem en_41 : enterB Tryd.prog 41 = true := by kernel_rfl
set_option maxRecDepth 20000 in
theorem en_42 : enterB Tryd.prog 42 = true := by kernel_rfl
set_option maxRecDepth 20000 in
theorem en_43 : enterB Tryd.prog 43 = true := by kernel_rfl
set_option maxRecDepth 20000 in
theorem en_44 : enterB Tryd.prog 44 = true := by kernel_rfl
set_option maxRecDepth 20000 in
theorem en_45 : enterB Tryd.prog 45 = true := by kernel_rfl
set_option maxRecDepth 20000 in
theorem en_46 : enterB Tryd.prog 46 = true := by kernel_rfl
set_option maxRecDepth 20000 in
theorem en_47 : enterB Tryd.prog 47 = true := by kernel_rfl
set_option maxRecDepth 20000 in
theorem en_48 : enterB Tryd.prog 48 = true := by kernel_rfl
set_option maxRecDepth 20000 in
theorem en_50 : enterB Tryd.prog 50 = true := by kernel_rfl
set_option maxRecDepth 20000 in
theorem en_51 : enterB Tryd.prog 51 = true := by kernel_rfl
set_option maxRecDepth 20000 in
theorem en_52 : enterB Tryd.prog 52 = true := by kernel_rfl
set_option maxRecDepth 20000 in
theorem en_54 : enterB Tryd.prog 54 = true := by kernel_rfl
set_option maxRecDepth 20000 in
theorem en_55 : enterB Tryd.prog 55 = true := by kernel_rfl
set_option maxRecDepth 20000 in
theorem en_56 : enterB Tryd.prog 56 = true := by kernel_rfl
set_option maxRecDepth 20000 in
theorem en_57 : enterB Tryd.prog 57 = true := by kernel_rfl
set_option maxRecDepth 20000 in
theorem en_58 : enterB Tryd.prog 58 = true := by kernel_rfl
set_option maxRecDepth 20000 in
theorem en_59 : enterB Tryd.prog 59 = true := by kernel_rfl
set_option maxRecDepth 20000 in
theorem en_6 : enterB Tryd.prog 6 = true := by kernel_rfl
set_option maxRecDepth 20000 in
theorem en_60 : enterB Tryd.prog 60 = true := by kernel_rfl
set_option maxRecDepth 20000 in
theorem en_61 : enterB Tryd.prog 61 = true := by kernel_rfl
set_option maxRecDepth 20000 in
theorem en_62 : enterB Tryd.prog 62 = true := by kernel_rfl
set_option maxRecDepth 20000 in
theorem en_63 : enterB Tryd.prog 63 = true := by kernel_rfl
set_option maxRecDepth 20000 in
theorem en_64 : enterB Tryd.prog 64 = true := by kernel_rfl
set_option maxRecDepth 20000 in
theorem en_65 : enterB Tryd.prog 65 = true := by kernel_rfl
set_option maxRecDepth 20000 in
theorem en_66 : enterB Tryd.prog 66 = true := by kernel_rfl
set_option maxRecDepth 20000 in
theorem en_68 : enterB Tryd.prog 68 = true := by kernel_rfl
set_option maxRecDepth 20000 in
theorem en_69 : enterB Tryd.prog 69 = true := by kernel_rfl
set_option maxRecDepth 20000 in
theorem en_7 : enterB Tryd.prog 7 = true := by kernel_rfl
set_option maxRecDepth 20000 in
theorem en_8 : enterB Tryd.prog 8 = true := by kernel_rfl
set_option maxRecDepth 20000 in
theorem en_9 : enterB Tryd.prog 9 = true := by kernel_rfl
set_option maxRecDepth 20000 in
theorem eqs_37 {a0 b0 : Int} {a1 b1 : Int} {a2 b2 : Int} : EqCs Tryd.prog (Tryd.prog.fieldsOf 37).toList 0 [.int .i64 a0, .int .i64 a1, .int .i64 a2] [.int .i64 b0, .int .i64 b1, .int .i64 b2] ((a0 == b0) && ((a1 == b1) && ((a2 == b2) && true))) := (.cons (by decide) rfl (.int rfl) (.cons (by decide) rfl (.int rfl) (.cons (by decide) rfl (.int rfl) .nil)))
set_option maxRecDepth 20000 in
theorem eqs_41 {a0 b0 : Int} {a1 b1 : Int} : EqCs Tryd.prog (Tryd.prog.fieldsOf 41).toList 0 [.int .i64 a0, .int .i64 a1] [.int .i64 b0, .int .i64 b1] ((a0 == b0) && ((a1 == b1) && true)) := (.cons (by decide) rfl (.int rfl) (.cons (by decide) rfl (.int rfl) .nil))
set_option maxRecDepth 20000 in
theorem eu_37 : Tryd.prog.underlying 37 = some (.struct (Tryd.prog.fieldsOf 37)) := by kernel_rfl
set_option maxRecDepth 20000 in
theorem eu_41 : Tryd.prog.underlying 41 = some (.struct (Tryd.prog.fieldsOf 41)) := by kernel_rfl
set_option maxRecDepth 20000 in
theorem ex_49 : ExtIs Tryd.prog 49 Extern.MathFloatBits.float64bits := ⟨_, rfl, rfl, rfl, rfl, rfl⟩
set_option maxRecDepth 20000 in
theorem ex_70 : ExtIs Tryd.prog 70 Extern.MathFloatBits.float64frombits := ⟨_, rfl, rfl, rfl, rfl, rfl⟩
set_option maxRecDepth 20000 in
theorem ex_71 : ExtIs Tryd.prog 71 (Extern.MathFloor.toIntegral "math.archTrunc" .zero) := ⟨_, rfl, rfl, rfl, rfl, rfl⟩
set_option maxRecDepth 20000 in
theorem fl_33_0 : fldB Tryd.prog 33 0 0 false 1 = true := by kernel_rfl
set_option maxRecDepth 20000 in
theorem fl_33_1 : fldB Tryd.prog 33 1 1 false 1 = true := by kernel_rfl
set_option maxRecDepth 20000 in
theorem fl_33_2 : fldB Tryd.prog 33 2 2 false 1 = true := by kernel_rfl
set_option maxRecDepth 20000 in
theorem fl_33_3 : fldB Tryd.prog 33 3 3 false 1 = true := by kernel_rfl
set_option maxRecDepth 20000 in
theorem fl_33_4 : fldB Tryd.prog 33 4 4 false 1 = true := by kernel_rfl
set_option maxRecDepth 20000 in
theorem fl_33_5 : fldB Tryd.prog 33 5 5 false 1 = true := by kernel_rfl
set_option maxRecDepth 20000 in
theorem fl_37_0 : fldB Tryd.prog 37 0 0 false 1 = true := by kernel_rfl
set_option maxRecDepth 20000 in
theorem fl_37_1 : fldB Tryd.prog 37 1 1 false 1 = true := by kernel_rfl
set_option maxRecDepth 20000 in
theorem fl_37_2 : fldB Tryd.prog 37 2 2 false 1 = true := by kernel_rfl
set_option maxRecDepth 20000 in
theorem fl_39_0 : fldB Tryd.prog 39 0 0 false 1 = true := by kernel_rfl
set_option maxRecDepth 20000 in
theorem fl_39_1 : fldB Tryd.prog 39 1 1 true 6 = true := by kernel_rfl
set_option maxRecDepth 20000 in
theorem fl_39_2 : fldB Tryd.prog 39 2 7 true 3 = true := by kernel_rfl
set_option maxRecDepth 20000 in
theorem fl_41_0 : fldB Tryd.prog 41 0 0 false 1 = true := by kernel_rfl
set_option maxRecDepth 20000 in
theorem fl_41_1 : fldB Tryd.prog 41 1 1 false 1 = true := by kernel_rfl
set_option maxRecDepth 20000 in
theorem fl_51_0 : fldB Tryd.prog 51 0 0 true 2 = true := by kernel_rfl
set_option maxRecDepth 20000 in
theorem ft_31 : isF64 Tryd.prog 31 = true := by kernel_rfl
set_option maxRecDepth 20000 in
theorem ik_2 : isIk Tryd.prog 2 .i64 = true := by kernel_rfl
set_option maxRecDepth 20000 in
theorem ik_3 : isIk Tryd.prog 3 .i64 = true := by kernel_rfl
set_option maxRecDepth 20000 in
theorem ik_5 : isIk Tryd.prog 5 .u8 = true := by kernel_rfl
set_option maxRecDepth 20000 in
theorem ik_79 : isIk Tryd.prog 79 .u64 = true := by kernel_rfl
set_option maxRecDepth 20000 in
theorem is_22 : isSlice Tryd.prog 22 = true := by kernel_rfl
set_option maxRecDepth 20000 in
theorem is_28 : isSlice Tryd.prog 28 = true := by kernel_rfl
set_option maxRecDepth 20000 in
theorem is_30 : isSlice Tryd.prog 30 = true := by kernel_rfl
set_option maxRecDepth 20000 in
theorem is_81 : isSlice Tryd.prog 81 = true := by kernel_rfl
set_option maxRecDepth 20000 in
theorem sl_22 : slB Tryd.prog 22 11 = true := by kernel_rfl
set_option maxRecDepth 20000 in
theorem sl_28 : slB Tryd.prog 28 6 = true := by kernel_rfl
set_option maxRecDepth 20000 in
theorem sl_30 : slB Tryd.prog 30 2 = true := by kernel_rfl
set_option maxRecDepth 20000 in
theorem sl_47 : slB Tryd.prog 47 1 = true := by kernel_rfl
set_option maxRecDepth 20000 in
theorem sl_73 : slB Tryd.prog 73 1 = true := by kernel_rfl
set_option maxRecDepth 20000 in
theorem sl_81 : slB Tryd.prog 81 1 = true := by kernel_rfl
set_option maxRecDepth 20000 in
theorem ti_28 : tiB Tryd.prog 28 false 1 = true := by kernel_rfl
set_option maxRecDepth 20000 in
theorem ti_3 : tiB Tryd.prog 3 false 1 = true := by kernel_rfl
set_option maxRecDepth 20000 in
theorem ti_30 : tiB Tryd.prog 30 false 1 = true := by kernel_rfl
set_option maxRecDepth 20000 in
theorem ti_31 : tiB Tryd.prog 31 false 1 = true := by kernel_rfl
set_option maxRecDepth 20000 in
theorem ti_33 : tiB Tryd.prog 33 true 6 = true := by kernel_rfl
set_option maxRecDepth 20000 in
theorem ti_37 : tiB Tryd.prog 37 true 3 = true := by kernel_rfl
set_option maxRecDepth 20000 in
theorem ti_39 : tiB Tryd.prog 39 true 11 = true := by kernel_rfl
set_option maxRecDepth 20000 in
theorem ti_4 : tiB Tryd.prog 4 false 1 = true := by kernel_rfl
set_option maxRecDepth 20000 in
theorem ti_41 : tiB Tryd.prog 41 true 2 = true := by kernel_rfl
set_option maxRecDepth 20000 in
theorem ti_9 : tiB Tryd.prog 9 false 1 = true := by kernel_rfl
set_option maxRecDepth 20000 in
theorem ub_4 : Tryd.prog.underlying 4 = some .bool := rfl
set_option maxRecDepth 20000 in
theorem zf_3 : zeroB Tryd.prog 3 (.int .i64 0) := by unfold zeroB; kernel_rfl
set_option maxRecDepth 20000 in
theorem zf_33 : zeroB Tryd.prog 33 (.agg #[(.int .i64 0), (.int .i64 0), (.slice none 0 0), (.float .f64 0), (.float .f64 0), (.slice none 0 0)]) := by unfold zeroB; kernel_rfl
set_option maxRecDepth 20000 in
theorem zf_37 : zeroB Tryd.prog 37 (.agg #[(.int .i64 0), (.int .i64 0), (.int .i64 0)]) := by unfold zeroB; kernel_rfl
set_option maxRecDepth 20000 in
theorem zf_39 : zeroB Tryd.prog 39 (.agg #[(.bool false), (.int .i64 0), (.int .i64 0), (.slice none 0 0), (.float .f64 0), (.float .f64 0), (.slice none 0 0), (.int .i64 0), (.int .i64 0), (.int .i64 0), (.int .i64 0)]) := by unfold zeroB; kernel_rfl
set_option maxRecDepth 20000 in
theorem zf_41 : zeroB Tryd.prog 41 (.agg #[(.int .i64 0), (.int .i64 0)]) := by unfold zeroB; kernel_rfl
set_option maxRecDepth 20000 in
theorem zf_5 : zeroB Tryd.prog 5 (.int .u8 0) := by unfold zeroB; kernel_rfl
set_option maxRecDepth 20000 in
theorem zf_51 : zeroB Tryd.prog 51 (.agg #[.pointer none, .slice none 0 0]) := by unfold zeroB; kernel_rfl
set_option maxRecDepth 20000 in
theorem zf_84 : zeroB Tryd.prog 84 (.agg #[(.string ByteArray.empty), (.string ByteArray.empty), (.string ByteArray.empty)]) := by unfold zeroB; kernel_rfl
set_option maxRecDepth 20000 in
theorem zf_9 : zeroB Tryd.prog 9 (.string ByteArray.empty) := by unfold zeroB; kernel_rfl
set_option maxRecDepth 20000 in
theorem zf_91 : zeroB Tryd.prog 91 (.agg #[(.string ByteArray.empty), (.string ByteArray.empty), (.string ByteArray.empty), (.string ByteArray.empty), (.string ByteArray.empty), (.string ByteArray.empty)]) := by unfold zeroB; kernel_rfl
end Go.Proofs.YtdkiijhmmmfciaaDoor
