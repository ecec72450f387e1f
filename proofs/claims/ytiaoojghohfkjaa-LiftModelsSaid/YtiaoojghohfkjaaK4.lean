/- Texts AT1 of this claim, one behind the other. -/
import Derived.Test.YtiaoojghohfkjaaChecked
import Derived.Test.YtiaoojghohfkjaaK3
section
namespace Go.Proofs.Ytiaoojghohfkjaa
open Go.RowKit
def T_int : TypeId := 3
def T_bool : TypeId := 4
def T_string : TypeId := 9
def T_uint64 : TypeId := 22
def T_api_Bits : TypeId := 24
def T_api_Errno : TypeId := 26
def T_s_api_Bits : TypeId := 29
def T_s_api_Node : TypeId := 31
def T_s_api_Named : TypeId := 32
def T_p_term_Graph : TypeId := 33
def T_p_plaitref3_Graph : TypeId := 34
def T_api_Node : TypeId := 41
def T_s_int : TypeId := 48
def T_api_Named : TypeId := 53
def T_x63 : TypeId := 63
def T_eval_meaning : TypeId := 65
def T_m_api_Node_int : TypeId := 72
def T_m_string_int : TypeId := 73
def T_term_Graph : TypeId := 75
def T_m_string_api_Bits : TypeId := 76
def T_s_bool : TypeId := 84
def T_bv_number : TypeId := 91
def T_x95 : TypeId := 95
def T_x98 : TypeId := 98
def T_plaitref3_Graph : TypeId := 106
def T_m_int_api_Bits : TypeId := 109
def T_a3_int : TypeId := 110
def T_a2_uint64 : TypeId := 111
def T_uint : TypeId := 112
def f_plaitlaw4_EvalTurned : FuncId := 3
def f_plaitlaw4_EvalSwap : FuncId := 4
def f_plaitlaw4_EvalOwn : FuncId := 5
def f_plaitlaw16_LiftModels : FuncId := 6
def f_plaitlaw4_known : FuncId := 7
def f_eval_Apply : FuncId := 8
def f_plaitlaw4_made : FuncId := 9
def f_plait_term_Graph_Len : FuncId := 10
def f_plaithelp_Place : FuncId := 11
def f_eval_Complete : FuncId := 12
def f_plait_term_Graph_Node : FuncId := 13
def f_eval_Eval : FuncId := 14
def f_plait_term_Graph_Make : FuncId := 15
def f_plait_term_Graph_Cone : FuncId := 16
def f_plait_term_Graph_Var : FuncId := 17
def f_plaitlaw16_known : FuncId := 18
def f_term_New : FuncId := 19
def f_lift_Model : FuncId := 20
def f_plaithelp_Named : FuncId := 21
def f_lift_Holds : FuncId := 22
def f_eval_All : FuncId := 23
def f_bv_Right : FuncId := 24
def f_term_Sort : FuncId := 25
def f_eval_bools : FuncId := 26
def f_eval_words : FuncId := 27
def f_plaitref3_New : FuncId := 28
def f_plait_plaitref3_Graph_Make : FuncId := 29
def f_eval_known : FuncId := 30
def f_plait_term_Graph_Vars : FuncId := 31
def f_eval_fits : FuncId := 32
def f_eval_worth : FuncId := 33
def f_plait_term_Graph_formed : FuncId := 34
def f_plait_term_Graph_sorted : FuncId := 35
def f_lift_Value : FuncId := 36
def f_plaithelp_Bools : FuncId := 37
def f_lift_BitsOf : FuncId := 38
def f_bv_Bool : FuncId := 39
def f_bv_cut : FuncId := 40
def f_bv_of : FuncId := 41
def f_term_Arity : FuncId := 42
def f_slices_ContainsFunc_int_int : FuncId := 43
def f_term_Sort_1 : FuncId := 44
def f_term_sort : FuncId := 45
def f_term_told : FuncId := 46
def f_eval_logic : FuncId := 47
def f_eval_bools_1 : FuncId := 48
def f_eval_yes : FuncId := 49
def f_eval_bools_2 : FuncId := 50
def f_eval_bools_3 : FuncId := 51
def f_eval_bools_4 : FuncId := 52
def f_eval_bools_5 : FuncId := 53
def f_eval_bools_6 : FuncId := 54
def f_eval_bools_7 : FuncId := 55
def f_eval_words_1 : FuncId := 56
def f_bv_One : FuncId := 57
def f_bv_Concat : FuncId := 58
def f_bv_Extract : FuncId := 59
def f_bv_Extend : FuncId := 60
def f_bv_Rotate : FuncId := 61
def f_bv_Repeat : FuncId := 62
def f_bv_Two : FuncId := 63
def f_plaitref3_Arity : FuncId := 64
def f_plait_plaitref3_Graph_At : FuncId := 65
def f_plaitref1_Right : FuncId := 66
def f_plaitref3_Is : FuncId := 67
def f_plait_plaitref3_Graph_Var : FuncId := 68
def f_plaitref3_Sort : FuncId := 69
def f_bv_mask : FuncId := 70
def f_slices_IndexFunc_int_int : FuncId := 71
def f_term_numbered : FuncId := 72
def f_eval_logic_1 : FuncId := 73
def f_bv_word : FuncId := 74
def f_plait_bv_number_not : FuncId := 75
def f_plait_bv_number_neg : FuncId := 76
def f_plait_bv_number_left : FuncId := 77
def f_plait_bv_number_right : FuncId := 78
def f_bv_below : FuncId := 79
def f_bv_bitwise : FuncId := 80
def f_bv_reckoned : FuncId := 81
def f_bv_shifted : FuncId := 82
def f_bv_compared : FuncId := 83
def f_plaitref1_Word : FuncId := 84
def f_plaitref1_Bits : FuncId := 85
def f_plaitref3_numbered : FuncId := 86
def f_plaitref3_alike : FuncId := 87
def f_plaitref3_wide : FuncId := 88
def f_plait_bv_number_add : FuncId := 89
def f_plait_bv_number_bit : FuncId := 90
def f_plait_bv_number_sub : FuncId := 91
def f_plait_bv_number_mul : FuncId := 92
def f_bv_divided : FuncId := 93
def f_bv_size : FuncId := 94
def f_bv_turnedIf : FuncId := 95
def f_bv_smod : FuncId := 96
def f_plait_bv_number_less : FuncId := 97
def f_math_bits_Add64 : FuncId := 98
def f_math_bits_Mul64 : FuncId := 99
def f_plait_bv_number_quo : FuncId := 100
def KT : TypeId → Option (List Sc) := fun t => if t = T_api_Bits then some [(.i .i64), (.i .u64), (.i .u64)] else if t = T_api_Node then some [(.i .i64), (.i .i64), (.i .i64), (.i .i64), (.i .i64), (.i .i64), (.i .i64), (.i .i64), (.i .u64), (.i .u64), .s] else if t = T_api_Named then some [.s, (.i .i64), (.i .u64), (.i .u64)] else if t = T_bv_number then some [(.i .u64), (.i .u64)] else none
def DT : Quiets := fun f r => if f = f_eval_Complete then (if r = 1000000 then [0] else []) else if f = f_plait_term_Graph_Cone then (if r = 12 then [5, 8, 10, 12] else if r = 1000000 then [0] else []) else if f = f_lift_Holds then (if r = 7 then [1] else []) else if f = f_eval_All then (if r = 1000000 then [0, 0] else []) else if f = f_bv_Right then (if r = 3 then [12, 13] else []) else if f = f_plait_term_Graph_Vars then (if r = 1000000 then [0] else []) else if f = f_eval_worth then (if r = 10 then [14, 15, 6215] else []) else if f = f_eval_bools_4 then (if r = 1 then [3] else []) else if f = f_bv_One then (if r = 4 then [3, 4] else if r = 6 then [3, 4] else []) else if f = f_bv_Concat then (if r = 3 then [1, 5] else []) else if f = f_bv_Rotate then (if r = 8 then [1, 3, 5, 11, 12] else []) else if f = f_bv_Two then (if r = 4 then [4, 6, 7] else if r = 6 then [5] else if r = 8 then [5] else []) else if f = f_plaitref1_Right then (if r = 5 then [1, 2] else []) else if f = f_bv_below then (if r = 1 then [1] else []) else if f = f_bv_reckoned then (if r = 1 then [1, 4, 5] else if r = 16 then [3, 5, 10, 11] else if r = 17 then [1, 3] else if r = 19 then [3, 5, 10, 11] else if r = 20 then [1] else []) else if f = f_bv_compared then (if r = 1 then [1, 4, 5] else []) else if f = f_plait_bv_number_sub then (if r = 1 then [2] else []) else if f = f_bv_divided then (if r = 2 then [1, 2, 3, 1006] else []) else if f = f_bv_size then (if r = 2 then [3, 4] else []) else if f = f_bv_smod then (if r = 1 then [3, 5, 10, 11] else if r = 5 then [1] else if r = 7 then [2] else []) else if f = f_plait_bv_number_quo then (if r = 10 then [3] else if r = 11 then [1, 2, 999, 1005] else []) else []
noncomputable def R : Calling := runs Try.prog KT DT
theorem good : Good Try.prog KT := by
  refine ⟨fun t sh h => ?_, Try.checked.mixed⟩
  unfold KT at h
  split at h
  · rename_i ht; subst ht; cases h; exact keyOK_of (d := 8) (by kernel_rfl) (by omega) (by kernel_rfl) (by kernel_rfl)
  split at h
  · rename_i ht; subst ht; cases h; exact keyOK_of (d := 8) (by kernel_rfl) (by omega) (by kernel_rfl) (by kernel_rfl)
  split at h
  · rename_i ht; subst ht; cases h; exact keyOK_of (d := 8) (by kernel_rfl) (by omega) (by kernel_rfl) (by kernel_rfl)
  split at h
  · rename_i ht; subst ht; cases h; exact keyOK_of (d := 8) (by kernel_rfl) (by omega) (by kernel_rfl) (by kernel_rfl)
  cases h
@[simp] theorem ty0 : ldS Try.prog T_api_Bits = some (some 3) := by kernel_rfl
@[simp] theorem ty1 : bsS Try.prog T_s_api_Bits = some (3, [(.int .i64 0), (u 0#64), (u 0#64)]) := by kernel_rfl
@[simp] theorem ty2 : tZ Try.prog T_api_Bits = some [(.int .i64 0), (u 0#64), (u 0#64)] := by kernel_rfl
@[simp] theorem ty3 : tS Try.prog T_api_Bits = some 3 := by kernel_rfl
@[simp] theorem ty4 : KT T_api_Bits = some [(.i .i64), (.i .u64), (.i .u64)] := by kernel_rfl
@[simp] theorem ty5 : faS Try.prog T_api_Bits 1 = some 1 := by kernel_rfl
@[simp] theorem ty6 : ldS Try.prog T_uint64 = some none := by kernel_rfl
@[simp] theorem ty7 : blS Try.prog T_api_Bits = some true := by kernel_rfl
@[simp] theorem ty8 : plS Try.prog T_api_Bits 1 = some (1, 1) := by kernel_rfl
@[simp] theorem ty9 : eqS Try.prog T_p_term_Graph = .ptr := by kernel_rfl
@[simp] theorem ty10 : tZ Try.prog T_api_Node = some [(.int .i64 0), (.int .i64 0), (.int .i64 0), (.int .i64 0), (.int .i64 0), (.int .i64 0), (.int .i64 0), (.int .i64 0), (u 0#64), (u 0#64), (.str .empty)] := by kernel_rfl
@[simp] theorem ty11 : blS Try.prog T_api_Node = some true := by kernel_rfl
@[simp] theorem ty12 : plS Try.prog T_api_Node 0 = some (0, 1) := by kernel_rfl
@[simp] theorem ty13 : plS Try.prog T_api_Node 1 = some (1, 1) := by kernel_rfl
@[simp] theorem ty14 : plS Try.prog T_api_Node 8 = some (10, 1) := by kernel_rfl
@[simp] theorem ty15 : plS Try.prog T_api_Node 2 = some (2, 1) := by kernel_rfl
@[simp] theorem ty16 : plS Try.prog T_api_Node 3 = some (3, 1) := by kernel_rfl
@[simp] theorem ty17 : plS Try.prog T_api_Bits 0 = some (0, 1) := by kernel_rfl
@[simp] theorem ty18 : tZ Try.prog T_api_Named = some [(.str .empty), (.int .i64 0), (u 0#64), (u 0#64)] := by kernel_rfl
@[simp] theorem ty19 : blS Try.prog T_api_Named = some true := by kernel_rfl
@[simp] theorem ty20 : plS Try.prog T_api_Named 0 = some (0, 1) := by kernel_rfl
@[simp] theorem ty21 : plS Try.prog T_api_Named 1 = some (1, 3) := by kernel_rfl
@[simp] theorem ty22 : bsS Try.prog T_s_api_Named = some (4, [(.str .empty), (.int .i64 0), (u 0#64), (u 0#64)]) := by kernel_rfl
@[simp] theorem ty23 : bsS Try.prog T_s_int = some (1, [(.int .i64 0)]) := by kernel_rfl
@[simp] theorem ty24 : lnS Try.prog T_s_api_Bits = .slice := by kernel_rfl
@[simp] theorem ty25 : mkS Try.prog T_s_int = some (1, 8, [(.int .i64 0)]) := by kernel_rfl
@[simp] theorem ty26 : eszS Try.prog T_s_api_Bits = some 3 := by kernel_rfl
@[simp] theorem ty27 : faS Try.prog T_api_Bits 0 = some 0 := by kernel_rfl
@[simp] theorem ty28 : ldS Try.prog T_int = some none := by kernel_rfl
@[simp] theorem ty29 : eszS Try.prog T_s_int = some 1 := by kernel_rfl
@[simp] theorem ty30 : tS Try.prog T_int = some 1 := by kernel_rfl
@[simp] theorem ty31 : tZ Try.prog T_eval_meaning = some [.nilf] := by kernel_rfl
@[simp] theorem ty32 : tS Try.prog T_eval_meaning = some 1 := by kernel_rfl
@[simp] theorem ty33 : faS Try.prog T_eval_meaning 0 = some 0 := by kernel_rfl
@[simp] theorem ty34 : ldS Try.prog T_x63 = some none := by kernel_rfl
@[simp] theorem ty35 : faS Try.prog T_api_Bits 2 = some 2 := by kernel_rfl
@[simp] theorem ty36 : tZ Try.prog T_bv_number = some [(u 0#64), (u 0#64)] := by kernel_rfl
@[simp] theorem ty37 : tS Try.prog T_bv_number = some 2 := by kernel_rfl
@[simp] theorem ty38 : faS Try.prog T_bv_number 0 = some 0 := by kernel_rfl
@[simp] theorem ty39 : faS Try.prog T_bv_number 1 = some 1 := by kernel_rfl
@[simp] theorem ty40 : plS Try.prog T_api_Bits 2 = some (2, 1) := by kernel_rfl
@[simp] theorem ty41 : blS Try.prog T_bv_number = some true := by kernel_rfl
@[simp] theorem ty42 : ldS Try.prog T_bv_number = some (some 2) := by kernel_rfl
@[simp] theorem ty43 : plS Try.prog T_bv_number 0 = some (0, 1) := by kernel_rfl
@[simp] theorem ty44 : plS Try.prog T_bv_number 1 = some (1, 1) := by kernel_rfl
@[simp] theorem ty45 : cvS Try.prog T_int T_uint = some (some .u64) := by kernel_rfl
@[simp] theorem ty46 : lnS Try.prog T_s_int = .slice := by kernel_rfl
@[simp] theorem ty47 : blS Try.prog T_eval_meaning = some true := by kernel_rfl
@[simp] theorem ty48 : plS Try.prog T_eval_meaning 0 = some (0, 1) := by kernel_rfl
@[simp] theorem ty49 : ldS Try.prog T_eval_meaning = some (some 1) := by kernel_rfl
@[simp] theorem ty50 : ldS Try.prog T_x98 = some none := by kernel_rfl
@[simp] theorem ty51 : eqS Try.prog T_bool = .bool := by kernel_rfl
@[simp] theorem ty52 : fdS Try.prog T_bv_number 0 = some (0, none) := by kernel_rfl
@[simp] theorem ty53 : fdS Try.prog T_api_Bits 1 = some (1, none) := by kernel_rfl
@[simp] theorem ty54 : KT T_bv_number = some [(.i .u64), (.i .u64)] := by kernel_rfl
@[simp] theorem ty55 : tS Try.prog T_uint64 = some 1 := by kernel_rfl
@[simp] theorem ty56 : cvS Try.prog T_int T_uint64 = some (some .u64) := by kernel_rfl
@[simp] theorem ty57 : cvS Try.prog T_uint64 T_int = some (some .i64) := by kernel_rfl
@[simp] theorem ty58 : tS Try.prog T_api_Node = some 11 := by kernel_rfl
@[simp] theorem ty59 : faS Try.prog T_api_Node 8 = some 10 := by kernel_rfl
@[simp] theorem ty60 : ldS Try.prog T_string = some none := by kernel_rfl
@[simp] theorem ty61 : mkeyS Try.prog KT T_m_string_api_Bits = some (.one .s) := by kernel_rfl
@[simp] theorem ty62 : mapS Try.prog KT T_m_string_api_Bits = some ((.one .s), (.agg [(.int .i64 0), (u 0#64), (u 0#64)])) := by kernel_rfl
@[simp] theorem ty63 : faS Try.prog T_api_Node 1 = some 1 := by kernel_rfl
@[simp] theorem ty64 : mkS Try.prog T_s_api_Named = some (4, 40, [(.str .empty), (.int .i64 0), (u 0#64), (u 0#64)]) := by kernel_rfl
@[simp] theorem ty65 : faS Try.prog T_term_Graph 1 = some 1 := by kernel_rfl
@[simp] theorem ty66 : ldS Try.prog T_s_api_Node = some none := by kernel_rfl
@[simp] theorem ty67 : lnS Try.prog T_s_api_Node = .slice := by kernel_rfl
@[simp] theorem ty68 : eszS Try.prog T_s_api_Node = some 11 := by kernel_rfl
@[simp] theorem ty69 : ldS Try.prog T_api_Node = some (some 11) := by kernel_rfl
@[simp] theorem ty70 : lnS Try.prog T_s_api_Named = .slice := by kernel_rfl
@[simp] theorem ty71 : eszS Try.prog T_s_api_Named = some 4 := by kernel_rfl
@[simp] theorem ty72 : ldS Try.prog T_api_Named = some (some 4) := by kernel_rfl
@[simp] theorem ty73 : tS Try.prog T_api_Named = some 4 := by kernel_rfl
@[simp] theorem ty74 : faS Try.prog T_api_Named 0 = some 0 := by kernel_rfl
@[simp] theorem ty75 : faS Try.prog T_api_Named 1 = some 1 := by kernel_rfl
@[simp] theorem ty76 : faS Try.prog T_api_Node 0 = some 0 := by kernel_rfl
@[simp] theorem ty77 : mkeyS Try.prog KT T_m_int_api_Bits = some (.one (.i .i64)) := by kernel_rfl
@[simp] theorem ty78 : mapS Try.prog KT T_m_int_api_Bits = some ((.one (.i .i64)), (.agg [(.int .i64 0), (u 0#64), (u 0#64)])) := by kernel_rfl
@[simp] theorem ty79 : faS Try.prog T_api_Node 7 = some 7 := by kernel_rfl
@[simp] theorem ty80 : faS Try.prog T_api_Node 2 = some 2 := by kernel_rfl
@[simp] theorem ty81 : faS Try.prog T_api_Node 3 = some 3 := by kernel_rfl
@[simp] theorem ty82 : faS Try.prog T_api_Node 4 = some 4 := by kernel_rfl
@[simp] theorem ty83 : faS Try.prog T_api_Node 5 = some 5 := by kernel_rfl
@[simp] theorem ty84 : faS Try.prog T_api_Node 6 = some 6 := by kernel_rfl
@[simp] theorem ty85 : mkS Try.prog T_s_bool = some (1, 1, [(.bool false)]) := by kernel_rfl
@[simp] theorem ty86 : eszS Try.prog T_s_bool = some 1 := by kernel_rfl
@[simp] theorem ty87 : tS Try.prog T_bool = some 1 := by kernel_rfl
@[simp] theorem ty88 : ldS Try.prog T_bool = some none := by kernel_rfl
@[simp] theorem ty89 : faS Try.prog T_term_Graph 2 = some 2 := by kernel_rfl
@[simp] theorem ty90 : ldS Try.prog T_m_api_Node_int = some none := by kernel_rfl
@[simp] theorem ty91 : mkeyS Try.prog KT T_m_api_Node_int = some (.many [(.i .i64), (.i .i64), (.i .i64), (.i .i64), (.i .i64), (.i .i64), (.i .i64), (.i .i64), (.i .u64), (.i .u64), .s]) := by kernel_rfl
@[simp] theorem ty92 : mapS Try.prog KT T_m_api_Node_int = some ((.many [(.i .i64), (.i .i64), (.i .i64), (.i .i64), (.i .i64), (.i .i64), (.i .i64), (.i .i64), (.i .u64), (.i .u64), .s]), (.int .i64 0)) := by kernel_rfl
@[simp] theorem ty93 : faS Try.prog T_term_Graph 0 = some 0 := by kernel_rfl
@[simp] theorem ty94 : bsS Try.prog T_s_api_Node = some (11, [(.int .i64 0), (.int .i64 0), (.int .i64 0), (.int .i64 0), (.int .i64 0), (.int .i64 0), (.int .i64 0), (.int .i64 0), (u 0#64), (u 0#64), (.str .empty)]) := by kernel_rfl
@[simp] theorem ty95 : mkS Try.prog T_s_api_Node = some (11, 96, [(.int .i64 0), (.int .i64 0), (.int .i64 0), (.int .i64 0), (.int .i64 0), (.int .i64 0), (.int .i64 0), (.int .i64 0), (u 0#64), (u 0#64), (.str .empty)]) := by kernel_rfl
@[simp] theorem ty96 : tS Try.prog T_s_api_Node = some 1 := by kernel_rfl
@[simp] theorem ty97 : faS Try.prog T_term_Graph 3 = some 3 := by kernel_rfl
@[simp] theorem ty98 : ldS Try.prog T_m_string_int = some none := by kernel_rfl
@[simp] theorem ty99 : mkeyS Try.prog KT T_m_string_int = some (.one .s) := by kernel_rfl
@[simp] theorem ty100 : mapS Try.prog KT T_m_string_int = some ((.one .s), (.int .i64 0)) := by kernel_rfl
@[simp] theorem ty101 : tZ Try.prog T_a3_int = some [(.int .i64 0), (.int .i64 0), (.int .i64 0)] := by kernel_rfl
@[simp] theorem ty102 : blS Try.prog T_a3_int = some true := by kernel_rfl
@[simp] theorem ty103 : plS Try.prog T_a3_int 0 = some (0, 1) := by kernel_rfl
@[simp] theorem ty104 : plS Try.prog T_a3_int 1 = some (1, 1) := by kernel_rfl
@[simp] theorem ty105 : plS Try.prog T_a3_int 2 = some (2, 1) := by kernel_rfl
@[simp] theorem ty106 : arrS Try.prog T_a3_int = some (3, 1) := by kernel_rfl
@[simp] theorem ty107 : arrL Try.prog T_a3_int = some none := by kernel_rfl
@[simp] theorem ty108 : tZ Try.prog T_term_Graph = some [(.int .i64 0), .nils, .nilm, .nilm] := by kernel_rfl
@[simp] theorem ty109 : blS Try.prog T_term_Graph = some true := by kernel_rfl
@[simp] theorem ty110 : plS Try.prog T_term_Graph 0 = some (0, 1) := by kernel_rfl
@[simp] theorem ty111 : plS Try.prog T_term_Graph 2 = some (2, 1) := by kernel_rfl
@[simp] theorem ty112 : plS Try.prog T_term_Graph 3 = some (3, 1) := by kernel_rfl
@[simp] theorem ty113 : KT T_api_Named = some [.s, (.i .i64), (.i .u64), (.i .u64)] := by kernel_rfl
@[simp] theorem ty114 : mkS Try.prog T_s_api_Bits = some (3, 24, [(.int .i64 0), (u 0#64), (u 0#64)]) := by kernel_rfl
@[simp] theorem ty115 : lnS Try.prog T_string = .str := by kernel_rfl
@[simp] theorem ty116 : tZ Try.prog T_plaitref3_Graph = some [.nils, (.int .i64 0)] := by kernel_rfl
@[simp] theorem ty117 : blS Try.prog T_plaitref3_Graph = some true := by kernel_rfl
@[simp] theorem ty118 : plS Try.prog T_plaitref3_Graph 1 = some (1, 1) := by kernel_rfl
@[simp] theorem ty119 : faS Try.prog T_plaitref3_Graph 0 = some 0 := by kernel_rfl
@[simp] theorem ty120 : KT T_api_Node = some [(.i .i64), (.i .i64), (.i .i64), (.i .i64), (.i .i64), (.i .i64), (.i .i64), (.i .i64), (.i .u64), (.i .u64), .s] := by kernel_rfl
@[simp] theorem ty121 : faS Try.prog T_plaitref3_Graph 1 = some 1 := by kernel_rfl
@[simp] theorem ty122 : lnS Try.prog T_s_bool = .slice := by kernel_rfl
@[simp] theorem ty123 : bsS Try.prog T_s_bool = some (1, [(.bool false)]) := by kernel_rfl
@[simp] theorem ty124 : tZ Try.prog T_a2_uint64 = some [(u 0#64), (u 0#64)] := by kernel_rfl
@[simp] theorem ty125 : arrS Try.prog T_a2_uint64 = some (2, 1) := by kernel_rfl
@[simp] theorem ty126 : arrL Try.prog T_a2_uint64 = some none := by kernel_rfl
def c_plaitlaw4_EvalTurned : LCode := (.seq (.reg [] [⟨some 5, some (.box T_api_Bits (.tmp 1)), none⟩,
 ⟨some 6, some (.box T_api_Bits (.tmp 2)), none⟩,
 ⟨some 7, some (.box T_api_Bits (.tmp 3)), none⟩,
 ⟨some 8, some (.assign (.const (.bool false))), none⟩])
  (.seq (.seq (.reg [] [⟨some 17, some (.call ⟨(.value (.func f_plaitlaw4_known)), #[], #[]⟩), none⟩,
 ⟨some 18, some (.unOp .not T_bool (.tmp 17)), none⟩])
  (.cond (.tmp 18) (.seq (.reg [] [⟨some 8, some (.assign (.const (.bool false))), none⟩])
  .ret)
  .skip))
  (.seq (.seq (.reg [] [⟨some 19, some (.move (.tmp 0)), none⟩])
  (.block 0 (.seq (.seq (.reg [] [⟨some 21, some (.binOp .eql T_int (.tmp 19) (.const (.int .i64 4)) T_int), none⟩,
 ⟨some 20, some (.assign (.tmp 21)), none⟩])
  (.cond (.tmp 20) .skip
  (.seq (.reg [] [⟨some 22, some (.binOp .eql T_int (.tmp 19) (.const (.int .i64 5)) T_int), none⟩,
 ⟨some 20, some (.assign (.tmp 22)), none⟩])
  (.cond (.tmp 20) .skip
  (.seq (.reg [] [⟨some 23, some (.binOp .eql T_int (.tmp 19) (.const (.int .i64 6)) T_int), none⟩,
 ⟨some 20, some (.assign (.tmp 23)), none⟩])
  (.cond (.tmp 20) .skip
  (.seq (.reg [] [⟨some 24, some (.binOp .eql T_int (.tmp 19) (.const (.int .i64 8)) T_int), none⟩,
 ⟨some 20, some (.assign (.tmp 24)), none⟩])
  (.cond (.tmp 20) .skip
  (.seq (.reg [] [⟨some 25, some (.binOp .eql T_int (.tmp 19) (.const (.int .i64 12)) T_int), none⟩,
 ⟨some 20, some (.assign (.tmp 25)), none⟩])
  (.cond (.tmp 20) .skip
  (.seq (.reg [] [⟨some 26, some (.binOp .eql T_int (.tmp 19) (.const (.int .i64 13)) T_int), none⟩,
 ⟨some 20, some (.assign (.tmp 26)), none⟩])
  (.cond (.tmp 20) .skip
  (.seq (.reg [] [⟨some 27, some (.binOp .eql T_int (.tmp 19) (.const (.int .i64 14)) T_int), none⟩,
 ⟨some 20, some (.assign (.tmp 27)), none⟩])
  (.cond (.tmp 20) .skip
  (.seq (.reg [] [⟨some 28, some (.binOp .eql T_int (.tmp 19) (.const (.int .i64 15)) T_int), none⟩,
 ⟨some 20, some (.assign (.tmp 28)), none⟩])
  (.cond (.tmp 20) .skip
  (.seq (.reg [] [⟨some 29, some (.binOp .eql T_int (.tmp 19) (.const (.int .i64 16)) T_int), none⟩,
 ⟨some 20, some (.assign (.tmp 29)), none⟩])
  (.cond (.tmp 20) .skip
  (.seq (.reg [] [⟨some 30, some (.binOp .eql T_int (.tmp 19) (.const (.int .i64 17)) T_int), none⟩,
 ⟨some 20, some (.assign (.tmp 30)), none⟩])
  (.cond (.tmp 20) .skip
  (.seq (.reg [] [⟨some 31, some (.binOp .eql T_int (.tmp 19) (.const (.int .i64 18)) T_int), none⟩,
 ⟨some 20, some (.assign (.tmp 31)), none⟩])
  (.cond (.tmp 20) .skip
  (.seq (.reg [] [⟨some 32, some (.binOp .eql T_int (.tmp 19) (.const (.int .i64 20)) T_int), none⟩,
 ⟨some 20, some (.assign (.tmp 32)), none⟩])
  (.cond (.tmp 20) .skip
  (.reg [] [⟨some 33, some (.binOp .eql T_int (.tmp 19) (.const (.int .i64 37)) T_int), none⟩,
 ⟨some 20, some (.assign (.tmp 33)), none⟩])))))))))))))))))))))))))
  (.cond (.tmp 20) (.seq (.reg [] [⟨some 35, some (.move (.tmp 0)), none⟩,
 ⟨some 36, some (.load T_api_Bits (.tmp 5)), none⟩,
 ⟨some 37, some (.load T_api_Bits (.tmp 6)), none⟩,
 ⟨some 38, some (.buildSlice T_s_api_Bits 2 #[(0, (.tmp 36)), (1, (.tmp 37))]), none⟩,
 ⟨some 39, some (.call ⟨(.value (.func f_eval_Apply)), #[(.tmp 35), (.const (.int .i64 0)), (.const (.int .i64 0)), (.tmp 38)], #[T_int, T_int, T_int, T_s_api_Bits]⟩), none⟩,
 ⟨some 34, some (.move (.tmp 39)), none⟩,
 ⟨some 40, some (.extract (.tmp 34) 0), none⟩,
 ⟨some 41, some (.extract (.tmp 34) 1), none⟩,
 ⟨some 9, some (.alloc T_api_Bits), none⟩,
 ⟨none, some (.store T_api_Bits (.tmp 9) (.tmp 40)), none⟩,
 ⟨some 10, some (.assign (.tmp 41)), none⟩])
  (.seq (.reg [] [⟨some 43, some (.move (.tmp 0)), none⟩,
 ⟨some 44, some (.load T_api_Bits (.tmp 6)), none⟩,
 ⟨some 45, some (.load T_api_Bits (.tmp 5)), none⟩,
 ⟨some 46, some (.buildSlice T_s_api_Bits 2 #[(0, (.tmp 44)), (1, (.tmp 45))]), none⟩,
 ⟨some 47, some (.call ⟨(.value (.func f_eval_Apply)), #[(.tmp 43), (.const (.int .i64 0)), (.const (.int .i64 0)), (.tmp 46)], #[T_int, T_int, T_int, T_s_api_Bits]⟩), none⟩,
 ⟨some 42, some (.move (.tmp 47)), none⟩,
 ⟨some 48, some (.extract (.tmp 42) 0), none⟩,
 ⟨some 49, some (.extract (.tmp 42) 1), none⟩,
 ⟨some 11, some (.alloc T_api_Bits), none⟩,
 ⟨none, some (.store T_api_Bits (.tmp 11) (.tmp 48)), none⟩,
 ⟨some 12, some (.assign (.tmp 49)), none⟩])
  (.seq (.reg [] [⟨some 50, some (.load T_api_Bits (.tmp 9)), none⟩,
 ⟨some 51, some (.load T_api_Bits (.tmp 11)), none⟩,
 ⟨some 52, some (.binOp .neq T_api_Bits (.tmp 50) (.tmp 51) T_api_Bits), none⟩,
 ⟨some 53, some (.move (.tmp 52)), none⟩,
 ⟨some 54, some (.move (.tmp 10)), some (some 53, false)⟩,
 ⟨some 55, some (.move (.tmp 12)), some (some 53, false)⟩,
 ⟨some 56, some (.binOp .neq T_api_Errno (.tmp 54) (.tmp 55) T_api_Errno), some (some 53, false)⟩,
 ⟨some 57, some (.pick (.tmp 53) (.const (.bool true)) (.tmp 56)), none⟩])
  (.cond (.tmp 57) (.seq (.reg [] [⟨some 8, some (.assign (.const (.bool false))), none⟩])
  .ret)
  .skip))))
  .skip))))
  (.seq (.reg [] [⟨some 59, some (.load T_api_Bits (.tmp 7)), none⟩,
 ⟨some 60, some (.load T_api_Bits (.tmp 5)), none⟩,
 ⟨some 61, some (.load T_api_Bits (.tmp 6)), none⟩,
 ⟨some 62, some (.buildSlice T_s_api_Bits 3 #[(0, (.tmp 59)), (1, (.tmp 60)), (2, (.tmp 61))]), none⟩,
 ⟨some 63, some (.call ⟨(.value (.func f_eval_Apply)), #[(.const (.int .i64 9)), (.const (.int .i64 0)), (.const (.int .i64 0)), (.tmp 62)], #[T_int, T_int, T_int, T_s_api_Bits]⟩), none⟩,
 ⟨some 58, some (.move (.tmp 63)), none⟩,
 ⟨some 64, some (.extract (.tmp 58) 0), none⟩,
 ⟨some 65, some (.extract (.tmp 58) 1), none⟩,
 ⟨some 13, some (.alloc T_api_Bits), none⟩,
 ⟨none, some (.store T_api_Bits (.tmp 13) (.tmp 64)), none⟩,
 ⟨some 14, some (.assign (.tmp 65)), none⟩])
  (.seq (.reg [] [⟨some 67, some (.fieldAddr T_api_Bits (.tmp 7) 1), none⟩,
 ⟨some 68, some (.load T_uint64 (.tmp 67)), none⟩,
 ⟨some 69, some (.binOp .and T_uint64 (.tmp 68) (.const (.int .u64 1)) T_uint64), none⟩,
 ⟨some 70, some (.binOp .sub T_uint64 (.const (.int .u64 1)) (.tmp 69) T_uint64), none⟩,
 ⟨some 71, some (.build T_api_Bits #[(1, (.tmp 70))]), none⟩,
 ⟨some 72, some (.load T_api_Bits (.tmp 6)), none⟩,
 ⟨some 73, some (.load T_api_Bits (.tmp 5)), none⟩,
 ⟨some 74, some (.buildSlice T_s_api_Bits 3 #[(0, (.tmp 71)), (1, (.tmp 72)), (2, (.tmp 73))]), none⟩,
 ⟨some 75, some (.call ⟨(.value (.func f_eval_Apply)), #[(.const (.int .i64 9)), (.const (.int .i64 0)), (.const (.int .i64 0)), (.tmp 74)], #[T_int, T_int, T_int, T_s_api_Bits]⟩), none⟩,
 ⟨some 66, some (.move (.tmp 75)), none⟩,
 ⟨some 76, some (.extract (.tmp 66) 0), none⟩,
 ⟨some 77, some (.extract (.tmp 66) 1), none⟩,
 ⟨some 15, some (.alloc T_api_Bits), none⟩,
 ⟨none, some (.store T_api_Bits (.tmp 15) (.tmp 76)), none⟩,
 ⟨some 16, some (.assign (.tmp 77)), none⟩])
  (.seq (.seq (.reg [] [⟨some 78, some (.move (.tmp 14)), none⟩,
 ⟨some 79, some (.binOp .eql T_int (.tmp 78) (.const (.int .i64 0)) T_int), none⟩])
  (.cond (.tmp 79) (.seq (.reg [] [⟨some 80, some (.move (.tmp 16)), none⟩,
 ⟨some 81, some (.binOp .eql T_int (.tmp 80) (.const (.int .i64 0)) T_int), none⟩,
 ⟨some 82, some (.move (.tmp 81)), none⟩,
 ⟨some 83, some (.load T_api_Bits (.tmp 13)), some (some 82, true)⟩,
 ⟨some 84, some (.load T_api_Bits (.tmp 15)), some (some 82, true)⟩,
 ⟨some 85, some (.binOp .eql T_api_Bits (.tmp 83) (.tmp 84) T_api_Bits), some (some 82, true)⟩,
 ⟨some 86, some (.pick (.tmp 82) (.tmp 85) (.const (.bool false))), none⟩,
 ⟨some 87, some (.move (.tmp 86)), none⟩,
 ⟨some 88, some (.fieldAddr T_api_Bits (.tmp 7) 1), some (some 87, true)⟩,
 ⟨some 89, some (.load T_uint64 (.tmp 88)), some (some 87, true)⟩,
 ⟨some 90, some (.binOp .eql T_uint64 (.tmp 89) (.const (.int .u64 1)) T_uint64), some (some 87, true)⟩,
 ⟨some 91, some (.move (.tmp 90)), some (some 87, true)⟩,
 ⟨some 92, some (.load T_api_Bits (.tmp 13)), some (some 91, true)⟩,
 ⟨some 93, some (.load T_api_Bits (.tmp 5)), some (some 91, true)⟩,
 ⟨some 94, some (.binOp .eql T_api_Bits (.tmp 92) (.tmp 93) T_api_Bits), some (some 91, true)⟩,
 ⟨some 95, some (.pick (.tmp 91) (.tmp 94) (.const (.bool false))), some (some 87, true)⟩,
 ⟨some 96, some (.move (.tmp 95)), some (some 87, true)⟩,
 ⟨some 97, some (.fieldAddr T_api_Bits (.tmp 7) 1), some (some 96, false)⟩,
 ⟨some 98, some (.load T_uint64 (.tmp 97)), some (some 96, false)⟩,
 ⟨some 99, some (.binOp .eql T_uint64 (.tmp 98) (.const (.int .u64 0)) T_uint64), some (some 96, false)⟩,
 ⟨some 100, some (.move (.tmp 99)), some (some 96, false)⟩,
 ⟨some 101, some (.load T_api_Bits (.tmp 13)), some (some 100, true)⟩,
 ⟨some 102, some (.load T_api_Bits (.tmp 6)), some (some 100, true)⟩,
 ⟨some 103, some (.binOp .eql T_api_Bits (.tmp 101) (.tmp 102) T_api_Bits), some (some 100, true)⟩,
 ⟨some 104, some (.pick (.tmp 100) (.tmp 103) (.const (.bool false))), some (some 96, false)⟩,
 ⟨some 105, some (.pick (.tmp 96) (.const (.bool true)) (.tmp 104)), some (some 87, true)⟩,
 ⟨some 106, some (.pick (.tmp 87) (.tmp 105) (.const (.bool false))), none⟩,
 ⟨some 8, some (.assign (.tmp 106)), none⟩])
  .ret)
  .skip))
  (.seq (.reg [] [⟨some 107, some (.move (.tmp 14)), none⟩,
 ⟨some 108, some (.binOp .eql T_int (.tmp 107) (.const (.int .i64 30)) T_int), none⟩,
 ⟨some 8, some (.assign (.tmp 108)), none⟩])
  .ret)))))))
theorem e_plaitlaw4_EvalTurned {a0 a1 a2 a3 : AV} {H : AHeap} : R f_plaitlaw4_EvalTurned [a0, a1, a2, a3] H = fnK Try.prog [] H [(.tmp 8)] (evalL Try.prog KT R c_plaitlaw4_EvalTurned (Env.args [a0, a1, a2, a3] 0) H) :=
  runs_body (D := DT) (f := f_plaitlaw4_EvalTurned) Try.func3 (by kernel_rfl) (by kernel_rfl) (by kernel_rfl) (by kernel_rfl) (by kernel_rfl) (Nat.le_of_ble_eq_true rfl)
def c_plaitlaw4_EvalSwap : LCode := (.seq (.reg [] [⟨some 8, some (.assign (.const (.bool false))), none⟩])
  (.seq (.seq (.reg [] [⟨some 24, some (.call ⟨(.value (.func f_plaitlaw4_known)), #[], #[]⟩), none⟩,
 ⟨some 25, some (.unOp .not T_bool (.tmp 24)), none⟩])
  (.cond (.tmp 25) (.seq (.reg [] [⟨some 8, some (.assign (.const (.bool false))), none⟩])
  .ret)
  .skip))
  (.seq (.seq (.reg [] [⟨some 26, some (.move (.tmp 1)), none⟩,
 ⟨some 27, some (.call ⟨(.builtin .len), #[.tmp 26], #[T_s_api_Named]⟩), none⟩,
 ⟨some 28, some (.binOp .gtr T_int (.tmp 27) (.const (.int .i64 50)) T_int), none⟩])
  (.cond (.tmp 28) (.seq (.reg [] [⟨some 8, some (.assign (.const (.bool true))), none⟩])
  .ret)
  .skip))
  (.seq (.reg [] [⟨some 30, some (.move (.tmp 0)), none⟩,
 ⟨some 31, some (.call ⟨(.value (.func f_plaitlaw4_made)), #[.tmp 30], #[T_s_api_Node]⟩), none⟩,
 ⟨some 29, some (.move (.tmp 31)), none⟩,
 ⟨some 32, some (.extract (.tmp 29) 0), none⟩,
 ⟨some 33, some (.extract (.tmp 29) 1), none⟩,
 ⟨some 34, some (.extract (.tmp 29) 2), none⟩,
 ⟨some 9, some (.assign (.tmp 32)), none⟩,
 ⟨some 10, some (.assign (.tmp 33)), none⟩,
 ⟨some 11, some (.assign (.tmp 34)), none⟩])
  (.seq (.seq (.reg [] [⟨some 35, some (.move (.tmp 11)), none⟩,
 ⟨some 36, some (.unOp .not T_bool (.tmp 35)), none⟩,
 ⟨some 37, some (.move (.tmp 36)), none⟩,
 ⟨some 38, some (.move (.tmp 9)), some (some 37, false)⟩,
 ⟨some 39, some (.call ⟨(.value (.func f_plait_term_Graph_Len)), #[.tmp 38], #[T_p_term_Graph]⟩), some (some 37, false)⟩,
 ⟨some 40, some (.binOp .eql T_int (.tmp 39) (.const (.int .i64 0)) T_int), some (some 37, false)⟩,
 ⟨some 41, some (.pick (.tmp 37) (.const (.bool true)) (.tmp 40)), none⟩])
  (.cond (.tmp 41) (.seq (.reg [] [⟨some 8, some (.assign (.const (.bool true))), none⟩])
  .ret)
  .skip))
  (.seq (.reg [] [⟨some 42, some (.move (.tmp 2)), none⟩,
 ⟨some 43, some (.move (.tmp 9)), none⟩,
 ⟨some 44, some (.call ⟨(.value (.func f_plait_term_Graph_Len)), #[.tmp 43], #[T_p_term_Graph]⟩), none⟩,
 ⟨some 45, some (.call ⟨(.value (.func f_plaithelp_Place)), #[.tmp 42, .tmp 44], #[T_int, T_int]⟩), none⟩,
 ⟨some 46, some (.binOp .add T_int (.const (.int .i64 1)) (.tmp 45) T_int), none⟩,
 ⟨some 47, some (.move (.tmp 3)), none⟩,
 ⟨some 48, some (.move (.tmp 9)), none⟩,
 ⟨some 49, some (.call ⟨(.value (.func f_plait_term_Graph_Len)), #[.tmp 48], #[T_p_term_Graph]⟩), none⟩,
 ⟨some 50, some (.call ⟨(.value (.func f_plaithelp_Place)), #[.tmp 47, .tmp 49], #[T_int, T_int]⟩), none⟩,
 ⟨some 51, some (.binOp .add T_int (.const (.int .i64 1)) (.tmp 50) T_int), none⟩,
 ⟨some 2, some (.assign (.tmp 46)), none⟩,
 ⟨some 3, some (.assign (.tmp 51)), none⟩])
  (.seq (.reg [] [⟨some 52, some (.move (.tmp 9)), none⟩,
 ⟨some 53, some (.move (.tmp 1)), none⟩,
 ⟨some 54, some (.call ⟨(.value (.func f_eval_Complete)), #[.tmp 52, .tmp 53], #[T_p_term_Graph, T_s_api_Named]⟩), none⟩,
 ⟨some 1, some (.assign (.tmp 54)), none⟩])
  (.seq (.reg [] [⟨some 56, some (.move (.tmp 9)), none⟩,
 ⟨some 57, some (.move (.tmp 2)), none⟩,
 ⟨some 58, some (.call ⟨(.value (.func f_plait_term_Graph_Node)), #[.tmp 56, .tmp 57], #[T_p_term_Graph, T_int]⟩), none⟩,
 ⟨some 55, some (.move (.tmp 58)), none⟩,
 ⟨some 59, some (.extract (.tmp 55) 0), none⟩,
 ⟨some 60, some (.extract (.tmp 55) 1), none⟩,
 ⟨some 12, some (.alloc T_api_Node), none⟩,
 ⟨none, some (.store T_api_Node (.tmp 12) (.tmp 59)), none⟩,
 ⟨some 13, some (.assign (.tmp 60)), none⟩])
  (.seq (.seq (.reg [] [⟨some 61, some (.fieldAddr T_api_Node (.tmp 12) 2), none⟩,
 ⟨some 62, some (.load T_int (.tmp 61)), none⟩,
 ⟨some 63, some (.binOp .eql T_int (.tmp 62) (.const (.int .i64 0)) T_int), none⟩])
  (.cond (.tmp 63) (.seq (.reg [] [⟨some 8, some (.assign (.const (.bool true))), none⟩])
  .ret)
  .skip))
  (.seq (.reg [] [⟨some 65, some (.move (.tmp 9)), none⟩,
 ⟨some 66, some (.fieldAddr T_api_Node (.tmp 12) 2), none⟩,
 ⟨some 67, some (.load T_int (.tmp 66)), none⟩,
 ⟨some 68, some (.move (.tmp 1)), none⟩,
 ⟨some 69, some (.call ⟨(.value (.func f_eval_Eval)), #[.tmp 65, .tmp 67, .tmp 68], #[T_p_term_Graph, T_int, T_s_api_Named]⟩), none⟩,
 ⟨some 64, some (.move (.tmp 69)), none⟩,
 ⟨some 70, some (.extract (.tmp 64) 0), none⟩,
 ⟨some 71, some (.extract (.tmp 64) 1), none⟩,
 ⟨some 14, some (.alloc T_api_Bits), none⟩,
 ⟨none, some (.store T_api_Bits (.tmp 14) (.tmp 70)), none⟩,
 ⟨some 15, some (.assign (.tmp 71)), none⟩])
  (.seq (.reg [] [⟨some 73, some (.move (.tmp 9)), none⟩,
 ⟨some 74, some (.move (.tmp 3)), none⟩,
 ⟨some 75, some (.move (.tmp 1)), none⟩,
 ⟨some 76, some (.call ⟨(.value (.func f_eval_Eval)), #[.tmp 73, .tmp 74, .tmp 75], #[T_p_term_Graph, T_int, T_s_api_Named]⟩), none⟩,
 ⟨some 72, some (.move (.tmp 76)), none⟩,
 ⟨some 77, some (.extract (.tmp 72) 0), none⟩,
 ⟨some 78, some (.extract (.tmp 72) 1), none⟩,
 ⟨some 16, some (.alloc T_api_Bits), none⟩,
 ⟨none, some (.store T_api_Bits (.tmp 16) (.tmp 77)), none⟩,
 ⟨some 17, some (.assign (.tmp 78)), none⟩])
  (.seq (.seq (.reg [] [⟨some 79, some (.load T_api_Bits (.tmp 14)), none⟩,
 ⟨some 80, some (.load T_api_Bits (.tmp 16)), none⟩,
 ⟨some 81, some (.binOp .neq T_api_Bits (.tmp 79) (.tmp 80) T_api_Bits), none⟩])
  (.cond (.tmp 81) (.seq (.reg [] [⟨some 8, some (.assign (.const (.bool true))), none⟩])
  .ret)
  .skip))
  (.seq (.reg [] [⟨some 83, some (.move (.tmp 9)), none⟩,
 ⟨some 84, some (.move (.tmp 2)), none⟩,
 ⟨some 85, some (.move (.tmp 1)), none⟩,
 ⟨some 86, some (.call ⟨(.value (.func f_eval_Eval)), #[.tmp 83, .tmp 84, .tmp 85], #[T_p_term_Graph, T_int, T_s_api_Named]⟩), none⟩,
 ⟨some 82, some (.move (.tmp 86)), none⟩,
 ⟨some 87, some (.extract (.tmp 82) 0), none⟩,
 ⟨some 88, some (.extract (.tmp 82) 1), none⟩,
 ⟨some 18, some (.alloc T_api_Bits), none⟩,
 ⟨none, some (.store T_api_Bits (.tmp 18) (.tmp 87)), none⟩,
 ⟨some 19, some (.assign (.tmp 88)), none⟩])
  (.seq (.reg [] [⟨some 89, some (.move (.tmp 3)), none⟩,
 ⟨some 90, some (.fieldAddr T_api_Node (.tmp 12) 2), none⟩,
 ⟨none, some (.store T_int (.tmp 90) (.tmp 89)), none⟩])
  (.seq (.reg [] [⟨some 92, some (.move (.tmp 9)), none⟩,
 ⟨some 93, some (.load T_api_Node (.tmp 12)), none⟩,
 ⟨some 94, some (.call ⟨(.value (.func f_plait_term_Graph_Make)), #[.tmp 92, .tmp 93], #[T_p_term_Graph, T_api_Node]⟩), none⟩,
 ⟨some 91, some (.move (.tmp 94)), none⟩,
 ⟨some 95, some (.extract (.tmp 91) 0), none⟩,
 ⟨some 96, some (.extract (.tmp 91) 1), none⟩,
 ⟨some 20, some (.assign (.tmp 95)), none⟩,
 ⟨some 21, some (.assign (.tmp 96)), none⟩])
  (.seq (.seq (.reg [] [⟨some 97, some (.move (.tmp 19)), none⟩,
 ⟨some 98, some (.move (.tmp 21)), none⟩,
 ⟨some 99, some (.binOp .add T_int (.tmp 97) (.tmp 98) T_int), none⟩,
 ⟨some 100, some (.binOp .neq T_int (.tmp 99) (.const (.int .i64 0)) T_int), none⟩])
  (.cond (.tmp 100) (.seq (.reg [] [⟨some 8, some (.assign (.const (.bool false))), none⟩])
  .ret)
  .skip))
  (.seq (.reg [] [⟨some 102, some (.move (.tmp 9)), none⟩,
 ⟨some 103, some (.move (.tmp 20)), none⟩,
 ⟨some 104, some (.move (.tmp 1)), none⟩,
 ⟨some 105, some (.call ⟨(.value (.func f_eval_Eval)), #[.tmp 102, .tmp 103, .tmp 104], #[T_p_term_Graph, T_int, T_s_api_Named]⟩), none⟩,
 ⟨some 101, some (.move (.tmp 105)), none⟩,
 ⟨some 106, some (.extract (.tmp 101) 0), none⟩,
 ⟨some 107, some (.extract (.tmp 101) 1), none⟩,
 ⟨some 22, some (.alloc T_api_Bits), none⟩,
 ⟨none, some (.store T_api_Bits (.tmp 22) (.tmp 106)), none⟩,
 ⟨some 23, some (.assign (.tmp 107)), none⟩])
  (.seq (.reg [] [⟨some 108, some (.move (.tmp 23)), none⟩,
 ⟨some 109, some (.binOp .eql T_int (.tmp 108) (.const (.int .i64 0)) T_int), none⟩,
 ⟨some 110, some (.move (.tmp 109)), none⟩,
 ⟨some 111, some (.load T_api_Bits (.tmp 18)), some (some 110, true)⟩,
 ⟨some 112, some (.load T_api_Bits (.tmp 22)), some (some 110, true)⟩,
 ⟨some 113, some (.binOp .eql T_api_Bits (.tmp 111) (.tmp 112) T_api_Bits), some (some 110, true)⟩,
 ⟨some 114, some (.pick (.tmp 110) (.tmp 113) (.const (.bool false))), none⟩,
 ⟨some 8, some (.assign (.tmp 114)), none⟩])
  .ret))))))))))))))))))
theorem e_plaitlaw4_EvalSwap {a0 a1 a2 a3 : AV} {H : AHeap} : R f_plaitlaw4_EvalSwap [a0, a1, a2, a3] H = fnK Try.prog [] H [(.tmp 8)] (evalL Try.prog KT R c_plaitlaw4_EvalSwap (Env.args [a0, a1, a2, a3] 0) H) :=
  runs_body (D := DT) (f := f_plaitlaw4_EvalSwap) Try.func4 (by kernel_rfl) (by kernel_rfl) (by kernel_rfl) (by kernel_rfl) (by kernel_rfl) (Nat.le_of_ble_eq_true rfl)
def l_plaitlaw4_EvalOwn_1 : LCode := (.seq (.seq (.reg [] [⟨some 97, some (.move (.tmp 22)), none⟩,
 ⟨some 98, some (.move (.tmp 16)), none⟩,
 ⟨some 99, some (.call ⟨(.builtin .len), #[.tmp 98], #[T_s_int]⟩), none⟩,
 ⟨some 100, some (.binOp .lss T_int (.tmp 97) (.tmp 99) T_int), none⟩])
  (.cond (.tmp 100) .skip
  (.exit 2)))
  (.seq (.block 3 (.reg [] [⟨some 103, some (.move (.tmp 21)), none⟩,
 ⟨some 104, some (.move (.tmp 103)), none⟩,
 ⟨some 105, some (.move (.tmp 16)), some (some 104, false)⟩,
 ⟨some 106, some (.move (.tmp 22)), some (some 104, false)⟩,
 ⟨some 107, some (.indexAddr T_s_int (.tmp 105) (.tmp 106)), some (some 104, false)⟩,
 ⟨some 108, some (.load T_int (.tmp 107)), some (some 104, false)⟩,
 ⟨some 109, some (.move (.tmp 19)), some (some 104, false)⟩,
 ⟨some 110, some (.binOp .eql T_int (.tmp 108) (.tmp 109) T_int), some (some 104, false)⟩,
 ⟨some 111, some (.pick (.tmp 104) (.const (.bool true)) (.tmp 110)), none⟩,
 ⟨some 21, some (.assign (.tmp 111)), none⟩]))
  (.reg [] [⟨some 101, some (.move (.tmp 22)), none⟩,
 ⟨some 102, some (.binOp .add T_int (.tmp 101) (.const (.int .i64 1)) T_int), none⟩,
 ⟨some 22, some (.assign (.tmp 102)), none⟩])))
def l_plaitlaw4_EvalOwn_0 : LCode := (.seq (.seq (.reg [] [⟨some 81, some (.move (.tmp 18)), none⟩,
 ⟨some 82, some (.move (.tmp 1)), none⟩,
 ⟨some 83, some (.call ⟨(.builtin .len), #[.tmp 82], #[T_s_api_Named]⟩), none⟩,
 ⟨some 84, some (.binOp .lss T_int (.tmp 81) (.tmp 83) T_int), none⟩])
  (.cond (.tmp 84) .skip
  (.exit 0)))
  (.seq (.block 1 (.seq (.reg [] [⟨some 88, some (.move (.tmp 9)), none⟩,
 ⟨some 89, some (.move (.tmp 1)), none⟩,
 ⟨some 90, some (.move (.tmp 18)), none⟩,
 ⟨some 91, some (.indexAddr T_s_api_Named (.tmp 89) (.tmp 90)), none⟩,
 ⟨some 92, some (.fieldAddr T_api_Named (.tmp 91) 0), none⟩,
 ⟨some 93, some (.load T_string (.tmp 92)), none⟩,
 ⟨some 94, some (.call ⟨(.value (.func f_plait_term_Graph_Var)), #[.tmp 88, .tmp 93], #[T_p_term_Graph, T_string]⟩), none⟩,
 ⟨some 87, some (.move (.tmp 94)), none⟩,
 ⟨some 95, some (.extract (.tmp 87) 0), none⟩,
 ⟨some 96, some (.extract (.tmp 87) 1), none⟩,
 ⟨some 19, some (.assign (.tmp 95)), none⟩,
 ⟨some 20, some (.assign (.tmp 96)), none⟩])
  (.seq (.reg [] [⟨some 21, some (.assign (.const (.bool false))), none⟩])
  (.seq (.seq (.reg [] [⟨some 22, some (.assign (.const (.int .i64 0))), none⟩])
  (.block 2 (.loop l_plaitlaw4_EvalOwn_1)))
  (.seq (.reg [] [⟨some 112, some (.move (.tmp 21)), none⟩])
  (.cond (.tmp 112) (.reg [] [⟨some 113, some (.move (.tmp 17)), none⟩,
 ⟨some 114, some (.move (.tmp 1)), none⟩,
 ⟨some 115, some (.move (.tmp 18)), none⟩,
 ⟨some 116, some (.indexAddr T_s_api_Named (.tmp 114) (.tmp 115)), none⟩,
 ⟨some 117, some (.load T_api_Named (.tmp 116)), none⟩,
 ⟨some 118, some (.buildSlice T_s_api_Named 1 #[(0, (.tmp 117))]), none⟩,
 ⟨some 119, some (.call ⟨(.builtin .append), #[.tmp 113, .tmp 118], #[T_s_api_Named, T_s_api_Named]⟩), none⟩,
 ⟨some 17, some (.assign (.tmp 119)), none⟩])
  .skip))))))
  (.reg [] [⟨some 85, some (.move (.tmp 18)), none⟩,
 ⟨some 86, some (.binOp .add T_int (.tmp 85) (.const (.int .i64 1)) T_int), none⟩,
 ⟨some 18, some (.assign (.tmp 86)), none⟩])))
@[simp] theorem d_l_plaitlaw4_EvalOwn_1 : defs l_plaitlaw4_EvalOwn_1 = [97, 98, 99, 100, 103, 104, 105, 106, 107, 108, 109, 110, 111, 21, 101, 102, 22] := by rfl
@[simp] theorem d_l_plaitlaw4_EvalOwn_0 : defs l_plaitlaw4_EvalOwn_0 = [81, 82, 83, 84, 88, 89, 90, 91, 92, 93, 94, 87, 95, 96, 19, 20, 21, 22, 97, 98, 99, 100, 103, 104, 105, 106, 107, 108, 109, 110, 111, 21, 101, 102, 22, 112, 113, 114, 115, 116, 117, 118, 119, 17, 85, 86, 18] := by rfl
def c_plaitlaw4_EvalOwn : LCode := (.seq (.reg [] [⟨some 8, some (.assign (.const (.bool false))), none⟩])
  (.seq (.seq (.reg [] [⟨some 25, some (.call ⟨(.value (.func f_plaitlaw4_known)), #[], #[]⟩), none⟩,
 ⟨some 26, some (.unOp .not T_bool (.tmp 25)), none⟩])
  (.cond (.tmp 26) (.seq (.reg [] [⟨some 8, some (.assign (.const (.bool false))), none⟩])
  .ret)
  .skip))
  (.seq (.seq (.reg [] [⟨some 27, some (.move (.tmp 1)), none⟩,
 ⟨some 28, some (.call ⟨(.builtin .len), #[.tmp 27], #[T_s_api_Named]⟩), none⟩,
 ⟨some 29, some (.binOp .gtr T_int (.tmp 28) (.const (.int .i64 50)) T_int), none⟩,
 ⟨some 30, some (.move (.tmp 29)), none⟩,
 ⟨some 31, some (.move (.tmp 2)), some (some 30, false)⟩,
 ⟨some 32, some (.call ⟨(.builtin .len), #[.tmp 31], #[T_s_api_Named]⟩), some (some 30, false)⟩,
 ⟨some 33, some (.binOp .gtr T_int (.tmp 32) (.const (.int .i64 50)) T_int), some (some 30, false)⟩,
 ⟨some 34, some (.pick (.tmp 30) (.const (.bool true)) (.tmp 33)), none⟩])
  (.cond (.tmp 34) (.seq (.reg [] [⟨some 8, some (.assign (.const (.bool true))), none⟩])
  .ret)
  .skip))
  (.seq (.reg [] [⟨some 36, some (.move (.tmp 0)), none⟩,
 ⟨some 37, some (.call ⟨(.value (.func f_plaitlaw4_made)), #[.tmp 36], #[T_s_api_Node]⟩), none⟩,
 ⟨some 35, some (.move (.tmp 37)), none⟩,
 ⟨some 38, some (.extract (.tmp 35) 0), none⟩,
 ⟨some 39, some (.extract (.tmp 35) 1), none⟩,
 ⟨some 40, some (.extract (.tmp 35) 2), none⟩,
 ⟨some 9, some (.assign (.tmp 38)), none⟩,
 ⟨some 10, some (.assign (.tmp 39)), none⟩,
 ⟨some 11, some (.assign (.tmp 40)), none⟩])
  (.seq (.seq (.reg [] [⟨some 41, some (.move (.tmp 11)), none⟩,
 ⟨some 42, some (.unOp .not T_bool (.tmp 41)), none⟩,
 ⟨some 43, some (.move (.tmp 42)), none⟩,
 ⟨some 44, some (.move (.tmp 9)), some (some 43, false)⟩,
 ⟨some 45, some (.call ⟨(.value (.func f_plait_term_Graph_Len)), #[.tmp 44], #[T_p_term_Graph]⟩), some (some 43, false)⟩,
 ⟨some 46, some (.binOp .eql T_int (.tmp 45) (.const (.int .i64 0)) T_int), some (some 43, false)⟩,
 ⟨some 47, some (.pick (.tmp 43) (.const (.bool true)) (.tmp 46)), none⟩])
  (.cond (.tmp 47) (.seq (.reg [] [⟨some 8, some (.assign (.const (.bool true))), none⟩])
  .ret)
  .skip))
  (.seq (.reg [] [⟨some 48, some (.move (.tmp 3)), none⟩,
 ⟨some 49, some (.move (.tmp 9)), none⟩,
 ⟨some 50, some (.call ⟨(.value (.func f_plait_term_Graph_Len)), #[.tmp 49], #[T_p_term_Graph]⟩), none⟩,
 ⟨some 51, some (.call ⟨(.value (.func f_plaithelp_Place)), #[.tmp 48, .tmp 50], #[T_int, T_int]⟩), none⟩,
 ⟨some 52, some (.binOp .add T_int (.const (.int .i64 1)) (.tmp 51) T_int), none⟩,
 ⟨some 3, some (.assign (.tmp 52)), none⟩])
  (.seq (.reg [] [⟨some 53, some (.move (.tmp 9)), none⟩,
 ⟨some 54, some (.move (.tmp 1)), none⟩,
 ⟨some 55, some (.call ⟨(.value (.func f_eval_Complete)), #[.tmp 53, .tmp 54], #[T_p_term_Graph, T_s_api_Named]⟩), none⟩,
 ⟨some 1, some (.assign (.tmp 55)), none⟩])
  (.seq (.reg [] [⟨some 57, some (.move (.tmp 9)), none⟩,
 ⟨some 58, some (.move (.tmp 3)), none⟩,
 ⟨some 59, some (.move (.tmp 1)), none⟩,
 ⟨some 60, some (.call ⟨(.value (.func f_eval_Eval)), #[.tmp 57, .tmp 58, .tmp 59], #[T_p_term_Graph, T_int, T_s_api_Named]⟩), none⟩,
 ⟨some 56, some (.move (.tmp 60)), none⟩,
 ⟨some 61, some (.extract (.tmp 56) 0), none⟩,
 ⟨some 62, some (.extract (.tmp 56) 1), none⟩,
 ⟨some 12, some (.alloc T_api_Bits), none⟩,
 ⟨none, some (.store T_api_Bits (.tmp 12) (.tmp 61)), none⟩,
 ⟨some 13, some (.assign (.tmp 62)), none⟩])
  (.seq (.reg [] [⟨some 64, some (.move (.tmp 9)), none⟩,
 ⟨some 65, some (.move (.tmp 3)), none⟩,
 ⟨some 66, some (.call ⟨(.value (.func f_plait_term_Graph_Node)), #[.tmp 64, .tmp 65], #[T_p_term_Graph, T_int]⟩), none⟩,
 ⟨some 63, some (.move (.tmp 66)), none⟩,
 ⟨some 67, some (.extract (.tmp 63) 0), none⟩,
 ⟨some 68, some (.extract (.tmp 63) 1), none⟩,
 ⟨some 14, some (.alloc T_api_Node), none⟩,
 ⟨none, some (.store T_api_Node (.tmp 14) (.tmp 67)), none⟩,
 ⟨some 15, some (.assign (.tmp 68)), none⟩])
  (.seq (.seq (.reg [] [⟨some 69, some (.move (.tmp 13)), none⟩,
 ⟨some 70, some (.binOp .neq T_int (.tmp 69) (.const (.int .i64 0)) T_int), none⟩,
 ⟨some 71, some (.move (.tmp 70)), none⟩,
 ⟨some 72, some (.fieldAddr T_api_Bits (.tmp 12) 0), some (some 71, false)⟩,
 ⟨some 73, some (.load T_int (.tmp 72)), some (some 71, false)⟩,
 ⟨some 74, some (.fieldAddr T_api_Node (.tmp 14) 1), some (some 71, false)⟩,
 ⟨some 75, some (.load T_int (.tmp 74)), some (some 71, false)⟩,
 ⟨some 76, some (.binOp .neq T_int (.tmp 73) (.tmp 75) T_int), some (some 71, false)⟩,
 ⟨some 77, some (.pick (.tmp 71) (.const (.bool true)) (.tmp 76)), none⟩])
  (.cond (.tmp 77) (.seq (.reg [] [⟨some 8, some (.assign (.const (.bool false))), none⟩])
  .ret)
  .skip))
  (.seq (.reg [] [⟨some 78, some (.move (.tmp 9)), none⟩,
 ⟨some 79, some (.move (.tmp 3)), none⟩,
 ⟨some 80, some (.call ⟨(.value (.func f_plait_term_Graph_Cone)), #[.tmp 78, .tmp 79], #[T_p_term_Graph, T_int]⟩), none⟩,
 ⟨some 16, some (.assign (.tmp 80)), none⟩])
  (.seq (.reg [] [⟨some 17, some (.assign (.const (.slice none 0 0))), none⟩])
  (.seq (.seq (.reg [] [⟨some 18, some (.assign (.const (.int .i64 0))), none⟩])
  (.block 0 (.loop l_plaitlaw4_EvalOwn_0)))
  (.seq (.reg [] [⟨some 121, some (.move (.tmp 9)), none⟩,
 ⟨some 122, some (.move (.tmp 3)), none⟩,
 ⟨some 123, some (.move (.tmp 17)), none⟩,
 ⟨some 124, some (.move (.tmp 2)), none⟩,
 ⟨some 125, some (.call ⟨(.builtin .append), #[.tmp 123, .tmp 124], #[T_s_api_Named, T_s_api_Named]⟩), none⟩,
 ⟨some 126, some (.call ⟨(.value (.func f_eval_Eval)), #[.tmp 121, .tmp 122, .tmp 125], #[T_p_term_Graph, T_int, T_s_api_Named]⟩), none⟩,
 ⟨some 120, some (.move (.tmp 126)), none⟩,
 ⟨some 127, some (.extract (.tmp 120) 0), none⟩,
 ⟨some 128, some (.extract (.tmp 120) 1), none⟩,
 ⟨some 23, some (.alloc T_api_Bits), none⟩,
 ⟨none, some (.store T_api_Bits (.tmp 23) (.tmp 127)), none⟩,
 ⟨some 24, some (.assign (.tmp 128)), none⟩])
  (.seq (.reg [] [⟨some 129, some (.move (.tmp 24)), none⟩,
 ⟨some 130, some (.binOp .eql T_int (.tmp 129) (.const (.int .i64 0)) T_int), none⟩,
 ⟨some 131, some (.move (.tmp 130)), none⟩,
 ⟨some 132, some (.load T_api_Bits (.tmp 12)), some (some 131, true)⟩,
 ⟨some 133, some (.load T_api_Bits (.tmp 23)), some (some 131, true)⟩,
 ⟨some 134, some (.binOp .eql T_api_Bits (.tmp 132) (.tmp 133) T_api_Bits), some (some 131, true)⟩,
 ⟨some 135, some (.pick (.tmp 131) (.tmp 134) (.const (.bool false))), none⟩,
 ⟨some 8, some (.assign (.tmp 135)), none⟩])
  .ret)))))))))))))))
theorem e_plaitlaw4_EvalOwn {a0 a1 a2 a3 : AV} {H : AHeap} : R f_plaitlaw4_EvalOwn [a0, a1, a2, a3] H = fnK Try.prog [] H [(.tmp 8)] (evalL Try.prog KT R c_plaitlaw4_EvalOwn (Env.args [a0, a1, a2, a3] 0) H) :=
  runs_body (D := DT) (f := f_plaitlaw4_EvalOwn) Try.func5 (by kernel_rfl) (by kernel_rfl) (by kernel_rfl) (by kernel_rfl) (by kernel_rfl) (Nat.le_of_ble_eq_true rfl)
def l_plaitlaw16_LiftModels_0 : LCode := (.seq (.seq (.reg [] [⟨some 32, some (.move (.tmp 8)), none⟩,
 ⟨some 33, some (.move (.tmp 0)), none⟩,
 ⟨some 34, some (.call ⟨(.builtin .len), #[.tmp 33], #[T_s_api_Node]⟩), none⟩,
 ⟨some 35, some (.binOp .lss T_int (.tmp 32) (.tmp 34) T_int), none⟩])
  (.cond (.tmp 35) .skip
  (.exit 0)))
  (.seq (.block 1 (.seq (.seq (.reg [] [⟨some 38, some (.move (.tmp 0)), none⟩,
 ⟨some 39, some (.move (.tmp 8)), none⟩,
 ⟨some 40, some (.indexAddr T_s_api_Node (.tmp 38) (.tmp 39)), none⟩,
 ⟨some 41, some (.fieldAddr T_api_Node (.tmp 40) 8), none⟩,
 ⟨some 42, some (.load T_string (.tmp 41)), none⟩,
 ⟨some 43, some (.call ⟨(.builtin .len), #[.tmp 42], #[T_string]⟩), none⟩,
 ⟨some 44, some (.binOp .gtr T_int (.tmp 43) (.const (.int .i64 60)) T_int), none⟩])
  (.cond (.tmp 44) (.seq (.reg [] [⟨some 6, some (.assign (.const (.bool true))), none⟩])
  .ret)
  .skip))
  (.reg [] [⟨some 45, some (.move (.tmp 7)), none⟩,
 ⟨some 46, some (.move (.tmp 0)), none⟩,
 ⟨some 47, some (.move (.tmp 8)), none⟩,
 ⟨some 48, some (.indexAddr T_s_api_Node (.tmp 46) (.tmp 47)), none⟩,
 ⟨some 49, some (.load T_api_Node (.tmp 48)), none⟩,
 ⟨some 50, some (.call ⟨(.value (.func f_plait_term_Graph_Make)), #[.tmp 45, .tmp 49], #[T_p_term_Graph, T_api_Node]⟩), none⟩])))
  (.reg [] [⟨some 36, some (.move (.tmp 8)), none⟩,
 ⟨some 37, some (.binOp .add T_int (.tmp 36) (.const (.int .i64 1)) T_int), none⟩,
 ⟨some 8, some (.assign (.tmp 37)), none⟩])))
def l_plaitlaw16_LiftModels_1 : LCode := (.seq (.seq (.reg [] [⟨some 60, some (.move (.tmp 11)), none⟩,
 ⟨some 61, some (.move (.tmp 2)), none⟩,
 ⟨some 62, some (.call ⟨(.builtin .len), #[.tmp 61], #[T_s_int]⟩), none⟩,
 ⟨some 63, some (.binOp .lss T_int (.tmp 60) (.tmp 62) T_int), none⟩])
  (.cond (.tmp 63) .skip
  (.exit 2)))
  (.seq (.block 3 (.seq (.reg [] [⟨some 67, some (.move (.tmp 7)), none⟩,
 ⟨some 68, some (.move (.tmp 2)), none⟩,
 ⟨some 69, some (.move (.tmp 11)), none⟩,
 ⟨some 70, some (.indexAddr T_s_int (.tmp 68) (.tmp 69)), none⟩,
 ⟨some 71, some (.load T_int (.tmp 70)), none⟩,
 ⟨some 72, some (.call ⟨(.value (.func f_plait_term_Graph_Node)), #[.tmp 67, .tmp 71], #[T_p_term_Graph, T_int]⟩), none⟩,
 ⟨some 66, some (.move (.tmp 72)), none⟩,
 ⟨some 73, some (.extract (.tmp 66) 0), none⟩,
 ⟨some 74, some (.extract (.tmp 66) 1), none⟩,
 ⟨some 12, some (.alloc T_api_Node), none⟩,
 ⟨none, some (.store T_api_Node (.tmp 12) (.tmp 73)), none⟩,
 ⟨some 13, some (.assign (.tmp 74)), none⟩])
  (.seq (.reg [] [⟨some 76, some (.move (.tmp 7)), none⟩,
 ⟨some 77, some (.move (.tmp 2)), none⟩,
 ⟨some 78, some (.move (.tmp 11)), none⟩,
 ⟨some 79, some (.indexAddr T_s_int (.tmp 77) (.tmp 78)), none⟩,
 ⟨some 80, some (.load T_int (.tmp 79)), none⟩,
 ⟨some 81, some (.move (.tmp 9)), none⟩,
 ⟨some 82, some (.call ⟨(.value (.func f_eval_Eval)), #[.tmp 76, .tmp 80, .tmp 81], #[T_p_term_Graph, T_int, T_s_api_Named]⟩), none⟩,
 ⟨some 75, some (.move (.tmp 82)), none⟩,
 ⟨some 83, some (.extract (.tmp 75) 0), none⟩,
 ⟨some 84, some (.extract (.tmp 75) 1), none⟩,
 ⟨some 14, some (.alloc T_api_Bits), none⟩,
 ⟨none, some (.store T_api_Bits (.tmp 14) (.tmp 83)), none⟩,
 ⟨some 15, some (.assign (.tmp 84)), none⟩])
  (.reg [] [⟨some 85, some (.move (.tmp 10)), none⟩,
 ⟨some 86, some (.move (.tmp 85)), none⟩,
 ⟨some 87, some (.move (.tmp 13)), some (some 86, true)⟩,
 ⟨some 88, some (.pick (.tmp 86) (.tmp 87) (.const (.bool false))), none⟩,
 ⟨some 89, some (.move (.tmp 88)), none⟩,
 ⟨some 90, some (.fieldAddr T_api_Node (.tmp 12) 1), some (some 89, true)⟩,
 ⟨some 91, some (.load T_int (.tmp 90)), some (some 89, true)⟩,
 ⟨some 92, some (.binOp .eql T_int (.tmp 91) (.const (.int .i64 0)) T_int), some (some 89, true)⟩,
 ⟨some 93, some (.pick (.tmp 89) (.tmp 92) (.const (.bool false))), none⟩,
 ⟨some 94, some (.move (.tmp 93)), none⟩,
 ⟨some 95, some (.move (.tmp 15)), some (some 94, true)⟩,
 ⟨some 96, some (.binOp .eql T_int (.tmp 95) (.const (.int .i64 0)) T_int), some (some 94, true)⟩,
 ⟨some 97, some (.pick (.tmp 94) (.tmp 96) (.const (.bool false))), none⟩,
 ⟨some 98, some (.move (.tmp 97)), none⟩,
 ⟨some 99, some (.fieldAddr T_api_Bits (.tmp 14) 1), some (some 98, true)⟩,
 ⟨some 100, some (.load T_uint64 (.tmp 99)), some (some 98, true)⟩,
 ⟨some 101, some (.binOp .eql T_uint64 (.tmp 100) (.const (.int .u64 1)) T_uint64), some (some 98, true)⟩,
 ⟨some 102, some (.pick (.tmp 98) (.tmp 101) (.const (.bool false))), none⟩,
 ⟨some 10, some (.assign (.tmp 102)), none⟩]))))
  (.reg [] [⟨some 64, some (.move (.tmp 11)), none⟩,
 ⟨some 65, some (.binOp .add T_int (.tmp 64) (.const (.int .i64 1)) T_int), none⟩,
 ⟨some 11, some (.assign (.tmp 65)), none⟩])))
@[simp] theorem d_l_plaitlaw16_LiftModels_0 : defs l_plaitlaw16_LiftModels_0 = [32, 33, 34, 35, 38, 39, 40, 41, 42, 43, 44, 6, 45, 46, 47, 48, 49, 50, 36, 37, 8] := by rfl
@[simp] theorem d_l_plaitlaw16_LiftModels_1 : defs l_plaitlaw16_LiftModels_1 = [60, 61, 62, 63, 67, 68, 69, 70, 71, 72, 66, 73, 74, 12, 13, 76, 77, 78, 79, 80, 81, 82, 75, 83, 84, 14, 15, 85, 86, 87, 88, 89, 90, 91, 92, 93, 94, 95, 96, 97, 98, 99, 100, 101, 102, 10, 64, 65, 11] := by rfl
def c_plaitlaw16_LiftModels : LCode := (.seq (.reg [] [⟨some 6, some (.assign (.const (.bool false))), none⟩])
  (.seq (.seq (.reg [] [⟨some 16, some (.call ⟨(.value (.func f_plaitlaw16_known)), #[], #[]⟩), none⟩,
 ⟨some 17, some (.unOp .not T_bool (.tmp 16)), none⟩])
  (.cond (.tmp 17) (.seq (.reg [] [⟨some 6, some (.assign (.const (.bool false))), none⟩])
  .ret)
  .skip))
  (.seq (.seq (.reg [] [⟨some 18, some (.move (.tmp 0)), none⟩,
 ⟨some 19, some (.call ⟨(.builtin .len), #[.tmp 18], #[T_s_api_Node]⟩), none⟩,
 ⟨some 20, some (.binOp .gtr T_int (.tmp 19) (.const (.int .i64 60)) T_int), none⟩,
 ⟨some 21, some (.move (.tmp 20)), none⟩,
 ⟨some 22, some (.move (.tmp 1)), some (some 21, false)⟩,
 ⟨some 23, some (.call ⟨(.builtin .len), #[.tmp 22], #[T_s_api_Named]⟩), some (some 21, false)⟩,
 ⟨some 24, some (.binOp .gtr T_int (.tmp 23) (.const (.int .i64 40)) T_int), some (some 21, false)⟩,
 ⟨some 25, some (.pick (.tmp 21) (.const (.bool true)) (.tmp 24)), none⟩,
 ⟨some 26, some (.move (.tmp 25)), none⟩,
 ⟨some 27, some (.move (.tmp 2)), some (some 26, false)⟩,
 ⟨some 28, some (.call ⟨(.builtin .len), #[.tmp 27], #[T_s_int]⟩), some (some 26, false)⟩,
 ⟨some 29, some (.binOp .gtr T_int (.tmp 28) (.const (.int .i64 20)) T_int), some (some 26, false)⟩,
 ⟨some 30, some (.pick (.tmp 26) (.const (.bool true)) (.tmp 29)), none⟩])
  (.cond (.tmp 30) (.seq (.reg [] [⟨some 6, some (.assign (.const (.bool true))), none⟩])
  .ret)
  .skip))
  (.seq (.reg [] [⟨some 31, some (.call ⟨(.value (.func f_term_New)), #[(.const (.int .i64 4096))], #[T_int]⟩), none⟩,
 ⟨some 7, some (.assign (.tmp 31)), none⟩])
  (.seq (.seq (.reg [] [⟨some 8, some (.assign (.const (.int .i64 0))), none⟩])
  (.block 0 (.loop l_plaitlaw16_LiftModels_0)))
  (.seq (.reg [] [⟨some 51, some (.move (.tmp 7)), none⟩,
 ⟨some 52, some (.move (.tmp 1)), none⟩,
 ⟨some 53, some (.call ⟨(.value (.func f_lift_Model)), #[.tmp 51, .tmp 52], #[T_p_term_Graph, T_s_api_Named]⟩), none⟩,
 ⟨some 9, some (.assign (.tmp 53)), none⟩])
  (.seq (.seq (.reg [] [⟨some 54, some (.move (.tmp 9)), none⟩,
 ⟨some 55, some (.move (.tmp 7)), none⟩,
 ⟨some 56, some (.move (.tmp 1)), none⟩,
 ⟨some 57, some (.call ⟨(.value (.func f_eval_Complete)), #[.tmp 55, .tmp 56], #[T_p_term_Graph, T_s_api_Named]⟩), none⟩,
 ⟨some 58, some (.call ⟨(.value (.func f_plaithelp_Named)), #[.tmp 54, .tmp 57], #[T_s_api_Named, T_s_api_Named]⟩), none⟩,
 ⟨some 59, some (.unOp .not T_bool (.tmp 58)), none⟩])
  (.cond (.tmp 59) (.seq (.reg [] [⟨some 6, some (.assign (.const (.bool false))), none⟩])
  .ret)
  .skip))
  (.seq (.reg [] [⟨some 10, some (.assign (.const (.bool true))), none⟩])
  (.seq (.seq (.reg [] [⟨some 11, some (.assign (.const (.int .i64 0))), none⟩])
  (.block 2 (.loop l_plaitlaw16_LiftModels_1)))
  (.seq (.reg [] [⟨some 103, some (.move (.tmp 7)), none⟩,
 ⟨some 104, some (.move (.tmp 2)), none⟩,
 ⟨some 105, some (.move (.tmp 1)), none⟩,
 ⟨some 106, some (.call ⟨(.value (.func f_lift_Holds)), #[.tmp 103, .tmp 104, .tmp 105], #[T_p_term_Graph, T_s_int, T_s_api_Named]⟩), none⟩,
 ⟨some 107, some (.move (.tmp 10)), none⟩,
 ⟨some 108, some (.binOp .eql T_bool (.tmp 106) (.tmp 107) T_bool), none⟩,
 ⟨some 109, some (.move (.tmp 108)), none⟩,
 ⟨some 110, some (.move (.tmp 7)), some (some 109, true)⟩,
 ⟨some 111, some (.move (.tmp 2)), some (some 109, true)⟩,
 ⟨some 112, some (.move (.tmp 9)), some (some 109, true)⟩,
 ⟨some 113, some (.call ⟨(.value (.func f_lift_Holds)), #[.tmp 110, .tmp 111, .tmp 112], #[T_p_term_Graph, T_s_int, T_s_api_Named]⟩), some (some 109, true)⟩,
 ⟨some 114, some (.move (.tmp 10)), some (some 109, true)⟩,
 ⟨some 115, some (.binOp .eql T_bool (.tmp 113) (.tmp 114) T_bool), some (some 109, true)⟩,
 ⟨some 116, some (.pick (.tmp 109) (.tmp 115) (.const (.bool false))), none⟩,
 ⟨some 6, some (.assign (.tmp 116)), none⟩])
  .ret))))))))))
theorem e_plaitlaw16_LiftModels {a0 a1 a2 : AV} {H : AHeap} : R f_plaitlaw16_LiftModels [a0, a1, a2] H = fnK Try.prog [] H [(.tmp 6)] (evalL Try.prog KT R c_plaitlaw16_LiftModels (Env.args [a0, a1, a2] 0) H) :=
  runs_body (D := DT) (f := f_plaitlaw16_LiftModels) Try.func6 (by kernel_rfl) (by kernel_rfl) (by kernel_rfl) (by kernel_rfl) (by kernel_rfl) (Nat.le_of_ble_eq_true rfl)
def c_plaitlaw4_known : LCode := (.seq (.reg [] [⟨some 0, some (.assign (.const (.bool false))), none⟩])
  (.seq (.reg [] [⟨some 15, some (.call ⟨(.value (.func f_term_New)), #[(.const (.int .i64 9))], #[T_int]⟩), none⟩,
 ⟨some 1, some (.assign (.tmp 15)), none⟩])
  (.seq (.seq (.reg [] [⟨some 16, some (.move (.tmp 1)), none⟩,
 ⟨some 17, some (.binOp .eql T_p_term_Graph (.tmp 16) (.const (.pointer none)) T_p_term_Graph), none⟩])
  (.cond (.tmp 17) (.seq (.reg [] [⟨some 0, some (.assign (.const (.bool false))), none⟩])
  .ret)
  .skip))
  (.seq (.reg [] [⟨some 18, some (.move (.tmp 1)), none⟩,
 ⟨some 19, some (.build T_api_Node #[(0, (.const (.int .i64 2))), (1, (.const (.int .i64 4))), (8, (.const (.string { data := #[120] })))]), none⟩,
 ⟨some 20, some (.call ⟨(.value (.func f_plait_term_Graph_Make)), #[.tmp 18, .tmp 19], #[T_p_term_Graph, T_api_Node]⟩), none⟩])
  (.seq (.reg [] [⟨some 21, some (.move (.tmp 1)), none⟩,
 ⟨some 22, some (.build T_api_Node #[(0, (.const (.int .i64 18))), (2, (.const (.int .i64 1))), (3, (.const (.int .i64 1)))]), none⟩,
 ⟨some 23, some (.call ⟨(.value (.func f_plait_term_Graph_Make)), #[.tmp 21, .tmp 22], #[T_p_term_Graph, T_api_Node]⟩), none⟩])
  (.seq (.reg [] [⟨some 24, some (.move (.tmp 1)), none⟩,
 ⟨some 25, some (.build T_api_Node #[(0, (.const (.int .i64 29))), (2, (.const (.int .i64 1))), (3, (.const (.int .i64 2)))]), none⟩,
 ⟨some 26, some (.call ⟨(.value (.func f_plait_term_Graph_Make)), #[.tmp 24, .tmp 25], #[T_p_term_Graph, T_api_Node]⟩), none⟩])
  (.seq (.reg [] [⟨some 27, some (.build T_api_Bits #[(0, (.const (.int .i64 4))), (1, (.const (.int .u64 9)))]), none⟩,
 ⟨some 28, some (.build T_api_Named #[(0, (.const (.string { data := #[120] }))), (1, (.tmp 27))]), none⟩,
 ⟨some 29, some (.buildSlice T_s_api_Named 1 #[(0, (.tmp 28))]), none⟩,
 ⟨some 2, some (.assign (.tmp 29)), none⟩])
  (.seq (.reg [] [⟨some 31, some (.move (.tmp 1)), none⟩,
 ⟨some 32, some (.move (.tmp 2)), none⟩,
 ⟨some 33, some (.call ⟨(.value (.func f_eval_Eval)), #[(.tmp 31), (.const (.int .i64 2)), (.tmp 32)], #[T_p_term_Graph, T_int, T_s_api_Named]⟩), none⟩,
 ⟨some 30, some (.move (.tmp 33)), none⟩,
 ⟨some 34, some (.extract (.tmp 30) 0), none⟩,
 ⟨some 35, some (.extract (.tmp 30) 1), none⟩,
 ⟨some 3, some (.alloc T_api_Bits), none⟩,
 ⟨none, some (.store T_api_Bits (.tmp 3) (.tmp 34)), none⟩,
 ⟨some 4, some (.assign (.tmp 35)), none⟩])
  (.seq (.reg [] [⟨some 37, some (.move (.tmp 1)), none⟩,
 ⟨some 38, some (.move (.tmp 2)), none⟩,
 ⟨some 39, some (.call ⟨(.value (.func f_eval_Eval)), #[(.tmp 37), (.const (.int .i64 3)), (.tmp 38)], #[T_p_term_Graph, T_int, T_s_api_Named]⟩), none⟩,
 ⟨some 36, some (.move (.tmp 39)), none⟩,
 ⟨some 40, some (.extract (.tmp 36) 0), none⟩,
 ⟨some 41, some (.extract (.tmp 36) 1), none⟩,
 ⟨some 5, some (.alloc T_api_Bits), none⟩,
 ⟨none, some (.store T_api_Bits (.tmp 5) (.tmp 40)), none⟩,
 ⟨some 6, some (.assign (.tmp 41)), none⟩])
  (.seq (.reg [] [⟨some 43, some (.move (.tmp 1)), none⟩,
 ⟨some 44, some (.call ⟨(.value (.func f_eval_Eval)), #[(.tmp 43), (.const (.int .i64 3)), (.const (.slice none 0 0))], #[T_p_term_Graph, T_int, T_s_api_Named]⟩), none⟩,
 ⟨some 42, some (.move (.tmp 44)), none⟩,
 ⟨some 45, some (.extract (.tmp 42) 0), none⟩,
 ⟨some 46, some (.extract (.tmp 42) 1), none⟩,
 ⟨some 7, some (.alloc T_api_Bits), none⟩,
 ⟨none, some (.store T_api_Bits (.tmp 7) (.tmp 45)), none⟩,
 ⟨some 8, some (.assign (.tmp 46)), none⟩])
  (.seq (.reg [] [⟨some 48, some (.move (.tmp 1)), none⟩,
 ⟨some 49, some (.move (.tmp 2)), none⟩,
 ⟨some 50, some (.call ⟨(.value (.func f_eval_Eval)), #[(.tmp 48), (.const (.int .i64 4)), (.tmp 49)], #[T_p_term_Graph, T_int, T_s_api_Named]⟩), none⟩,
 ⟨some 47, some (.move (.tmp 50)), none⟩,
 ⟨some 51, some (.extract (.tmp 47) 0), none⟩,
 ⟨some 52, some (.extract (.tmp 47) 1), none⟩,
 ⟨some 9, some (.alloc T_api_Bits), none⟩,
 ⟨none, some (.store T_api_Bits (.tmp 9) (.tmp 51)), none⟩,
 ⟨some 10, some (.assign (.tmp 52)), none⟩])
  (.seq (.reg [] [⟨some 54, some (.build T_api_Bits #[(1, (.const (.int .u64 1)))]), none⟩,
 ⟨some 55, some (.build T_api_Bits #[(0, (.const (.int .i64 2))), (1, (.const (.int .u64 3)))]), none⟩,
 ⟨some 56, some (.build T_api_Bits #[(0, (.const (.int .i64 2)))]), none⟩,
 ⟨some 57, some (.buildSlice T_s_api_Bits 3 #[(0, (.tmp 54)), (1, (.tmp 55)), (2, (.tmp 56))]), none⟩,
 ⟨some 58, some (.call ⟨(.value (.func f_eval_Apply)), #[(.const (.int .i64 9)), (.const (.int .i64 0)), (.const (.int .i64 0)), (.tmp 57)], #[T_int, T_int, T_int, T_s_api_Bits]⟩), none⟩,
 ⟨some 53, some (.move (.tmp 58)), none⟩,
 ⟨some 59, some (.extract (.tmp 53) 0), none⟩,
 ⟨some 60, some (.extract (.tmp 53) 1), none⟩,
 ⟨some 11, some (.alloc T_api_Bits), none⟩,
 ⟨none, some (.store T_api_Bits (.tmp 11) (.tmp 59)), none⟩,
 ⟨some 12, some (.assign (.tmp 60)), none⟩])
  (.seq (.reg [] [⟨some 62, some (.move (.tmp 1)), none⟩,
 ⟨some 63, some (.buildSlice T_s_int 2 #[(0, (.const (.int .i64 1))), (1, (.const (.int .i64 2)))]), none⟩,
 ⟨some 64, some (.move (.tmp 2)), none⟩,
 ⟨some 65, some (.call ⟨(.value (.func f_eval_All)), #[.tmp 62, .tmp 63, .tmp 64], #[T_p_term_Graph, T_s_int, T_s_api_Named]⟩), none⟩,
 ⟨some 61, some (.move (.tmp 65)), none⟩,
 ⟨some 66, some (.extract (.tmp 61) 0), none⟩,
 ⟨some 67, some (.extract (.tmp 61) 1), none⟩,
 ⟨some 13, some (.assign (.tmp 66)), none⟩,
 ⟨some 14, some (.assign (.tmp 67)), none⟩])
  (.seq (.reg [] [⟨some 68, some (.move (.tmp 4)), none⟩,
 ⟨some 69, some (.move (.tmp 6)), none⟩,
 ⟨some 70, some (.binOp .add T_int (.tmp 68) (.tmp 69) T_int), none⟩,
 ⟨some 71, some (.move (.tmp 12)), none⟩,
 ⟨some 72, some (.binOp .add T_int (.tmp 70) (.tmp 71) T_int), none⟩,
 ⟨some 73, some (.move (.tmp 14)), none⟩,
 ⟨some 74, some (.binOp .add T_int (.tmp 72) (.tmp 73) T_int), none⟩,
 ⟨some 75, some (.binOp .eql T_int (.tmp 74) (.const (.int .i64 0)) T_int), none⟩,
 ⟨some 76, some (.move (.tmp 75)), none⟩,
 ⟨some 77, some (.load T_api_Bits (.tmp 3)), some (some 76, true)⟩,
 ⟨some 78, some (.build T_api_Bits #[(0, (.const (.int .i64 4))), (1, (.const (.int .u64 2)))]), some (some 76, true)⟩,
 ⟨some 79, some (.binOp .eql T_api_Bits (.tmp 77) (.tmp 78) T_api_Bits), some (some 76, true)⟩,
 ⟨some 80, some (.pick (.tmp 76) (.tmp 79) (.const (.bool false))), none⟩,
 ⟨some 81, some (.move (.tmp 80)), none⟩,
 ⟨some 82, some (.load T_api_Bits (.tmp 5)), some (some 81, true)⟩,
 ⟨some 83, some (.build T_api_Bits #[]), some (some 81, true)⟩,
 ⟨some 84, some (.binOp .eql T_api_Bits (.tmp 82) (.tmp 83) T_api_Bits), some (some 81, true)⟩,
 ⟨some 85, some (.pick (.tmp 81) (.tmp 84) (.const (.bool false))), none⟩,
 ⟨some 86, some (.move (.tmp 85)), none⟩,
 ⟨some 87, some (.move (.tmp 8)), some (some 86, true)⟩,
 ⟨some 88, some (.binOp .eql T_int (.tmp 87) (.const (.int .i64 41)) T_int), some (some 86, true)⟩,
 ⟨some 89, some (.pick (.tmp 86) (.tmp 88) (.const (.bool false))), none⟩,
 ⟨some 90, some (.move (.tmp 89)), none⟩,
 ⟨some 91, some (.move (.tmp 10)), some (some 90, true)⟩,
 ⟨some 92, some (.binOp .eql T_int (.tmp 91) (.const (.int .i64 40)) T_int), some (some 90, true)⟩,
 ⟨some 93, some (.pick (.tmp 90) (.tmp 92) (.const (.bool false))), none⟩,
 ⟨some 94, some (.move (.tmp 93)), none⟩,
 ⟨some 95, some (.load T_api_Bits (.tmp 11)), some (some 94, true)⟩,
 ⟨some 96, some (.build T_api_Bits #[(0, (.const (.int .i64 2))), (1, (.const (.int .u64 3)))]), some (some 94, true)⟩,
 ⟨some 97, some (.binOp .eql T_api_Bits (.tmp 95) (.tmp 96) T_api_Bits), some (some 94, true)⟩,
 ⟨some 98, some (.pick (.tmp 94) (.tmp 97) (.const (.bool false))), none⟩,
 ⟨some 99, some (.move (.tmp 98)), none⟩,
 ⟨some 100, some (.move (.tmp 13)), some (some 99, true)⟩,
 ⟨some 101, some (.call ⟨(.builtin .len), #[.tmp 100], #[T_s_api_Bits]⟩), some (some 99, true)⟩,
 ⟨some 102, some (.binOp .eql T_int (.tmp 101) (.const (.int .i64 2)) T_int), some (some 99, true)⟩,
 ⟨some 103, some (.pick (.tmp 99) (.tmp 102) (.const (.bool false))), none⟩,
 ⟨some 104, some (.move (.tmp 103)), none⟩,
 ⟨some 105, some (.move (.tmp 1)), some (some 104, true)⟩,
 ⟨some 106, some (.call ⟨(.value (.func f_eval_Complete)), #[(.tmp 105), (.const (.slice none 0 0))], #[T_p_term_Graph, T_s_api_Named]⟩), some (some 104, true)⟩,
 ⟨some 107, some (.build T_api_Bits #[(0, (.const (.int .i64 4)))]), some (some 104, true)⟩,
 ⟨some 108, some (.build T_api_Named #[(0, (.const (.string { data := #[120] }))), (1, (.tmp 107))]), some (some 104, true)⟩,
 ⟨some 109, some (.buildSlice T_s_api_Named 1 #[(0, (.tmp 108))]), some (some 104, true)⟩,
 ⟨some 110, some (.call ⟨(.value (.func f_plaithelp_Named)), #[.tmp 106, .tmp 109], #[T_s_api_Named, T_s_api_Named]⟩), some (some 104, true)⟩,
 ⟨some 111, some (.pick (.tmp 104) (.tmp 110) (.const (.bool false))), none⟩,
 ⟨some 0, some (.assign (.tmp 111)), none⟩])
  .ret))))))))))))))
theorem e_plaitlaw4_known {H : AHeap} : R f_plaitlaw4_known [] H = fnK Try.prog [] H [(.tmp 0)] (evalL Try.prog KT R c_plaitlaw4_known (Env.args [] 0) H) :=
  runs_body (D := DT) (f := f_plaitlaw4_known) Try.func7 (by kernel_rfl) (by kernel_rfl) (by kernel_rfl) (by kernel_rfl) (by kernel_rfl) (Nat.le_of_ble_eq_true rfl)
def l_eval_Apply_0 : LCode := (.seq (.reg [] [⟨some 23, some (.binOp .lss T_int (.tmp 22) (.tmp 21) T_int), none⟩])
  (.seq (.cond (.tmp 23) .skip
  (.exit 0))
  (.seq (.block 1 (.seq (.reg [] [⟨some 24, some (.move (.tmp 22)), none⟩,
 ⟨some 25, some (.indexAddr T_s_api_Bits (.tmp 20) (.tmp 22)), none⟩,
 ⟨some 26, some (.load T_api_Bits (.tmp 25)), none⟩,
 ⟨some 12, some (.alloc T_api_Bits), none⟩,
 ⟨some 11, some (.assign (.tmp 24)), none⟩,
 ⟨none, some (.store T_api_Bits (.tmp 12) (.tmp 26)), none⟩])
  (.seq (.reg [] [⟨some 27, some (.move (.tmp 10)), none⟩,
 ⟨some 28, some (.move (.tmp 11)), none⟩,
 ⟨some 29, some (.fieldAddr T_api_Bits (.tmp 12) 0), none⟩,
 ⟨some 30, some (.load T_int (.tmp 29)), none⟩,
 ⟨some 31, some (.indexAddr T_s_int (.tmp 27) (.tmp 28)), none⟩,
 ⟨none, some (.store T_int (.tmp 31) (.tmp 30)), none⟩])
  (.seq (.reg [] [⟨some 32, some (.load T_api_Bits (.tmp 12)), none⟩,
 ⟨some 33, some (.call ⟨(.value (.func f_bv_Right)), #[.tmp 32], #[T_api_Bits]⟩), none⟩,
 ⟨some 34, some (.unOp .not T_bool (.tmp 33)), none⟩])
  (.cond (.tmp 34) (.reg [] [⟨some 35, some (.move (.tmp 10)), none⟩,
 ⟨some 36, some (.move (.tmp 11)), none⟩,
 ⟨some 37, some (.indexAddr T_s_int (.tmp 35) (.tmp 36)), none⟩,
 ⟨none, some (.store T_int (.tmp 37) (.const (.int .i64 (-1)))), none⟩])
  .skip)))))
  (.reg [] [⟨some 38, some (.binOp .add T_int (.tmp 22) (.const (.int .i64 1)) T_int), none⟩,
 ⟨some 22, some (.move (.tmp 38)), none⟩]))))
@[simp] theorem d_l_eval_Apply_0 : defs l_eval_Apply_0 = [23, 24, 25, 26, 12, 11, 27, 28, 29, 30, 31, 32, 33, 34, 35, 36, 37, 38, 22] := by rfl
def c_eval_Apply : LCode := (.seq (.reg [] [⟨some 8, some (.alloc T_api_Bits), none⟩,
 ⟨some 9, some (.assign (.const (.int .i64 0))), none⟩])
  (.seq (.reg [] [⟨some 17, some (.move (.tmp 3)), none⟩,
 ⟨some 18, some (.call ⟨(.builtin .len), #[.tmp 17], #[T_s_api_Bits]⟩), none⟩,
 ⟨some 19, some (.makeSlice T_s_int (.tmp 18) (.tmp 18)), none⟩,
 ⟨some 10, some (.assign (.tmp 19)), none⟩])
  (.seq (.seq (.reg [] [⟨some 20, some (.move (.tmp 3)), none⟩,
 ⟨some 21, some (.call ⟨(.builtin .len), #[.tmp 20], #[T_s_api_Bits]⟩), none⟩,
 ⟨some 22, some (.move (.const (.int .i64 0))), none⟩])
  (.block 0 (.loop l_eval_Apply_0)))
  (.seq (.seq (.reg [] [⟨some 40, some (.move (.tmp 0)), none⟩,
 ⟨some 41, some (.move (.tmp 1)), none⟩,
 ⟨some 42, some (.move (.tmp 2)), none⟩,
 ⟨some 43, some (.move (.tmp 10)), none⟩,
 ⟨some 44, some (.call ⟨(.value (.func f_term_Sort)), #[.tmp 40, .tmp 41, .tmp 42, .tmp 43], #[T_int, T_int, T_int, T_s_int]⟩), none⟩,
 ⟨some 39, some (.move (.tmp 44)), none⟩,
 ⟨some 45, some (.extract (.tmp 39) 0), none⟩,
 ⟨some 46, some (.extract (.tmp 39) 1), none⟩,
 ⟨some 13, some (.assign (.tmp 45)), none⟩,
 ⟨some 14, some (.assign (.tmp 46)), none⟩])
  (.seq (.reg [] [⟨some 47, some (.move (.tmp 14)), none⟩,
 ⟨some 48, some (.binOp .neq T_api_Errno (.tmp 47) (.const (.int .i64 0)) T_api_Errno), none⟩])
  (.cond (.tmp 48) (.seq (.reg [] [⟨some 49, some (.build T_api_Bits #[]), none⟩,
 ⟨some 50, some (.move (.tmp 14)), none⟩,
 ⟨none, some (.store T_api_Bits (.tmp 8) (.tmp 49)), none⟩,
 ⟨some 9, some (.assign (.tmp 50)), none⟩])
  .ret)
  .skip)))
  (.seq (.reg [] [⟨some 52, some (.move (.tmp 0)), none⟩,
 ⟨some 53, some (.call ⟨(.value (.func f_eval_bools)), #[.tmp 52], #[T_int]⟩), none⟩,
 ⟨some 51, some (.move (.tmp 53)), none⟩,
 ⟨some 54, some (.extract (.tmp 51) 0), none⟩,
 ⟨some 55, some (.extract (.tmp 51) 1), none⟩,
 ⟨some 15, some (.alloc T_eval_meaning), none⟩,
 ⟨none, some (.store T_eval_meaning (.tmp 15) (.tmp 54)), none⟩,
 ⟨some 16, some (.assign (.tmp 55)), none⟩])
  (.seq (.seq (.reg [] [⟨some 56, some (.move (.tmp 16)), none⟩,
 ⟨some 57, some (.unOp .not T_bool (.tmp 56)), none⟩])
  (.cond (.tmp 57) (.reg [] [⟨some 58, some (.move (.tmp 0)), none⟩,
 ⟨some 59, some (.call ⟨(.value (.func f_eval_words)), #[.tmp 58], #[T_int]⟩), none⟩,
 ⟨none, some (.store T_eval_meaning (.tmp 15) (.tmp 59)), none⟩])
  .skip))
  (.seq (.reg [] [⟨some 60, some (.fieldAddr T_eval_meaning (.tmp 15) 0), none⟩,
 ⟨some 61, some (.load T_x63 (.tmp 60)), none⟩,
 ⟨some 62, some (.move (.tmp 1)), none⟩,
 ⟨some 63, some (.move (.tmp 2)), none⟩,
 ⟨some 64, some (.move (.tmp 3)), none⟩,
 ⟨some 65, some (.call ⟨(.value (.tmp 61)), #[.tmp 62, .tmp 63, .tmp 64], #[T_int, T_int, T_s_api_Bits]⟩), none⟩,
 ⟨some 66, some (.extract (.tmp 65) 0), none⟩,
 ⟨some 67, some (.extract (.tmp 65) 1), none⟩,
 ⟨none, some (.store T_api_Bits (.tmp 8) (.tmp 66)), none⟩,
 ⟨some 9, some (.assign (.tmp 67)), none⟩])
  .ret)))))))
theorem e_eval_Apply {a0 a1 a2 a3 : AV} {H : AHeap} : R f_eval_Apply [a0, a1, a2, a3] H = fnK Try.prog [] H [(.cell 8 T_api_Bits), (.tmp 9)] (evalL Try.prog KT R c_eval_Apply (Env.args [a0, a1, a2, a3] 0) H) :=
  runs_body (D := DT) (f := f_eval_Apply) Try.func8 (by kernel_rfl) (by kernel_rfl) (by kernel_rfl) (by kernel_rfl) (by kernel_rfl) (Nat.le_of_ble_eq_true rfl)
def l_plaitlaw4_made_0 : LCode := (.seq (.seq (.reg [] [⟨some 17, some (.move (.tmp 7)), none⟩,
 ⟨some 18, some (.move (.tmp 0)), none⟩,
 ⟨some 19, some (.call ⟨(.builtin .len), #[.tmp 18], #[T_s_api_Node]⟩), none⟩,
 ⟨some 20, some (.binOp .lss T_int (.tmp 17) (.tmp 19) T_int), none⟩])
  (.cond (.tmp 20) .skip
  (.exit 0)))
  (.seq (.block 1 (.seq (.seq (.reg [] [⟨some 23, some (.move (.tmp 0)), none⟩,
 ⟨some 24, some (.move (.tmp 7)), none⟩,
 ⟨some 25, some (.indexAddr T_s_api_Node (.tmp 23) (.tmp 24)), none⟩,
 ⟨some 26, some (.fieldAddr T_api_Node (.tmp 25) 8), none⟩,
 ⟨some 27, some (.load T_string (.tmp 26)), none⟩,
 ⟨some 28, some (.call ⟨(.builtin .len), #[.tmp 27], #[T_string]⟩), none⟩,
 ⟨some 29, some (.binOp .gtr T_int (.tmp 28) (.const (.int .i64 100)) T_int), none⟩])
  (.cond (.tmp 29) (.seq (.reg [] [⟨some 2, some (.assign (.const (.pointer none))), none⟩,
 ⟨some 3, some (.assign (.const (.pointer none))), none⟩,
 ⟨some 4, some (.assign (.const (.bool false))), none⟩])
  .ret)
  .skip))
  (.seq (.reg [] [⟨some 31, some (.move (.tmp 5)), none⟩,
 ⟨some 32, some (.move (.tmp 0)), none⟩,
 ⟨some 33, some (.move (.tmp 7)), none⟩,
 ⟨some 34, some (.indexAddr T_s_api_Node (.tmp 32) (.tmp 33)), none⟩,
 ⟨some 35, some (.load T_api_Node (.tmp 34)), none⟩,
 ⟨some 36, some (.call ⟨(.value (.func f_plait_term_Graph_Make)), #[.tmp 31, .tmp 35], #[T_p_term_Graph, T_api_Node]⟩), none⟩,
 ⟨some 30, some (.move (.tmp 36)), none⟩,
 ⟨some 37, some (.extract (.tmp 30) 0), none⟩,
 ⟨some 38, some (.extract (.tmp 30) 1), none⟩,
 ⟨some 8, some (.assign (.tmp 37)), none⟩,
 ⟨some 9, some (.assign (.tmp 38)), none⟩])
  (.seq (.reg [] [⟨some 40, some (.move (.tmp 6)), none⟩,
 ⟨some 41, some (.move (.tmp 0)), none⟩,
 ⟨some 42, some (.move (.tmp 7)), none⟩,
 ⟨some 43, some (.indexAddr T_s_api_Node (.tmp 41) (.tmp 42)), none⟩,
 ⟨some 44, some (.load T_api_Node (.tmp 43)), none⟩,
 ⟨some 45, some (.call ⟨(.value (.func f_plait_plaitref3_Graph_Make)), #[.tmp 40, .tmp 44], #[T_p_plaitref3_Graph, T_api_Node]⟩), none⟩,
 ⟨some 39, some (.move (.tmp 45)), none⟩,
 ⟨some 46, some (.extract (.tmp 39) 0), none⟩,
 ⟨some 47, some (.extract (.tmp 39) 1), none⟩,
 ⟨some 10, some (.assign (.tmp 46)), none⟩,
 ⟨some 11, some (.assign (.tmp 47)), none⟩])
  (.seq (.reg [] [⟨some 48, some (.move (.tmp 8)), none⟩,
 ⟨some 49, some (.move (.tmp 10)), none⟩,
 ⟨some 50, some (.binOp .neq T_int (.tmp 48) (.tmp 49) T_int), none⟩])
  (.cond (.tmp 50) (.seq (.reg [] [⟨some 2, some (.assign (.const (.pointer none))), none⟩,
 ⟨some 3, some (.assign (.const (.pointer none))), none⟩,
 ⟨some 4, some (.assign (.const (.bool false))), none⟩])
  .ret)
  .skip))))))
  (.reg [] [⟨some 21, some (.move (.tmp 7)), none⟩,
 ⟨some 22, some (.binOp .add T_int (.tmp 21) (.const (.int .i64 1)) T_int), none⟩,
 ⟨some 7, some (.assign (.tmp 22)), none⟩])))
@[simp] theorem d_l_plaitlaw4_made_0 : defs l_plaitlaw4_made_0 = [17, 18, 19, 20, 23, 24, 25, 26, 27, 28, 29, 2, 3, 4, 31, 32, 33, 34, 35, 36, 30, 37, 38, 8, 9, 40, 41, 42, 43, 44, 45, 39, 46, 47, 10, 11, 48, 49, 50, 2, 3, 4, 21, 22, 7] := by rfl
def c_plaitlaw4_made : LCode := (.seq (.reg [] [⟨some 2, some (.assign (.const (.pointer none))), none⟩,
 ⟨some 3, some (.assign (.const (.pointer none))), none⟩,
 ⟨some 4, some (.assign (.const (.bool false))), none⟩])
  (.seq (.seq (.reg [] [⟨some 12, some (.move (.tmp 0)), none⟩,
 ⟨some 13, some (.call ⟨(.builtin .len), #[.tmp 12], #[T_s_api_Node]⟩), none⟩,
 ⟨some 14, some (.binOp .gtr T_int (.tmp 13) (.const (.int .i64 120)) T_int), none⟩])
  (.cond (.tmp 14) (.seq (.reg [] [⟨some 2, some (.assign (.const (.pointer none))), none⟩,
 ⟨some 3, some (.assign (.const (.pointer none))), none⟩,
 ⟨some 4, some (.assign (.const (.bool false))), none⟩])
  .ret)
  .skip))
  (.seq (.reg [] [⟨some 15, some (.call ⟨(.value (.func f_term_New)), #[(.const (.int .i64 4096))], #[T_int]⟩), none⟩,
 ⟨some 16, some (.call ⟨(.value (.func f_plaitref3_New)), #[(.const (.int .i64 4096))], #[T_int]⟩), none⟩,
 ⟨some 5, some (.assign (.tmp 15)), none⟩,
 ⟨some 6, some (.assign (.tmp 16)), none⟩])
  (.seq (.seq (.reg [] [⟨some 7, some (.assign (.const (.int .i64 0))), none⟩])
  (.block 0 (.loop l_plaitlaw4_made_0)))
  (.seq (.reg [] [⟨some 51, some (.move (.tmp 5)), none⟩,
 ⟨some 52, some (.move (.tmp 6)), none⟩,
 ⟨some 2, some (.assign (.tmp 51)), none⟩,
 ⟨some 3, some (.assign (.tmp 52)), none⟩,
 ⟨some 4, some (.assign (.const (.bool true))), none⟩])
  .ret)))))
theorem e_plaitlaw4_made {a0 : AV} {H : AHeap} : R f_plaitlaw4_made [a0] H = fnK Try.prog [] H [(.tmp 2), (.tmp 3), (.tmp 4)] (evalL Try.prog KT R c_plaitlaw4_made (Env.args [a0] 0) H) :=
  runs_body (D := DT) (f := f_plaitlaw4_made) Try.func9 (by kernel_rfl) (by kernel_rfl) (by kernel_rfl) (by kernel_rfl) (by kernel_rfl) (Nat.le_of_ble_eq_true rfl)
def c_plait_term_Graph_Len : LCode := (.seq (.reg [] [⟨some 2, some (.assign (.const (.int .i64 0))), none⟩])
  (.seq (.reg [] [⟨some 3, some (.move (.tmp 0)), none⟩,
 ⟨some 4, some (.nilCheck (.tmp 3)), none⟩,
 ⟨some 5, some (.fieldAddr T_term_Graph (.tmp 4) 1), none⟩,
 ⟨some 6, some (.load T_s_api_Node (.tmp 5)), none⟩,
 ⟨some 7, some (.call ⟨(.builtin .len), #[.tmp 6], #[T_s_api_Node]⟩), none⟩,
 ⟨some 2, some (.assign (.tmp 7)), none⟩])
  .ret))
theorem e_plait_term_Graph_Len {a0 : AV} {H : AHeap} : R f_plait_term_Graph_Len [a0] H = fnK Try.prog [] H [(.tmp 2)] (evalL Try.prog KT R c_plait_term_Graph_Len (Env.args [a0] 0) H) :=
  runs_body (D := DT) (f := f_plait_term_Graph_Len) Try.func10 (by kernel_rfl) (by kernel_rfl) (by kernel_rfl) (by kernel_rfl) (by kernel_rfl) (Nat.le_of_ble_eq_true rfl)
def c_plaithelp_Place : LCode := (.seq (.reg [] [⟨some 4, some (.assign (.const (.int .i64 0))), none⟩])
  (.seq (.reg [] [⟨some 5, some (.move (.tmp 0)), none⟩,
 ⟨some 6, some (.move (.tmp 1)), none⟩,
 ⟨some 7, some (.binOp .rem T_int (.tmp 5) (.tmp 6) T_int), none⟩,
 ⟨some 0, some (.assign (.tmp 7)), none⟩])
  (.seq (.seq (.reg [] [⟨some 8, some (.move (.tmp 0)), none⟩,
 ⟨some 9, some (.binOp .lss T_int (.tmp 8) (.const (.int .i64 0)) T_int), none⟩])
  (.cond (.tmp 9) (.reg [] [⟨some 10, some (.move (.tmp 0)), none⟩,
 ⟨some 11, some (.move (.tmp 1)), none⟩,
 ⟨some 12, some (.binOp .add T_int (.tmp 10) (.tmp 11) T_int), none⟩,
 ⟨some 0, some (.assign (.tmp 12)), none⟩])
  .skip))
  (.seq (.reg [] [⟨some 13, some (.move (.tmp 0)), none⟩,
 ⟨some 4, some (.assign (.tmp 13)), none⟩])
  .ret))))
theorem e_plaithelp_Place {a0 a1 : AV} {H : AHeap} : R f_plaithelp_Place [a0, a1] H = fnK Try.prog [] H [(.tmp 4)] (evalL Try.prog KT R c_plaithelp_Place (Env.args [a0, a1] 0) H) :=
  runs_body (D := DT) (f := f_plaithelp_Place) Try.func11 (by kernel_rfl) (by kernel_rfl) (by kernel_rfl) (by kernel_rfl) (by kernel_rfl) (Nat.le_of_ble_eq_true rfl)
def l_eval_Complete_0 : LCode := (.seq (.reg [] [⟨some 18, some (.binOp .lss T_int (.tmp 17) (.tmp 16) T_int), none⟩])
  (.seq (.cond (.tmp 18) .skip
  (.exit 0))
  (.seq (.block 1 (.seq (.reg [] [⟨some 19, some (.indexAddr T_s_int (.tmp 15) (.tmp 17)), none⟩,
 ⟨some 20, some (.load T_int (.tmp 19)), none⟩,
 ⟨some 8, some (.assign (.tmp 20)), none⟩])
  (.seq (.reg [] [⟨some 22, some (.move (.tmp 0)), none⟩,
 ⟨some 23, some (.move (.tmp 8)), none⟩,
 ⟨some 24, some (.call ⟨(.value (.func f_plait_term_Graph_Node)), #[.tmp 22, .tmp 23], #[T_p_term_Graph, T_int]⟩), none⟩,
 ⟨some 21, some (.move (.tmp 24)), none⟩,
 ⟨some 25, some (.extract (.tmp 21) 0), none⟩,
 ⟨some 26, some (.extract (.tmp 21) 1), none⟩,
 ⟨some 9, some (.alloc T_api_Node), none⟩,
 ⟨none, some (.store T_api_Node (.tmp 9) (.tmp 25)), none⟩,
 ⟨some 10, some (.assign (.tmp 26)), none⟩])
  (.seq (.reg [] [⟨some 27, some (.move (.tmp 5)), none⟩,
 ⟨some 28, some (.fieldAddr T_api_Node (.tmp 9) 8), none⟩,
 ⟨some 29, some (.load T_string (.tmp 28)), none⟩,
 ⟨some 30, some (.lookup T_m_string_api_Bits (.tmp 27) (.tmp 29) false), none⟩,
 ⟨some 11, some (.alloc T_api_Bits), none⟩,
 ⟨none, some (.store T_api_Bits (.tmp 11) (.tmp 30)), none⟩])
  (.seq (.seq (.reg [] [⟨some 31, some (.load T_api_Bits (.tmp 11)), none⟩,
 ⟨some 32, some (.fieldAddr T_api_Node (.tmp 9) 1), none⟩,
 ⟨some 33, some (.load T_int (.tmp 32)), none⟩,
 ⟨some 34, some (.call ⟨(.value (.func f_eval_fits)), #[.tmp 31, .tmp 33], #[T_api_Bits, T_int]⟩), none⟩,
 ⟨some 35, some (.unOp .not T_bool (.tmp 34)), none⟩])
  (.cond (.tmp 35) (.reg [] [⟨some 36, some (.fieldAddr T_api_Node (.tmp 9) 1), none⟩,
 ⟨some 37, some (.load T_int (.tmp 36)), none⟩,
 ⟨some 38, some (.build T_api_Bits #[(0, (.tmp 37))]), none⟩,
 ⟨none, some (.store T_api_Bits (.tmp 11) (.tmp 38)), none⟩])
  .skip))
  (.reg [] [⟨some 39, some (.move (.tmp 6)), none⟩,
 ⟨some 40, some (.fieldAddr T_api_Node (.tmp 9) 8), none⟩,
 ⟨some 41, some (.load T_string (.tmp 40)), none⟩,
 ⟨some 42, some (.load T_api_Bits (.tmp 11)), none⟩,
 ⟨some 43, some (.build T_api_Named #[(0, (.tmp 41)), (1, (.tmp 42))]), none⟩,
 ⟨some 44, some (.buildSlice T_s_api_Named 1 #[(0, (.tmp 43))]), none⟩,
 ⟨some 45, some (.call ⟨(.builtin .append), #[.tmp 39, .tmp 44], #[T_s_api_Named, T_s_api_Named]⟩), none⟩,
 ⟨some 6, some (.assign (.tmp 45)), none⟩]))))))
  (.reg [] [⟨some 46, some (.binOp .add T_int (.tmp 17) (.const (.int .i64 1)) T_int), none⟩,
 ⟨some 17, some (.move (.tmp 46)), none⟩]))))
@[simp] theorem d_l_eval_Complete_0 : defs l_eval_Complete_0 = [18, 19, 20, 8, 22, 23, 24, 21, 25, 26, 9, 10, 27, 28, 29, 30, 11, 31, 32, 33, 34, 35, 36, 37, 38, 39, 40, 41, 42, 43, 44, 45, 6, 46, 17] := by rfl
def c_eval_Complete : LCode := (.seq (.reg [] [⟨some 4, some (.assign (.const (.slice none 0 0))), none⟩])
  (.seq (.reg [] [⟨some 12, some (.move (.tmp 1)), none⟩,
 ⟨some 13, some (.call ⟨(.value (.func f_eval_known)), #[.tmp 12], #[T_s_api_Named]⟩), none⟩,
 ⟨some 5, some (.assign (.tmp 13)), none⟩])
  (.seq (.reg [] [⟨some 6, some (.assign (.const (.slice none 0 0))), none⟩])
  (.seq (.seq (.reg [] [⟨some 14, some (.move (.tmp 0)), none⟩,
 ⟨some 15, some (.call ⟨(.value (.func f_plait_term_Graph_Vars)), #[.tmp 14], #[T_p_term_Graph]⟩), none⟩,
 ⟨some 16, some (.call ⟨(.builtin .len), #[.tmp 15], #[T_s_int]⟩), none⟩,
 ⟨some 17, some (.move (.const (.int .i64 0))), none⟩])
  (.block 0 (.loop l_eval_Complete_0)))
  (.seq (.reg [] [⟨some 47, some (.move (.tmp 6)), none⟩,
 ⟨some 4, some (.assign (.tmp 47)), none⟩])
  .ret)))))
theorem e_eval_Complete {a0 a1 : AV} {H : AHeap} : R f_eval_Complete [a0, a1] H = fnK Try.prog [0] H [(.tmp 4)] (evalL Try.prog KT R c_eval_Complete (Env.args [a0, a1] 0) H) :=
  runs_body (D := DT) (f := f_eval_Complete) Try.func12 (by kernel_rfl) (by kernel_rfl) (by kernel_rfl) (by kernel_rfl) (by kernel_rfl) (Nat.le_of_ble_eq_true rfl)
def c_plait_term_Graph_Node : LCode := (.seq (.reg [] [⟨some 4, some (.alloc T_api_Node), none⟩,
 ⟨some 5, some (.assign (.const (.bool false))), none⟩])
  (.seq (.seq (.reg [] [⟨some 6, some (.move (.tmp 1)), none⟩,
 ⟨some 7, some (.binOp .lss T_int (.tmp 6) (.const (.int .i64 1)) T_int), none⟩,
 ⟨some 8, some (.move (.tmp 7)), none⟩,
 ⟨some 9, some (.move (.tmp 1)), some (some 8, false)⟩,
 ⟨some 10, some (.move (.tmp 0)), some (some 8, false)⟩,
 ⟨some 11, some (.nilCheck (.tmp 10)), some (some 8, false)⟩,
 ⟨some 12, some (.fieldAddr T_term_Graph (.tmp 11) 1), some (some 8, false)⟩,
 ⟨some 13, some (.load T_s_api_Node (.tmp 12)), some (some 8, false)⟩,
 ⟨some 14, some (.call ⟨(.builtin .len), #[.tmp 13], #[T_s_api_Node]⟩), some (some 8, false)⟩,
 ⟨some 15, some (.binOp .gtr T_int (.tmp 9) (.tmp 14) T_int), some (some 8, false)⟩,
 ⟨some 16, some (.pick (.tmp 8) (.const (.bool true)) (.tmp 15)), none⟩])
  (.cond (.tmp 16) (.seq (.reg [] [⟨some 17, some (.build T_api_Node #[]), none⟩,
 ⟨none, some (.store T_api_Node (.tmp 4) (.tmp 17)), none⟩,
 ⟨some 5, some (.assign (.const (.bool false))), none⟩])
  .ret)
  .skip))
  (.seq (.reg [] [⟨some 18, some (.move (.tmp 0)), none⟩,
 ⟨some 19, some (.nilCheck (.tmp 18)), none⟩,
 ⟨some 20, some (.fieldAddr T_term_Graph (.tmp 19) 1), none⟩,
 ⟨some 21, some (.load T_s_api_Node (.tmp 20)), none⟩,
 ⟨some 22, some (.move (.tmp 1)), none⟩,
 ⟨some 23, some (.binOp .sub T_int (.tmp 22) (.const (.int .i64 1)) T_int), none⟩,
 ⟨some 24, some (.indexAddr T_s_api_Node (.tmp 21) (.tmp 23)), none⟩,
 ⟨some 25, some (.load T_api_Node (.tmp 24)), none⟩,
 ⟨none, some (.store T_api_Node (.tmp 4) (.tmp 25)), none⟩,
 ⟨some 5, some (.assign (.const (.bool true))), none⟩])
  .ret)))
theorem e_plait_term_Graph_Node {a0 a1 : AV} {H : AHeap} : R f_plait_term_Graph_Node [a0, a1] H = fnK Try.prog [] H [(.cell 4 T_api_Node), (.tmp 5)] (evalL Try.prog KT R c_plait_term_Graph_Node (Env.args [a0, a1] 0) H) :=
  runs_body (D := DT) (f := f_plait_term_Graph_Node) Try.func13 (by kernel_rfl) (by kernel_rfl) (by kernel_rfl) (by kernel_rfl) (by kernel_rfl) (Nat.le_of_ble_eq_true rfl)
def c_eval_Eval : LCode := (.seq (.reg [] [⟨some 6, some (.alloc T_api_Bits), none⟩,
 ⟨some 7, some (.assign (.const (.int .i64 0))), none⟩])
  (.seq (.reg [] [⟨some 8, some (.move (.tmp 0)), none⟩,
 ⟨some 9, some (.move (.tmp 1)), none⟩,
 ⟨some 10, some (.move (.tmp 2)), none⟩,
 ⟨some 11, some (.call ⟨(.value (.func f_eval_known)), #[.tmp 10], #[T_s_api_Named]⟩), none⟩,
 ⟨some 12, some (.call ⟨(.value (.func f_eval_worth)), #[.tmp 8, .tmp 9, .tmp 11], #[T_p_term_Graph, T_int, T_m_string_api_Bits]⟩), none⟩,
 ⟨some 13, some (.extract (.tmp 12) 0), none⟩,
 ⟨some 14, some (.extract (.tmp 12) 1), none⟩,
 ⟨none, some (.store T_api_Bits (.tmp 6) (.tmp 13)), none⟩,
 ⟨some 7, some (.assign (.tmp 14)), none⟩])
  .ret))
theorem e_eval_Eval {a0 a1 a2 : AV} {H : AHeap} : R f_eval_Eval [a0, a1, a2] H = fnK Try.prog [] H [(.cell 6 T_api_Bits), (.tmp 7)] (evalL Try.prog KT R c_eval_Eval (Env.args [a0, a1, a2] 0) H) :=
  runs_body (D := DT) (f := f_eval_Eval) Try.func14 (by kernel_rfl) (by kernel_rfl) (by kernel_rfl) (by kernel_rfl) (by kernel_rfl) (Nat.le_of_ble_eq_true rfl)
def c_plait_term_Graph_Make : LCode := (.seq (.reg [] [⟨some 3, some (.box T_api_Node (.tmp 1)), none⟩,
 ⟨some 4, some (.assign (.const (.int .i64 0))), none⟩,
 ⟨some 5, some (.assign (.const (.int .i64 0))), none⟩])
  (.seq (.seq (.reg [] [⟨some 9, some (.move (.tmp 0)), none⟩,
 ⟨some 10, some (.load T_api_Node (.tmp 3)), none⟩,
 ⟨some 11, some (.call ⟨(.value (.func f_plait_term_Graph_formed)), #[.tmp 9, .tmp 10], #[T_p_term_Graph, T_api_Node]⟩), none⟩,
 ⟨some 12, some (.unOp .not T_bool (.tmp 11)), none⟩])
  (.cond (.tmp 12) (.seq (.reg [] [⟨some 4, some (.assign (.const (.int .i64 0))), none⟩,
 ⟨some 5, some (.assign (.const (.int .i64 32))), none⟩])
  .ret)
  .skip))
  (.seq (.reg [] [⟨some 14, some (.move (.tmp 0)), none⟩,
 ⟨some 15, some (.load T_api_Node (.tmp 3)), none⟩,
 ⟨some 16, some (.call ⟨(.value (.func f_plait_term_Graph_sorted)), #[.tmp 14, .tmp 15], #[T_p_term_Graph, T_api_Node]⟩), none⟩,
 ⟨some 13, some (.move (.tmp 16)), none⟩,
 ⟨some 17, some (.extract (.tmp 13) 0), none⟩,
 ⟨some 18, some (.extract (.tmp 13) 1), none⟩,
 ⟨none, some (.store T_api_Node (.tmp 3) (.tmp 17)), none⟩,
 ⟨some 6, some (.assign (.tmp 18)), none⟩])
  (.seq (.seq (.reg [] [⟨some 19, some (.move (.tmp 6)), none⟩,
 ⟨some 20, some (.binOp .neq T_api_Errno (.tmp 19) (.const (.int .i64 0)) T_api_Errno), none⟩])
  (.cond (.tmp 20) (.seq (.reg [] [⟨some 21, some (.move (.tmp 6)), none⟩,
 ⟨some 4, some (.assign (.const (.int .i64 0))), none⟩,
 ⟨some 5, some (.assign (.tmp 21)), none⟩])
  .ret)
  .skip))
  (.seq (.seq (.reg [] [⟨some 22, some (.move (.tmp 0)), none⟩,
 ⟨some 23, some (.nilCheck (.tmp 22)), none⟩,
 ⟨some 24, some (.fieldAddr T_term_Graph (.tmp 23) 2), none⟩,
 ⟨some 25, some (.load T_m_api_Node_int (.tmp 24)), none⟩,
 ⟨some 26, some (.load T_api_Node (.tmp 3)), none⟩,
 ⟨some 27, some (.lookup T_m_api_Node_int (.tmp 25) (.tmp 26) false), none⟩,
 ⟨some 7, some (.assign (.tmp 27)), none⟩])
  (.seq (.reg [] [⟨some 28, some (.move (.tmp 7)), none⟩,
 ⟨some 29, some (.binOp .gtr T_int (.tmp 28) (.const (.int .i64 0)) T_int), none⟩])
  (.cond (.tmp 29) (.seq (.reg [] [⟨some 30, some (.move (.tmp 7)), none⟩,
 ⟨some 4, some (.assign (.tmp 30)), none⟩,
 ⟨some 5, some (.assign (.const (.int .i64 0))), none⟩])
  .ret)
  .skip)))
  (.seq (.seq (.reg [] [⟨some 31, some (.move (.tmp 0)), none⟩,
 ⟨some 32, some (.nilCheck (.tmp 31)), none⟩,
 ⟨some 33, some (.fieldAddr T_term_Graph (.tmp 32) 1), none⟩,
 ⟨some 34, some (.load T_s_api_Node (.tmp 33)), none⟩,
 ⟨some 35, some (.call ⟨(.builtin .len), #[.tmp 34], #[T_s_api_Node]⟩), none⟩,
 ⟨some 36, some (.move (.tmp 0)), none⟩,
 ⟨some 37, some (.nilCheck (.tmp 36)), none⟩,
 ⟨some 38, some (.fieldAddr T_term_Graph (.tmp 37) 0), none⟩,
 ⟨some 39, some (.load T_int (.tmp 38)), none⟩,
 ⟨some 40, some (.binOp .geq T_int (.tmp 35) (.tmp 39) T_int), none⟩])
  (.cond (.tmp 40) (.seq (.reg [] [⟨some 4, some (.assign (.const (.int .i64 0))), none⟩,
 ⟨some 5, some (.assign (.const (.int .i64 33))), none⟩])
  .ret)
  .skip))
  (.seq (.reg [] [⟨some 41, some (.move (.tmp 0)), none⟩,
 ⟨some 42, some (.move (.tmp 0)), none⟩,
 ⟨some 43, some (.nilCheck (.tmp 42)), none⟩,
 ⟨some 44, some (.fieldAddr T_term_Graph (.tmp 43) 1), none⟩,
 ⟨some 45, some (.load T_s_api_Node (.tmp 44)), none⟩,
 ⟨some 46, some (.load T_api_Node (.tmp 3)), none⟩,
 ⟨some 47, some (.buildSlice T_s_api_Node 1 #[(0, (.tmp 46))]), none⟩,
 ⟨some 48, some (.call ⟨(.builtin .append), #[.tmp 45, .tmp 47], #[T_s_api_Node, T_s_api_Node]⟩), none⟩,
 ⟨some 49, some (.nilCheck (.tmp 41)), none⟩,
 ⟨some 50, some (.fieldAddr T_term_Graph (.tmp 49) 1), none⟩,
 ⟨none, some (.store T_s_api_Node (.tmp 50) (.tmp 48)), none⟩])
  (.seq (.reg [] [⟨some 51, some (.move (.tmp 0)), none⟩,
 ⟨some 52, some (.nilCheck (.tmp 51)), none⟩,
 ⟨some 53, some (.fieldAddr T_term_Graph (.tmp 52) 1), none⟩,
 ⟨some 54, some (.load T_s_api_Node (.tmp 53)), none⟩,
 ⟨some 55, some (.call ⟨(.builtin .len), #[.tmp 54], #[T_s_api_Node]⟩), none⟩,
 ⟨some 8, some (.assign (.tmp 55)), none⟩])
  (.seq (.reg [] [⟨some 56, some (.move (.tmp 0)), none⟩,
 ⟨some 57, some (.nilCheck (.tmp 56)), none⟩,
 ⟨some 58, some (.fieldAddr T_term_Graph (.tmp 57) 2), none⟩,
 ⟨some 59, some (.load T_m_api_Node_int (.tmp 58)), none⟩,
 ⟨some 60, some (.load T_api_Node (.tmp 3)), none⟩,
 ⟨some 61, some (.move (.tmp 8)), none⟩,
 ⟨none, some (.mapUpdate T_m_api_Node_int (.tmp 59) (.tmp 60) (.tmp 61)), none⟩])
  (.seq (.seq (.reg [] [⟨some 62, some (.fieldAddr T_api_Node (.tmp 3) 0), none⟩,
 ⟨some 63, some (.load T_int (.tmp 62)), none⟩,
 ⟨some 64, some (.binOp .eql T_int (.tmp 63) (.const (.int .i64 2)) T_int), none⟩])
  (.cond (.tmp 64) (.reg [] [⟨some 65, some (.move (.tmp 0)), none⟩,
 ⟨some 66, some (.nilCheck (.tmp 65)), none⟩,
 ⟨some 67, some (.fieldAddr T_term_Graph (.tmp 66) 3), none⟩,
 ⟨some 68, some (.load T_m_string_int (.tmp 67)), none⟩,
 ⟨some 69, some (.fieldAddr T_api_Node (.tmp 3) 8), none⟩,
 ⟨some 70, some (.load T_string (.tmp 69)), none⟩,
 ⟨some 71, some (.move (.tmp 8)), none⟩,
 ⟨none, some (.mapUpdate T_m_string_int (.tmp 68) (.tmp 70) (.tmp 71)), none⟩])
  .skip))
  (.seq (.reg [] [⟨some 72, some (.move (.tmp 8)), none⟩,
 ⟨some 4, some (.assign (.tmp 72)), none⟩,
 ⟨some 5, some (.assign (.const (.int .i64 0))), none⟩])
  .ret)))))))))))
theorem e_plait_term_Graph_Make {a0 a1 : AV} {H : AHeap} : R f_plait_term_Graph_Make [a0, a1] H = fnK Try.prog [] H [(.tmp 4), (.tmp 5)] (evalL Try.prog KT R c_plait_term_Graph_Make (Env.args [a0, a1] 0) H) :=
  runs_body (D := DT) (f := f_plait_term_Graph_Make) Try.func15 (by kernel_rfl) (by kernel_rfl) (by kernel_rfl) (by kernel_rfl) (by kernel_rfl) (Nat.le_of_ble_eq_true rfl)
def l_plait_term_Graph_Cone_0 : LCode := (.seq (.seq (.reg [] [⟨some 29, some (.move (.tmp 7)), none⟩,
 ⟨some 30, some (.binOp .gtr T_int (.tmp 29) (.const (.int .i64 0)) T_int), none⟩])
  (.cond (.tmp 30) .skip
  (.exit 0)))
  (.seq (.block 1 (.seq (.seq (.reg [] [⟨some 33, some (.move (.tmp 5)), none⟩,
 ⟨some 34, some (.move (.tmp 7)), none⟩,
 ⟨some 35, some (.indexAddr T_s_bool (.tmp 33) (.tmp 34)), none⟩,
 ⟨some 36, some (.load T_bool (.tmp 35)), none⟩,
 ⟨some 37, some (.unOp .not T_bool (.tmp 36)), none⟩])
  (.cond (.tmp 37) (.exit 1)
  .skip))
  (.seq (.reg [] [⟨some 38, some (.move (.tmp 6)), none⟩,
 ⟨some 39, some (.binOp .add T_int (.tmp 38) (.const (.int .i64 1)) T_int), none⟩,
 ⟨some 6, some (.assign (.tmp 39)), none⟩])
  (.seq (.reg [] [⟨some 40, some (.move (.tmp 0)), none⟩,
 ⟨some 41, some (.nilCheck (.tmp 40)), none⟩,
 ⟨some 42, some (.fieldAddr T_term_Graph (.tmp 41) 1), none⟩,
 ⟨some 43, some (.load T_s_api_Node (.tmp 42)), none⟩,
 ⟨some 44, some (.move (.tmp 7)), none⟩,
 ⟨some 45, some (.binOp .sub T_int (.tmp 44) (.const (.int .i64 1)) T_int), none⟩,
 ⟨some 46, some (.indexAddr T_s_api_Node (.tmp 43) (.tmp 45)), none⟩,
 ⟨some 47, some (.load T_api_Node (.tmp 46)), none⟩,
 ⟨some 8, some (.alloc T_api_Node), none⟩,
 ⟨none, some (.store T_api_Node (.tmp 8) (.tmp 47)), none⟩])
  (.reg [5, 8, 10, 12] [⟨some 48, some (.move (.tmp 5)), none⟩,
 ⟨some 49, some (.fieldAddr T_api_Node (.tmp 8) 2), none⟩,
 ⟨some 50, some (.load T_int (.tmp 49)), none⟩,
 ⟨some 51, some (.move (.tmp 5)), none⟩,
 ⟨some 52, some (.fieldAddr T_api_Node (.tmp 8) 3), none⟩,
 ⟨some 53, some (.load T_int (.tmp 52)), none⟩,
 ⟨some 54, some (.move (.tmp 5)), none⟩,
 ⟨some 55, some (.fieldAddr T_api_Node (.tmp 8) 4), none⟩,
 ⟨some 56, some (.load T_int (.tmp 55)), none⟩,
 ⟨some 57, some (.indexAddr T_s_bool (.tmp 48) (.tmp 50)), none⟩,
 ⟨none, some (.store T_bool (.tmp 57) (.const (.bool true))), none⟩,
 ⟨some 58, some (.indexAddr T_s_bool (.tmp 51) (.tmp 53)), none⟩,
 ⟨none, some (.store T_bool (.tmp 58) (.const (.bool true))), none⟩,
 ⟨some 59, some (.indexAddr T_s_bool (.tmp 54) (.tmp 56)), none⟩,
 ⟨none, some (.store T_bool (.tmp 59) (.const (.bool true))), none⟩])))))
  (.reg [] [⟨some 31, some (.move (.tmp 7)), none⟩,
 ⟨some 32, some (.binOp .sub T_int (.tmp 31) (.const (.int .i64 1)) T_int), none⟩,
 ⟨some 7, some (.assign (.tmp 32)), none⟩])))
def l_plait_term_Graph_Cone_1 : LCode := (.seq (.seq (.reg [] [⟨some 62, some (.move (.tmp 10)), none⟩,
 ⟨some 63, some (.move (.tmp 1)), none⟩,
 ⟨some 64, some (.binOp .leq T_int (.tmp 62) (.tmp 63) T_int), none⟩])
  (.cond (.tmp 64) .skip
  (.exit 2)))
  (.seq (.block 3 (.seq (.reg [] [⟨some 67, some (.move (.tmp 5)), none⟩,
 ⟨some 68, some (.move (.tmp 10)), none⟩,
 ⟨some 69, some (.indexAddr T_s_bool (.tmp 67) (.tmp 68)), none⟩,
 ⟨some 70, some (.load T_bool (.tmp 69)), none⟩])
  (.cond (.tmp 70) (.reg [] [⟨some 71, some (.move (.tmp 9)), none⟩,
 ⟨some 72, some (.move (.tmp 10)), none⟩,
 ⟨some 73, some (.buildSlice T_s_int 1 #[(0, (.tmp 72))]), none⟩,
 ⟨some 74, some (.call ⟨(.builtin .append), #[.tmp 71, .tmp 73], #[T_s_int, T_s_int]⟩), none⟩,
 ⟨some 9, some (.assign (.tmp 74)), none⟩])
  .skip)))
  (.reg [] [⟨some 65, some (.move (.tmp 10)), none⟩,
 ⟨some 66, some (.binOp .add T_int (.tmp 65) (.const (.int .i64 1)) T_int), none⟩,
 ⟨some 10, some (.assign (.tmp 66)), none⟩])))
@[simp] theorem d_l_plait_term_Graph_Cone_0 : defs l_plait_term_Graph_Cone_0 = [29, 30, 33, 34, 35, 36, 37, 38, 39, 6, 40, 41, 42, 43, 44, 45, 46, 47, 8, 48, 49, 50, 51, 52, 53, 54, 55, 56, 57, 58, 59, 31, 32, 7] := by rfl
@[simp] theorem d_l_plait_term_Graph_Cone_1 : defs l_plait_term_Graph_Cone_1 = [62, 63, 64, 67, 68, 69, 70, 71, 72, 73, 74, 9, 65, 66, 10] := by rfl
def c_plait_term_Graph_Cone : LCode := (.seq (.reg [] [⟨some 4, some (.assign (.const (.slice none 0 0))), none⟩])
  (.seq (.seq (.reg [] [⟨some 11, some (.move (.tmp 1)), none⟩,
 ⟨some 12, some (.binOp .lss T_int (.tmp 11) (.const (.int .i64 1)) T_int), none⟩,
 ⟨some 13, some (.move (.tmp 12)), none⟩,
 ⟨some 14, some (.move (.tmp 1)), some (some 13, false)⟩,
 ⟨some 15, some (.move (.tmp 0)), some (some 13, false)⟩,
 ⟨some 16, some (.nilCheck (.tmp 15)), some (some 13, false)⟩,
 ⟨some 17, some (.fieldAddr T_term_Graph (.tmp 16) 1), some (some 13, false)⟩,
 ⟨some 18, some (.load T_s_api_Node (.tmp 17)), some (some 13, false)⟩,
 ⟨some 19, some (.call ⟨(.builtin .len), #[.tmp 18], #[T_s_api_Node]⟩), some (some 13, false)⟩,
 ⟨some 20, some (.binOp .gtr T_int (.tmp 14) (.tmp 19) T_int), some (some 13, false)⟩,
 ⟨some 21, some (.pick (.tmp 13) (.const (.bool true)) (.tmp 20)), none⟩])
  (.cond (.tmp 21) (.seq (.reg [] [⟨some 4, some (.assign (.const (.slice none 0 0))), none⟩])
  .ret)
  .skip))
  (.seq (.reg [] [⟨some 22, some (.move (.tmp 1)), none⟩,
 ⟨some 23, some (.binOp .add T_int (.tmp 22) (.const (.int .i64 1)) T_int), none⟩,
 ⟨some 24, some (.makeSlice T_s_bool (.tmp 23) (.tmp 23)), none⟩,
 ⟨some 5, some (.assign (.tmp 24)), none⟩])
  (.seq (.reg [] [⟨some 25, some (.move (.tmp 5)), none⟩,
 ⟨some 26, some (.move (.tmp 1)), none⟩,
 ⟨some 27, some (.indexAddr T_s_bool (.tmp 25) (.tmp 26)), none⟩,
 ⟨none, some (.store T_bool (.tmp 27) (.const (.bool true))), none⟩])
  (.seq (.reg [] [⟨some 6, some (.assign (.const (.int .i64 0))), none⟩])
  (.seq (.seq (.reg [] [⟨some 28, some (.move (.tmp 1)), none⟩,
 ⟨some 7, some (.assign (.tmp 28)), none⟩])
  (.block 0 (.loop l_plait_term_Graph_Cone_0)))
  (.seq (.reg [] [⟨some 60, some (.move (.tmp 6)), none⟩,
 ⟨some 61, some (.makeSlice T_s_int (.const (.int .i64 0)) (.tmp 60)), none⟩,
 ⟨some 9, some (.assign (.tmp 61)), none⟩])
  (.seq (.seq (.reg [] [⟨some 10, some (.assign (.const (.int .i64 1))), none⟩])
  (.block 2 (.loop l_plait_term_Graph_Cone_1)))
  (.seq (.reg [] [⟨some 75, some (.move (.tmp 9)), none⟩,
 ⟨some 4, some (.assign (.tmp 75)), none⟩])
  .ret)))))))))
theorem e_plait_term_Graph_Cone {a0 a1 : AV} {H : AHeap} : R f_plait_term_Graph_Cone [a0, a1] H = fnK Try.prog [0] H [(.tmp 4)] (evalL Try.prog KT R c_plait_term_Graph_Cone (Env.args [a0, a1] 0) H) :=
  runs_body (D := DT) (f := f_plait_term_Graph_Cone) Try.func16 (by kernel_rfl) (by kernel_rfl) (by kernel_rfl) (by kernel_rfl) (by kernel_rfl) (Nat.le_of_ble_eq_true rfl)
def c_plait_term_Graph_Var : LCode := (.seq (.reg [] [⟨some 4, some (.assign (.const (.int .i64 0))), none⟩,
 ⟨some 5, some (.assign (.const (.bool false))), none⟩])
  (.seq (.reg [] [⟨some 9, some (.move (.tmp 0)), none⟩,
 ⟨some 10, some (.nilCheck (.tmp 9)), none⟩,
 ⟨some 11, some (.fieldAddr T_term_Graph (.tmp 10) 3), none⟩,
 ⟨some 12, some (.load T_m_string_int (.tmp 11)), none⟩,
 ⟨some 13, some (.move (.tmp 1)), none⟩,
 ⟨some 14, some (.lookup T_m_string_int (.tmp 12) (.tmp 13) true), none⟩,
 ⟨some 8, some (.move (.tmp 14)), none⟩,
 ⟨some 15, some (.extract (.tmp 8) 0), none⟩,
 ⟨some 16, some (.extract (.tmp 8) 1), none⟩,
 ⟨some 6, some (.assign (.tmp 15)), none⟩,
 ⟨some 7, some (.assign (.tmp 16)), none⟩])
  (.seq (.reg [] [⟨some 17, some (.move (.tmp 6)), none⟩,
 ⟨some 18, some (.move (.tmp 7)), none⟩,
 ⟨some 4, some (.assign (.tmp 17)), none⟩,
 ⟨some 5, some (.assign (.tmp 18)), none⟩])
  .ret)))
theorem e_plait_term_Graph_Var {a0 a1 : AV} {H : AHeap} : R f_plait_term_Graph_Var [a0, a1] H = fnK Try.prog [] H [(.tmp 4), (.tmp 5)] (evalL Try.prog KT R c_plait_term_Graph_Var (Env.args [a0, a1] 0) H) :=
  runs_body (D := DT) (f := f_plait_term_Graph_Var) Try.func17 (by kernel_rfl) (by kernel_rfl) (by kernel_rfl) (by kernel_rfl) (by kernel_rfl) (Nat.le_of_ble_eq_true rfl)
def c_plaitlaw16_known : LCode := (.seq (.reg [] [⟨some 0, some (.assign (.const (.bool false))), none⟩])
  (.seq (.reg [] [⟨some 8, some (.buildSlice T_s_bool 2 #[(0, (.const (.bool true))), (1, (.const (.bool false)))]), none⟩,
 ⟨some 9, some (.call ⟨(.value (.func f_lift_Value)), #[(.const (.int .i64 2)), (.tmp 8)], #[T_int, T_s_bool]⟩), none⟩,
 ⟨some 7, some (.move (.tmp 9)), none⟩,
 ⟨some 10, some (.extract (.tmp 7) 0), none⟩,
 ⟨some 11, some (.extract (.tmp 7) 1), none⟩,
 ⟨some 1, some (.alloc T_api_Bits), none⟩,
 ⟨none, some (.store T_api_Bits (.tmp 1) (.tmp 10)), none⟩,
 ⟨some 2, some (.assign (.tmp 11)), none⟩])
  (.seq (.reg [] [⟨some 13, some (.buildSlice T_s_bool 1 #[(0, (.const (.bool true)))]), none⟩,
 ⟨some 14, some (.call ⟨(.value (.func f_lift_Value)), #[(.const (.int .i64 0)), (.tmp 13)], #[T_int, T_s_bool]⟩), none⟩,
 ⟨some 12, some (.move (.tmp 14)), none⟩,
 ⟨some 15, some (.extract (.tmp 12) 0), none⟩,
 ⟨some 16, some (.extract (.tmp 12) 1), none⟩,
 ⟨some 3, some (.alloc T_api_Bits), none⟩,
 ⟨none, some (.store T_api_Bits (.tmp 3) (.tmp 15)), none⟩,
 ⟨some 4, some (.assign (.tmp 16)), none⟩])
  (.seq (.reg [] [⟨some 18, some (.buildSlice T_s_bool 1 #[(0, (.const (.bool true)))]), none⟩,
 ⟨some 19, some (.call ⟨(.value (.func f_lift_Value)), #[(.const (.int .i64 3)), (.tmp 18)], #[T_int, T_s_bool]⟩), none⟩,
 ⟨some 17, some (.move (.tmp 19)), none⟩,
 ⟨some 20, some (.extract (.tmp 17) 0), none⟩,
 ⟨some 21, some (.extract (.tmp 17) 1), none⟩,
 ⟨some 5, some (.alloc T_api_Bits), none⟩,
 ⟨none, some (.store T_api_Bits (.tmp 5) (.tmp 20)), none⟩,
 ⟨some 6, some (.assign (.tmp 21)), none⟩])
  (.seq (.reg [] [⟨some 22, some (.move (.tmp 2)), none⟩,
 ⟨some 23, some (.move (.tmp 4)), none⟩,
 ⟨some 24, some (.binOp .add T_int (.tmp 22) (.tmp 23) T_int), none⟩,
 ⟨some 25, some (.binOp .eql T_int (.tmp 24) (.const (.int .i64 0)) T_int), none⟩,
 ⟨some 26, some (.move (.tmp 25)), none⟩,
 ⟨some 27, some (.move (.tmp 6)), some (some 26, true)⟩,
 ⟨some 28, some (.binOp .eql T_int (.tmp 27) (.const (.int .i64 160)) T_int), some (some 26, true)⟩,
 ⟨some 29, some (.pick (.tmp 26) (.tmp 28) (.const (.bool false))), none⟩,
 ⟨some 30, some (.move (.tmp 29)), none⟩,
 ⟨some 31, some (.load T_api_Bits (.tmp 1)), some (some 30, true)⟩,
 ⟨some 32, some (.build T_api_Bits #[(0, (.const (.int .i64 2))), (1, (.const (.int .u64 1)))]), some (some 30, true)⟩,
 ⟨some 33, some (.binOp .eql T_api_Bits (.tmp 31) (.tmp 32) T_api_Bits), some (some 30, true)⟩,
 ⟨some 34, some (.pick (.tmp 30) (.tmp 33) (.const (.bool false))), none⟩,
 ⟨some 35, some (.move (.tmp 34)), none⟩,
 ⟨some 36, some (.load T_api_Bits (.tmp 3)), some (some 35, true)⟩,
 ⟨some 37, some (.build T_api_Bits #[(1, (.const (.int .u64 1)))]), some (some 35, true)⟩,
 ⟨some 38, some (.binOp .eql T_api_Bits (.tmp 36) (.tmp 37) T_api_Bits), some (some 35, true)⟩,
 ⟨some 39, some (.pick (.tmp 35) (.tmp 38) (.const (.bool false))), none⟩,
 ⟨some 40, some (.move (.tmp 39)), none⟩,
 ⟨some 41, some (.load T_api_Bits (.tmp 1)), some (some 40, true)⟩,
 ⟨some 42, some (.call ⟨(.value (.func f_lift_BitsOf)), #[.tmp 41], #[T_api_Bits]⟩), some (some 40, true)⟩,
 ⟨some 43, some (.buildSlice T_s_bool 2 #[(0, (.const (.bool true))), (1, (.const (.bool false)))]), some (some 40, true)⟩,
 ⟨some 44, some (.call ⟨(.value (.func f_plaithelp_Bools)), #[.tmp 42, .tmp 43], #[T_s_bool, T_s_bool]⟩), some (some 40, true)⟩,
 ⟨some 45, some (.pick (.tmp 40) (.tmp 44) (.const (.bool false))), none⟩,
 ⟨some 0, some (.assign (.tmp 45)), none⟩])
  .ret)))))
theorem e_plaitlaw16_known {H : AHeap} : R f_plaitlaw16_known [] H = fnK Try.prog [] H [(.tmp 0)] (evalL Try.prog KT R c_plaitlaw16_known (Env.args [] 0) H) :=
  runs_body (D := DT) (f := f_plaitlaw16_known) Try.func18 (by kernel_rfl) (by kernel_rfl) (by kernel_rfl) (by kernel_rfl) (by kernel_rfl) (Nat.le_of_ble_eq_true rfl)
def c_term_New : LCode := (.seq (.reg [] [⟨some 2, some (.assign (.const (.pointer none))), none⟩])
  (.seq (.reg [] [⟨some 3, some (.move (.tmp 0)), none⟩,
 ⟨some 4, some (.call ⟨(.builtin .max), #[(.tmp 3), (.const (.int .i64 1))], #[T_int, T_int]⟩), none⟩,
 ⟨some 5, some (.call ⟨(.builtin .min), #[(.tmp 4), (.const (.int .i64 4096))], #[T_int, T_int]⟩), none⟩,
 ⟨some 6, some (.makeMap T_m_api_Node_int none), none⟩,
 ⟨some 7, some (.makeMap T_m_string_int none), none⟩,
 ⟨some 8, some (.build T_term_Graph #[(0, (.tmp 5)), (2, (.tmp 6)), (3, (.tmp 7))]), none⟩,
 ⟨some 9, some (.box T_term_Graph (.tmp 8)), none⟩,
 ⟨some 2, some (.assign (.tmp 9)), none⟩])
  .ret))
theorem e_term_New {a0 : AV} {H : AHeap} : R f_term_New [a0] H = fnK Try.prog [] H [(.tmp 2)] (evalL Try.prog KT R c_term_New (Env.args [a0] 0) H) :=
  runs_body (D := DT) (f := f_term_New) Try.func19 (by kernel_rfl) (by kernel_rfl) (by kernel_rfl) (by kernel_rfl) (by kernel_rfl) (Nat.le_of_ble_eq_true rfl)
def c_lift_Model : LCode := (.seq (.reg [] [⟨some 4, some (.assign (.const (.slice none 0 0))), none⟩])
  (.seq (.reg [] [⟨some 5, some (.move (.tmp 0)), none⟩,
 ⟨some 6, some (.move (.tmp 1)), none⟩,
 ⟨some 7, some (.call ⟨(.value (.func f_eval_Complete)), #[.tmp 5, .tmp 6], #[T_p_term_Graph, T_s_api_Named]⟩), none⟩,
 ⟨some 4, some (.assign (.tmp 7)), none⟩])
  .ret))
theorem e_lift_Model {a0 a1 : AV} {H : AHeap} : R f_lift_Model [a0, a1] H = fnK Try.prog [] H [(.tmp 4)] (evalL Try.prog KT R c_lift_Model (Env.args [a0, a1] 0) H) :=
  runs_body (D := DT) (f := f_lift_Model) Try.func20 (by kernel_rfl) (by kernel_rfl) (by kernel_rfl) (by kernel_rfl) (by kernel_rfl) (Nat.le_of_ble_eq_true rfl)
def l_plaithelp_Named_0 : LCode := (.seq (.seq (.reg [] [⟨some 11, some (.move (.tmp 5)), none⟩,
 ⟨some 12, some (.move (.tmp 0)), none⟩,
 ⟨some 13, some (.call ⟨(.builtin .len), #[.tmp 12], #[T_s_api_Named]⟩), none⟩,
 ⟨some 14, some (.binOp .lss T_int (.tmp 11) (.tmp 13) T_int), none⟩])
  (.cond (.tmp 14) .skip
  (.exit 0)))
  (.seq (.block 1 (.seq (.reg [] [⟨some 17, some (.move (.tmp 0)), none⟩,
 ⟨some 18, some (.move (.tmp 5)), none⟩,
 ⟨some 19, some (.indexAddr T_s_api_Named (.tmp 17) (.tmp 18)), none⟩,
 ⟨some 20, some (.load T_api_Named (.tmp 19)), none⟩,
 ⟨some 21, some (.move (.tmp 1)), none⟩,
 ⟨some 22, some (.move (.tmp 5)), none⟩,
 ⟨some 23, some (.indexAddr T_s_api_Named (.tmp 21) (.tmp 22)), none⟩,
 ⟨some 24, some (.load T_api_Named (.tmp 23)), none⟩,
 ⟨some 25, some (.binOp .neq T_api_Named (.tmp 20) (.tmp 24) T_api_Named), none⟩])
  (.cond (.tmp 25) (.seq (.reg [] [⟨some 4, some (.assign (.const (.bool false))), none⟩])
  .ret)
  .skip)))
  (.reg [] [⟨some 15, some (.move (.tmp 5)), none⟩,
 ⟨some 16, some (.binOp .add T_int (.tmp 15) (.const (.int .i64 1)) T_int), none⟩,
 ⟨some 5, some (.assign (.tmp 16)), none⟩])))
@[simp] theorem d_l_plaithelp_Named_0 : defs l_plaithelp_Named_0 = [11, 12, 13, 14, 17, 18, 19, 20, 21, 22, 23, 24, 25, 4, 15, 16, 5] := by rfl
def c_plaithelp_Named : LCode := (.seq (.reg [] [⟨some 4, some (.assign (.const (.bool false))), none⟩])
  (.seq (.seq (.reg [] [⟨some 6, some (.move (.tmp 0)), none⟩,
 ⟨some 7, some (.call ⟨(.builtin .len), #[.tmp 6], #[T_s_api_Named]⟩), none⟩,
 ⟨some 8, some (.move (.tmp 1)), none⟩,
 ⟨some 9, some (.call ⟨(.builtin .len), #[.tmp 8], #[T_s_api_Named]⟩), none⟩,
 ⟨some 10, some (.binOp .neq T_int (.tmp 7) (.tmp 9) T_int), none⟩])
  (.cond (.tmp 10) (.seq (.reg [] [⟨some 4, some (.assign (.const (.bool false))), none⟩])
  .ret)
  .skip))
  (.seq (.seq (.reg [] [⟨some 5, some (.assign (.const (.int .i64 0))), none⟩])
  (.block 0 (.loop l_plaithelp_Named_0)))
  (.seq (.reg [] [⟨some 4, some (.assign (.const (.bool true))), none⟩])
  .ret))))
theorem e_plaithelp_Named {a0 a1 : AV} {H : AHeap} : R f_plaithelp_Named [a0, a1] H = fnK Try.prog [] H [(.tmp 4)] (evalL Try.prog KT R c_plaithelp_Named (Env.args [a0, a1] 0) H) :=
  runs_body (D := DT) (f := f_plaithelp_Named) Try.func21 (by kernel_rfl) (by kernel_rfl) (by kernel_rfl) (by kernel_rfl) (by kernel_rfl) (Nat.le_of_ble_eq_true rfl)
def l_lift_Holds_0 : LCode := (.seq (.reg [] [⟨some 25, some (.binOp .lss T_int (.tmp 24) (.tmp 23) T_int), none⟩])
  (.seq (.cond (.tmp 25) .skip
  (.exit 0))
  (.seq (.block 1 (.seq (.reg [] [⟨some 26, some (.indexAddr T_s_api_Bits (.tmp 22) (.tmp 24)), none⟩,
 ⟨some 27, some (.load T_api_Bits (.tmp 26)), none⟩,
 ⟨some 10, some (.alloc T_api_Bits), none⟩,
 ⟨none, some (.store T_api_Bits (.tmp 10) (.tmp 27)), none⟩])
  (.seq (.reg [1] [⟨some 28, some (.load T_api_Bits (.tmp 10)), none⟩,
 ⟨some 29, some (.call ⟨(.value (.func f_bv_Bool)), #[(.const (.bool true))], #[T_bool]⟩), none⟩,
 ⟨some 30, some (.binOp .neq T_api_Bits (.tmp 28) (.tmp 29) T_api_Bits), none⟩])
  (.cond (.tmp 30) (.seq (.reg [] [⟨some 6, some (.assign (.const (.bool false))), none⟩])
  .ret)
  .skip))))
  (.reg [] [⟨some 31, some (.binOp .add T_int (.tmp 24) (.const (.int .i64 1)) T_int), none⟩,
 ⟨some 24, some (.move (.tmp 31)), none⟩]))))
@[simp] theorem d_l_lift_Holds_0 : defs l_lift_Holds_0 = [25, 26, 27, 10, 28, 29, 30, 6, 31, 24] := by rfl
def c_lift_Holds : LCode := (.seq (.reg [] [⟨some 6, some (.assign (.const (.bool false))), none⟩])
  (.seq (.reg [] [⟨some 12, some (.move (.tmp 0)), none⟩,
 ⟨some 13, some (.move (.tmp 1)), none⟩,
 ⟨some 14, some (.move (.tmp 0)), none⟩,
 ⟨some 15, some (.move (.tmp 2)), none⟩,
 ⟨some 16, some (.call ⟨(.value (.func f_lift_Model)), #[.tmp 14, .tmp 15], #[T_p_term_Graph, T_s_api_Named]⟩), none⟩,
 ⟨some 17, some (.call ⟨(.value (.func f_eval_All)), #[.tmp 12, .tmp 13, .tmp 16], #[T_p_term_Graph, T_s_int, T_s_api_Named]⟩), none⟩,
 ⟨some 11, some (.move (.tmp 17)), none⟩,
 ⟨some 18, some (.extract (.tmp 11) 0), none⟩,
 ⟨some 19, some (.extract (.tmp 11) 1), none⟩,
 ⟨some 7, some (.assign (.tmp 18)), none⟩,
 ⟨some 8, some (.assign (.tmp 19)), none⟩])
  (.seq (.seq (.reg [] [⟨some 20, some (.move (.tmp 8)), none⟩,
 ⟨some 21, some (.binOp .neq T_api_Errno (.tmp 20) (.const (.int .i64 0)) T_api_Errno), none⟩])
  (.cond (.tmp 21) (.seq (.reg [] [⟨some 6, some (.assign (.const (.bool false))), none⟩])
  .ret)
  .skip))
  (.seq (.seq (.reg [] [⟨some 22, some (.move (.tmp 7)), none⟩,
 ⟨some 23, some (.call ⟨(.builtin .len), #[.tmp 22], #[T_s_api_Bits]⟩), none⟩,
 ⟨some 24, some (.move (.const (.int .i64 0))), none⟩])
  (.block 0 (.loop l_lift_Holds_0)))
  (.seq (.reg [] [⟨some 6, some (.assign (.const (.bool true))), none⟩])
  .ret)))))
theorem e_lift_Holds {a0 a1 a2 : AV} {H : AHeap} : R f_lift_Holds [a0, a1, a2] H = fnK Try.prog [] H [(.tmp 6)] (evalL Try.prog KT R c_lift_Holds (Env.args [a0, a1, a2] 0) H) :=
  runs_body (D := DT) (f := f_lift_Holds) Try.func22 (by kernel_rfl) (by kernel_rfl) (by kernel_rfl) (by kernel_rfl) (by kernel_rfl) (Nat.le_of_ble_eq_true rfl)
def l_eval_All_0 : LCode := (.seq (.reg [] [⟨some 19, some (.binOp .lss T_int (.tmp 18) (.tmp 17) T_int), none⟩])
  (.seq (.cond (.tmp 19) .skip
  (.exit 0))
  (.seq (.block 1 (.seq (.reg [] [⟨some 20, some (.indexAddr T_s_int (.tmp 16) (.tmp 18)), none⟩,
 ⟨some 21, some (.load T_int (.tmp 20)), none⟩,
 ⟨some 11, some (.assign (.tmp 21)), none⟩])
  (.seq (.reg [] [⟨some 23, some (.move (.tmp 0)), none⟩,
 ⟨some 24, some (.move (.tmp 11)), none⟩,
 ⟨some 25, some (.move (.tmp 8)), none⟩,
 ⟨some 26, some (.call ⟨(.value (.func f_eval_worth)), #[.tmp 23, .tmp 24, .tmp 25], #[T_p_term_Graph, T_int, T_m_string_api_Bits]⟩), none⟩,
 ⟨some 22, some (.move (.tmp 26)), none⟩,
 ⟨some 27, some (.extract (.tmp 22) 0), none⟩,
 ⟨some 28, some (.extract (.tmp 22) 1), none⟩,
 ⟨some 12, some (.alloc T_api_Bits), none⟩,
 ⟨none, some (.store T_api_Bits (.tmp 12) (.tmp 27)), none⟩,
 ⟨some 13, some (.assign (.tmp 28)), none⟩])
  (.seq (.seq (.reg [] [⟨some 29, some (.move (.tmp 13)), none⟩,
 ⟨some 30, some (.binOp .neq T_api_Errno (.tmp 29) (.const (.int .i64 0)) T_api_Errno), none⟩])
  (.cond (.tmp 30) (.seq (.reg [] [⟨some 31, some (.move (.tmp 13)), none⟩,
 ⟨some 6, some (.assign (.const (.slice none 0 0))), none⟩,
 ⟨some 7, some (.assign (.tmp 31)), none⟩])
  .ret)
  .skip))
  (.reg [] [⟨some 32, some (.move (.tmp 9)), none⟩,
 ⟨some 33, some (.load T_api_Bits (.tmp 12)), none⟩,
 ⟨some 34, some (.buildSlice T_s_api_Bits 1 #[(0, (.tmp 33))]), none⟩,
 ⟨some 35, some (.call ⟨(.builtin .append), #[.tmp 32, .tmp 34], #[T_s_api_Bits, T_s_api_Bits]⟩), none⟩,
 ⟨some 9, some (.assign (.tmp 35)), none⟩])))))
  (.reg [] [⟨some 36, some (.binOp .add T_int (.tmp 18) (.const (.int .i64 1)) T_int), none⟩,
 ⟨some 18, some (.move (.tmp 36)), none⟩]))))
@[simp] theorem d_l_eval_All_0 : defs l_eval_All_0 = [19, 20, 21, 11, 23, 24, 25, 26, 22, 27, 28, 12, 13, 29, 30, 31, 6, 7, 32, 33, 34, 35, 9, 36, 18] := by rfl
def c_eval_All : LCode := (.seq (.reg [] [⟨some 6, some (.assign (.const (.slice none 0 0))), none⟩,
 ⟨some 7, some (.assign (.const (.int .i64 0))), none⟩])
  (.seq (.reg [] [⟨some 14, some (.move (.tmp 2)), none⟩,
 ⟨some 15, some (.call ⟨(.value (.func f_eval_known)), #[.tmp 14], #[T_s_api_Named]⟩), none⟩,
 ⟨some 8, some (.assign (.tmp 15)), none⟩])
  (.seq (.reg [] [⟨some 9, some (.assign (.const (.slice none 0 0))), none⟩])
  (.seq (.seq (.reg [] [⟨some 16, some (.move (.tmp 1)), none⟩,
 ⟨some 17, some (.call ⟨(.builtin .len), #[.tmp 16], #[T_s_int]⟩), none⟩,
 ⟨some 18, some (.move (.const (.int .i64 0))), none⟩])
  (.block 0 (.loop l_eval_All_0)))
  (.seq (.reg [] [⟨some 37, some (.move (.tmp 9)), none⟩,
 ⟨some 6, some (.assign (.tmp 37)), none⟩,
 ⟨some 7, some (.assign (.const (.int .i64 0))), none⟩])
  .ret)))))
theorem e_eval_All {a0 a1 a2 : AV} {H : AHeap} : R f_eval_All [a0, a1, a2] H = fnK Try.prog [0, 0] H [(.tmp 6), (.tmp 7)] (evalL Try.prog KT R c_eval_All (Env.args [a0, a1, a2] 0) H) :=
  runs_body (D := DT) (f := f_eval_All) Try.func23 (by kernel_rfl) (by kernel_rfl) (by kernel_rfl) (by kernel_rfl) (by kernel_rfl) (Nat.le_of_ble_eq_true rfl)
def c_bv_Right : LCode := (.seq (.reg [] [⟨some 1, some (.box T_api_Bits (.tmp 0)), none⟩,
 ⟨some 2, some (.assign (.const (.bool false))), none⟩])
  (.seq (.seq (.reg [] [⟨some 3, some (.fieldAddr T_api_Bits (.tmp 1) 0), none⟩,
 ⟨some 4, some (.load T_int (.tmp 3)), none⟩,
 ⟨some 5, some (.binOp .eql T_int (.tmp 4) (.const (.int .i64 0)) T_int), none⟩])
  (.cond (.tmp 5) (.seq (.reg [] [⟨some 6, some (.fieldAddr T_api_Bits (.tmp 1) 1), none⟩,
 ⟨some 7, some (.load T_uint64 (.tmp 6)), none⟩,
 ⟨some 8, some (.binOp .leq T_uint64 (.tmp 7) (.const (.int .u64 1)) T_uint64), none⟩,
 ⟨some 9, some (.move (.tmp 8)), none⟩,
 ⟨some 10, some (.fieldAddr T_api_Bits (.tmp 1) 2), some (some 9, true)⟩,
 ⟨some 11, some (.load T_uint64 (.tmp 10)), some (some 9, true)⟩,
 ⟨some 12, some (.binOp .eql T_uint64 (.tmp 11) (.const (.int .u64 0)) T_uint64), some (some 9, true)⟩,
 ⟨some 13, some (.pick (.tmp 9) (.tmp 12) (.const (.bool false))), none⟩,
 ⟨some 2, some (.assign (.tmp 13)), none⟩])
  .ret)
  .skip))
  (.seq (.reg [12, 13] [⟨some 14, some (.fieldAddr T_api_Bits (.tmp 1) 0), none⟩,
 ⟨some 15, some (.load T_int (.tmp 14)), none⟩,
 ⟨some 16, some (.binOp .gtr T_int (.tmp 15) (.const (.int .i64 0)) T_int), none⟩,
 ⟨some 17, some (.move (.tmp 16)), none⟩,
 ⟨some 18, some (.fieldAddr T_api_Bits (.tmp 1) 0), some (some 17, true)⟩,
 ⟨some 19, some (.load T_int (.tmp 18)), some (some 17, true)⟩,
 ⟨some 20, some (.binOp .leq T_int (.tmp 19) (.const (.int .i64 128)) T_int), some (some 17, true)⟩,
 ⟨some 21, some (.pick (.tmp 17) (.tmp 20) (.const (.bool false))), none⟩,
 ⟨some 22, some (.move (.tmp 21)), none⟩,
 ⟨some 23, some (.fieldAddr T_api_Bits (.tmp 1) 0), some (some 22, true)⟩,
 ⟨some 24, some (.load T_int (.tmp 23)), some (some 22, true)⟩,
 ⟨some 25, some (.load T_api_Bits (.tmp 1)), some (some 22, true)⟩,
 ⟨some 26, some (.call ⟨(.value (.func f_bv_of)), #[.tmp 25], #[T_api_Bits]⟩), some (some 22, true)⟩,
 ⟨some 27, some (.call ⟨(.value (.func f_bv_cut)), #[.tmp 24, .tmp 26], #[T_int, T_bv_number]⟩), some (some 22, true)⟩,
 ⟨some 28, some (.load T_api_Bits (.tmp 1)), some (some 22, true)⟩,
 ⟨some 29, some (.binOp .eql T_api_Bits (.tmp 27) (.tmp 28) T_api_Bits), some (some 22, true)⟩,
 ⟨some 30, some (.pick (.tmp 22) (.tmp 29) (.const (.bool false))), none⟩,
 ⟨some 2, some (.assign (.tmp 30)), none⟩])
  .ret)))
theorem e_bv_Right {a0 : AV} {H : AHeap} : R f_bv_Right [a0] H = fnK Try.prog [] H [(.tmp 2)] (evalL Try.prog KT R c_bv_Right (Env.args [a0] 0) H) :=
  runs_body (D := DT) (f := f_bv_Right) Try.func24 (by kernel_rfl) (by kernel_rfl) (by kernel_rfl) (by kernel_rfl) (by kernel_rfl) (Nat.le_of_ble_eq_true rfl)
def c_term_Sort : LCode := (.seq (.reg [] [⟨some 8, some (.assign (.const (.int .i64 0))), none⟩,
 ⟨some 9, some (.assign (.const (.int .i64 0))), none⟩])
  (.seq (.reg [] [⟨some 13, some (.move (.tmp 0)), none⟩,
 ⟨some 14, some (.call ⟨(.value (.func f_term_Arity)), #[.tmp 13], #[T_int]⟩), none⟩,
 ⟨some 10, some (.assign (.tmp 14)), none⟩])
  (.seq (.seq (.reg [] [⟨some 15, some (.move (.tmp 10)), none⟩,
 ⟨some 16, some (.binOp .lss T_int (.tmp 15) (.const (.int .i64 1)) T_int), none⟩])
  (.cond (.tmp 16) (.seq (.reg [] [⟨some 8, some (.assign (.const (.int .i64 0))), none⟩,
 ⟨some 9, some (.assign (.const (.int .i64 32))), none⟩])
  .ret)
  .skip))
  (.seq (.seq (.reg [] [⟨some 17, some (.move (.tmp 3)), none⟩,
 ⟨some 18, some (.call ⟨(.builtin .len), #[.tmp 17], #[T_s_int]⟩), none⟩,
 ⟨some 19, some (.move (.tmp 10)), none⟩,
 ⟨some 20, some (.binOp .neq T_int (.tmp 18) (.tmp 19) T_int), none⟩,
 ⟨some 21, some (.move (.tmp 20)), none⟩,
 ⟨some 22, some (.move (.tmp 3)), some (some 21, false)⟩,
 ⟨some 23, some (.call ⟨(.value (.func f_slices_ContainsFunc_int_int)), #[(.tmp 22), (.func f_term_Sort_1)], #[T_s_int, T_x95]⟩), some (some 21, false)⟩,
 ⟨some 24, some (.pick (.tmp 21) (.const (.bool true)) (.tmp 23)), none⟩])
  (.cond (.tmp 24) (.seq (.reg [] [⟨some 8, some (.assign (.const (.int .i64 0))), none⟩,
 ⟨some 9, some (.assign (.const (.int .i64 30))), none⟩])
  .ret)
  .skip))
  (.seq (.reg [] [⟨some 26, some (.move (.tmp 0)), none⟩,
 ⟨some 27, some (.move (.tmp 1)), none⟩,
 ⟨some 28, some (.move (.tmp 2)), none⟩,
 ⟨some 29, some (.move (.tmp 3)), none⟩,
 ⟨some 30, some (.call ⟨(.value (.func f_term_told)), #[.tmp 26, .tmp 27, .tmp 28, .tmp 29], #[T_int, T_int, T_int, T_s_int]⟩), none⟩,
 ⟨some 25, some (.move (.tmp 30)), none⟩,
 ⟨some 31, some (.extract (.tmp 25) 0), none⟩,
 ⟨some 32, some (.extract (.tmp 25) 1), none⟩,
 ⟨some 11, some (.assign (.tmp 31)), none⟩,
 ⟨some 12, some (.assign (.tmp 32)), none⟩])
  (.seq (.block 0 (.seq (.reg [] [⟨some 34, some (.move (.tmp 12)), none⟩,
 ⟨some 35, some (.unOp .not T_bool (.tmp 34)), none⟩,
 ⟨some 33, some (.assign (.tmp 35)), none⟩])
  (.cond (.tmp 33) (.seq (.reg [] [⟨some 8, some (.assign (.const (.int .i64 0))), none⟩,
 ⟨some 9, some (.assign (.const (.int .i64 30))), none⟩])
  .ret)
  (.seq (.reg [] [⟨some 37, some (.move (.tmp 11)), none⟩,
 ⟨some 38, some (.binOp .gtr T_int (.tmp 37) (.const (.int .i64 128)) T_int), none⟩,
 ⟨some 36, some (.assign (.tmp 38)), none⟩])
  (.cond (.tmp 36) (.seq (.reg [] [⟨some 8, some (.assign (.const (.int .i64 0))), none⟩,
 ⟨some 9, some (.assign (.const (.int .i64 31))), none⟩])
  .ret)
  .skip)))))
  (.seq (.reg [] [⟨some 39, some (.move (.tmp 11)), none⟩,
 ⟨some 8, some (.assign (.tmp 39)), none⟩,
 ⟨some 9, some (.assign (.const (.int .i64 0))), none⟩])
  .ret)))))))
theorem e_term_Sort {a0 a1 a2 a3 : AV} {H : AHeap} : R f_term_Sort [a0, a1, a2, a3] H = fnK Try.prog [] H [(.tmp 8), (.tmp 9)] (evalL Try.prog KT R c_term_Sort (Env.args [a0, a1, a2, a3] 0) H) :=
  runs_body (D := DT) (f := f_term_Sort) Try.func25 (by kernel_rfl) (by kernel_rfl) (by kernel_rfl) (by kernel_rfl) (by kernel_rfl) (Nat.le_of_ble_eq_true rfl)
def c_eval_bools : LCode := (.seq (.reg [] [⟨some 2, some (.alloc T_eval_meaning), none⟩,
 ⟨some 3, some (.assign (.const (.bool false))), none⟩])
  (.seq (.seq (.reg [] [⟨some 4, some (.move (.tmp 0)), none⟩])
  (.block 0 (.seq (.reg [] [⟨some 6, some (.binOp .eql T_int (.tmp 4) (.const (.int .i64 3)) T_int), none⟩,
 ⟨some 5, some (.assign (.tmp 6)), none⟩])
  (.cond (.tmp 5) (.seq (.reg [] [⟨some 7, some (.call ⟨(.value (.func f_eval_logic)), #[(.func f_eval_bools_1)], #[T_x98]⟩), none⟩,
 ⟨none, some (.store T_eval_meaning (.tmp 2) (.tmp 7)), none⟩,
 ⟨some 3, some (.assign (.const (.bool true))), none⟩])
  .ret)
  (.seq (.reg [] [⟨some 9, some (.binOp .eql T_int (.tmp 4) (.const (.int .i64 4)) T_int), none⟩,
 ⟨some 8, some (.assign (.tmp 9)), none⟩])
  (.cond (.tmp 8) (.seq (.reg [] [⟨some 10, some (.call ⟨(.value (.func f_eval_logic)), #[(.func f_eval_bools_2)], #[T_x98]⟩), none⟩,
 ⟨none, some (.store T_eval_meaning (.tmp 2) (.tmp 10)), none⟩,
 ⟨some 3, some (.assign (.const (.bool true))), none⟩])
  .ret)
  (.seq (.reg [] [⟨some 12, some (.binOp .eql T_int (.tmp 4) (.const (.int .i64 5)) T_int), none⟩,
 ⟨some 11, some (.assign (.tmp 12)), none⟩])
  (.cond (.tmp 11) (.seq (.reg [] [⟨some 13, some (.call ⟨(.value (.func f_eval_logic)), #[(.func f_eval_bools_3)], #[T_x98]⟩), none⟩,
 ⟨none, some (.store T_eval_meaning (.tmp 2) (.tmp 13)), none⟩,
 ⟨some 3, some (.assign (.const (.bool true))), none⟩])
  .ret)
  (.seq (.reg [] [⟨some 15, some (.binOp .eql T_int (.tmp 4) (.const (.int .i64 6)) T_int), none⟩,
 ⟨some 14, some (.assign (.tmp 15)), none⟩])
  (.cond (.tmp 14) (.seq (.reg [] [⟨some 16, some (.call ⟨(.value (.func f_eval_logic)), #[(.func f_eval_bools_4)], #[T_x98]⟩), none⟩,
 ⟨none, some (.store T_eval_meaning (.tmp 2) (.tmp 16)), none⟩,
 ⟨some 3, some (.assign (.const (.bool true))), none⟩])
  .ret)
  (.seq (.reg [] [⟨some 18, some (.binOp .eql T_int (.tmp 4) (.const (.int .i64 7)) T_int), none⟩,
 ⟨some 17, some (.assign (.tmp 18)), none⟩])
  (.cond (.tmp 17) (.seq (.reg [] [⟨some 19, some (.call ⟨(.value (.func f_eval_logic)), #[(.func f_eval_bools_5)], #[T_x98]⟩), none⟩,
 ⟨none, some (.store T_eval_meaning (.tmp 2) (.tmp 19)), none⟩,
 ⟨some 3, some (.assign (.const (.bool true))), none⟩])
  .ret)
  (.seq (.reg [] [⟨some 21, some (.binOp .eql T_int (.tmp 4) (.const (.int .i64 8)) T_int), none⟩,
 ⟨some 20, some (.assign (.tmp 21)), none⟩])
  (.cond (.tmp 20) (.seq (.reg [] [⟨some 22, some (.call ⟨(.value (.func f_eval_logic)), #[(.func f_eval_bools_6)], #[T_x98]⟩), none⟩,
 ⟨none, some (.store T_eval_meaning (.tmp 2) (.tmp 22)), none⟩,
 ⟨some 3, some (.assign (.const (.bool true))), none⟩])
  .ret)
  (.seq (.reg [] [⟨some 24, some (.binOp .eql T_int (.tmp 4) (.const (.int .i64 9)) T_int), none⟩,
 ⟨some 23, some (.assign (.tmp 24)), none⟩])
  (.cond (.tmp 23) (.seq (.reg [] [⟨some 25, some (.build T_eval_meaning #[(0, (.func f_eval_bools_7))]), none⟩,
 ⟨none, some (.store T_eval_meaning (.tmp 2) (.tmp 25)), none⟩,
 ⟨some 3, some (.assign (.const (.bool true))), none⟩])
  .ret)
  .skip))))))))))))))))
  (.seq (.reg [] [⟨some 26, some (.build T_eval_meaning #[]), none⟩,
 ⟨none, some (.store T_eval_meaning (.tmp 2) (.tmp 26)), none⟩,
 ⟨some 3, some (.assign (.const (.bool false))), none⟩])
  .ret)))
theorem e_eval_bools {a0 : AV} {H : AHeap} : R f_eval_bools [a0] H = fnK Try.prog [] H [(.cell 2 T_eval_meaning), (.tmp 3)] (evalL Try.prog KT R c_eval_bools (Env.args [a0] 0) H) :=
  runs_body (D := DT) (f := f_eval_bools) Try.func26 (by kernel_rfl) (by kernel_rfl) (by kernel_rfl) (by kernel_rfl) (by kernel_rfl) (Nat.le_of_ble_eq_true rfl)
def c_eval_words : LCode := (.seq (.reg [] [⟨some 1, some (.box T_int (.tmp 0)), none⟩,
 ⟨some 2, some (.alloc T_eval_meaning), none⟩])
  (.seq (.reg [] [⟨some 3, some (.makeFunc (.func f_eval_words_1) #[] #[.tmp 1]), none⟩,
 ⟨some 4, some (.build T_eval_meaning #[(0, (.tmp 3))]), none⟩,
 ⟨none, some (.store T_eval_meaning (.tmp 2) (.tmp 4)), none⟩])
  .ret))
theorem e_eval_words {a0 : AV} {H : AHeap} : R f_eval_words [a0] H = fnK Try.prog [] H [(.cell 2 T_eval_meaning)] (evalL Try.prog KT R c_eval_words (Env.args [a0] 0) H) :=
  runs_body (D := DT) (f := f_eval_words) Try.func27 (by kernel_rfl) (by kernel_rfl) (by kernel_rfl) (by kernel_rfl) (by kernel_rfl) (Nat.le_of_ble_eq_true rfl)
def c_plaitref3_New : LCode := (.seq (.reg [] [⟨some 2, some (.assign (.const (.pointer none))), none⟩])
  (.seq (.seq (.reg [] [⟨some 3, some (.move (.tmp 0)), none⟩,
 ⟨some 4, some (.binOp .lss T_int (.tmp 3) (.const (.int .i64 1)) T_int), none⟩])
  (.cond (.tmp 4) (.reg [] [⟨some 0, some (.assign (.const (.int .i64 1))), none⟩])
  .skip))
  (.seq (.reg [] [⟨some 5, some (.move (.tmp 0)), none⟩,
 ⟨some 6, some (.call ⟨(.builtin .min), #[(.tmp 5), (.const (.int .i64 4096))], #[T_int, T_int]⟩), none⟩,
 ⟨some 7, some (.build T_plaitref3_Graph #[(1, (.tmp 6))]), none⟩,
 ⟨some 8, some (.box T_plaitref3_Graph (.tmp 7)), none⟩,
 ⟨some 2, some (.assign (.tmp 8)), none⟩])
  .ret)))
theorem e_plaitref3_New {a0 : AV} {H : AHeap} : R f_plaitref3_New [a0] H = fnK Try.prog [] H [(.tmp 2)] (evalL Try.prog KT R c_plaitref3_New (Env.args [a0] 0) H) :=
  runs_body (D := DT) (f := f_plaitref3_New) Try.func28 (by kernel_rfl) (by kernel_rfl) (by kernel_rfl) (by kernel_rfl) (by kernel_rfl) (Nat.le_of_ble_eq_true rfl)
def l_plait_plaitref3_Graph_Make_0 : LCode := (.seq (.seq (.reg [] [⟨some 50, some (.move (.tmp 9)), none⟩,
 ⟨some 51, some (.binOp .lss T_int (.tmp 50) (.const (.int .i64 3)) T_int), none⟩])
  (.cond (.tmp 51) .skip
  (.exit 0)))
  (.seq (.block 1 (.seq (.reg [] [⟨some 55, some (.move (.tmp 0)), none⟩,
 ⟨some 56, some (.move (.tmp 7)), none⟩,
 ⟨some 57, some (.move (.tmp 9)), none⟩,
 ⟨some 58, some (.indexAddr T_s_int (.tmp 56) (.tmp 57)), none⟩,
 ⟨some 59, some (.load T_int (.tmp 58)), none⟩,
 ⟨some 60, some (.call ⟨(.value (.func f_plait_plaitref3_Graph_At)), #[.tmp 55, .tmp 59], #[T_p_plaitref3_Graph, T_int]⟩), none⟩,
 ⟨some 54, some (.move (.tmp 60)), none⟩,
 ⟨some 61, some (.extract (.tmp 54) 0), none⟩,
 ⟨some 62, some (.extract (.tmp 54) 1), none⟩,
 ⟨some 10, some (.alloc T_api_Node), none⟩,
 ⟨none, some (.store T_api_Node (.tmp 10) (.tmp 61)), none⟩,
 ⟨some 11, some (.assign (.tmp 62)), none⟩])
  (.seq (.seq (.reg [] [⟨some 63, some (.move (.tmp 9)), none⟩,
 ⟨some 64, some (.move (.tmp 6)), none⟩,
 ⟨some 65, some (.binOp .lss T_int (.tmp 63) (.tmp 64) T_int), none⟩,
 ⟨some 66, some (.move (.tmp 65)), none⟩,
 ⟨some 67, some (.move (.tmp 11)), some (some 66, true)⟩,
 ⟨some 68, some (.unOp .not T_bool (.tmp 67)), some (some 66, true)⟩,
 ⟨some 69, some (.pick (.tmp 66) (.tmp 68) (.const (.bool false))), none⟩,
 ⟨some 70, some (.move (.tmp 69)), none⟩,
 ⟨some 71, some (.move (.tmp 9)), some (some 70, false)⟩,
 ⟨some 72, some (.move (.tmp 6)), some (some 70, false)⟩,
 ⟨some 73, some (.binOp .geq T_int (.tmp 71) (.tmp 72) T_int), some (some 70, false)⟩,
 ⟨some 74, some (.move (.tmp 73)), some (some 70, false)⟩,
 ⟨some 75, some (.move (.tmp 7)), some (some 74, true)⟩,
 ⟨some 76, some (.move (.tmp 9)), some (some 74, true)⟩,
 ⟨some 77, some (.indexAddr T_s_int (.tmp 75) (.tmp 76)), some (some 74, true)⟩,
 ⟨some 78, some (.load T_int (.tmp 77)), some (some 74, true)⟩,
 ⟨some 79, some (.binOp .neq T_int (.tmp 78) (.const (.int .i64 0)) T_int), some (some 74, true)⟩,
 ⟨some 80, some (.pick (.tmp 74) (.tmp 79) (.const (.bool false))), some (some 70, false)⟩,
 ⟨some 81, some (.pick (.tmp 70) (.const (.bool true)) (.tmp 80)), none⟩])
  (.cond (.tmp 81) (.seq (.reg [] [⟨some 4, some (.assign (.const (.int .i64 0))), none⟩,
 ⟨some 5, some (.assign (.const (.int .i64 32))), none⟩])
  .ret)
  .skip))
  (.seq (.reg [] [⟨some 82, some (.move (.tmp 9)), none⟩,
 ⟨some 83, some (.move (.tmp 6)), none⟩,
 ⟨some 84, some (.binOp .lss T_int (.tmp 82) (.tmp 83) T_int), none⟩])
  (.cond (.tmp 84) (.reg [] [⟨some 85, some (.move (.tmp 8)), none⟩,
 ⟨some 86, some (.fieldAddr T_api_Node (.tmp 10) 1), none⟩,
 ⟨some 87, some (.load T_int (.tmp 86)), none⟩,
 ⟨some 88, some (.buildSlice T_s_int 1 #[(0, (.tmp 87))]), none⟩,
 ⟨some 89, some (.call ⟨(.builtin .append), #[.tmp 85, .tmp 88], #[T_s_int, T_s_int]⟩), none⟩,
 ⟨some 8, some (.assign (.tmp 89)), none⟩])
  .skip)))))
  (.reg [] [⟨some 52, some (.move (.tmp 9)), none⟩,
 ⟨some 53, some (.binOp .add T_int (.tmp 52) (.const (.int .i64 1)) T_int), none⟩,
 ⟨some 9, some (.assign (.tmp 53)), none⟩])))
def l_plait_plaitref3_Graph_Make_1 : LCode := (.seq (.seq (.reg [] [⟨some 175, some (.move (.tmp 16)), none⟩,
 ⟨some 176, some (.move (.tmp 0)), none⟩,
 ⟨some 177, some (.nilCheck (.tmp 176)), none⟩,
 ⟨some 178, some (.fieldAddr T_plaitref3_Graph (.tmp 177) 0), none⟩,
 ⟨some 179, some (.load T_s_api_Node (.tmp 178)), none⟩,
 ⟨some 180, some (.call ⟨(.builtin .len), #[.tmp 179], #[T_s_api_Node]⟩), none⟩,
 ⟨some 181, some (.binOp .lss T_int (.tmp 175) (.tmp 180) T_int), none⟩])
  (.cond (.tmp 181) .skip
  (.exit 3)))
  (.seq (.block 4 (.seq (.reg [] [⟨some 184, some (.move (.tmp 0)), none⟩,
 ⟨some 185, some (.nilCheck (.tmp 184)), none⟩,
 ⟨some 186, some (.fieldAddr T_plaitref3_Graph (.tmp 185) 0), none⟩,
 ⟨some 187, some (.load T_s_api_Node (.tmp 186)), none⟩,
 ⟨some 188, some (.move (.tmp 16)), none⟩,
 ⟨some 189, some (.indexAddr T_s_api_Node (.tmp 187) (.tmp 188)), none⟩,
 ⟨some 190, some (.load T_api_Node (.tmp 189)), none⟩,
 ⟨some 191, some (.load T_api_Node (.tmp 3)), none⟩,
 ⟨some 192, some (.binOp .eql T_api_Node (.tmp 190) (.tmp 191) T_api_Node), none⟩])
  (.cond (.tmp 192) (.seq (.reg [] [⟨some 193, some (.move (.tmp 16)), none⟩,
 ⟨some 194, some (.binOp .add T_int (.tmp 193) (.const (.int .i64 1)) T_int), none⟩,
 ⟨some 4, some (.assign (.tmp 194)), none⟩,
 ⟨some 5, some (.assign (.const (.int .i64 0))), none⟩])
  .ret)
  .skip)))
  (.reg [] [⟨some 182, some (.move (.tmp 16)), none⟩,
 ⟨some 183, some (.binOp .add T_int (.tmp 182) (.const (.int .i64 1)) T_int), none⟩,
 ⟨some 16, some (.assign (.tmp 183)), none⟩])))
@[simp] theorem d_l_plait_plaitref3_Graph_Make_0 : defs l_plait_plaitref3_Graph_Make_0 = [50, 51, 55, 56, 57, 58, 59, 60, 54, 61, 62, 10, 11, 63, 64, 65, 66, 67, 68, 69, 70, 71, 72, 73, 74, 75, 76, 77, 78, 79, 80, 81, 4, 5, 82, 83, 84, 85, 86, 87, 88, 89, 8, 52, 53, 9] := by rfl
@[simp] theorem d_l_plait_plaitref3_Graph_Make_1 : defs l_plait_plaitref3_Graph_Make_1 = [175, 176, 177, 178, 179, 180, 181, 184, 185, 186, 187, 188, 189, 190, 191, 192, 193, 194, 4, 5, 182, 183, 16] := by rfl
def c_plait_plaitref3_Graph_Make : LCode := (.seq (.reg [] [⟨some 3, some (.box T_api_Node (.tmp 1)), none⟩,
 ⟨some 4, some (.assign (.const (.int .i64 0))), none⟩,
 ⟨some 5, some (.assign (.const (.int .i64 0))), none⟩])
  (.seq (.reg [] [⟨some 17, some (.fieldAddr T_api_Node (.tmp 3) 0), none⟩,
 ⟨some 18, some (.load T_int (.tmp 17)), none⟩,
 ⟨some 19, some (.call ⟨(.value (.func f_plaitref3_Arity)), #[.tmp 18], #[T_int]⟩), none⟩,
 ⟨some 6, some (.assign (.tmp 19)), none⟩])
  (.seq (.reg [] [⟨some 20, some (.fieldAddr T_api_Node (.tmp 3) 2), none⟩,
 ⟨some 21, some (.load T_int (.tmp 20)), none⟩,
 ⟨some 22, some (.fieldAddr T_api_Node (.tmp 3) 3), none⟩,
 ⟨some 23, some (.load T_int (.tmp 22)), none⟩,
 ⟨some 24, some (.fieldAddr T_api_Node (.tmp 3) 4), none⟩,
 ⟨some 25, some (.load T_int (.tmp 24)), none⟩,
 ⟨some 26, some (.buildSlice T_s_int 3 #[(0, (.tmp 21)), (1, (.tmp 23)), (2, (.tmp 25))]), none⟩,
 ⟨some 7, some (.assign (.tmp 26)), none⟩])
  (.seq (.seq (.reg [] [⟨some 27, some (.move (.tmp 6)), none⟩,
 ⟨some 28, some (.binOp .lss T_int (.tmp 27) (.const (.int .i64 0)) T_int), none⟩,
 ⟨some 29, some (.move (.tmp 28)), none⟩,
 ⟨some 30, some (.fieldAddr T_api_Node (.tmp 3) 0), some (some 29, false)⟩,
 ⟨some 31, some (.load T_int (.tmp 30)), some (some 29, false)⟩,
 ⟨some 32, some (.binOp .neq T_int (.tmp 31) (.const (.int .i64 1)) T_int), some (some 29, false)⟩,
 ⟨some 33, some (.move (.tmp 32)), some (some 29, false)⟩,
 ⟨some 34, some (.fieldAddr T_api_Node (.tmp 3) 7), some (some 33, true)⟩,
 ⟨some 35, some (.load T_api_Bits (.tmp 34)), some (some 33, true)⟩,
 ⟨some 36, some (.build T_api_Bits #[]), some (some 33, true)⟩,
 ⟨some 37, some (.binOp .neq T_api_Bits (.tmp 35) (.tmp 36) T_api_Bits), some (some 33, true)⟩,
 ⟨some 38, some (.pick (.tmp 33) (.tmp 37) (.const (.bool false))), some (some 29, false)⟩,
 ⟨some 39, some (.pick (.tmp 29) (.const (.bool true)) (.tmp 38)), none⟩,
 ⟨some 40, some (.move (.tmp 39)), none⟩,
 ⟨some 41, some (.fieldAddr T_api_Node (.tmp 3) 0), some (some 40, false)⟩,
 ⟨some 42, some (.load T_int (.tmp 41)), some (some 40, false)⟩,
 ⟨some 43, some (.binOp .neq T_int (.tmp 42) (.const (.int .i64 2)) T_int), some (some 40, false)⟩,
 ⟨some 44, some (.move (.tmp 43)), some (some 40, false)⟩,
 ⟨some 45, some (.fieldAddr T_api_Node (.tmp 3) 8), some (some 44, true)⟩,
 ⟨some 46, some (.load T_string (.tmp 45)), some (some 44, true)⟩,
 ⟨some 47, some (.binOp .neq T_string (.tmp 46) (.const (.string { data := #[] })) T_string), some (some 44, true)⟩,
 ⟨some 48, some (.pick (.tmp 44) (.tmp 47) (.const (.bool false))), some (some 40, false)⟩,
 ⟨some 49, some (.pick (.tmp 40) (.const (.bool true)) (.tmp 48)), none⟩])
  (.cond (.tmp 49) (.seq (.reg [] [⟨some 4, some (.assign (.const (.int .i64 0))), none⟩,
 ⟨some 5, some (.assign (.const (.int .i64 32))), none⟩])
  .ret)
  .skip))
  (.seq (.reg [] [⟨some 8, some (.assign (.const (.slice none 0 0))), none⟩])
  (.seq (.seq (.reg [] [⟨some 9, some (.assign (.const (.int .i64 0))), none⟩])
  (.block 0 (.loop l_plait_plaitref3_Graph_Make_0)))
  (.seq (.seq (.reg [] [⟨some 90, some (.fieldAddr T_api_Node (.tmp 3) 0), none⟩,
 ⟨some 91, some (.load T_int (.tmp 90)), none⟩])
  (.block 2 (.seq (.reg [] [⟨some 109, some (.binOp .eql T_int (.tmp 91) (.const (.int .i64 1)) T_int), none⟩,
 ⟨some 108, some (.assign (.tmp 109)), none⟩])
  (.cond (.tmp 108) (.seq (.reg [] [⟨some 110, some (.fieldAddr T_api_Node (.tmp 3) 7), none⟩,
 ⟨some 111, some (.load T_api_Bits (.tmp 110)), none⟩,
 ⟨some 112, some (.call ⟨(.value (.func f_plaitref1_Right)), #[.tmp 111], #[T_api_Bits]⟩), none⟩,
 ⟨some 113, some (.unOp .not T_bool (.tmp 112)), none⟩,
 ⟨some 114, some (.move (.tmp 113)), none⟩,
 ⟨some 115, some (.fieldAddr T_api_Node (.tmp 3) 7), some (some 114, false)⟩,
 ⟨some 116, some (.fieldAddr T_api_Bits (.tmp 115) 0), some (some 114, false)⟩,
 ⟨some 117, some (.load T_int (.tmp 116)), some (some 114, false)⟩,
 ⟨some 118, some (.fieldAddr T_api_Node (.tmp 3) 1), some (some 114, false)⟩,
 ⟨some 119, some (.load T_int (.tmp 118)), some (some 114, false)⟩,
 ⟨some 120, some (.binOp .neq T_int (.tmp 117) (.tmp 119) T_int), some (some 114, false)⟩,
 ⟨some 121, some (.pick (.tmp 114) (.const (.bool true)) (.tmp 120)), none⟩,
 ⟨some 122, some (.move (.tmp 121)), none⟩,
 ⟨some 123, some (.fieldAddr T_api_Node (.tmp 3) 5), some (some 122, false)⟩,
 ⟨some 124, some (.load T_int (.tmp 123)), some (some 122, false)⟩,
 ⟨some 125, some (.binOp .neq T_int (.tmp 124) (.const (.int .i64 0)) T_int), some (some 122, false)⟩,
 ⟨some 126, some (.pick (.tmp 122) (.const (.bool true)) (.tmp 125)), none⟩,
 ⟨some 127, some (.move (.tmp 126)), none⟩,
 ⟨some 128, some (.fieldAddr T_api_Node (.tmp 3) 6), some (some 127, false)⟩,
 ⟨some 129, some (.load T_int (.tmp 128)), some (some 127, false)⟩,
 ⟨some 130, some (.binOp .neq T_int (.tmp 129) (.const (.int .i64 0)) T_int), some (some 127, false)⟩,
 ⟨some 131, some (.pick (.tmp 127) (.const (.bool true)) (.tmp 130)), none⟩])
  (.cond (.tmp 131) (.seq (.reg [] [⟨some 4, some (.assign (.const (.int .i64 0))), none⟩,
 ⟨some 5, some (.assign (.const (.int .i64 30))), none⟩])
  .ret)
  .skip))
  (.seq (.reg [] [⟨some 133, some (.binOp .eql T_int (.tmp 91) (.const (.int .i64 2)) T_int), none⟩,
 ⟨some 132, some (.assign (.tmp 133)), none⟩])
  (.cond (.tmp 132) (.seq (.seq (.reg [] [⟨some 134, some (.fieldAddr T_api_Node (.tmp 3) 1), none⟩,
 ⟨some 135, some (.load T_int (.tmp 134)), none⟩,
 ⟨some 136, some (.call ⟨(.value (.func f_plaitref3_Is)), #[.tmp 135], #[T_int]⟩), none⟩,
 ⟨some 137, some (.unOp .not T_bool (.tmp 136)), none⟩,
 ⟨some 138, some (.move (.tmp 137)), none⟩,
 ⟨some 139, some (.fieldAddr T_api_Node (.tmp 3) 5), some (some 138, false)⟩,
 ⟨some 140, some (.load T_int (.tmp 139)), some (some 138, false)⟩,
 ⟨some 141, some (.binOp .neq T_int (.tmp 140) (.const (.int .i64 0)) T_int), some (some 138, false)⟩,
 ⟨some 142, some (.pick (.tmp 138) (.const (.bool true)) (.tmp 141)), none⟩,
 ⟨some 143, some (.move (.tmp 142)), none⟩,
 ⟨some 144, some (.fieldAddr T_api_Node (.tmp 3) 6), some (some 143, false)⟩,
 ⟨some 145, some (.load T_int (.tmp 144)), some (some 143, false)⟩,
 ⟨some 146, some (.binOp .neq T_int (.tmp 145) (.const (.int .i64 0)) T_int), some (some 143, false)⟩,
 ⟨some 147, some (.pick (.tmp 143) (.const (.bool true)) (.tmp 146)), none⟩])
  (.cond (.tmp 147) (.seq (.reg [] [⟨some 4, some (.assign (.const (.int .i64 0))), none⟩,
 ⟨some 5, some (.assign (.const (.int .i64 30))), none⟩])
  .ret)
  .skip))
  (.seq (.reg [] [⟨some 149, some (.move (.tmp 0)), none⟩,
 ⟨some 150, some (.fieldAddr T_api_Node (.tmp 3) 8), none⟩,
 ⟨some 151, some (.load T_string (.tmp 150)), none⟩,
 ⟨some 152, some (.call ⟨(.value (.func f_plait_plaitref3_Graph_Var)), #[.tmp 149, .tmp 151], #[T_p_plaitref3_Graph, T_string]⟩), none⟩,
 ⟨some 148, some (.move (.tmp 152)), none⟩,
 ⟨some 153, some (.extract (.tmp 148) 0), none⟩,
 ⟨some 154, some (.extract (.tmp 148) 1), none⟩,
 ⟨some 12, some (.assign (.tmp 153)), none⟩,
 ⟨some 13, some (.assign (.tmp 154)), none⟩])
  (.seq (.reg [] [⟨some 155, some (.fieldAddr T_api_Node (.tmp 3) 8), none⟩,
 ⟨some 156, some (.load T_string (.tmp 155)), none⟩,
 ⟨some 157, some (.binOp .eql T_string (.tmp 156) (.const (.string { data := #[] })) T_string), none⟩,
 ⟨some 158, some (.move (.tmp 157)), none⟩,
 ⟨some 159, some (.move (.tmp 13)), some (some 158, false)⟩,
 ⟨some 160, some (.move (.tmp 159)), some (some 158, false)⟩,
 ⟨some 161, some (.move (.tmp 0)), some (some 160, true)⟩,
 ⟨some 162, some (.nilCheck (.tmp 161)), some (some 160, true)⟩,
 ⟨some 163, some (.fieldAddr T_plaitref3_Graph (.tmp 162) 0), some (some 160, true)⟩,
 ⟨some 164, some (.load T_s_api_Node (.tmp 163)), some (some 160, true)⟩,
 ⟨some 165, some (.move (.tmp 12)), some (some 160, true)⟩,
 ⟨some 166, some (.binOp .sub T_int (.tmp 165) (.const (.int .i64 1)) T_int), some (some 160, true)⟩,
 ⟨some 167, some (.indexAddr T_s_api_Node (.tmp 164) (.tmp 166)), some (some 160, true)⟩,
 ⟨some 168, some (.fieldAddr T_api_Node (.tmp 167) 1), some (some 160, true)⟩,
 ⟨some 169, some (.load T_int (.tmp 168)), some (some 160, true)⟩,
 ⟨some 170, some (.fieldAddr T_api_Node (.tmp 3) 1), some (some 160, true)⟩,
 ⟨some 171, some (.load T_int (.tmp 170)), some (some 160, true)⟩,
 ⟨some 172, some (.binOp .neq T_int (.tmp 169) (.tmp 171) T_int), some (some 160, true)⟩,
 ⟨some 173, some (.pick (.tmp 160) (.tmp 172) (.const (.bool false))), some (some 158, false)⟩,
 ⟨some 174, some (.pick (.tmp 158) (.const (.bool true)) (.tmp 173)), none⟩])
  (.cond (.tmp 174) (.seq (.reg [] [⟨some 4, some (.assign (.const (.int .i64 0))), none⟩,
 ⟨some 5, some (.assign (.const (.int .i64 34))), none⟩])
  .ret)
  .skip))))
  (.seq (.reg [] [⟨some 93, some (.fieldAddr T_api_Node (.tmp 3) 0), none⟩,
 ⟨some 94, some (.load T_int (.tmp 93)), none⟩,
 ⟨some 95, some (.fieldAddr T_api_Node (.tmp 3) 5), none⟩,
 ⟨some 96, some (.load T_int (.tmp 95)), none⟩,
 ⟨some 97, some (.fieldAddr T_api_Node (.tmp 3) 6), none⟩,
 ⟨some 98, some (.load T_int (.tmp 97)), none⟩,
 ⟨some 99, some (.move (.tmp 8)), none⟩,
 ⟨some 100, some (.call ⟨(.value (.func f_plaitref3_Sort)), #[.tmp 94, .tmp 96, .tmp 98, .tmp 99], #[T_int, T_int, T_int, T_s_int]⟩), none⟩,
 ⟨some 92, some (.move (.tmp 100)), none⟩,
 ⟨some 101, some (.extract (.tmp 92) 0), none⟩,
 ⟨some 102, some (.extract (.tmp 92) 1), none⟩,
 ⟨some 14, some (.assign (.tmp 101)), none⟩,
 ⟨some 15, some (.assign (.tmp 102)), none⟩])
  (.seq (.seq (.reg [] [⟨some 103, some (.move (.tmp 15)), none⟩,
 ⟨some 104, some (.binOp .neq T_int (.tmp 103) (.const (.int .i64 0)) T_int), none⟩])
  (.cond (.tmp 104) (.seq (.reg [] [⟨some 105, some (.move (.tmp 15)), none⟩,
 ⟨some 4, some (.assign (.const (.int .i64 0))), none⟩,
 ⟨some 5, some (.assign (.tmp 105)), none⟩])
  .ret)
  .skip))
  (.reg [] [⟨some 106, some (.move (.tmp 14)), none⟩,
 ⟨some 107, some (.fieldAddr T_api_Node (.tmp 3) 1), none⟩,
 ⟨none, some (.store T_int (.tmp 107) (.tmp 106)), none⟩])))))))))
  (.seq (.seq (.reg [] [⟨some 16, some (.assign (.const (.int .i64 0))), none⟩])
  (.block 3 (.loop l_plait_plaitref3_Graph_Make_1)))
  (.seq (.seq (.reg [] [⟨some 195, some (.move (.tmp 0)), none⟩,
 ⟨some 196, some (.nilCheck (.tmp 195)), none⟩,
 ⟨some 197, some (.fieldAddr T_plaitref3_Graph (.tmp 196) 0), none⟩,
 ⟨some 198, some (.load T_s_api_Node (.tmp 197)), none⟩,
 ⟨some 199, some (.call ⟨(.builtin .len), #[.tmp 198], #[T_s_api_Node]⟩), none⟩,
 ⟨some 200, some (.move (.tmp 0)), none⟩,
 ⟨some 201, some (.nilCheck (.tmp 200)), none⟩,
 ⟨some 202, some (.fieldAddr T_plaitref3_Graph (.tmp 201) 1), none⟩,
 ⟨some 203, some (.load T_int (.tmp 202)), none⟩,
 ⟨some 204, some (.binOp .geq T_int (.tmp 199) (.tmp 203) T_int), none⟩])
  (.cond (.tmp 204) (.seq (.reg [] [⟨some 4, some (.assign (.const (.int .i64 0))), none⟩,
 ⟨some 5, some (.assign (.const (.int .i64 33))), none⟩])
  .ret)
  .skip))
  (.seq (.reg [] [⟨some 205, some (.move (.tmp 0)), none⟩,
 ⟨some 206, some (.move (.tmp 0)), none⟩,
 ⟨some 207, some (.nilCheck (.tmp 206)), none⟩,
 ⟨some 208, some (.fieldAddr T_plaitref3_Graph (.tmp 207) 0), none⟩,
 ⟨some 209, some (.load T_s_api_Node (.tmp 208)), none⟩,
 ⟨some 210, some (.load T_api_Node (.tmp 3)), none⟩,
 ⟨some 211, some (.buildSlice T_s_api_Node 1 #[(0, (.tmp 210))]), none⟩,
 ⟨some 212, some (.call ⟨(.builtin .append), #[.tmp 209, .tmp 211], #[T_s_api_Node, T_s_api_Node]⟩), none⟩,
 ⟨some 213, some (.nilCheck (.tmp 205)), none⟩,
 ⟨some 214, some (.fieldAddr T_plaitref3_Graph (.tmp 213) 0), none⟩,
 ⟨none, some (.store T_s_api_Node (.tmp 214) (.tmp 212)), none⟩])
  (.seq (.reg [] [⟨some 215, some (.move (.tmp 0)), none⟩,
 ⟨some 216, some (.nilCheck (.tmp 215)), none⟩,
 ⟨some 217, some (.fieldAddr T_plaitref3_Graph (.tmp 216) 0), none⟩,
 ⟨some 218, some (.load T_s_api_Node (.tmp 217)), none⟩,
 ⟨some 219, some (.call ⟨(.builtin .len), #[.tmp 218], #[T_s_api_Node]⟩), none⟩,
 ⟨some 4, some (.assign (.tmp 219)), none⟩,
 ⟨some 5, some (.assign (.const (.int .i64 0))), none⟩])
  .ret)))))))))))
theorem e_plait_plaitref3_Graph_Make {a0 a1 : AV} {H : AHeap} : R f_plait_plaitref3_Graph_Make [a0, a1] H = fnK Try.prog [] H [(.tmp 4), (.tmp 5)] (evalL Try.prog KT R c_plait_plaitref3_Graph_Make (Env.args [a0, a1] 0) H) :=
  runs_body (D := DT) (f := f_plait_plaitref3_Graph_Make) Try.func29 (by kernel_rfl) (by kernel_rfl) (by kernel_rfl) (by kernel_rfl) (by kernel_rfl) (Nat.le_of_ble_eq_true rfl)
def l_eval_known_0 : LCode := (.seq (.reg [] [⟨some 12, some (.binOp .lss T_int (.tmp 11) (.tmp 10) T_int), none⟩])
  (.seq (.cond (.tmp 12) .skip
  (.exit 0))
  (.seq (.block 1 (.seq (.reg [] [⟨some 13, some (.indexAddr T_s_api_Named (.tmp 9) (.tmp 11)), none⟩,
 ⟨some 14, some (.load T_api_Named (.tmp 13)), none⟩,
 ⟨some 5, some (.alloc T_api_Named), none⟩,
 ⟨none, some (.store T_api_Named (.tmp 5) (.tmp 14)), none⟩])
  (.seq (.reg [] [⟨some 16, some (.move (.tmp 3)), none⟩,
 ⟨some 17, some (.fieldAddr T_api_Named (.tmp 5) 0), none⟩,
 ⟨some 18, some (.load T_string (.tmp 17)), none⟩,
 ⟨some 19, some (.lookup T_m_string_api_Bits (.tmp 16) (.tmp 18) true), none⟩,
 ⟨some 15, some (.move (.tmp 19)), none⟩,
 ⟨some 20, some (.extract (.tmp 15) 0), none⟩,
 ⟨some 21, some (.extract (.tmp 15) 1), none⟩,
 ⟨some 6, some (.alloc T_api_Bits), none⟩,
 ⟨none, some (.store T_api_Bits (.tmp 6) (.tmp 20)), none⟩,
 ⟨some 7, some (.assign (.tmp 21)), none⟩])
  (.seq (.reg [] [⟨some 22, some (.move (.tmp 7)), none⟩,
 ⟨some 23, some (.unOp .not T_bool (.tmp 22)), none⟩])
  (.cond (.tmp 23) (.reg [] [⟨some 24, some (.move (.tmp 3)), none⟩,
 ⟨some 25, some (.fieldAddr T_api_Named (.tmp 5) 0), none⟩,
 ⟨some 26, some (.load T_string (.tmp 25)), none⟩,
 ⟨some 27, some (.fieldAddr T_api_Named (.tmp 5) 1), none⟩,
 ⟨some 28, some (.load T_api_Bits (.tmp 27)), none⟩,
 ⟨none, some (.mapUpdate T_m_string_api_Bits (.tmp 24) (.tmp 26) (.tmp 28)), none⟩])
  .skip)))))
  (.reg [] [⟨some 29, some (.binOp .add T_int (.tmp 11) (.const (.int .i64 1)) T_int), none⟩,
 ⟨some 11, some (.move (.tmp 29)), none⟩]))))
@[simp] theorem d_l_eval_known_0 : defs l_eval_known_0 = [12, 13, 14, 5, 16, 17, 18, 19, 15, 20, 21, 6, 7, 22, 23, 24, 25, 26, 27, 28, 29, 11] := by rfl
def c_eval_known : LCode := (.seq (.reg [] [⟨some 2, some (.assign (.const (.map none))), none⟩])
  (.seq (.reg [] [⟨some 8, some (.makeMap T_m_string_api_Bits none), none⟩,
 ⟨some 3, some (.assign (.tmp 8)), none⟩])
  (.seq (.seq (.reg [] [⟨some 9, some (.move (.tmp 0)), none⟩,
 ⟨some 10, some (.call ⟨(.builtin .len), #[.tmp 9], #[T_s_api_Named]⟩), none⟩,
 ⟨some 11, some (.move (.const (.int .i64 0))), none⟩])
  (.block 0 (.loop l_eval_known_0)))
  (.seq (.reg [] [⟨some 30, some (.move (.tmp 3)), none⟩,
 ⟨some 2, some (.assign (.tmp 30)), none⟩])
  .ret))))
theorem e_eval_known {a0 : AV} {H : AHeap} : R f_eval_known [a0] H = fnK Try.prog [] H [(.tmp 2)] (evalL Try.prog KT R c_eval_known (Env.args [a0] 0) H) :=
  runs_body (D := DT) (f := f_eval_known) Try.func30 (by kernel_rfl) (by kernel_rfl) (by kernel_rfl) (by kernel_rfl) (by kernel_rfl) (Nat.le_of_ble_eq_true rfl)
def l_plait_term_Graph_Vars_0 : LCode := (.seq (.reg [] [⟨some 12, some (.binOp .lss T_int (.tmp 11) (.tmp 10) T_int), none⟩])
  (.seq (.cond (.tmp 12) .skip
  (.exit 0))
  (.seq (.block 1 (.seq (.reg [] [⟨some 13, some (.move (.tmp 11)), none⟩,
 ⟨some 14, some (.indexAddr T_s_api_Node (.tmp 9) (.tmp 11)), none⟩,
 ⟨some 15, some (.load T_api_Node (.tmp 14)), none⟩,
 ⟨some 5, some (.alloc T_api_Node), none⟩,
 ⟨some 4, some (.assign (.tmp 13)), none⟩,
 ⟨none, some (.store T_api_Node (.tmp 5) (.tmp 15)), none⟩])
  (.seq (.reg [] [⟨some 16, some (.fieldAddr T_api_Node (.tmp 5) 0), none⟩,
 ⟨some 17, some (.load T_int (.tmp 16)), none⟩,
 ⟨some 18, some (.binOp .eql T_int (.tmp 17) (.const (.int .i64 2)) T_int), none⟩])
  (.cond (.tmp 18) (.reg [] [⟨some 19, some (.move (.tmp 3)), none⟩,
 ⟨some 20, some (.move (.tmp 4)), none⟩,
 ⟨some 21, some (.binOp .add T_int (.tmp 20) (.const (.int .i64 1)) T_int), none⟩,
 ⟨some 22, some (.buildSlice T_s_int 1 #[(0, (.tmp 21))]), none⟩,
 ⟨some 23, some (.call ⟨(.builtin .append), #[.tmp 19, .tmp 22], #[T_s_int, T_s_int]⟩), none⟩,
 ⟨some 3, some (.assign (.tmp 23)), none⟩])
  .skip))))
  (.reg [] [⟨some 24, some (.binOp .add T_int (.tmp 11) (.const (.int .i64 1)) T_int), none⟩,
 ⟨some 11, some (.move (.tmp 24)), none⟩]))))
@[simp] theorem d_l_plait_term_Graph_Vars_0 : defs l_plait_term_Graph_Vars_0 = [12, 13, 14, 15, 5, 4, 16, 17, 18, 19, 20, 21, 22, 23, 3, 24, 11] := by rfl
def c_plait_term_Graph_Vars : LCode := (.seq (.reg [] [⟨some 2, some (.assign (.const (.slice none 0 0))), none⟩])
  (.seq (.reg [] [⟨some 3, some (.assign (.const (.slice none 0 0))), none⟩])
  (.seq (.seq (.reg [] [⟨some 6, some (.move (.tmp 0)), none⟩,
 ⟨some 7, some (.nilCheck (.tmp 6)), none⟩,
 ⟨some 8, some (.fieldAddr T_term_Graph (.tmp 7) 1), none⟩,
 ⟨some 9, some (.load T_s_api_Node (.tmp 8)), none⟩,
 ⟨some 10, some (.call ⟨(.builtin .len), #[.tmp 9], #[T_s_api_Node]⟩), none⟩,
 ⟨some 11, some (.move (.const (.int .i64 0))), none⟩])
  (.block 0 (.loop l_plait_term_Graph_Vars_0)))
  (.seq (.reg [] [⟨some 25, some (.move (.tmp 3)), none⟩,
 ⟨some 2, some (.assign (.tmp 25)), none⟩])
  .ret))))
theorem e_plait_term_Graph_Vars {a0 : AV} {H : AHeap} : R f_plait_term_Graph_Vars [a0] H = fnK Try.prog [0] H [(.tmp 2)] (evalL Try.prog KT R c_plait_term_Graph_Vars (Env.args [a0] 0) H) :=
  runs_body (D := DT) (f := f_plait_term_Graph_Vars) Try.func31 (by kernel_rfl) (by kernel_rfl) (by kernel_rfl) (by kernel_rfl) (by kernel_rfl) (Nat.le_of_ble_eq_true rfl)
def c_eval_fits : LCode := (.seq (.reg [] [⟨some 2, some (.box T_api_Bits (.tmp 0)), none⟩,
 ⟨some 4, some (.assign (.const (.bool false))), none⟩])
  (.seq (.reg [] [⟨some 5, some (.load T_api_Bits (.tmp 2)), none⟩,
 ⟨some 6, some (.call ⟨(.value (.func f_bv_Right)), #[.tmp 5], #[T_api_Bits]⟩), none⟩,
 ⟨some 7, some (.move (.tmp 6)), none⟩,
 ⟨some 8, some (.fieldAddr T_api_Bits (.tmp 2) 0), some (some 7, true)⟩,
 ⟨some 9, some (.load T_int (.tmp 8)), some (some 7, true)⟩,
 ⟨some 10, some (.move (.tmp 1)), some (some 7, true)⟩,
 ⟨some 11, some (.binOp .eql T_int (.tmp 9) (.tmp 10) T_int), some (some 7, true)⟩,
 ⟨some 12, some (.pick (.tmp 7) (.tmp 11) (.const (.bool false))), none⟩,
 ⟨some 4, some (.assign (.tmp 12)), none⟩])
  .ret))
theorem e_eval_fits {a0 a1 : AV} {H : AHeap} : R f_eval_fits [a0, a1] H = fnK Try.prog [] H [(.tmp 4)] (evalL Try.prog KT R c_eval_fits (Env.args [a0, a1] 0) H) :=
  runs_body (D := DT) (f := f_eval_fits) Try.func32 (by kernel_rfl) (by kernel_rfl) (by kernel_rfl) (by kernel_rfl) (by kernel_rfl) (Nat.le_of_ble_eq_true rfl)
def l_eval_worth_0 : LCode := (.seq (.reg [] [⟨some 35, some (.binOp .lss T_int (.tmp 34) (.tmp 33) T_int), none⟩])
  (.seq (.cond (.tmp 35) .skip
  (.exit 0))
  (.seq (.block 1 (.seq (.reg [] [⟨some 36, some (.indexAddr T_s_int (.tmp 32) (.tmp 34)), none⟩,
 ⟨some 37, some (.load T_int (.tmp 36)), none⟩,
 ⟨some 12, some (.assign (.tmp 37)), none⟩])
  (.seq (.reg [] [⟨some 39, some (.move (.tmp 0)), none⟩,
 ⟨some 40, some (.move (.tmp 12)), none⟩,
 ⟨some 41, some (.call ⟨(.value (.func f_plait_term_Graph_Node)), #[.tmp 39, .tmp 40], #[T_p_term_Graph, T_int]⟩), none⟩,
 ⟨some 38, some (.move (.tmp 41)), none⟩,
 ⟨some 42, some (.extract (.tmp 38) 0), none⟩,
 ⟨some 43, some (.extract (.tmp 38) 1), none⟩,
 ⟨some 13, some (.alloc T_api_Node), none⟩,
 ⟨none, some (.store T_api_Node (.tmp 13) (.tmp 42)), none⟩,
 ⟨some 14, some (.assign (.tmp 43)), none⟩])
  (.seq (.reg [] [⟨some 44, some (.fieldAddr T_api_Node (.tmp 13) 0), none⟩,
 ⟨some 45, some (.load T_int (.tmp 44)), none⟩])
  (.block 2 (.seq (.reg [] [⟨some 82, some (.binOp .eql T_int (.tmp 45) (.const (.int .i64 1)) T_int), none⟩,
 ⟨some 81, some (.assign (.tmp 82)), none⟩])
  (.cond (.tmp 81) (.reg [] [⟨some 83, some (.move (.tmp 10)), none⟩,
 ⟨some 84, some (.move (.tmp 12)), none⟩,
 ⟨some 85, some (.fieldAddr T_api_Node (.tmp 13) 7), none⟩,
 ⟨some 86, some (.load T_api_Bits (.tmp 85)), none⟩,
 ⟨none, some (.mapUpdate T_m_int_api_Bits (.tmp 83) (.tmp 84) (.tmp 86)), none⟩])
  (.seq (.reg [] [⟨some 88, some (.binOp .eql T_int (.tmp 45) (.const (.int .i64 2)) T_int), none⟩,
 ⟨some 87, some (.assign (.tmp 88)), none⟩])
  (.cond (.tmp 87) (.seq (.reg [] [⟨some 90, some (.move (.tmp 2)), none⟩,
 ⟨some 91, some (.fieldAddr T_api_Node (.tmp 13) 8), none⟩,
 ⟨some 92, some (.load T_string (.tmp 91)), none⟩,
 ⟨some 93, some (.lookup T_m_string_api_Bits (.tmp 90) (.tmp 92) true), none⟩,
 ⟨some 89, some (.move (.tmp 93)), none⟩,
 ⟨some 94, some (.extract (.tmp 89) 0), none⟩,
 ⟨some 95, some (.extract (.tmp 89) 1), none⟩,
 ⟨some 15, some (.alloc T_api_Bits), none⟩,
 ⟨none, some (.store T_api_Bits (.tmp 15) (.tmp 94)), none⟩,
 ⟨some 16, some (.assign (.tmp 95)), none⟩])
  (.seq (.seq (.reg [] [⟨some 96, some (.move (.tmp 16)), none⟩,
 ⟨some 97, some (.unOp .not T_bool (.tmp 96)), none⟩,
 ⟨some 98, some (.move (.tmp 97)), none⟩,
 ⟨some 99, some (.load T_api_Bits (.tmp 15)), some (some 98, false)⟩,
 ⟨some 100, some (.fieldAddr T_api_Node (.tmp 13) 1), some (some 98, false)⟩,
 ⟨some 101, some (.load T_int (.tmp 100)), some (some 98, false)⟩,
 ⟨some 102, some (.call ⟨(.value (.func f_eval_fits)), #[.tmp 99, .tmp 101], #[T_api_Bits, T_int]⟩), some (some 98, false)⟩,
 ⟨some 103, some (.unOp .not T_bool (.tmp 102)), some (some 98, false)⟩,
 ⟨some 104, some (.pick (.tmp 98) (.const (.bool true)) (.tmp 103)), none⟩])
  (.cond (.tmp 104) (.seq (.reg [] [⟨some 105, some (.build T_api_Bits #[]), none⟩,
 ⟨none, some (.store T_api_Bits (.tmp 6) (.tmp 105)), none⟩,
 ⟨some 7, some (.assign (.const (.int .i64 41))), none⟩])
  .ret)
  .skip))
  (.reg [] [⟨some 106, some (.move (.tmp 10)), none⟩,
 ⟨some 107, some (.move (.tmp 12)), none⟩,
 ⟨some 108, some (.load T_api_Bits (.tmp 15)), none⟩,
 ⟨none, some (.mapUpdate T_m_int_api_Bits (.tmp 106) (.tmp 107) (.tmp 108)), none⟩])))
  (.seq (.reg [14, 15, 6215] [⟨some 46, some (.move (.tmp 10)), none⟩,
 ⟨some 47, some (.fieldAddr T_api_Node (.tmp 13) 2), none⟩,
 ⟨some 48, some (.load T_int (.tmp 47)), none⟩,
 ⟨some 49, some (.lookup T_m_int_api_Bits (.tmp 46) (.tmp 48) false), none⟩,
 ⟨some 50, some (.move (.tmp 10)), none⟩,
 ⟨some 51, some (.fieldAddr T_api_Node (.tmp 13) 3), none⟩,
 ⟨some 52, some (.load T_int (.tmp 51)), none⟩,
 ⟨some 53, some (.lookup T_m_int_api_Bits (.tmp 50) (.tmp 52) false), none⟩,
 ⟨some 54, some (.move (.tmp 10)), none⟩,
 ⟨some 55, some (.fieldAddr T_api_Node (.tmp 13) 4), none⟩,
 ⟨some 56, some (.load T_int (.tmp 55)), none⟩,
 ⟨some 57, some (.lookup T_m_int_api_Bits (.tmp 54) (.tmp 56) false), none⟩,
 ⟨some 59, some (.fieldAddr T_api_Node (.tmp 13) 0), none⟩,
 ⟨some 60, some (.load T_int (.tmp 59)), none⟩,
 ⟨some 61, some (.call ⟨(.value (.func f_term_Arity)), #[.tmp 60], #[T_int]⟩), none⟩,
 ⟨some 58, some (.buildSlice T_s_api_Bits 3 #[(0, (.tmp 49)), (1, (.tmp 53)), (2, (.tmp 57))]), none⟩,
 ⟨some 62, some (.slice T_s_api_Bits (.tmp 58) none (some (.tmp 61)) none), none⟩,
 ⟨some 17, some (.assign (.tmp 62)), none⟩])
  (.seq (.reg [] [⟨some 64, some (.fieldAddr T_api_Node (.tmp 13) 0), none⟩,
 ⟨some 65, some (.load T_int (.tmp 64)), none⟩,
 ⟨some 66, some (.fieldAddr T_api_Node (.tmp 13) 5), none⟩,
 ⟨some 67, some (.load T_int (.tmp 66)), none⟩,
 ⟨some 68, some (.fieldAddr T_api_Node (.tmp 13) 6), none⟩,
 ⟨some 69, some (.load T_int (.tmp 68)), none⟩,
 ⟨some 70, some (.move (.tmp 17)), none⟩,
 ⟨some 71, some (.call ⟨(.value (.func f_eval_Apply)), #[.tmp 65, .tmp 67, .tmp 69, .tmp 70], #[T_int, T_int, T_int, T_s_api_Bits]⟩), none⟩,
 ⟨some 63, some (.move (.tmp 71)), none⟩,
 ⟨some 72, some (.extract (.tmp 63) 0), none⟩,
 ⟨some 73, some (.extract (.tmp 63) 1), none⟩,
 ⟨some 18, some (.alloc T_api_Bits), none⟩,
 ⟨none, some (.store T_api_Bits (.tmp 18) (.tmp 72)), none⟩,
 ⟨some 19, some (.assign (.tmp 73)), none⟩])
  (.seq (.seq (.reg [] [⟨some 74, some (.move (.tmp 19)), none⟩,
 ⟨some 75, some (.binOp .neq T_api_Errno (.tmp 74) (.const (.int .i64 0)) T_api_Errno), none⟩])
  (.cond (.tmp 75) (.seq (.reg [] [⟨some 76, some (.build T_api_Bits #[]), none⟩,
 ⟨some 77, some (.move (.tmp 19)), none⟩,
 ⟨none, some (.store T_api_Bits (.tmp 6) (.tmp 76)), none⟩,
 ⟨some 7, some (.assign (.tmp 77)), none⟩])
  .ret)
  .skip))
  (.reg [] [⟨some 78, some (.move (.tmp 10)), none⟩,
 ⟨some 79, some (.move (.tmp 12)), none⟩,
 ⟨some 80, some (.load T_api_Bits (.tmp 18)), none⟩,
 ⟨none, some (.mapUpdate T_m_int_api_Bits (.tmp 78) (.tmp 79) (.tmp 80)), none⟩])))))))))))))
  (.reg [] [⟨some 109, some (.binOp .add T_int (.tmp 34) (.const (.int .i64 1)) T_int), none⟩,
 ⟨some 34, some (.move (.tmp 109)), none⟩]))))
@[simp] theorem d_l_eval_worth_0 : defs l_eval_worth_0 = [35, 36, 37, 12, 39, 40, 41, 38, 42, 43, 13, 14, 44, 45, 82, 81, 83, 84, 85, 86, 88, 87, 90, 91, 92, 93, 89, 94, 95, 15, 16, 96, 97, 98, 99, 100, 101, 102, 103, 104, 105, 7, 106, 107, 108, 46, 47, 48, 49, 50, 51, 52, 53, 54, 55, 56, 57, 59, 60, 61, 58, 62, 17, 64, 65, 66, 67, 68, 69, 70, 71, 63, 72, 73, 18, 19, 74, 75, 76, 77, 7, 78, 79, 80, 109, 34] := by rfl
def c_eval_worth : LCode := (.seq (.reg [] [⟨some 6, some (.alloc T_api_Bits), none⟩,
 ⟨some 7, some (.assign (.const (.int .i64 0))), none⟩])
  (.seq (.seq (.reg [] [⟨some 21, some (.move (.tmp 0)), none⟩,
 ⟨some 22, some (.move (.tmp 1)), none⟩,
 ⟨some 23, some (.call ⟨(.value (.func f_plait_term_Graph_Node)), #[.tmp 21, .tmp 22], #[T_p_term_Graph, T_int]⟩), none⟩,
 ⟨some 20, some (.move (.tmp 23)), none⟩,
 ⟨some 24, some (.extract (.tmp 20) 0), none⟩,
 ⟨some 25, some (.extract (.tmp 20) 1), none⟩,
 ⟨some 8, some (.alloc T_api_Node), none⟩,
 ⟨none, some (.store T_api_Node (.tmp 8) (.tmp 24)), none⟩,
 ⟨some 9, some (.assign (.tmp 25)), none⟩])
  (.seq (.reg [] [⟨some 26, some (.move (.tmp 9)), none⟩,
 ⟨some 27, some (.unOp .not T_bool (.tmp 26)), none⟩])
  (.cond (.tmp 27) (.seq (.reg [] [⟨some 28, some (.build T_api_Bits #[]), none⟩,
 ⟨none, some (.store T_api_Bits (.tmp 6) (.tmp 28)), none⟩,
 ⟨some 7, some (.assign (.const (.int .i64 40))), none⟩])
  .ret)
  .skip)))
  (.seq (.reg [] [⟨some 29, some (.makeMap T_m_int_api_Bits none), none⟩,
 ⟨some 10, some (.assign (.tmp 29)), none⟩])
  (.seq (.seq (.reg [] [⟨some 30, some (.move (.tmp 0)), none⟩,
 ⟨some 31, some (.move (.tmp 1)), none⟩,
 ⟨some 32, some (.call ⟨(.value (.func f_plait_term_Graph_Cone)), #[.tmp 30, .tmp 31], #[T_p_term_Graph, T_int]⟩), none⟩,
 ⟨some 33, some (.call ⟨(.builtin .len), #[.tmp 32], #[T_s_int]⟩), none⟩,
 ⟨some 34, some (.move (.const (.int .i64 0))), none⟩])
  (.block 0 (.loop l_eval_worth_0)))
  (.seq (.reg [] [⟨some 110, some (.move (.tmp 10)), none⟩,
 ⟨some 111, some (.move (.tmp 1)), none⟩,
 ⟨some 112, some (.lookup T_m_int_api_Bits (.tmp 110) (.tmp 111) false), none⟩,
 ⟨none, some (.store T_api_Bits (.tmp 6) (.tmp 112)), none⟩,
 ⟨some 7, some (.assign (.const (.int .i64 0))), none⟩])
  .ret)))))
theorem e_eval_worth {a0 a1 a2 : AV} {H : AHeap} : R f_eval_worth [a0, a1, a2] H = fnK Try.prog [] H [(.cell 6 T_api_Bits), (.tmp 7)] (evalL Try.prog KT R c_eval_worth (Env.args [a0, a1, a2] 0) H) :=
  runs_body (D := DT) (f := f_eval_worth) Try.func33 (by kernel_rfl) (by kernel_rfl) (by kernel_rfl) (by kernel_rfl) (by kernel_rfl) (Nat.le_of_ble_eq_true rfl)
def l_plait_term_Graph_formed_0 : LCode := (.seq (.reg [] [⟨some 19, some (.binOp .lss T_int (.tmp 18) (.const (.int .i64 3)) T_int), none⟩])
  (.seq (.cond (.tmp 19) .skip
  (.exit 0))
  (.seq (.block 1 (.seq (.reg [] [⟨some 20, some (.move (.tmp 18)), none⟩,
 ⟨some 21, some (.index T_a3_int (.tmp 17) (.tmp 18)), none⟩,
 ⟨some 6, some (.assign (.tmp 20)), none⟩,
 ⟨some 7, some (.assign (.tmp 21)), none⟩])
  (.seq (.reg [] [⟨some 22, some (.move (.tmp 6)), none⟩,
 ⟨some 23, some (.move (.tmp 5)), none⟩,
 ⟨some 24, some (.binOp .lss T_int (.tmp 22) (.tmp 23) T_int), none⟩,
 ⟨some 25, some (.move (.tmp 24)), none⟩,
 ⟨some 26, some (.move (.tmp 7)), some (some 25, true)⟩,
 ⟨some 27, some (.binOp .lss T_int (.tmp 26) (.const (.int .i64 1)) T_int), some (some 25, true)⟩,
 ⟨some 28, some (.move (.tmp 27)), some (some 25, true)⟩,
 ⟨some 29, some (.move (.tmp 7)), some (some 28, false)⟩,
 ⟨some 30, some (.move (.tmp 0)), some (some 28, false)⟩,
 ⟨some 31, some (.nilCheck (.tmp 30)), some (some 28, false)⟩,
 ⟨some 32, some (.fieldAddr T_term_Graph (.tmp 31) 1), some (some 28, false)⟩,
 ⟨some 33, some (.load T_s_api_Node (.tmp 32)), some (some 28, false)⟩,
 ⟨some 34, some (.call ⟨(.builtin .len), #[.tmp 33], #[T_s_api_Node]⟩), some (some 28, false)⟩,
 ⟨some 35, some (.binOp .gtr T_int (.tmp 29) (.tmp 34) T_int), some (some 28, false)⟩,
 ⟨some 36, some (.pick (.tmp 28) (.const (.bool true)) (.tmp 35)), some (some 25, true)⟩,
 ⟨some 37, some (.pick (.tmp 25) (.tmp 36) (.const (.bool false))), none⟩,
 ⟨some 38, some (.move (.tmp 37)), none⟩,
 ⟨some 39, some (.move (.tmp 6)), some (some 38, false)⟩,
 ⟨some 40, some (.move (.tmp 5)), some (some 38, false)⟩,
 ⟨some 41, some (.binOp .geq T_int (.tmp 39) (.tmp 40) T_int), some (some 38, false)⟩,
 ⟨some 42, some (.move (.tmp 41)), some (some 38, false)⟩,
 ⟨some 43, some (.move (.tmp 7)), some (some 42, true)⟩,
 ⟨some 44, some (.binOp .neq T_int (.tmp 43) (.const (.int .i64 0)) T_int), some (some 42, true)⟩,
 ⟨some 45, some (.pick (.tmp 42) (.tmp 44) (.const (.bool false))), some (some 38, false)⟩,
 ⟨some 46, some (.pick (.tmp 38) (.const (.bool true)) (.tmp 45)), none⟩])
  (.cond (.tmp 46) (.seq (.reg [] [⟨some 4, some (.assign (.const (.bool false))), none⟩])
  .ret)
  .skip))))
  (.reg [] [⟨some 47, some (.binOp .add T_int (.tmp 18) (.const (.int .i64 1)) T_int), none⟩,
 ⟨some 18, some (.move (.tmp 47)), none⟩]))))
@[simp] theorem d_l_plait_term_Graph_formed_0 : defs l_plait_term_Graph_formed_0 = [19, 20, 21, 6, 7, 22, 23, 24, 25, 26, 27, 28, 29, 30, 31, 32, 33, 34, 35, 36, 37, 38, 39, 40, 41, 42, 43, 44, 45, 46, 4, 47, 18] := by rfl
def c_plait_term_Graph_formed : LCode := (.seq (.reg [] [⟨some 3, some (.box T_api_Node (.tmp 1)), none⟩,
 ⟨some 4, some (.assign (.const (.bool false))), none⟩])
  (.seq (.reg [] [⟨some 8, some (.fieldAddr T_api_Node (.tmp 3) 0), none⟩,
 ⟨some 9, some (.load T_int (.tmp 8)), none⟩,
 ⟨some 10, some (.call ⟨(.value (.func f_term_Arity)), #[.tmp 9], #[T_int]⟩), none⟩,
 ⟨some 5, some (.assign (.tmp 10)), none⟩])
  (.seq (.seq (.reg [] [⟨some 11, some (.fieldAddr T_api_Node (.tmp 3) 2), none⟩,
 ⟨some 12, some (.load T_int (.tmp 11)), none⟩,
 ⟨some 13, some (.fieldAddr T_api_Node (.tmp 3) 3), none⟩,
 ⟨some 14, some (.load T_int (.tmp 13)), none⟩,
 ⟨some 15, some (.fieldAddr T_api_Node (.tmp 3) 4), none⟩,
 ⟨some 16, some (.load T_int (.tmp 15)), none⟩,
 ⟨some 17, some (.build T_a3_int #[(0, (.tmp 12)), (1, (.tmp 14)), (2, (.tmp 16))]), none⟩,
 ⟨some 18, some (.move (.const (.int .i64 0))), none⟩])
  (.block 0 (.loop l_plait_term_Graph_formed_0)))
  (.seq (.reg [] [⟨some 48, some (.move (.tmp 5)), none⟩,
 ⟨some 49, some (.binOp .geq T_int (.tmp 48) (.const (.int .i64 0)) T_int), none⟩,
 ⟨some 50, some (.move (.tmp 49)), none⟩,
 ⟨some 51, some (.fieldAddr T_api_Node (.tmp 3) 0), some (some 50, true)⟩,
 ⟨some 52, some (.load T_int (.tmp 51)), some (some 50, true)⟩,
 ⟨some 53, some (.binOp .eql T_int (.tmp 52) (.const (.int .i64 1)) T_int), some (some 50, true)⟩,
 ⟨some 54, some (.move (.tmp 53)), some (some 50, true)⟩,
 ⟨some 55, some (.fieldAddr T_api_Node (.tmp 3) 7), some (some 54, false)⟩,
 ⟨some 56, some (.load T_api_Bits (.tmp 55)), some (some 54, false)⟩,
 ⟨some 57, some (.build T_api_Bits #[]), some (some 54, false)⟩,
 ⟨some 58, some (.binOp .eql T_api_Bits (.tmp 56) (.tmp 57) T_api_Bits), some (some 54, false)⟩,
 ⟨some 59, some (.pick (.tmp 54) (.const (.bool true)) (.tmp 58)), some (some 50, true)⟩,
 ⟨some 60, some (.pick (.tmp 50) (.tmp 59) (.const (.bool false))), none⟩,
 ⟨some 61, some (.move (.tmp 60)), none⟩,
 ⟨some 62, some (.fieldAddr T_api_Node (.tmp 3) 0), some (some 61, true)⟩,
 ⟨some 63, some (.load T_int (.tmp 62)), some (some 61, true)⟩,
 ⟨some 64, some (.binOp .eql T_int (.tmp 63) (.const (.int .i64 2)) T_int), some (some 61, true)⟩,
 ⟨some 65, some (.move (.tmp 64)), some (some 61, true)⟩,
 ⟨some 66, some (.fieldAddr T_api_Node (.tmp 3) 8), some (some 65, false)⟩,
 ⟨some 67, some (.load T_string (.tmp 66)), some (some 65, false)⟩,
 ⟨some 68, some (.binOp .eql T_string (.tmp 67) (.const (.string { data := #[] })) T_string), some (some 65, false)⟩,
 ⟨some 69, some (.pick (.tmp 65) (.const (.bool true)) (.tmp 68)), some (some 61, true)⟩,
 ⟨some 70, some (.pick (.tmp 61) (.tmp 69) (.const (.bool false))), none⟩,
 ⟨some 4, some (.assign (.tmp 70)), none⟩])
  .ret))))
theorem e_plait_term_Graph_formed {a0 a1 : AV} {H : AHeap} : R f_plait_term_Graph_formed [a0, a1] H = fnK Try.prog [] H [(.tmp 4)] (evalL Try.prog KT R c_plait_term_Graph_formed (Env.args [a0, a1] 0) H) :=
  runs_body (D := DT) (f := f_plait_term_Graph_formed) Try.func34 (by kernel_rfl) (by kernel_rfl) (by kernel_rfl) (by kernel_rfl) (by kernel_rfl) (Nat.le_of_ble_eq_true rfl)
def l_plait_term_Graph_sorted_0 : LCode := (.seq (.reg [] [⟨some 94, some (.binOp .lss T_int (.tmp 93) (.const (.int .i64 3)) T_int), none⟩])
  (.seq (.cond (.tmp 94) .skip
  (.exit 1))
  (.seq (.block 2 (.seq (.reg [] [⟨some 95, some (.index T_a3_int (.tmp 92) (.tmp 93)), none⟩,
 ⟨some 9, some (.assign (.tmp 95)), none⟩])
  (.seq (.reg [] [⟨some 96, some (.move (.tmp 9)), none⟩,
 ⟨some 97, some (.binOp .gtr T_int (.tmp 96) (.const (.int .i64 0)) T_int), none⟩])
  (.cond (.tmp 97) (.reg [] [⟨some 98, some (.move (.tmp 7)), none⟩,
 ⟨some 99, some (.move (.tmp 0)), none⟩,
 ⟨some 100, some (.nilCheck (.tmp 99)), none⟩,
 ⟨some 101, some (.fieldAddr T_term_Graph (.tmp 100) 1), none⟩,
 ⟨some 102, some (.load T_s_api_Node (.tmp 101)), none⟩,
 ⟨some 103, some (.move (.tmp 9)), none⟩,
 ⟨some 104, some (.binOp .sub T_int (.tmp 103) (.const (.int .i64 1)) T_int), none⟩,
 ⟨some 105, some (.indexAddr T_s_api_Node (.tmp 102) (.tmp 104)), none⟩,
 ⟨some 106, some (.fieldAddr T_api_Node (.tmp 105) 1), none⟩,
 ⟨some 107, some (.load T_int (.tmp 106)), none⟩,
 ⟨some 108, some (.buildSlice T_s_int 1 #[(0, (.tmp 107))]), none⟩,
 ⟨some 109, some (.call ⟨(.builtin .append), #[.tmp 98, .tmp 108], #[T_s_int, T_s_int]⟩), none⟩,
 ⟨some 7, some (.assign (.tmp 109)), none⟩])
  .skip))))
  (.reg [] [⟨some 110, some (.binOp .add T_int (.tmp 93) (.const (.int .i64 1)) T_int), none⟩,
 ⟨some 93, some (.move (.tmp 110)), none⟩]))))
@[simp] theorem d_l_plait_term_Graph_sorted_0 : defs l_plait_term_Graph_sorted_0 = [94, 95, 9, 96, 97, 98, 99, 100, 101, 102, 103, 104, 105, 106, 107, 108, 109, 7, 110, 93] := by rfl
def c_plait_term_Graph_sorted : LCode := (.seq (.reg [] [⟨some 3, some (.box T_api_Node (.tmp 1)), none⟩,
 ⟨some 4, some (.alloc T_api_Node), none⟩,
 ⟨some 5, some (.assign (.const (.int .i64 0))), none⟩])
  (.seq (.seq (.reg [] [⟨some 11, some (.fieldAddr T_api_Node (.tmp 3) 0), none⟩,
 ⟨some 12, some (.load T_int (.tmp 11)), none⟩])
  (.block 0 (.seq (.reg [] [⟨some 14, some (.binOp .eql T_int (.tmp 12) (.const (.int .i64 1)) T_int), none⟩,
 ⟨some 13, some (.assign (.tmp 14)), none⟩])
  (.cond (.tmp 13) (.seq (.seq (.reg [] [⟨some 15, some (.fieldAddr T_api_Node (.tmp 3) 7), none⟩,
 ⟨some 16, some (.load T_api_Bits (.tmp 15)), none⟩,
 ⟨some 17, some (.call ⟨(.value (.func f_bv_Right)), #[.tmp 16], #[T_api_Bits]⟩), none⟩,
 ⟨some 18, some (.unOp .not T_bool (.tmp 17)), none⟩,
 ⟨some 19, some (.move (.tmp 18)), none⟩,
 ⟨some 20, some (.fieldAddr T_api_Node (.tmp 3) 7), some (some 19, false)⟩,
 ⟨some 21, some (.fieldAddr T_api_Bits (.tmp 20) 0), some (some 19, false)⟩,
 ⟨some 22, some (.load T_int (.tmp 21)), some (some 19, false)⟩,
 ⟨some 23, some (.fieldAddr T_api_Node (.tmp 3) 1), some (some 19, false)⟩,
 ⟨some 24, some (.load T_int (.tmp 23)), some (some 19, false)⟩,
 ⟨some 25, some (.binOp .neq T_int (.tmp 22) (.tmp 24) T_int), some (some 19, false)⟩,
 ⟨some 26, some (.pick (.tmp 19) (.const (.bool true)) (.tmp 25)), none⟩,
 ⟨some 27, some (.move (.tmp 26)), none⟩,
 ⟨some 28, some (.fieldAddr T_api_Node (.tmp 3) 5), some (some 27, false)⟩,
 ⟨some 29, some (.load T_int (.tmp 28)), some (some 27, false)⟩,
 ⟨some 30, some (.binOp .neq T_int (.tmp 29) (.const (.int .i64 0)) T_int), some (some 27, false)⟩,
 ⟨some 31, some (.pick (.tmp 27) (.const (.bool true)) (.tmp 30)), none⟩,
 ⟨some 32, some (.move (.tmp 31)), none⟩,
 ⟨some 33, some (.fieldAddr T_api_Node (.tmp 3) 6), some (some 32, false)⟩,
 ⟨some 34, some (.load T_int (.tmp 33)), some (some 32, false)⟩,
 ⟨some 35, some (.binOp .neq T_int (.tmp 34) (.const (.int .i64 0)) T_int), some (some 32, false)⟩,
 ⟨some 36, some (.pick (.tmp 32) (.const (.bool true)) (.tmp 35)), none⟩])
  (.cond (.tmp 36) (.seq (.reg [] [⟨some 37, some (.load T_api_Node (.tmp 3)), none⟩,
 ⟨none, some (.store T_api_Node (.tmp 4) (.tmp 37)), none⟩,
 ⟨some 5, some (.assign (.const (.int .i64 30))), none⟩])
  .ret)
  .skip))
  (.seq (.reg [] [⟨some 38, some (.load T_api_Node (.tmp 3)), none⟩,
 ⟨none, some (.store T_api_Node (.tmp 4) (.tmp 38)), none⟩,
 ⟨some 5, some (.assign (.const (.int .i64 0))), none⟩])
  .ret))
  (.seq (.reg [] [⟨some 40, some (.binOp .eql T_int (.tmp 12) (.const (.int .i64 2)) T_int), none⟩,
 ⟨some 39, some (.assign (.tmp 40)), none⟩])
  (.cond (.tmp 39) (.seq (.seq (.reg [] [⟨some 41, some (.fieldAddr T_api_Node (.tmp 3) 1), none⟩,
 ⟨some 42, some (.load T_int (.tmp 41)), none⟩,
 ⟨some 43, some (.call ⟨(.value (.func f_term_sort)), #[.tmp 42], #[T_int]⟩), none⟩,
 ⟨some 44, some (.unOp .not T_bool (.tmp 43)), none⟩,
 ⟨some 45, some (.move (.tmp 44)), none⟩,
 ⟨some 46, some (.fieldAddr T_api_Node (.tmp 3) 5), some (some 45, false)⟩,
 ⟨some 47, some (.load T_int (.tmp 46)), some (some 45, false)⟩,
 ⟨some 48, some (.binOp .neq T_int (.tmp 47) (.const (.int .i64 0)) T_int), some (some 45, false)⟩,
 ⟨some 49, some (.pick (.tmp 45) (.const (.bool true)) (.tmp 48)), none⟩,
 ⟨some 50, some (.move (.tmp 49)), none⟩,
 ⟨some 51, some (.fieldAddr T_api_Node (.tmp 3) 6), some (some 50, false)⟩,
 ⟨some 52, some (.load T_int (.tmp 51)), some (some 50, false)⟩,
 ⟨some 53, some (.binOp .neq T_int (.tmp 52) (.const (.int .i64 0)) T_int), some (some 50, false)⟩,
 ⟨some 54, some (.pick (.tmp 50) (.const (.bool true)) (.tmp 53)), none⟩])
  (.cond (.tmp 54) (.seq (.reg [] [⟨some 55, some (.load T_api_Node (.tmp 3)), none⟩,
 ⟨none, some (.store T_api_Node (.tmp 4) (.tmp 55)), none⟩,
 ⟨some 5, some (.assign (.const (.int .i64 30))), none⟩])
  .ret)
  .skip))
  (.seq (.seq (.reg [] [⟨some 56, some (.move (.tmp 0)), none⟩,
 ⟨some 57, some (.nilCheck (.tmp 56)), none⟩,
 ⟨some 58, some (.fieldAddr T_term_Graph (.tmp 57) 3), none⟩,
 ⟨some 59, some (.load T_m_string_int (.tmp 58)), none⟩,
 ⟨some 60, some (.fieldAddr T_api_Node (.tmp 3) 8), none⟩,
 ⟨some 61, some (.load T_string (.tmp 60)), none⟩,
 ⟨some 62, some (.lookup T_m_string_int (.tmp 59) (.tmp 61) false), none⟩,
 ⟨some 6, some (.assign (.tmp 62)), none⟩])
  (.seq (.reg [] [⟨some 63, some (.fieldAddr T_api_Node (.tmp 3) 8), none⟩,
 ⟨some 64, some (.load T_string (.tmp 63)), none⟩,
 ⟨some 65, some (.binOp .eql T_string (.tmp 64) (.const (.string { data := #[] })) T_string), none⟩,
 ⟨some 66, some (.move (.tmp 65)), none⟩,
 ⟨some 67, some (.move (.tmp 6)), some (some 66, false)⟩,
 ⟨some 68, some (.binOp .gtr T_int (.tmp 67) (.const (.int .i64 0)) T_int), some (some 66, false)⟩,
 ⟨some 69, some (.move (.tmp 68)), some (some 66, false)⟩,
 ⟨some 70, some (.move (.tmp 0)), some (some 69, true)⟩,
 ⟨some 71, some (.nilCheck (.tmp 70)), some (some 69, true)⟩,
 ⟨some 72, some (.fieldAddr T_term_Graph (.tmp 71) 1), some (some 69, true)⟩,
 ⟨some 73, some (.load T_s_api_Node (.tmp 72)), some (some 69, true)⟩,
 ⟨some 74, some (.move (.tmp 6)), some (some 69, true)⟩,
 ⟨some 75, some (.binOp .sub T_int (.tmp 74) (.const (.int .i64 1)) T_int), some (some 69, true)⟩,
 ⟨some 76, some (.indexAddr T_s_api_Node (.tmp 73) (.tmp 75)), some (some 69, true)⟩,
 ⟨some 77, some (.fieldAddr T_api_Node (.tmp 76) 1), some (some 69, true)⟩,
 ⟨some 78, some (.load T_int (.tmp 77)), some (some 69, true)⟩,
 ⟨some 79, some (.fieldAddr T_api_Node (.tmp 3) 1), some (some 69, true)⟩,
 ⟨some 80, some (.load T_int (.tmp 79)), some (some 69, true)⟩,
 ⟨some 81, some (.binOp .neq T_int (.tmp 78) (.tmp 80) T_int), some (some 69, true)⟩,
 ⟨some 82, some (.pick (.tmp 69) (.tmp 81) (.const (.bool false))), some (some 66, false)⟩,
 ⟨some 83, some (.pick (.tmp 66) (.const (.bool true)) (.tmp 82)), none⟩])
  (.cond (.tmp 83) (.seq (.reg [] [⟨some 84, some (.load T_api_Node (.tmp 3)), none⟩,
 ⟨none, some (.store T_api_Node (.tmp 4) (.tmp 84)), none⟩,
 ⟨some 5, some (.assign (.const (.int .i64 34))), none⟩])
  .ret)
  .skip)))
  (.seq (.reg [] [⟨some 85, some (.load T_api_Node (.tmp 3)), none⟩,
 ⟨none, some (.store T_api_Node (.tmp 4) (.tmp 85)), none⟩,
 ⟨some 5, some (.assign (.const (.int .i64 0))), none⟩])
  .ret)))
  .skip))))))
  (.seq (.reg [] [⟨some 7, some (.assign (.const (.slice none 0 0))), none⟩])
  (.seq (.seq (.reg [] [⟨some 86, some (.fieldAddr T_api_Node (.tmp 3) 2), none⟩,
 ⟨some 87, some (.load T_int (.tmp 86)), none⟩,
 ⟨some 88, some (.fieldAddr T_api_Node (.tmp 3) 3), none⟩,
 ⟨some 89, some (.load T_int (.tmp 88)), none⟩,
 ⟨some 90, some (.fieldAddr T_api_Node (.tmp 3) 4), none⟩,
 ⟨some 91, some (.load T_int (.tmp 90)), none⟩,
 ⟨some 92, some (.build T_a3_int #[(0, (.tmp 87)), (1, (.tmp 89)), (2, (.tmp 91))]), none⟩,
 ⟨some 93, some (.move (.const (.int .i64 0))), none⟩])
  (.block 1 (.loop l_plait_term_Graph_sorted_0)))
  (.seq (.reg [] [⟨some 10, some (.assign (.const (.int .i64 0))), none⟩])
  (.seq (.reg [] [⟨some 112, some (.fieldAddr T_api_Node (.tmp 3) 0), none⟩,
 ⟨some 113, some (.load T_int (.tmp 112)), none⟩,
 ⟨some 114, some (.fieldAddr T_api_Node (.tmp 3) 5), none⟩,
 ⟨some 115, some (.load T_int (.tmp 114)), none⟩,
 ⟨some 116, some (.fieldAddr T_api_Node (.tmp 3) 6), none⟩,
 ⟨some 117, some (.load T_int (.tmp 116)), none⟩,
 ⟨some 118, some (.move (.tmp 7)), none⟩,
 ⟨some 119, some (.call ⟨(.value (.func f_term_Sort)), #[.tmp 113, .tmp 115, .tmp 117, .tmp 118], #[T_int, T_int, T_int, T_s_int]⟩), none⟩,
 ⟨some 111, some (.move (.tmp 119)), none⟩,
 ⟨some 120, some (.extract (.tmp 111) 0), none⟩,
 ⟨some 121, some (.extract (.tmp 111) 1), none⟩,
 ⟨some 122, some (.fieldAddr T_api_Node (.tmp 3) 1), none⟩,
 ⟨none, some (.store T_int (.tmp 122) (.tmp 120)), none⟩,
 ⟨some 10, some (.assign (.tmp 121)), none⟩])
  (.seq (.reg [] [⟨some 123, some (.load T_api_Node (.tmp 3)), none⟩,
 ⟨some 124, some (.move (.tmp 10)), none⟩,
 ⟨none, some (.store T_api_Node (.tmp 4) (.tmp 123)), none⟩,
 ⟨some 5, some (.assign (.tmp 124)), none⟩])
  .ret)))))))
theorem e_plait_term_Graph_sorted {a0 a1 : AV} {H : AHeap} : R f_plait_term_Graph_sorted [a0, a1] H = fnK Try.prog [] H [(.cell 4 T_api_Node), (.tmp 5)] (evalL Try.prog KT R c_plait_term_Graph_sorted (Env.args [a0, a1] 0) H) :=
  runs_body (D := DT) (f := f_plait_term_Graph_sorted) Try.func35 (by kernel_rfl) (by kernel_rfl) (by kernel_rfl) (by kernel_rfl) (by kernel_rfl) (Nat.le_of_ble_eq_true rfl)
def l_lift_Value_0 : LCode := (.seq (.reg [] [⟨some 25, some (.binOp .lss T_int (.tmp 24) (.tmp 23) T_int), none⟩])
  (.seq (.cond (.tmp 25) .skip
  (.exit 0))
  (.seq (.block 1 (.seq (.reg [] [⟨some 26, some (.move (.tmp 24)), none⟩,
 ⟨some 7, some (.assign (.tmp 26)), none⟩])
  (.seq (.reg [] [⟨some 27, some (.move (.tmp 1)), none⟩,
 ⟨some 28, some (.move (.tmp 7)), none⟩,
 ⟨some 29, some (.indexAddr T_s_bool (.tmp 27) (.tmp 28)), none⟩,
 ⟨some 30, some (.load T_bool (.tmp 29)), none⟩])
  (.cond (.tmp 30) (.reg [] [⟨some 31, some (.move (.tmp 7)), none⟩,
 ⟨some 32, some (.binOp .shr T_int (.tmp 31) (.const (.int .u64 6)) T_uint), none⟩,
 ⟨some 33, some (.indexAddr T_a2_uint64 (.tmp 6) (.tmp 32)), none⟩,
 ⟨some 34, some (.load T_uint64 (.tmp 33)), none⟩,
 ⟨some 35, some (.move (.tmp 7)), none⟩,
 ⟨some 36, some (.binOp .and T_int (.tmp 35) (.const (.int .i64 63)) T_int), none⟩,
 ⟨some 37, some (.convert T_int T_uint (.tmp 36)), none⟩,
 ⟨some 38, some (.binOp .shl T_uint64 (.const (.int .u64 1)) (.tmp 37) T_uint), none⟩,
 ⟨some 39, some (.binOp .or T_uint64 (.tmp 34) (.tmp 38) T_uint64), none⟩,
 ⟨some 40, some (.indexAddr T_a2_uint64 (.tmp 6) (.tmp 32)), none⟩,
 ⟨none, some (.store T_uint64 (.tmp 40) (.tmp 39)), none⟩])
  .skip))))
  (.reg [] [⟨some 41, some (.binOp .add T_int (.tmp 24) (.const (.int .i64 1)) T_int), none⟩,
 ⟨some 24, some (.move (.tmp 41)), none⟩]))))
@[simp] theorem d_l_lift_Value_0 : defs l_lift_Value_0 = [25, 26, 7, 27, 28, 29, 30, 31, 32, 33, 34, 35, 36, 37, 38, 39, 40, 41, 24] := by rfl
def c_lift_Value : LCode := (.seq (.reg [] [⟨some 4, some (.alloc T_api_Bits), none⟩,
 ⟨some 5, some (.assign (.const (.int .i64 0))), none⟩])
  (.seq (.seq (.reg [] [⟨some 8, some (.move (.tmp 0)), none⟩,
 ⟨some 9, some (.binOp .lss T_int (.tmp 8) (.const (.int .i64 0)) T_int), none⟩,
 ⟨some 10, some (.move (.tmp 9)), none⟩,
 ⟨some 11, some (.move (.tmp 0)), some (some 10, false)⟩,
 ⟨some 12, some (.binOp .gtr T_int (.tmp 11) (.const (.int .i64 128)) T_int), some (some 10, false)⟩,
 ⟨some 13, some (.pick (.tmp 10) (.const (.bool true)) (.tmp 12)), none⟩,
 ⟨some 14, some (.move (.tmp 13)), none⟩,
 ⟨some 15, some (.move (.tmp 1)), some (some 14, false)⟩,
 ⟨some 16, some (.call ⟨(.builtin .len), #[.tmp 15], #[T_s_bool]⟩), some (some 14, false)⟩,
 ⟨some 17, some (.move (.tmp 0)), some (some 14, false)⟩,
 ⟨some 18, some (.call ⟨(.builtin .max), #[(.tmp 17), (.const (.int .i64 1))], #[T_int, T_int]⟩), some (some 14, false)⟩,
 ⟨some 19, some (.binOp .neq T_int (.tmp 16) (.tmp 18) T_int), some (some 14, false)⟩,
 ⟨some 20, some (.pick (.tmp 14) (.const (.bool true)) (.tmp 19)), none⟩])
  (.cond (.tmp 20) (.seq (.reg [] [⟨some 21, some (.build T_api_Bits #[]), none⟩,
 ⟨none, some (.store T_api_Bits (.tmp 4) (.tmp 21)), none⟩,
 ⟨some 5, some (.assign (.const (.int .i64 160))), none⟩])
  .ret)
  .skip))
  (.seq (.reg [] [⟨some 6, some (.alloc T_a2_uint64), none⟩])
  (.seq (.seq (.reg [] [⟨some 22, some (.move (.tmp 1)), none⟩,
 ⟨some 23, some (.call ⟨(.builtin .len), #[.tmp 22], #[T_s_bool]⟩), none⟩,
 ⟨some 24, some (.move (.const (.int .i64 0))), none⟩])
  (.block 0 (.loop l_lift_Value_0)))
  (.seq (.reg [] [⟨some 42, some (.move (.tmp 0)), none⟩,
 ⟨some 43, some (.indexAddr T_a2_uint64 (.tmp 6) (.const (.int .i64 0))), none⟩,
 ⟨some 44, some (.load T_uint64 (.tmp 43)), none⟩,
 ⟨some 45, some (.indexAddr T_a2_uint64 (.tmp 6) (.const (.int .i64 1))), none⟩,
 ⟨some 46, some (.load T_uint64 (.tmp 45)), none⟩,
 ⟨some 47, some (.build T_api_Bits #[(0, (.tmp 42)), (1, (.tmp 44)), (2, (.tmp 46))]), none⟩,
 ⟨none, some (.store T_api_Bits (.tmp 4) (.tmp 47)), none⟩,
 ⟨some 5, some (.assign (.const (.int .i64 0))), none⟩])
  .ret)))))
theorem e_lift_Value {a0 a1 : AV} {H : AHeap} : R f_lift_Value [a0, a1] H = fnK Try.prog [] H [(.cell 4 T_api_Bits), (.tmp 5)] (evalL Try.prog KT R c_lift_Value (Env.args [a0, a1] 0) H) :=
  runs_body (D := DT) (f := f_lift_Value) Try.func36 (by kernel_rfl) (by kernel_rfl) (by kernel_rfl) (by kernel_rfl) (by kernel_rfl) (Nat.le_of_ble_eq_true rfl)
def l_plaithelp_Bools_0 : LCode := (.seq (.seq (.reg [] [⟨some 11, some (.move (.tmp 5)), none⟩,
 ⟨some 12, some (.move (.tmp 0)), none⟩,
 ⟨some 13, some (.call ⟨(.builtin .len), #[.tmp 12], #[T_s_bool]⟩), none⟩,
 ⟨some 14, some (.binOp .lss T_int (.tmp 11) (.tmp 13) T_int), none⟩])
  (.cond (.tmp 14) .skip
  (.exit 0)))
  (.seq (.block 1 (.seq (.reg [] [⟨some 17, some (.move (.tmp 0)), none⟩,
 ⟨some 18, some (.move (.tmp 5)), none⟩,
 ⟨some 19, some (.indexAddr T_s_bool (.tmp 17) (.tmp 18)), none⟩,
 ⟨some 20, some (.load T_bool (.tmp 19)), none⟩,
 ⟨some 21, some (.move (.tmp 1)), none⟩,
 ⟨some 22, some (.move (.tmp 5)), none⟩,
 ⟨some 23, some (.indexAddr T_s_bool (.tmp 21) (.tmp 22)), none⟩,
 ⟨some 24, some (.load T_bool (.tmp 23)), none⟩,
 ⟨some 25, some (.binOp .neq T_bool (.tmp 20) (.tmp 24) T_bool), none⟩])
  (.cond (.tmp 25) (.seq (.reg [] [⟨some 4, some (.assign (.const (.bool false))), none⟩])
  .ret)
  .skip)))
  (.reg [] [⟨some 15, some (.move (.tmp 5)), none⟩,
 ⟨some 16, some (.binOp .add T_int (.tmp 15) (.const (.int .i64 1)) T_int), none⟩,
 ⟨some 5, some (.assign (.tmp 16)), none⟩])))
@[simp] theorem d_l_plaithelp_Bools_0 : defs l_plaithelp_Bools_0 = [11, 12, 13, 14, 17, 18, 19, 20, 21, 22, 23, 24, 25, 4, 15, 16, 5] := by rfl
def c_plaithelp_Bools : LCode := (.seq (.reg [] [⟨some 4, some (.assign (.const (.bool false))), none⟩])
  (.seq (.seq (.reg [] [⟨some 6, some (.move (.tmp 0)), none⟩,
 ⟨some 7, some (.call ⟨(.builtin .len), #[.tmp 6], #[T_s_bool]⟩), none⟩,
 ⟨some 8, some (.move (.tmp 1)), none⟩,
 ⟨some 9, some (.call ⟨(.builtin .len), #[.tmp 8], #[T_s_bool]⟩), none⟩,
 ⟨some 10, some (.binOp .neq T_int (.tmp 7) (.tmp 9) T_int), none⟩])
  (.cond (.tmp 10) (.seq (.reg [] [⟨some 4, some (.assign (.const (.bool false))), none⟩])
  .ret)
  .skip))
  (.seq (.seq (.reg [] [⟨some 5, some (.assign (.const (.int .i64 0))), none⟩])
  (.block 0 (.loop l_plaithelp_Bools_0)))
  (.seq (.reg [] [⟨some 4, some (.assign (.const (.bool true))), none⟩])
  .ret))))
theorem e_plaithelp_Bools {a0 a1 : AV} {H : AHeap} : R f_plaithelp_Bools [a0, a1] H = fnK Try.prog [] H [(.tmp 4)] (evalL Try.prog KT R c_plaithelp_Bools (Env.args [a0, a1] 0) H) :=
  runs_body (D := DT) (f := f_plaithelp_Bools) Try.func37 (by kernel_rfl) (by kernel_rfl) (by kernel_rfl) (by kernel_rfl) (by kernel_rfl) (Nat.le_of_ble_eq_true rfl)
def l_lift_BitsOf_0 : LCode := (.seq (.reg [] [⟨some 16, some (.binOp .lss T_int (.tmp 15) (.tmp 14) T_int), none⟩])
  (.seq (.cond (.tmp 16) .skip
  (.exit 0))
  (.seq (.block 1 (.seq (.reg [] [⟨some 17, some (.move (.tmp 15)), none⟩,
 ⟨some 4, some (.assign (.tmp 17)), none⟩])
  (.seq (.reg [] [⟨some 18, some (.fieldAddr T_api_Bits (.tmp 1) 1), none⟩,
 ⟨some 19, some (.load T_uint64 (.tmp 18)), none⟩,
 ⟨some 5, some (.assign (.tmp 19)), none⟩])
  (.seq (.seq (.reg [] [⟨some 20, some (.move (.tmp 4)), none⟩,
 ⟨some 21, some (.binOp .gtr T_int (.tmp 20) (.const (.int .i64 63)) T_int), none⟩])
  (.cond (.tmp 21) (.reg [] [⟨some 22, some (.fieldAddr T_api_Bits (.tmp 1) 2), none⟩,
 ⟨some 23, some (.load T_uint64 (.tmp 22)), none⟩,
 ⟨some 5, some (.assign (.tmp 23)), none⟩])
  .skip))
  (.reg [] [⟨some 24, some (.move (.tmp 3)), none⟩,
 ⟨some 25, some (.move (.tmp 4)), none⟩,
 ⟨some 26, some (.move (.tmp 5)), none⟩,
 ⟨some 27, some (.move (.tmp 4)), none⟩,
 ⟨some 28, some (.binOp .and T_int (.tmp 27) (.const (.int .i64 63)) T_int), none⟩,
 ⟨some 29, some (.convert T_int T_uint (.tmp 28)), none⟩,
 ⟨some 30, some (.binOp .shr T_uint64 (.tmp 26) (.tmp 29) T_uint), none⟩,
 ⟨some 31, some (.binOp .and T_uint64 (.tmp 30) (.const (.int .u64 1)) T_uint64), none⟩,
 ⟨some 32, some (.binOp .eql T_uint64 (.tmp 31) (.const (.int .u64 1)) T_uint64), none⟩,
 ⟨some 33, some (.indexAddr T_s_bool (.tmp 24) (.tmp 25)), none⟩,
 ⟨none, some (.store T_bool (.tmp 33) (.tmp 32)), none⟩])))))
  (.reg [] [⟨some 34, some (.binOp .add T_int (.tmp 15) (.const (.int .i64 1)) T_int), none⟩,
 ⟨some 15, some (.move (.tmp 34)), none⟩]))))
@[simp] theorem d_l_lift_BitsOf_0 : defs l_lift_BitsOf_0 = [16, 17, 4, 18, 19, 5, 20, 21, 22, 23, 5, 24, 25, 26, 27, 28, 29, 30, 31, 32, 33, 34, 15] := by rfl
def c_lift_BitsOf : LCode := (.seq (.reg [] [⟨some 1, some (.box T_api_Bits (.tmp 0)), none⟩,
 ⟨some 2, some (.assign (.const (.slice none 0 0))), none⟩])
  (.seq (.seq (.reg [] [⟨some 6, some (.load T_api_Bits (.tmp 1)), none⟩,
 ⟨some 7, some (.call ⟨(.value (.func f_bv_Right)), #[.tmp 6], #[T_api_Bits]⟩), none⟩,
 ⟨some 8, some (.unOp .not T_bool (.tmp 7)), none⟩])
  (.cond (.tmp 8) (.seq (.reg [] [⟨some 2, some (.assign (.const (.slice none 0 0))), none⟩])
  .ret)
  .skip))
  (.seq (.reg [] [⟨some 9, some (.fieldAddr T_api_Bits (.tmp 1) 0), none⟩,
 ⟨some 10, some (.load T_int (.tmp 9)), none⟩,
 ⟨some 11, some (.call ⟨(.builtin .max), #[(.tmp 10), (.const (.int .i64 1))], #[T_int, T_int]⟩), none⟩,
 ⟨some 12, some (.makeSlice T_s_bool (.tmp 11) (.tmp 11)), none⟩,
 ⟨some 3, some (.assign (.tmp 12)), none⟩])
  (.seq (.seq (.reg [] [⟨some 13, some (.move (.tmp 3)), none⟩,
 ⟨some 14, some (.call ⟨(.builtin .len), #[.tmp 13], #[T_s_bool]⟩), none⟩,
 ⟨some 15, some (.move (.const (.int .i64 0))), none⟩])
  (.block 0 (.loop l_lift_BitsOf_0)))
  (.seq (.reg [] [⟨some 35, some (.move (.tmp 3)), none⟩,
 ⟨some 2, some (.assign (.tmp 35)), none⟩])
  .ret)))))
theorem e_lift_BitsOf {a0 : AV} {H : AHeap} : R f_lift_BitsOf [a0] H = fnK Try.prog [] H [(.tmp 2)] (evalL Try.prog KT R c_lift_BitsOf (Env.args [a0] 0) H) :=
  runs_body (D := DT) (f := f_lift_BitsOf) Try.func38 (by kernel_rfl) (by kernel_rfl) (by kernel_rfl) (by kernel_rfl) (by kernel_rfl) (Nat.le_of_ble_eq_true rfl)
def c_bv_Bool : LCode := (.seq (.reg [] [⟨some 2, some (.alloc T_api_Bits), none⟩])
  (.seq (.seq (.reg [] [⟨some 3, some (.move (.tmp 0)), none⟩])
  (.cond (.tmp 3) (.seq (.reg [] [⟨some 4, some (.build T_api_Bits #[(1, (.const (.int .u64 1)))]), none⟩,
 ⟨none, some (.store T_api_Bits (.tmp 2) (.tmp 4)), none⟩])
  .ret)
  .skip))
  (.seq (.reg [] [⟨some 5, some (.build T_api_Bits #[]), none⟩,
 ⟨none, some (.store T_api_Bits (.tmp 2) (.tmp 5)), none⟩])
  .ret)))
theorem e_bv_Bool {a0 : AV} {H : AHeap} : R f_bv_Bool [a0] H = fnK Try.prog [] H [(.cell 2 T_api_Bits)] (evalL Try.prog KT R c_bv_Bool (Env.args [a0] 0) H) :=
  runs_body (D := DT) (f := f_bv_Bool) Try.func39 (by kernel_rfl) (by kernel_rfl) (by kernel_rfl) (by kernel_rfl) (by kernel_rfl) (Nat.le_of_ble_eq_true rfl)
def c_bv_cut : LCode := (.seq (.reg [] [⟨some 3, some (.box T_bv_number (.tmp 1)), none⟩,
 ⟨some 4, some (.alloc T_api_Bits), none⟩])
  (.seq (.reg [] [⟨some 6, some (.move (.tmp 0)), none⟩,
 ⟨some 7, some (.call ⟨(.value (.func f_bv_mask)), #[.tmp 6], #[T_int]⟩), none⟩,
 ⟨some 5, some (.alloc T_bv_number), none⟩,
 ⟨none, some (.store T_bv_number (.tmp 5) (.tmp 7)), none⟩])
  (.seq (.reg [] [⟨some 8, some (.move (.tmp 0)), none⟩,
 ⟨some 9, some (.fieldAddr T_bv_number (.tmp 3) 0), none⟩,
 ⟨some 10, some (.load T_uint64 (.tmp 9)), none⟩,
 ⟨some 11, some (.fieldAddr T_bv_number (.tmp 5) 0), none⟩,
 ⟨some 12, some (.load T_uint64 (.tmp 11)), none⟩,
 ⟨some 13, some (.binOp .and T_uint64 (.tmp 10) (.tmp 12) T_uint64), none⟩,
 ⟨some 14, some (.fieldAddr T_bv_number (.tmp 3) 1), none⟩,
 ⟨some 15, some (.load T_uint64 (.tmp 14)), none⟩,
 ⟨some 16, some (.fieldAddr T_bv_number (.tmp 5) 1), none⟩,
 ⟨some 17, some (.load T_uint64 (.tmp 16)), none⟩,
 ⟨some 18, some (.binOp .and T_uint64 (.tmp 15) (.tmp 17) T_uint64), none⟩,
 ⟨some 19, some (.build T_api_Bits #[(0, (.tmp 8)), (1, (.tmp 13)), (2, (.tmp 18))]), none⟩,
 ⟨none, some (.store T_api_Bits (.tmp 4) (.tmp 19)), none⟩])
  .ret)))
theorem e_bv_cut {a0 a1 : AV} {H : AHeap} : R f_bv_cut [a0, a1] H = fnK Try.prog [] H [(.cell 4 T_api_Bits)] (evalL Try.prog KT R c_bv_cut (Env.args [a0, a1] 0) H) :=
  runs_body (D := DT) (f := f_bv_cut) Try.func40 (by kernel_rfl) (by kernel_rfl) (by kernel_rfl) (by kernel_rfl) (by kernel_rfl) (Nat.le_of_ble_eq_true rfl)
def c_bv_of : LCode := (.seq (.reg [] [⟨some 1, some (.box T_api_Bits (.tmp 0)), none⟩,
 ⟨some 2, some (.alloc T_bv_number), none⟩])
  (.seq (.reg [] [⟨some 3, some (.fieldAddr T_api_Bits (.tmp 1) 1), none⟩,
 ⟨some 4, some (.load T_uint64 (.tmp 3)), none⟩,
 ⟨some 5, some (.fieldAddr T_api_Bits (.tmp 1) 2), none⟩,
 ⟨some 6, some (.load T_uint64 (.tmp 5)), none⟩,
 ⟨some 7, some (.build T_bv_number #[(0, (.tmp 4)), (1, (.tmp 6))]), none⟩,
 ⟨none, some (.store T_bv_number (.tmp 2) (.tmp 7)), none⟩])
  .ret))
theorem e_bv_of {a0 : AV} {H : AHeap} : R f_bv_of [a0] H = fnK Try.prog [] H [(.cell 2 T_bv_number)] (evalL Try.prog KT R c_bv_of (Env.args [a0] 0) H) :=
  runs_body (D := DT) (f := f_bv_of) Try.func41 (by kernel_rfl) (by kernel_rfl) (by kernel_rfl) (by kernel_rfl) (by kernel_rfl) (Nat.le_of_ble_eq_true rfl)
def c_term_Arity : LCode := (.seq (.reg [] [⟨some 2, some (.assign (.const (.int .i64 0))), none⟩])
  (.seq (.block 0 (.seq (.reg [] [⟨some 4, some (.move (.tmp 0)), none⟩,
 ⟨some 5, some (.binOp .lss T_int (.tmp 4) (.const (.int .i64 1)) T_int), none⟩,
 ⟨some 6, some (.move (.tmp 5)), none⟩,
 ⟨some 7, some (.move (.tmp 0)), some (some 6, false)⟩,
 ⟨some 8, some (.binOp .gtr T_int (.tmp 7) (.const (.int .i64 44)) T_int), some (some 6, false)⟩,
 ⟨some 9, some (.pick (.tmp 6) (.const (.bool true)) (.tmp 8)), none⟩,
 ⟨some 3, some (.assign (.tmp 9)), none⟩])
  (.cond (.tmp 3) (.seq (.reg [] [⟨some 2, some (.assign (.const (.int .i64 (-1)))), none⟩])
  .ret)
  (.seq (.reg [] [⟨some 11, some (.move (.tmp 0)), none⟩,
 ⟨some 12, some (.binOp .leq T_int (.tmp 11) (.const (.int .i64 2)) T_int), none⟩,
 ⟨some 10, some (.assign (.tmp 12)), none⟩])
  (.cond (.tmp 10) (.seq (.reg [] [⟨some 2, some (.assign (.const (.int .i64 0))), none⟩])
  .ret)
  (.seq (.reg [] [⟨some 14, some (.move (.tmp 0)), none⟩,
 ⟨some 15, some (.binOp .eql T_int (.tmp 14) (.const (.int .i64 3)) T_int), none⟩,
 ⟨some 16, some (.move (.tmp 15)), none⟩,
 ⟨some 17, some (.move (.tmp 0)), some (some 16, false)⟩,
 ⟨some 18, some (.binOp .eql T_int (.tmp 17) (.const (.int .i64 10)) T_int), some (some 16, false)⟩,
 ⟨some 19, some (.pick (.tmp 16) (.const (.bool true)) (.tmp 18)), none⟩,
 ⟨some 20, some (.move (.tmp 19)), none⟩,
 ⟨some 21, some (.move (.tmp 0)), some (some 20, false)⟩,
 ⟨some 22, some (.binOp .eql T_int (.tmp 21) (.const (.int .i64 11)) T_int), some (some 20, false)⟩,
 ⟨some 23, some (.pick (.tmp 20) (.const (.bool true)) (.tmp 22)), none⟩,
 ⟨some 24, some (.move (.tmp 23)), none⟩,
 ⟨some 25, some (.move (.tmp 0)), some (some 24, false)⟩,
 ⟨some 26, some (.binOp .geq T_int (.tmp 25) (.const (.int .i64 39)) T_int), some (some 24, false)⟩,
 ⟨some 27, some (.pick (.tmp 24) (.const (.bool true)) (.tmp 26)), none⟩,
 ⟨some 13, some (.assign (.tmp 27)), none⟩])
  (.cond (.tmp 13) (.seq (.reg [] [⟨some 2, some (.assign (.const (.int .i64 1))), none⟩])
  .ret)
  (.seq (.reg [] [⟨some 29, some (.move (.tmp 0)), none⟩,
 ⟨some 30, some (.binOp .eql T_int (.tmp 29) (.const (.int .i64 9)) T_int), none⟩,
 ⟨some 28, some (.assign (.tmp 30)), none⟩])
  (.cond (.tmp 28) (.seq (.reg [] [⟨some 2, some (.assign (.const (.int .i64 3))), none⟩])
  .ret)
  .skip)))))))))
  (.seq (.reg [] [⟨some 2, some (.assign (.const (.int .i64 2))), none⟩])
  .ret)))
theorem e_term_Arity {a0 : AV} {H : AHeap} : R f_term_Arity [a0] H = fnK Try.prog [] H [(.tmp 2)] (evalL Try.prog KT R c_term_Arity (Env.args [a0] 0) H) :=
  runs_body (D := DT) (f := f_term_Arity) Try.func42 (by kernel_rfl) (by kernel_rfl) (by kernel_rfl) (by kernel_rfl) (by kernel_rfl) (Nat.le_of_ble_eq_true rfl)
def c_slices_ContainsFunc_int_int : LCode := (.seq (.reg [] [⟨some 4, some (.assign (.const (.bool false))), none⟩])
  (.seq (.reg [] [⟨some 5, some (.move (.tmp 0)), none⟩,
 ⟨some 6, some (.move (.tmp 1)), none⟩,
 ⟨some 7, some (.call ⟨(.value (.func f_slices_IndexFunc_int_int)), #[.tmp 5, .tmp 6], #[T_s_int, T_x95]⟩), none⟩,
 ⟨some 8, some (.binOp .geq T_int (.tmp 7) (.const (.int .i64 0)) T_int), none⟩,
 ⟨some 4, some (.assign (.tmp 8)), none⟩])
  .ret))
theorem e_slices_ContainsFunc_int_int {a0 a1 : AV} {H : AHeap} : R f_slices_ContainsFunc_int_int [a0, a1] H = fnK Try.prog [] H [(.tmp 4)] (evalL Try.prog KT R c_slices_ContainsFunc_int_int (Env.args [a0, a1] 0) H) :=
  runs_body (D := DT) (f := f_slices_ContainsFunc_int_int) Try.func43 (by kernel_rfl) (by kernel_rfl) (by kernel_rfl) (by kernel_rfl) (by kernel_rfl) (Nat.le_of_ble_eq_true rfl)
def c_term_Sort_1 : LCode := (.seq (.reg [] [⟨some 2, some (.assign (.const (.bool false))), none⟩])
  (.seq (.reg [] [⟨some 3, some (.move (.tmp 0)), none⟩,
 ⟨some 4, some (.call ⟨(.value (.func f_term_sort)), #[.tmp 3], #[T_int]⟩), none⟩,
 ⟨some 5, some (.unOp .not T_bool (.tmp 4)), none⟩,
 ⟨some 2, some (.assign (.tmp 5)), none⟩])
  .ret))
theorem e_term_Sort_1 {a0 : AV} {H : AHeap} : R f_term_Sort_1 [a0] H = fnK Try.prog [] H [(.tmp 2)] (evalL Try.prog KT R c_term_Sort_1 (Env.args [a0] 0) H) :=
  runs_body (D := DT) (f := f_term_Sort_1) Try.func44 (by kernel_rfl) (by kernel_rfl) (by kernel_rfl) (by kernel_rfl) (by kernel_rfl) (Nat.le_of_ble_eq_true rfl)
def c_term_sort : LCode := (.seq (.reg [] [⟨some 2, some (.assign (.const (.bool false))), none⟩])
  (.seq (.reg [] [⟨some 3, some (.move (.tmp 0)), none⟩,
 ⟨some 4, some (.binOp .geq T_int (.tmp 3) (.const (.int .i64 0)) T_int), none⟩,
 ⟨some 5, some (.move (.tmp 4)), none⟩,
 ⟨some 6, some (.move (.tmp 0)), some (some 5, true)⟩,
 ⟨some 7, some (.binOp .leq T_int (.tmp 6) (.const (.int .i64 128)) T_int), some (some 5, true)⟩,
 ⟨some 8, some (.pick (.tmp 5) (.tmp 7) (.const (.bool false))), none⟩,
 ⟨some 2, some (.assign (.tmp 8)), none⟩])
  .ret))
theorem e_term_sort {a0 : AV} {H : AHeap} : R f_term_sort [a0] H = fnK Try.prog [] H [(.tmp 2)] (evalL Try.prog KT R c_term_sort (Env.args [a0] 0) H) :=
  runs_body (D := DT) (f := f_term_sort) Try.func45 (by kernel_rfl) (by kernel_rfl) (by kernel_rfl) (by kernel_rfl) (by kernel_rfl) (Nat.le_of_ble_eq_true rfl)
def c_term_told : LCode := (.seq (.reg [] [⟨some 8, some (.assign (.const (.int .i64 0))), none⟩,
 ⟨some 9, some (.assign (.const (.bool false))), none⟩])
  (.seq (.reg [] [⟨some 15, some (.move (.tmp 1)), none⟩,
 ⟨some 16, some (.binOp .eql T_int (.tmp 15) (.const (.int .i64 0)) T_int), none⟩,
 ⟨some 17, some (.move (.tmp 16)), none⟩,
 ⟨some 18, some (.move (.tmp 2)), some (some 17, true)⟩,
 ⟨some 19, some (.binOp .eql T_int (.tmp 18) (.const (.int .i64 0)) T_int), some (some 17, true)⟩,
 ⟨some 20, some (.pick (.tmp 17) (.tmp 19) (.const (.bool false))), none⟩,
 ⟨some 10, some (.assign (.tmp 20)), none⟩])
  (.seq (.reg [] [⟨some 21, some (.move (.tmp 3)), none⟩,
 ⟨some 22, some (.indexAddr T_s_int (.tmp 21) (.const (.int .i64 0))), none⟩,
 ⟨some 23, some (.load T_int (.tmp 22)), none⟩,
 ⟨some 24, some (.move (.tmp 3)), none⟩,
 ⟨some 25, some (.move (.tmp 3)), none⟩,
 ⟨some 26, some (.call ⟨(.builtin .len), #[.tmp 25], #[T_s_int]⟩), none⟩,
 ⟨some 27, some (.binOp .sub T_int (.tmp 26) (.const (.int .i64 1)) T_int), none⟩,
 ⟨some 28, some (.indexAddr T_s_int (.tmp 24) (.tmp 27)), none⟩,
 ⟨some 29, some (.load T_int (.tmp 28)), none⟩,
 ⟨some 11, some (.assign (.tmp 23)), none⟩,
 ⟨some 12, some (.assign (.tmp 29)), none⟩])
  (.seq (.block 0 (.seq (.reg [] [⟨some 31, some (.move (.tmp 0)), none⟩,
 ⟨some 32, some (.binOp .leq T_int (.tmp 31) (.const (.int .i64 7)) T_int), none⟩,
 ⟨some 30, some (.assign (.tmp 32)), none⟩])
  (.cond (.tmp 30) (.seq (.reg [] [⟨some 33, some (.move (.tmp 10)), none⟩,
 ⟨some 34, some (.move (.tmp 33)), none⟩,
 ⟨some 35, some (.move (.tmp 11)), some (some 34, true)⟩,
 ⟨some 36, some (.binOp .eql T_int (.tmp 35) (.const (.int .i64 0)) T_int), some (some 34, true)⟩,
 ⟨some 37, some (.pick (.tmp 34) (.tmp 36) (.const (.bool false))), none⟩,
 ⟨some 38, some (.move (.tmp 37)), none⟩,
 ⟨some 39, some (.move (.tmp 12)), some (some 38, true)⟩,
 ⟨some 40, some (.binOp .eql T_int (.tmp 39) (.const (.int .i64 0)) T_int), some (some 38, true)⟩,
 ⟨some 41, some (.pick (.tmp 38) (.tmp 40) (.const (.bool false))), none⟩,
 ⟨some 8, some (.assign (.const (.int .i64 0))), none⟩,
 ⟨some 9, some (.assign (.tmp 41)), none⟩])
  .ret)
  (.seq (.reg [] [⟨some 43, some (.move (.tmp 0)), none⟩,
 ⟨some 44, some (.binOp .eql T_int (.tmp 43) (.const (.int .i64 8)) T_int), none⟩,
 ⟨some 42, some (.assign (.tmp 44)), none⟩])
  (.cond (.tmp 42) (.seq (.reg [] [⟨some 45, some (.move (.tmp 10)), none⟩,
 ⟨some 46, some (.move (.tmp 45)), none⟩,
 ⟨some 47, some (.move (.tmp 11)), some (some 46, true)⟩,
 ⟨some 48, some (.move (.tmp 12)), some (some 46, true)⟩,
 ⟨some 49, some (.binOp .eql T_int (.tmp 47) (.tmp 48) T_int), some (some 46, true)⟩,
 ⟨some 50, some (.pick (.tmp 46) (.tmp 49) (.const (.bool false))), none⟩,
 ⟨some 8, some (.assign (.const (.int .i64 0))), none⟩,
 ⟨some 9, some (.assign (.tmp 50)), none⟩])
  .ret)
  (.seq (.reg [] [⟨some 52, some (.move (.tmp 0)), none⟩,
 ⟨some 53, some (.binOp .eql T_int (.tmp 52) (.const (.int .i64 9)) T_int), none⟩,
 ⟨some 51, some (.assign (.tmp 53)), none⟩])
  (.cond (.tmp 51) (.seq (.reg [] [⟨some 54, some (.move (.tmp 12)), none⟩,
 ⟨some 55, some (.move (.tmp 10)), none⟩,
 ⟨some 56, some (.move (.tmp 55)), none⟩,
 ⟨some 57, some (.move (.tmp 11)), some (some 56, true)⟩,
 ⟨some 58, some (.binOp .eql T_int (.tmp 57) (.const (.int .i64 0)) T_int), some (some 56, true)⟩,
 ⟨some 59, some (.pick (.tmp 56) (.tmp 58) (.const (.bool false))), none⟩,
 ⟨some 60, some (.move (.tmp 59)), none⟩,
 ⟨some 61, some (.move (.tmp 3)), some (some 60, true)⟩,
 ⟨some 62, some (.indexAddr T_s_int (.tmp 61) (.const (.int .i64 1))), some (some 60, true)⟩,
 ⟨some 63, some (.load T_int (.tmp 62)), some (some 60, true)⟩,
 ⟨some 64, some (.move (.tmp 12)), some (some 60, true)⟩,
 ⟨some 65, some (.binOp .eql T_int (.tmp 63) (.tmp 64) T_int), some (some 60, true)⟩,
 ⟨some 66, some (.pick (.tmp 60) (.tmp 65) (.const (.bool false))), none⟩,
 ⟨some 8, some (.assign (.tmp 54)), none⟩,
 ⟨some 9, some (.assign (.tmp 66)), none⟩])
  .ret)
  (.seq (.reg [] [⟨some 68, some (.move (.tmp 0)), none⟩,
 ⟨some 69, some (.binOp .eql T_int (.tmp 68) (.const (.int .i64 38)) T_int), none⟩,
 ⟨some 67, some (.assign (.tmp 69)), none⟩])
  (.cond (.tmp 67) (.seq (.reg [] [⟨some 70, some (.move (.tmp 11)), none⟩,
 ⟨some 71, some (.move (.tmp 12)), none⟩,
 ⟨some 72, some (.binOp .add T_int (.tmp 70) (.tmp 71) T_int), none⟩,
 ⟨some 73, some (.move (.tmp 10)), none⟩,
 ⟨some 74, some (.move (.tmp 73)), none⟩,
 ⟨some 75, some (.move (.tmp 11)), some (some 74, true)⟩,
 ⟨some 76, some (.binOp .gtr T_int (.tmp 75) (.const (.int .i64 0)) T_int), some (some 74, true)⟩,
 ⟨some 77, some (.pick (.tmp 74) (.tmp 76) (.const (.bool false))), none⟩,
 ⟨some 78, some (.move (.tmp 77)), none⟩,
 ⟨some 79, some (.move (.tmp 12)), some (some 78, true)⟩,
 ⟨some 80, some (.binOp .gtr T_int (.tmp 79) (.const (.int .i64 0)) T_int), some (some 78, true)⟩,
 ⟨some 81, some (.pick (.tmp 78) (.tmp 80) (.const (.bool false))), none⟩,
 ⟨some 8, some (.assign (.tmp 72)), none⟩,
 ⟨some 9, some (.assign (.tmp 81)), none⟩])
  .ret)
  (.seq (.reg [] [⟨some 83, some (.move (.tmp 0)), none⟩,
 ⟨some 84, some (.binOp .geq T_int (.tmp 83) (.const (.int .i64 39)) T_int), none⟩,
 ⟨some 82, some (.assign (.tmp 84)), none⟩])
  (.cond (.tmp 82) (.seq (.reg [] [⟨some 86, some (.move (.tmp 0)), none⟩,
 ⟨some 87, some (.move (.tmp 1)), none⟩,
 ⟨some 88, some (.move (.tmp 2)), none⟩,
 ⟨some 89, some (.move (.tmp 11)), none⟩,
 ⟨some 90, some (.call ⟨(.value (.func f_term_numbered)), #[.tmp 86, .tmp 87, .tmp 88, .tmp 89], #[T_int, T_int, T_int, T_int]⟩), none⟩,
 ⟨some 85, some (.move (.tmp 90)), none⟩,
 ⟨some 91, some (.extract (.tmp 85) 0), none⟩,
 ⟨some 92, some (.extract (.tmp 85) 1), none⟩,
 ⟨some 13, some (.assign (.tmp 91)), none⟩,
 ⟨some 14, some (.assign (.tmp 92)), none⟩])
  (.seq (.reg [] [⟨some 93, some (.move (.tmp 13)), none⟩,
 ⟨some 94, some (.move (.tmp 14)), none⟩,
 ⟨some 95, some (.move (.tmp 94)), none⟩,
 ⟨some 96, some (.move (.tmp 11)), some (some 95, true)⟩,
 ⟨some 97, some (.binOp .gtr T_int (.tmp 96) (.const (.int .i64 0)) T_int), some (some 95, true)⟩,
 ⟨some 98, some (.pick (.tmp 95) (.tmp 97) (.const (.bool false))), none⟩,
 ⟨some 8, some (.assign (.tmp 93)), none⟩,
 ⟨some 9, some (.assign (.tmp 98)), none⟩])
  .ret))
  (.seq (.reg [] [⟨some 100, some (.move (.tmp 0)), none⟩,
 ⟨some 101, some (.binOp .eql T_int (.tmp 100) (.const (.int .i64 37)) T_int), none⟩,
 ⟨some 99, some (.assign (.tmp 101)), none⟩])
  (.cond (.tmp 99) (.seq (.reg [] [⟨some 102, some (.move (.tmp 10)), none⟩,
 ⟨some 103, some (.move (.tmp 102)), none⟩,
 ⟨some 104, some (.move (.tmp 11)), some (some 103, true)⟩,
 ⟨some 105, some (.move (.tmp 12)), some (some 103, true)⟩,
 ⟨some 106, some (.binOp .eql T_int (.tmp 104) (.tmp 105) T_int), some (some 103, true)⟩,
 ⟨some 107, some (.pick (.tmp 103) (.tmp 106) (.const (.bool false))), none⟩,
 ⟨some 108, some (.move (.tmp 107)), none⟩,
 ⟨some 109, some (.move (.tmp 11)), some (some 108, true)⟩,
 ⟨some 110, some (.binOp .gtr T_int (.tmp 109) (.const (.int .i64 0)) T_int), some (some 108, true)⟩,
 ⟨some 111, some (.pick (.tmp 108) (.tmp 110) (.const (.bool false))), none⟩,
 ⟨some 8, some (.assign (.const (.int .i64 1))), none⟩,
 ⟨some 9, some (.assign (.tmp 111)), none⟩])
  .ret)
  (.seq (.reg [] [⟨some 113, some (.move (.tmp 0)), none⟩,
 ⟨some 114, some (.binOp .geq T_int (.tmp 113) (.const (.int .i64 29)) T_int), none⟩,
 ⟨some 112, some (.assign (.tmp 114)), none⟩])
  (.cond (.tmp 112) (.seq (.reg [] [⟨some 115, some (.move (.tmp 10)), none⟩,
 ⟨some 116, some (.move (.tmp 115)), none⟩,
 ⟨some 117, some (.move (.tmp 11)), some (some 116, true)⟩,
 ⟨some 118, some (.move (.tmp 12)), some (some 116, true)⟩,
 ⟨some 119, some (.binOp .eql T_int (.tmp 117) (.tmp 118) T_int), some (some 116, true)⟩,
 ⟨some 120, some (.pick (.tmp 116) (.tmp 119) (.const (.bool false))), none⟩,
 ⟨some 121, some (.move (.tmp 120)), none⟩,
 ⟨some 122, some (.move (.tmp 11)), some (some 121, true)⟩,
 ⟨some 123, some (.binOp .gtr T_int (.tmp 122) (.const (.int .i64 0)) T_int), some (some 121, true)⟩,
 ⟨some 124, some (.pick (.tmp 121) (.tmp 123) (.const (.bool false))), none⟩,
 ⟨some 8, some (.assign (.const (.int .i64 0))), none⟩,
 ⟨some 9, some (.assign (.tmp 124)), none⟩])
  .ret)
  .skip)))))))))))))))
  (.seq (.reg [] [⟨some 125, some (.move (.tmp 11)), none⟩,
 ⟨some 126, some (.move (.tmp 10)), none⟩,
 ⟨some 127, some (.move (.tmp 126)), none⟩,
 ⟨some 128, some (.move (.tmp 11)), some (some 127, true)⟩,
 ⟨some 129, some (.move (.tmp 12)), some (some 127, true)⟩,
 ⟨some 130, some (.binOp .eql T_int (.tmp 128) (.tmp 129) T_int), some (some 127, true)⟩,
 ⟨some 131, some (.pick (.tmp 127) (.tmp 130) (.const (.bool false))), none⟩,
 ⟨some 132, some (.move (.tmp 131)), none⟩,
 ⟨some 133, some (.move (.tmp 11)), some (some 132, true)⟩,
 ⟨some 134, some (.binOp .gtr T_int (.tmp 133) (.const (.int .i64 0)) T_int), some (some 132, true)⟩,
 ⟨some 135, some (.pick (.tmp 132) (.tmp 134) (.const (.bool false))), none⟩,
 ⟨some 8, some (.assign (.tmp 125)), none⟩,
 ⟨some 9, some (.assign (.tmp 135)), none⟩])
  .ret)))))
theorem e_term_told {a0 a1 a2 a3 : AV} {H : AHeap} : R f_term_told [a0, a1, a2, a3] H = fnK Try.prog [] H [(.tmp 8), (.tmp 9)] (evalL Try.prog KT R c_term_told (Env.args [a0, a1, a2, a3] 0) H) :=
  runs_body (D := DT) (f := f_term_told) Try.func46 (by kernel_rfl) (by kernel_rfl) (by kernel_rfl) (by kernel_rfl) (by kernel_rfl) (Nat.le_of_ble_eq_true rfl)
def c_eval_logic : LCode := (.seq (.reg [] [⟨some 1, some (.box T_x98 (.tmp 0)), none⟩,
 ⟨some 2, some (.alloc T_eval_meaning), none⟩])
  (.seq (.reg [] [⟨some 3, some (.makeFunc (.func f_eval_logic_1) #[] #[.tmp 1]), none⟩,
 ⟨some 4, some (.build T_eval_meaning #[(0, (.tmp 3))]), none⟩,
 ⟨none, some (.store T_eval_meaning (.tmp 2) (.tmp 4)), none⟩])
  .ret))
theorem e_eval_logic {a0 : AV} {H : AHeap} : R f_eval_logic [a0] H = fnK Try.prog [] H [(.cell 2 T_eval_meaning)] (evalL Try.prog KT R c_eval_logic (Env.args [a0] 0) H) :=
  runs_body (D := DT) (f := f_eval_logic) Try.func47 (by kernel_rfl) (by kernel_rfl) (by kernel_rfl) (by kernel_rfl) (by kernel_rfl) (Nat.le_of_ble_eq_true rfl)
def c_eval_bools_1 : LCode := (.seq (.reg [] [⟨some 2, some (.assign (.const (.bool false))), none⟩])
  (.seq (.reg [] [⟨some 3, some (.move (.tmp 0)), none⟩,
 ⟨some 4, some (.indexAddr T_s_api_Bits (.tmp 3) (.const (.int .i64 0))), none⟩,
 ⟨some 5, some (.load T_api_Bits (.tmp 4)), none⟩,
 ⟨some 6, some (.call ⟨(.value (.func f_eval_yes)), #[.tmp 5], #[T_api_Bits]⟩), none⟩,
 ⟨some 7, some (.unOp .not T_bool (.tmp 6)), none⟩,
 ⟨some 2, some (.assign (.tmp 7)), none⟩])
  .ret))
theorem e_eval_bools_1 {a0 : AV} {H : AHeap} : R f_eval_bools_1 [a0] H = fnK Try.prog [] H [(.tmp 2)] (evalL Try.prog KT R c_eval_bools_1 (Env.args [a0] 0) H) :=
  runs_body (D := DT) (f := f_eval_bools_1) Try.func48 (by kernel_rfl) (by kernel_rfl) (by kernel_rfl) (by kernel_rfl) (by kernel_rfl) (Nat.le_of_ble_eq_true rfl)
def c_eval_yes : LCode := (.seq (.reg [] [⟨some 1, some (.box T_api_Bits (.tmp 0)), none⟩,
 ⟨some 2, some (.assign (.const (.bool false))), none⟩])
  (.seq (.reg [] [⟨some 3, some (.fieldAddr T_api_Bits (.tmp 1) 1), none⟩,
 ⟨some 4, some (.load T_uint64 (.tmp 3)), none⟩,
 ⟨some 5, some (.binOp .eql T_uint64 (.tmp 4) (.const (.int .u64 1)) T_uint64), none⟩,
 ⟨some 2, some (.assign (.tmp 5)), none⟩])
  .ret))
theorem e_eval_yes {a0 : AV} {H : AHeap} : R f_eval_yes [a0] H = fnK Try.prog [] H [(.tmp 2)] (evalL Try.prog KT R c_eval_yes (Env.args [a0] 0) H) :=
  runs_body (D := DT) (f := f_eval_yes) Try.func49 (by kernel_rfl) (by kernel_rfl) (by kernel_rfl) (by kernel_rfl) (by kernel_rfl) (Nat.le_of_ble_eq_true rfl)
def c_eval_bools_2 : LCode := (.seq (.reg [] [⟨some 2, some (.assign (.const (.bool false))), none⟩])
  (.seq (.reg [] [⟨some 3, some (.move (.tmp 0)), none⟩,
 ⟨some 4, some (.indexAddr T_s_api_Bits (.tmp 3) (.const (.int .i64 0))), none⟩,
 ⟨some 5, some (.load T_api_Bits (.tmp 4)), none⟩,
 ⟨some 6, some (.call ⟨(.value (.func f_eval_yes)), #[.tmp 5], #[T_api_Bits]⟩), none⟩,
 ⟨some 7, some (.move (.tmp 6)), none⟩,
 ⟨some 8, some (.move (.tmp 0)), some (some 7, true)⟩,
 ⟨some 9, some (.indexAddr T_s_api_Bits (.tmp 8) (.const (.int .i64 1))), some (some 7, true)⟩,
 ⟨some 10, some (.load T_api_Bits (.tmp 9)), some (some 7, true)⟩,
 ⟨some 11, some (.call ⟨(.value (.func f_eval_yes)), #[.tmp 10], #[T_api_Bits]⟩), some (some 7, true)⟩,
 ⟨some 12, some (.pick (.tmp 7) (.tmp 11) (.const (.bool false))), none⟩,
 ⟨some 2, some (.assign (.tmp 12)), none⟩])
  .ret))
theorem e_eval_bools_2 {a0 : AV} {H : AHeap} : R f_eval_bools_2 [a0] H = fnK Try.prog [] H [(.tmp 2)] (evalL Try.prog KT R c_eval_bools_2 (Env.args [a0] 0) H) :=
  runs_body (D := DT) (f := f_eval_bools_2) Try.func50 (by kernel_rfl) (by kernel_rfl) (by kernel_rfl) (by kernel_rfl) (by kernel_rfl) (Nat.le_of_ble_eq_true rfl)
def c_eval_bools_3 : LCode := (.seq (.reg [] [⟨some 2, some (.assign (.const (.bool false))), none⟩])
  (.seq (.reg [] [⟨some 3, some (.move (.tmp 0)), none⟩,
 ⟨some 4, some (.indexAddr T_s_api_Bits (.tmp 3) (.const (.int .i64 0))), none⟩,
 ⟨some 5, some (.load T_api_Bits (.tmp 4)), none⟩,
 ⟨some 6, some (.call ⟨(.value (.func f_eval_yes)), #[.tmp 5], #[T_api_Bits]⟩), none⟩,
 ⟨some 7, some (.move (.tmp 6)), none⟩,
 ⟨some 8, some (.move (.tmp 0)), some (some 7, false)⟩,
 ⟨some 9, some (.indexAddr T_s_api_Bits (.tmp 8) (.const (.int .i64 1))), some (some 7, false)⟩,
 ⟨some 10, some (.load T_api_Bits (.tmp 9)), some (some 7, false)⟩,
 ⟨some 11, some (.call ⟨(.value (.func f_eval_yes)), #[.tmp 10], #[T_api_Bits]⟩), some (some 7, false)⟩,
 ⟨some 12, some (.pick (.tmp 7) (.const (.bool true)) (.tmp 11)), none⟩,
 ⟨some 2, some (.assign (.tmp 12)), none⟩])
  .ret))
theorem e_eval_bools_3 {a0 : AV} {H : AHeap} : R f_eval_bools_3 [a0] H = fnK Try.prog [] H [(.tmp 2)] (evalL Try.prog KT R c_eval_bools_3 (Env.args [a0] 0) H) :=
  runs_body (D := DT) (f := f_eval_bools_3) Try.func51 (by kernel_rfl) (by kernel_rfl) (by kernel_rfl) (by kernel_rfl) (by kernel_rfl) (Nat.le_of_ble_eq_true rfl)
def c_eval_bools_4 : LCode := (.seq (.reg [] [⟨some 2, some (.assign (.const (.bool false))), none⟩])
  (.seq (.reg [3] [⟨some 3, some (.move (.tmp 0)), none⟩,
 ⟨some 4, some (.indexAddr T_s_api_Bits (.tmp 3) (.const (.int .i64 0))), none⟩,
 ⟨some 5, some (.load T_api_Bits (.tmp 4)), none⟩,
 ⟨some 6, some (.call ⟨(.value (.func f_eval_yes)), #[.tmp 5], #[T_api_Bits]⟩), none⟩,
 ⟨some 7, some (.move (.tmp 0)), none⟩,
 ⟨some 8, some (.indexAddr T_s_api_Bits (.tmp 7) (.const (.int .i64 1))), none⟩,
 ⟨some 9, some (.load T_api_Bits (.tmp 8)), none⟩,
 ⟨some 10, some (.call ⟨(.value (.func f_eval_yes)), #[.tmp 9], #[T_api_Bits]⟩), none⟩,
 ⟨some 11, some (.binOp .neq T_bool (.tmp 6) (.tmp 10) T_bool), none⟩,
 ⟨some 2, some (.assign (.tmp 11)), none⟩])
  .ret))
theorem e_eval_bools_4 {a0 : AV} {H : AHeap} : R f_eval_bools_4 [a0] H = fnK Try.prog [] H [(.tmp 2)] (evalL Try.prog KT R c_eval_bools_4 (Env.args [a0] 0) H) :=
  runs_body (D := DT) (f := f_eval_bools_4) Try.func52 (by kernel_rfl) (by kernel_rfl) (by kernel_rfl) (by kernel_rfl) (by kernel_rfl) (Nat.le_of_ble_eq_true rfl)
def c_eval_bools_5 : LCode := (.seq (.reg [] [⟨some 2, some (.assign (.const (.bool false))), none⟩])
  (.seq (.reg [] [⟨some 3, some (.move (.tmp 0)), none⟩,
 ⟨some 4, some (.indexAddr T_s_api_Bits (.tmp 3) (.const (.int .i64 0))), none⟩,
 ⟨some 5, some (.load T_api_Bits (.tmp 4)), none⟩,
 ⟨some 6, some (.call ⟨(.value (.func f_eval_yes)), #[.tmp 5], #[T_api_Bits]⟩), none⟩,
 ⟨some 7, some (.unOp .not T_bool (.tmp 6)), none⟩,
 ⟨some 8, some (.move (.tmp 7)), none⟩,
 ⟨some 9, some (.move (.tmp 0)), some (some 8, false)⟩,
 ⟨some 10, some (.indexAddr T_s_api_Bits (.tmp 9) (.const (.int .i64 1))), some (some 8, false)⟩,
 ⟨some 11, some (.load T_api_Bits (.tmp 10)), some (some 8, false)⟩,
 ⟨some 12, some (.call ⟨(.value (.func f_eval_yes)), #[.tmp 11], #[T_api_Bits]⟩), some (some 8, false)⟩,
 ⟨some 13, some (.pick (.tmp 8) (.const (.bool true)) (.tmp 12)), none⟩,
 ⟨some 2, some (.assign (.tmp 13)), none⟩])
  .ret))
theorem e_eval_bools_5 {a0 : AV} {H : AHeap} : R f_eval_bools_5 [a0] H = fnK Try.prog [] H [(.tmp 2)] (evalL Try.prog KT R c_eval_bools_5 (Env.args [a0] 0) H) :=
  runs_body (D := DT) (f := f_eval_bools_5) Try.func53 (by kernel_rfl) (by kernel_rfl) (by kernel_rfl) (by kernel_rfl) (by kernel_rfl) (Nat.le_of_ble_eq_true rfl)
def c_eval_bools_6 : LCode := (.seq (.reg [] [⟨some 2, some (.assign (.const (.bool false))), none⟩])
  (.seq (.reg [] [⟨some 3, some (.move (.tmp 0)), none⟩,
 ⟨some 4, some (.indexAddr T_s_api_Bits (.tmp 3) (.const (.int .i64 0))), none⟩,
 ⟨some 5, some (.load T_api_Bits (.tmp 4)), none⟩,
 ⟨some 6, some (.move (.tmp 0)), none⟩,
 ⟨some 7, some (.indexAddr T_s_api_Bits (.tmp 6) (.const (.int .i64 1))), none⟩,
 ⟨some 8, some (.load T_api_Bits (.tmp 7)), none⟩,
 ⟨some 9, some (.binOp .eql T_api_Bits (.tmp 5) (.tmp 8) T_api_Bits), none⟩,
 ⟨some 2, some (.assign (.tmp 9)), none⟩])
  .ret))
theorem e_eval_bools_6 {a0 : AV} {H : AHeap} : R f_eval_bools_6 [a0] H = fnK Try.prog [] H [(.tmp 2)] (evalL Try.prog KT R c_eval_bools_6 (Env.args [a0] 0) H) :=
  runs_body (D := DT) (f := f_eval_bools_6) Try.func54 (by kernel_rfl) (by kernel_rfl) (by kernel_rfl) (by kernel_rfl) (by kernel_rfl) (Nat.le_of_ble_eq_true rfl)
def c_eval_bools_7 : LCode := (.seq (.reg [] [⟨some 6, some (.alloc T_api_Bits), none⟩,
 ⟨some 7, some (.assign (.const (.int .i64 0))), none⟩])
  (.seq (.seq (.reg [] [⟨some 8, some (.move (.tmp 2)), none⟩,
 ⟨some 9, some (.indexAddr T_s_api_Bits (.tmp 8) (.const (.int .i64 0))), none⟩,
 ⟨some 10, some (.load T_api_Bits (.tmp 9)), none⟩,
 ⟨some 11, some (.call ⟨(.value (.func f_eval_yes)), #[.tmp 10], #[T_api_Bits]⟩), none⟩])
  (.cond (.tmp 11) (.seq (.reg [] [⟨some 12, some (.move (.tmp 2)), none⟩,
 ⟨some 13, some (.indexAddr T_s_api_Bits (.tmp 12) (.const (.int .i64 1))), none⟩,
 ⟨some 14, some (.load T_api_Bits (.tmp 13)), none⟩,
 ⟨none, some (.store T_api_Bits (.tmp 6) (.tmp 14)), none⟩,
 ⟨some 7, some (.assign (.const (.int .i64 0))), none⟩])
  .ret)
  .skip))
  (.seq (.reg [] [⟨some 15, some (.move (.tmp 2)), none⟩,
 ⟨some 16, some (.indexAddr T_s_api_Bits (.tmp 15) (.const (.int .i64 2))), none⟩,
 ⟨some 17, some (.load T_api_Bits (.tmp 16)), none⟩,
 ⟨none, some (.store T_api_Bits (.tmp 6) (.tmp 17)), none⟩,
 ⟨some 7, some (.assign (.const (.int .i64 0))), none⟩])
  .ret)))
theorem e_eval_bools_7 {a0 a1 a2 : AV} {H : AHeap} : R f_eval_bools_7 [a0, a1, a2] H = fnK Try.prog [] H [(.cell 6 T_api_Bits), (.tmp 7)] (evalL Try.prog KT R c_eval_bools_7 (Env.args [a0, a1, a2] 0) H) :=
  runs_body (D := DT) (f := f_eval_bools_7) Try.func55 (by kernel_rfl) (by kernel_rfl) (by kernel_rfl) (by kernel_rfl) (by kernel_rfl) (Nat.le_of_ble_eq_true rfl)
def c_eval_words_1 : LCode := (.seq (.reg [] [⟨some 7, some (.alloc T_api_Bits), none⟩,
 ⟨some 8, some (.assign (.const (.int .i64 0))), none⟩])
  (.seq (.seq (.reg [] [⟨some 9, some (.load T_int (.tmp 3)), none⟩])
  (.block 0 (.seq (.seq (.reg [] [⟨some 11, some (.binOp .eql T_int (.tmp 9) (.const (.int .i64 10)) T_int), none⟩,
 ⟨some 10, some (.assign (.tmp 11)), none⟩])
  (.cond (.tmp 10) .skip
  (.reg [] [⟨some 12, some (.binOp .eql T_int (.tmp 9) (.const (.int .i64 11)) T_int), none⟩,
 ⟨some 10, some (.assign (.tmp 12)), none⟩])))
  (.cond (.tmp 10) (.seq (.reg [] [⟨some 13, some (.load T_int (.tmp 3)), none⟩,
 ⟨some 14, some (.move (.tmp 2)), none⟩,
 ⟨some 15, some (.indexAddr T_s_api_Bits (.tmp 14) (.const (.int .i64 0))), none⟩,
 ⟨some 16, some (.load T_api_Bits (.tmp 15)), none⟩,
 ⟨some 17, some (.call ⟨(.value (.func f_bv_One)), #[.tmp 13, .tmp 16], #[T_int, T_api_Bits]⟩), none⟩,
 ⟨some 18, some (.extract (.tmp 17) 0), none⟩,
 ⟨some 19, some (.extract (.tmp 17) 1), none⟩,
 ⟨none, some (.store T_api_Bits (.tmp 7) (.tmp 18)), none⟩,
 ⟨some 8, some (.assign (.tmp 19)), none⟩])
  .ret)
  (.seq (.reg [] [⟨some 21, some (.binOp .eql T_int (.tmp 9) (.const (.int .i64 38)) T_int), none⟩,
 ⟨some 20, some (.assign (.tmp 21)), none⟩])
  (.cond (.tmp 20) (.seq (.reg [] [⟨some 22, some (.move (.tmp 2)), none⟩,
 ⟨some 23, some (.indexAddr T_s_api_Bits (.tmp 22) (.const (.int .i64 0))), none⟩,
 ⟨some 24, some (.load T_api_Bits (.tmp 23)), none⟩,
 ⟨some 25, some (.move (.tmp 2)), none⟩,
 ⟨some 26, some (.indexAddr T_s_api_Bits (.tmp 25) (.const (.int .i64 1))), none⟩,
 ⟨some 27, some (.load T_api_Bits (.tmp 26)), none⟩,
 ⟨some 28, some (.call ⟨(.value (.func f_bv_Concat)), #[.tmp 24, .tmp 27], #[T_api_Bits, T_api_Bits]⟩), none⟩,
 ⟨some 29, some (.extract (.tmp 28) 0), none⟩,
 ⟨some 30, some (.extract (.tmp 28) 1), none⟩,
 ⟨none, some (.store T_api_Bits (.tmp 7) (.tmp 29)), none⟩,
 ⟨some 8, some (.assign (.tmp 30)), none⟩])
  .ret)
  (.seq (.reg [] [⟨some 32, some (.binOp .eql T_int (.tmp 9) (.const (.int .i64 39)) T_int), none⟩,
 ⟨some 31, some (.assign (.tmp 32)), none⟩])
  (.cond (.tmp 31) (.seq (.reg [] [⟨some 33, some (.move (.tmp 2)), none⟩,
 ⟨some 34, some (.indexAddr T_s_api_Bits (.tmp 33) (.const (.int .i64 0))), none⟩,
 ⟨some 35, some (.load T_api_Bits (.tmp 34)), none⟩,
 ⟨some 36, some (.move (.tmp 0)), none⟩,
 ⟨some 37, some (.move (.tmp 1)), none⟩,
 ⟨some 38, some (.call ⟨(.value (.func f_bv_Extract)), #[.tmp 35, .tmp 36, .tmp 37], #[T_api_Bits, T_int, T_int]⟩), none⟩,
 ⟨some 39, some (.extract (.tmp 38) 0), none⟩,
 ⟨some 40, some (.extract (.tmp 38) 1), none⟩,
 ⟨none, some (.store T_api_Bits (.tmp 7) (.tmp 39)), none⟩,
 ⟨some 8, some (.assign (.tmp 40)), none⟩])
  .ret)
  (.seq (.seq (.reg [] [⟨some 42, some (.binOp .eql T_int (.tmp 9) (.const (.int .i64 40)) T_int), none⟩,
 ⟨some 41, some (.assign (.tmp 42)), none⟩])
  (.cond (.tmp 41) .skip
  (.reg [] [⟨some 43, some (.binOp .eql T_int (.tmp 9) (.const (.int .i64 41)) T_int), none⟩,
 ⟨some 41, some (.assign (.tmp 43)), none⟩])))
  (.cond (.tmp 41) (.seq (.reg [] [⟨some 44, some (.move (.tmp 2)), none⟩,
 ⟨some 45, some (.indexAddr T_s_api_Bits (.tmp 44) (.const (.int .i64 0))), none⟩,
 ⟨some 46, some (.load T_api_Bits (.tmp 45)), none⟩,
 ⟨some 47, some (.move (.tmp 0)), none⟩,
 ⟨some 48, some (.load T_int (.tmp 3)), none⟩,
 ⟨some 49, some (.binOp .eql T_int (.tmp 48) (.const (.int .i64 41)) T_int), none⟩,
 ⟨some 50, some (.call ⟨(.value (.func f_bv_Extend)), #[.tmp 46, .tmp 47, .tmp 49], #[T_api_Bits, T_int, T_bool]⟩), none⟩,
 ⟨some 51, some (.extract (.tmp 50) 0), none⟩,
 ⟨some 52, some (.extract (.tmp 50) 1), none⟩,
 ⟨none, some (.store T_api_Bits (.tmp 7) (.tmp 51)), none⟩,
 ⟨some 8, some (.assign (.tmp 52)), none⟩])
  .ret)
  (.seq (.seq (.reg [] [⟨some 54, some (.binOp .eql T_int (.tmp 9) (.const (.int .i64 42)) T_int), none⟩,
 ⟨some 53, some (.assign (.tmp 54)), none⟩])
  (.cond (.tmp 53) .skip
  (.reg [] [⟨some 55, some (.binOp .eql T_int (.tmp 9) (.const (.int .i64 43)) T_int), none⟩,
 ⟨some 53, some (.assign (.tmp 55)), none⟩])))
  (.cond (.tmp 53) (.seq (.reg [] [⟨some 56, some (.move (.tmp 2)), none⟩,
 ⟨some 57, some (.indexAddr T_s_api_Bits (.tmp 56) (.const (.int .i64 0))), none⟩,
 ⟨some 58, some (.load T_api_Bits (.tmp 57)), none⟩,
 ⟨some 59, some (.move (.tmp 0)), none⟩,
 ⟨some 60, some (.load T_int (.tmp 3)), none⟩,
 ⟨some 61, some (.binOp .eql T_int (.tmp 60) (.const (.int .i64 42)) T_int), none⟩,
 ⟨some 62, some (.call ⟨(.value (.func f_bv_Rotate)), #[.tmp 58, .tmp 59, .tmp 61], #[T_api_Bits, T_int, T_bool]⟩), none⟩,
 ⟨some 63, some (.extract (.tmp 62) 0), none⟩,
 ⟨some 64, some (.extract (.tmp 62) 1), none⟩,
 ⟨none, some (.store T_api_Bits (.tmp 7) (.tmp 63)), none⟩,
 ⟨some 8, some (.assign (.tmp 64)), none⟩])
  .ret)
  (.seq (.reg [] [⟨some 66, some (.binOp .eql T_int (.tmp 9) (.const (.int .i64 44)) T_int), none⟩,
 ⟨some 65, some (.assign (.tmp 66)), none⟩])
  (.cond (.tmp 65) (.seq (.reg [] [⟨some 67, some (.move (.tmp 2)), none⟩,
 ⟨some 68, some (.indexAddr T_s_api_Bits (.tmp 67) (.const (.int .i64 0))), none⟩,
 ⟨some 69, some (.load T_api_Bits (.tmp 68)), none⟩,
 ⟨some 70, some (.move (.tmp 0)), none⟩,
 ⟨some 71, some (.call ⟨(.value (.func f_bv_Repeat)), #[.tmp 69, .tmp 70], #[T_api_Bits, T_int]⟩), none⟩,
 ⟨some 72, some (.extract (.tmp 71) 0), none⟩,
 ⟨some 73, some (.extract (.tmp 71) 1), none⟩,
 ⟨none, some (.store T_api_Bits (.tmp 7) (.tmp 72)), none⟩,
 ⟨some 8, some (.assign (.tmp 73)), none⟩])
  .ret)
  .skip))))))))))))))
  (.seq (.reg [] [⟨some 74, some (.load T_int (.tmp 3)), none⟩,
 ⟨some 75, some (.move (.tmp 2)), none⟩,
 ⟨some 76, some (.indexAddr T_s_api_Bits (.tmp 75) (.const (.int .i64 0))), none⟩,
 ⟨some 77, some (.load T_api_Bits (.tmp 76)), none⟩,
 ⟨some 78, some (.move (.tmp 2)), none⟩,
 ⟨some 79, some (.indexAddr T_s_api_Bits (.tmp 78) (.const (.int .i64 1))), none⟩,
 ⟨some 80, some (.load T_api_Bits (.tmp 79)), none⟩,
 ⟨some 81, some (.call ⟨(.value (.func f_bv_Two)), #[.tmp 74, .tmp 77, .tmp 80], #[T_int, T_api_Bits, T_api_Bits]⟩), none⟩,
 ⟨some 82, some (.extract (.tmp 81) 0), none⟩,
 ⟨some 83, some (.extract (.tmp 81) 1), none⟩,
 ⟨none, some (.store T_api_Bits (.tmp 7) (.tmp 82)), none⟩,
 ⟨some 8, some (.assign (.tmp 83)), none⟩])
  .ret)))
theorem e_eval_words_1 {a0 a1 a2 a3 : AV} {H : AHeap} : R f_eval_words_1 [a0, a1, a2, a3] H = fnK Try.prog [] H [(.cell 7 T_api_Bits), (.tmp 8)] (evalL Try.prog KT R c_eval_words_1 (Env.args [a0, a1, a2, a3] 0) H) :=
  runs_body (D := DT) (f := f_eval_words_1) Try.func56 (by kernel_rfl) (by kernel_rfl) (by kernel_rfl) (by kernel_rfl) (by kernel_rfl) (Nat.le_of_ble_eq_true rfl)
def c_bv_One : LCode := (.seq (.reg [] [⟨some 3, some (.box T_api_Bits (.tmp 1)), none⟩,
 ⟨some 4, some (.alloc T_api_Bits), none⟩,
 ⟨some 5, some (.assign (.const (.int .i64 0))), none⟩])
  (.seq (.block 0 (.seq (.reg [] [⟨some 7, some (.load T_api_Bits (.tmp 3)), none⟩,
 ⟨some 8, some (.call ⟨(.value (.func f_bv_word)), #[.tmp 7], #[T_api_Bits]⟩), none⟩,
 ⟨some 9, some (.unOp .not T_bool (.tmp 8)), none⟩,
 ⟨some 6, some (.assign (.tmp 9)), none⟩])
  (.cond (.tmp 6) (.seq (.reg [] [⟨some 10, some (.build T_api_Bits #[]), none⟩,
 ⟨none, some (.store T_api_Bits (.tmp 4) (.tmp 10)), none⟩,
 ⟨some 5, some (.assign (.const (.int .i64 10))), none⟩])
  .ret)
  (.seq (.reg [] [⟨some 12, some (.move (.tmp 0)), none⟩,
 ⟨some 13, some (.binOp .eql T_int (.tmp 12) (.const (.int .i64 10)) T_int), none⟩,
 ⟨some 11, some (.assign (.tmp 13)), none⟩])
  (.cond (.tmp 11) (.seq (.reg [3, 4] [⟨some 14, some (.fieldAddr T_api_Bits (.tmp 3) 0), none⟩,
 ⟨some 15, some (.load T_int (.tmp 14)), none⟩,
 ⟨some 16, some (.load T_api_Bits (.tmp 3)), none⟩,
 ⟨some 17, some (.call ⟨(.value (.func f_bv_of)), #[.tmp 16], #[T_api_Bits]⟩), none⟩,
 ⟨some 18, some (.call ⟨(.value (.func f_plait_bv_number_not)), #[.tmp 17], #[T_bv_number]⟩), none⟩,
 ⟨some 19, some (.call ⟨(.value (.func f_bv_cut)), #[.tmp 15, .tmp 18], #[T_int, T_bv_number]⟩), none⟩,
 ⟨none, some (.store T_api_Bits (.tmp 4) (.tmp 19)), none⟩,
 ⟨some 5, some (.assign (.const (.int .i64 0))), none⟩])
  .ret)
  (.seq (.reg [] [⟨some 21, some (.move (.tmp 0)), none⟩,
 ⟨some 22, some (.binOp .eql T_int (.tmp 21) (.const (.int .i64 11)) T_int), none⟩,
 ⟨some 20, some (.assign (.tmp 22)), none⟩])
  (.cond (.tmp 20) (.seq (.reg [3, 4] [⟨some 23, some (.fieldAddr T_api_Bits (.tmp 3) 0), none⟩,
 ⟨some 24, some (.load T_int (.tmp 23)), none⟩,
 ⟨some 25, some (.load T_api_Bits (.tmp 3)), none⟩,
 ⟨some 26, some (.call ⟨(.value (.func f_bv_of)), #[.tmp 25], #[T_api_Bits]⟩), none⟩,
 ⟨some 27, some (.call ⟨(.value (.func f_plait_bv_number_neg)), #[.tmp 26], #[T_bv_number]⟩), none⟩,
 ⟨some 28, some (.call ⟨(.value (.func f_bv_cut)), #[.tmp 24, .tmp 27], #[T_int, T_bv_number]⟩), none⟩,
 ⟨none, some (.store T_api_Bits (.tmp 4) (.tmp 28)), none⟩,
 ⟨some 5, some (.assign (.const (.int .i64 0))), none⟩])
  .ret)
  .skip)))))))
  (.seq (.reg [] [⟨some 29, some (.build T_api_Bits #[]), none⟩,
 ⟨none, some (.store T_api_Bits (.tmp 4) (.tmp 29)), none⟩,
 ⟨some 5, some (.assign (.const (.int .i64 11))), none⟩])
  .ret)))
theorem e_bv_One {a0 a1 : AV} {H : AHeap} : R f_bv_One [a0, a1] H = fnK Try.prog [] H [(.cell 4 T_api_Bits), (.tmp 5)] (evalL Try.prog KT R c_bv_One (Env.args [a0, a1] 0) H) :=
  runs_body (D := DT) (f := f_bv_One) Try.func57 (by kernel_rfl) (by kernel_rfl) (by kernel_rfl) (by kernel_rfl) (by kernel_rfl) (Nat.le_of_ble_eq_true rfl)
def c_bv_Concat : LCode := (.seq (.reg [] [⟨some 2, some (.box T_api_Bits (.tmp 0)), none⟩,
 ⟨some 3, some (.box T_api_Bits (.tmp 1)), none⟩,
 ⟨some 4, some (.alloc T_api_Bits), none⟩,
 ⟨some 5, some (.assign (.const (.int .i64 0))), none⟩])
  (.seq (.seq (.reg [] [⟨some 7, some (.load T_api_Bits (.tmp 2)), none⟩,
 ⟨some 8, some (.call ⟨(.value (.func f_bv_word)), #[.tmp 7], #[T_api_Bits]⟩), none⟩,
 ⟨some 9, some (.unOp .not T_bool (.tmp 8)), none⟩,
 ⟨some 10, some (.move (.tmp 9)), none⟩,
 ⟨some 11, some (.load T_api_Bits (.tmp 3)), some (some 10, false)⟩,
 ⟨some 12, some (.call ⟨(.value (.func f_bv_word)), #[.tmp 11], #[T_api_Bits]⟩), some (some 10, false)⟩,
 ⟨some 13, some (.unOp .not T_bool (.tmp 12)), some (some 10, false)⟩,
 ⟨some 14, some (.pick (.tmp 10) (.const (.bool true)) (.tmp 13)), none⟩,
 ⟨some 15, some (.move (.tmp 14)), none⟩,
 ⟨some 16, some (.fieldAddr T_api_Bits (.tmp 2) 0), some (some 15, false)⟩,
 ⟨some 17, some (.load T_int (.tmp 16)), some (some 15, false)⟩,
 ⟨some 18, some (.fieldAddr T_api_Bits (.tmp 3) 0), some (some 15, false)⟩,
 ⟨some 19, some (.load T_int (.tmp 18)), some (some 15, false)⟩,
 ⟨some 20, some (.binOp .add T_int (.tmp 17) (.tmp 19) T_int), some (some 15, false)⟩,
 ⟨some 21, some (.binOp .gtr T_int (.tmp 20) (.const (.int .i64 128)) T_int), some (some 15, false)⟩,
 ⟨some 22, some (.pick (.tmp 15) (.const (.bool true)) (.tmp 21)), none⟩])
  (.cond (.tmp 22) (.seq (.reg [] [⟨some 23, some (.build T_api_Bits #[]), none⟩,
 ⟨none, some (.store T_api_Bits (.tmp 4) (.tmp 23)), none⟩,
 ⟨some 5, some (.assign (.const (.int .i64 10))), none⟩])
  .ret)
  .skip))
  (.seq (.reg [1, 5] [⟨some 24, some (.load T_api_Bits (.tmp 2)), none⟩,
 ⟨some 25, some (.call ⟨(.value (.func f_bv_of)), #[.tmp 24], #[T_api_Bits]⟩), none⟩,
 ⟨some 26, some (.fieldAddr T_api_Bits (.tmp 3) 0), none⟩,
 ⟨some 27, some (.load T_int (.tmp 26)), none⟩,
 ⟨some 28, some (.call ⟨(.value (.func f_plait_bv_number_left)), #[.tmp 25, .tmp 27], #[T_bv_number, T_int]⟩), none⟩,
 ⟨some 6, some (.alloc T_bv_number), none⟩,
 ⟨none, some (.store T_bv_number (.tmp 6) (.tmp 28)), none⟩])
  (.seq (.reg [] [⟨some 29, some (.fieldAddr T_api_Bits (.tmp 2) 0), none⟩,
 ⟨some 30, some (.load T_int (.tmp 29)), none⟩,
 ⟨some 31, some (.fieldAddr T_api_Bits (.tmp 3) 0), none⟩,
 ⟨some 32, some (.load T_int (.tmp 31)), none⟩,
 ⟨some 33, some (.binOp .add T_int (.tmp 30) (.tmp 32) T_int), none⟩,
 ⟨some 34, some (.fieldAddr T_bv_number (.tmp 6) 0), none⟩,
 ⟨some 35, some (.load T_uint64 (.tmp 34)), none⟩,
 ⟨some 36, some (.fieldAddr T_api_Bits (.tmp 3) 1), none⟩,
 ⟨some 37, some (.load T_uint64 (.tmp 36)), none⟩,
 ⟨some 38, some (.binOp .or T_uint64 (.tmp 35) (.tmp 37) T_uint64), none⟩,
 ⟨some 39, some (.fieldAddr T_bv_number (.tmp 6) 1), none⟩,
 ⟨some 40, some (.load T_uint64 (.tmp 39)), none⟩,
 ⟨some 41, some (.fieldAddr T_api_Bits (.tmp 3) 2), none⟩,
 ⟨some 42, some (.load T_uint64 (.tmp 41)), none⟩,
 ⟨some 43, some (.binOp .or T_uint64 (.tmp 40) (.tmp 42) T_uint64), none⟩,
 ⟨some 44, some (.build T_bv_number #[(0, (.tmp 38)), (1, (.tmp 43))]), none⟩,
 ⟨some 45, some (.call ⟨(.value (.func f_bv_cut)), #[.tmp 33, .tmp 44], #[T_int, T_bv_number]⟩), none⟩,
 ⟨none, some (.store T_api_Bits (.tmp 4) (.tmp 45)), none⟩,
 ⟨some 5, some (.assign (.const (.int .i64 0))), none⟩])
  .ret))))
theorem e_bv_Concat {a0 a1 : AV} {H : AHeap} : R f_bv_Concat [a0, a1] H = fnK Try.prog [] H [(.cell 4 T_api_Bits), (.tmp 5)] (evalL Try.prog KT R c_bv_Concat (Env.args [a0, a1] 0) H) :=
  runs_body (D := DT) (f := f_bv_Concat) Try.func58 (by kernel_rfl) (by kernel_rfl) (by kernel_rfl) (by kernel_rfl) (by kernel_rfl) (Nat.le_of_ble_eq_true rfl)
def c_bv_Extract : LCode := (.seq (.reg [] [⟨some 3, some (.box T_api_Bits (.tmp 0)), none⟩,
 ⟨some 6, some (.alloc T_api_Bits), none⟩,
 ⟨some 7, some (.assign (.const (.int .i64 0))), none⟩])
  (.seq (.block 0 (.seq (.reg [] [⟨some 9, some (.load T_api_Bits (.tmp 3)), none⟩,
 ⟨some 10, some (.call ⟨(.value (.func f_bv_word)), #[.tmp 9], #[T_api_Bits]⟩), none⟩,
 ⟨some 11, some (.unOp .not T_bool (.tmp 10)), none⟩,
 ⟨some 8, some (.assign (.tmp 11)), none⟩])
  (.cond (.tmp 8) (.seq (.reg [] [⟨some 12, some (.build T_api_Bits #[]), none⟩,
 ⟨none, some (.store T_api_Bits (.tmp 6) (.tmp 12)), none⟩,
 ⟨some 7, some (.assign (.const (.int .i64 10))), none⟩])
  .ret)
  (.seq (.reg [] [⟨some 14, some (.move (.tmp 2)), none⟩,
 ⟨some 15, some (.binOp .lss T_int (.tmp 14) (.const (.int .i64 0)) T_int), none⟩,
 ⟨some 16, some (.move (.tmp 15)), none⟩,
 ⟨some 17, some (.move (.tmp 1)), some (some 16, false)⟩,
 ⟨some 18, some (.move (.tmp 2)), some (some 16, false)⟩,
 ⟨some 19, some (.binOp .lss T_int (.tmp 17) (.tmp 18) T_int), some (some 16, false)⟩,
 ⟨some 20, some (.pick (.tmp 16) (.const (.bool true)) (.tmp 19)), none⟩,
 ⟨some 21, some (.move (.tmp 20)), none⟩,
 ⟨some 22, some (.move (.tmp 1)), some (some 21, false)⟩,
 ⟨some 23, some (.fieldAddr T_api_Bits (.tmp 3) 0), some (some 21, false)⟩,
 ⟨some 24, some (.load T_int (.tmp 23)), some (some 21, false)⟩,
 ⟨some 25, some (.binOp .geq T_int (.tmp 22) (.tmp 24) T_int), some (some 21, false)⟩,
 ⟨some 26, some (.pick (.tmp 21) (.const (.bool true)) (.tmp 25)), none⟩,
 ⟨some 13, some (.assign (.tmp 26)), none⟩])
  (.cond (.tmp 13) (.seq (.reg [] [⟨some 27, some (.build T_api_Bits #[]), none⟩,
 ⟨none, some (.store T_api_Bits (.tmp 6) (.tmp 27)), none⟩,
 ⟨some 7, some (.assign (.const (.int .i64 12))), none⟩])
  .ret)
  .skip)))))
  (.seq (.reg [] [⟨some 28, some (.move (.tmp 1)), none⟩,
 ⟨some 29, some (.move (.tmp 2)), none⟩,
 ⟨some 30, some (.binOp .sub T_int (.tmp 28) (.tmp 29) T_int), none⟩,
 ⟨some 31, some (.binOp .add T_int (.tmp 30) (.const (.int .i64 1)) T_int), none⟩,
 ⟨some 32, some (.load T_api_Bits (.tmp 3)), none⟩,
 ⟨some 33, some (.call ⟨(.value (.func f_bv_of)), #[.tmp 32], #[T_api_Bits]⟩), none⟩,
 ⟨some 34, some (.move (.tmp 2)), none⟩,
 ⟨some 35, some (.call ⟨(.value (.func f_plait_bv_number_right)), #[.tmp 33, .tmp 34], #[T_bv_number, T_int]⟩), none⟩,
 ⟨some 36, some (.call ⟨(.value (.func f_bv_cut)), #[.tmp 31, .tmp 35], #[T_int, T_bv_number]⟩), none⟩,
 ⟨none, some (.store T_api_Bits (.tmp 6) (.tmp 36)), none⟩,
 ⟨some 7, some (.assign (.const (.int .i64 0))), none⟩])
  .ret)))
theorem e_bv_Extract {a0 a1 a2 : AV} {H : AHeap} : R f_bv_Extract [a0, a1, a2] H = fnK Try.prog [] H [(.cell 6 T_api_Bits), (.tmp 7)] (evalL Try.prog KT R c_bv_Extract (Env.args [a0, a1, a2] 0) H) :=
  runs_body (D := DT) (f := f_bv_Extract) Try.func59 (by kernel_rfl) (by kernel_rfl) (by kernel_rfl) (by kernel_rfl) (by kernel_rfl) (Nat.le_of_ble_eq_true rfl)
def c_bv_Extend : LCode := (.seq (.reg [] [⟨some 3, some (.box T_api_Bits (.tmp 0)), none⟩,
 ⟨some 6, some (.alloc T_api_Bits), none⟩,
 ⟨some 7, some (.assign (.const (.int .i64 0))), none⟩])
  (.seq (.block 0 (.seq (.reg [] [⟨some 11, some (.load T_api_Bits (.tmp 3)), none⟩,
 ⟨some 12, some (.call ⟨(.value (.func f_bv_word)), #[.tmp 11], #[T_api_Bits]⟩), none⟩,
 ⟨some 13, some (.unOp .not T_bool (.tmp 12)), none⟩,
 ⟨some 10, some (.assign (.tmp 13)), none⟩])
  (.cond (.tmp 10) (.seq (.reg [] [⟨some 14, some (.build T_api_Bits #[]), none⟩,
 ⟨none, some (.store T_api_Bits (.tmp 6) (.tmp 14)), none⟩,
 ⟨some 7, some (.assign (.const (.int .i64 10))), none⟩])
  .ret)
  (.seq (.reg [] [⟨some 16, some (.move (.tmp 1)), none⟩,
 ⟨some 17, some (.binOp .lss T_int (.tmp 16) (.const (.int .i64 0)) T_int), none⟩,
 ⟨some 15, some (.assign (.tmp 17)), none⟩])
  (.cond (.tmp 15) (.seq (.reg [] [⟨some 18, some (.build T_api_Bits #[]), none⟩,
 ⟨none, some (.store T_api_Bits (.tmp 6) (.tmp 18)), none⟩,
 ⟨some 7, some (.assign (.const (.int .i64 12))), none⟩])
  .ret)
  (.seq (.reg [] [⟨some 20, some (.move (.tmp 1)), none⟩,
 ⟨some 21, some (.fieldAddr T_api_Bits (.tmp 3) 0), none⟩,
 ⟨some 22, some (.load T_int (.tmp 21)), none⟩,
 ⟨some 23, some (.binOp .sub T_int (.const (.int .i64 128)) (.tmp 22) T_int), none⟩,
 ⟨some 24, some (.binOp .gtr T_int (.tmp 20) (.tmp 23) T_int), none⟩,
 ⟨some 19, some (.assign (.tmp 24)), none⟩])
  (.cond (.tmp 19) (.seq (.reg [] [⟨some 25, some (.build T_api_Bits #[]), none⟩,
 ⟨none, some (.store T_api_Bits (.tmp 6) (.tmp 25)), none⟩,
 ⟨some 7, some (.assign (.const (.int .i64 10))), none⟩])
  .ret)
  .skip)))))))
  (.seq (.reg [] [⟨some 26, some (.load T_api_Bits (.tmp 3)), none⟩,
 ⟨some 27, some (.call ⟨(.value (.func f_bv_of)), #[.tmp 26], #[T_api_Bits]⟩), none⟩,
 ⟨some 8, some (.alloc T_bv_number), none⟩,
 ⟨none, some (.store T_bv_number (.tmp 8) (.tmp 27)), none⟩])
  (.seq (.seq (.reg [] [⟨some 28, some (.move (.tmp 2)), none⟩,
 ⟨some 29, some (.move (.tmp 28)), none⟩,
 ⟨some 30, some (.load T_api_Bits (.tmp 3)), some (some 29, true)⟩,
 ⟨some 31, some (.call ⟨(.value (.func f_bv_below)), #[.tmp 30], #[T_api_Bits]⟩), some (some 29, true)⟩,
 ⟨some 32, some (.pick (.tmp 29) (.tmp 31) (.const (.bool false))), none⟩])
  (.cond (.tmp 32) (.seq (.reg [] [⟨some 33, some (.fieldAddr T_api_Bits (.tmp 3) 0), none⟩,
 ⟨some 34, some (.load T_int (.tmp 33)), none⟩,
 ⟨some 35, some (.call ⟨(.value (.func f_bv_mask)), #[.tmp 34], #[T_int]⟩), none⟩,
 ⟨some 36, some (.call ⟨(.value (.func f_plait_bv_number_not)), #[.tmp 35], #[T_bv_number]⟩), none⟩,
 ⟨some 9, some (.alloc T_bv_number), none⟩,
 ⟨none, some (.store T_bv_number (.tmp 9) (.tmp 36)), none⟩])
  (.reg [] [⟨some 37, some (.fieldAddr T_bv_number (.tmp 8) 0), none⟩,
 ⟨some 38, some (.load T_uint64 (.tmp 37)), none⟩,
 ⟨some 39, some (.fieldAddr T_bv_number (.tmp 9) 0), none⟩,
 ⟨some 40, some (.load T_uint64 (.tmp 39)), none⟩,
 ⟨some 41, some (.binOp .or T_uint64 (.tmp 38) (.tmp 40) T_uint64), none⟩,
 ⟨some 42, some (.fieldAddr T_bv_number (.tmp 8) 1), none⟩,
 ⟨some 43, some (.load T_uint64 (.tmp 42)), none⟩,
 ⟨some 44, some (.fieldAddr T_bv_number (.tmp 9) 1), none⟩,
 ⟨some 45, some (.load T_uint64 (.tmp 44)), none⟩,
 ⟨some 46, some (.binOp .or T_uint64 (.tmp 43) (.tmp 45) T_uint64), none⟩,
 ⟨some 47, some (.build T_bv_number #[(0, (.tmp 41)), (1, (.tmp 46))]), none⟩,
 ⟨none, some (.store T_bv_number (.tmp 8) (.tmp 47)), none⟩]))
  .skip))
  (.seq (.reg [] [⟨some 48, some (.fieldAddr T_api_Bits (.tmp 3) 0), none⟩,
 ⟨some 49, some (.load T_int (.tmp 48)), none⟩,
 ⟨some 50, some (.move (.tmp 1)), none⟩,
 ⟨some 51, some (.binOp .add T_int (.tmp 49) (.tmp 50) T_int), none⟩,
 ⟨some 52, some (.load T_bv_number (.tmp 8)), none⟩,
 ⟨some 53, some (.call ⟨(.value (.func f_bv_cut)), #[.tmp 51, .tmp 52], #[T_int, T_bv_number]⟩), none⟩,
 ⟨none, some (.store T_api_Bits (.tmp 6) (.tmp 53)), none⟩,
 ⟨some 7, some (.assign (.const (.int .i64 0))), none⟩])
  .ret)))))
theorem e_bv_Extend {a0 a1 a2 : AV} {H : AHeap} : R f_bv_Extend [a0, a1, a2] H = fnK Try.prog [] H [(.cell 6 T_api_Bits), (.tmp 7)] (evalL Try.prog KT R c_bv_Extend (Env.args [a0, a1, a2] 0) H) :=
  runs_body (D := DT) (f := f_bv_Extend) Try.func60 (by kernel_rfl) (by kernel_rfl) (by kernel_rfl) (by kernel_rfl) (by kernel_rfl) (Nat.le_of_ble_eq_true rfl)
def c_bv_Rotate : LCode := (.seq (.reg [] [⟨some 3, some (.box T_api_Bits (.tmp 0)), none⟩,
 ⟨some 6, some (.alloc T_api_Bits), none⟩,
 ⟨some 7, some (.assign (.const (.int .i64 0))), none⟩])
  (.seq (.block 0 (.seq (.reg [] [⟨some 11, some (.load T_api_Bits (.tmp 3)), none⟩,
 ⟨some 12, some (.call ⟨(.value (.func f_bv_word)), #[.tmp 11], #[T_api_Bits]⟩), none⟩,
 ⟨some 13, some (.unOp .not T_bool (.tmp 12)), none⟩,
 ⟨some 10, some (.assign (.tmp 13)), none⟩])
  (.cond (.tmp 10) (.seq (.reg [] [⟨some 14, some (.build T_api_Bits #[]), none⟩,
 ⟨none, some (.store T_api_Bits (.tmp 6) (.tmp 14)), none⟩,
 ⟨some 7, some (.assign (.const (.int .i64 10))), none⟩])
  .ret)
  (.seq (.reg [] [⟨some 16, some (.move (.tmp 1)), none⟩,
 ⟨some 17, some (.binOp .lss T_int (.tmp 16) (.const (.int .i64 0)) T_int), none⟩,
 ⟨some 15, some (.assign (.tmp 17)), none⟩])
  (.cond (.tmp 15) (.seq (.reg [] [⟨some 18, some (.build T_api_Bits #[]), none⟩,
 ⟨none, some (.store T_api_Bits (.tmp 6) (.tmp 18)), none⟩,
 ⟨some 7, some (.assign (.const (.int .i64 12))), none⟩])
  .ret)
  .skip)))))
  (.seq (.reg [] [⟨some 19, some (.move (.tmp 1)), none⟩,
 ⟨some 20, some (.fieldAddr T_api_Bits (.tmp 3) 0), none⟩,
 ⟨some 21, some (.load T_int (.tmp 20)), none⟩,
 ⟨some 22, some (.binOp .rem T_int (.tmp 19) (.tmp 21) T_int), none⟩,
 ⟨some 1, some (.assign (.tmp 22)), none⟩])
  (.seq (.seq (.reg [] [⟨some 23, some (.move (.tmp 2)), none⟩,
 ⟨some 24, some (.unOp .not T_bool (.tmp 23)), none⟩])
  (.cond (.tmp 24) (.reg [] [⟨some 25, some (.fieldAddr T_api_Bits (.tmp 3) 0), none⟩,
 ⟨some 26, some (.load T_int (.tmp 25)), none⟩,
 ⟨some 27, some (.move (.tmp 1)), none⟩,
 ⟨some 28, some (.binOp .sub T_int (.tmp 26) (.tmp 27) T_int), none⟩,
 ⟨some 29, some (.fieldAddr T_api_Bits (.tmp 3) 0), none⟩,
 ⟨some 30, some (.load T_int (.tmp 29)), none⟩,
 ⟨some 31, some (.binOp .rem T_int (.tmp 28) (.tmp 30) T_int), none⟩,
 ⟨some 1, some (.assign (.tmp 31)), none⟩])
  .skip))
  (.seq (.reg [1, 3, 5, 11, 12] [⟨some 32, some (.load T_api_Bits (.tmp 3)), none⟩,
 ⟨some 33, some (.call ⟨(.value (.func f_bv_of)), #[.tmp 32], #[T_api_Bits]⟩), none⟩,
 ⟨some 34, some (.move (.tmp 1)), none⟩,
 ⟨some 35, some (.call ⟨(.value (.func f_plait_bv_number_left)), #[.tmp 33, .tmp 34], #[T_bv_number, T_int]⟩), none⟩,
 ⟨some 36, some (.load T_api_Bits (.tmp 3)), none⟩,
 ⟨some 37, some (.call ⟨(.value (.func f_bv_of)), #[.tmp 36], #[T_api_Bits]⟩), none⟩,
 ⟨some 38, some (.fieldAddr T_api_Bits (.tmp 3) 0), none⟩,
 ⟨some 39, some (.load T_int (.tmp 38)), none⟩,
 ⟨some 40, some (.move (.tmp 1)), none⟩,
 ⟨some 41, some (.binOp .sub T_int (.tmp 39) (.tmp 40) T_int), none⟩,
 ⟨some 42, some (.call ⟨(.value (.func f_plait_bv_number_right)), #[.tmp 37, .tmp 41], #[T_bv_number, T_int]⟩), none⟩,
 ⟨some 8, some (.alloc T_bv_number), none⟩,
 ⟨some 9, some (.alloc T_bv_number), none⟩,
 ⟨none, some (.store T_bv_number (.tmp 8) (.tmp 35)), none⟩,
 ⟨none, some (.store T_bv_number (.tmp 9) (.tmp 42)), none⟩])
  (.seq (.reg [] [⟨some 43, some (.fieldAddr T_api_Bits (.tmp 3) 0), none⟩,
 ⟨some 44, some (.load T_int (.tmp 43)), none⟩,
 ⟨some 45, some (.fieldAddr T_bv_number (.tmp 8) 0), none⟩,
 ⟨some 46, some (.load T_uint64 (.tmp 45)), none⟩,
 ⟨some 47, some (.fieldAddr T_bv_number (.tmp 9) 0), none⟩,
 ⟨some 48, some (.load T_uint64 (.tmp 47)), none⟩,
 ⟨some 49, some (.binOp .or T_uint64 (.tmp 46) (.tmp 48) T_uint64), none⟩,
 ⟨some 50, some (.fieldAddr T_bv_number (.tmp 8) 1), none⟩,
 ⟨some 51, some (.load T_uint64 (.tmp 50)), none⟩,
 ⟨some 52, some (.fieldAddr T_bv_number (.tmp 9) 1), none⟩,
 ⟨some 53, some (.load T_uint64 (.tmp 52)), none⟩,
 ⟨some 54, some (.binOp .or T_uint64 (.tmp 51) (.tmp 53) T_uint64), none⟩,
 ⟨some 55, some (.build T_bv_number #[(0, (.tmp 49)), (1, (.tmp 54))]), none⟩,
 ⟨some 56, some (.call ⟨(.value (.func f_bv_cut)), #[.tmp 44, .tmp 55], #[T_int, T_bv_number]⟩), none⟩,
 ⟨none, some (.store T_api_Bits (.tmp 6) (.tmp 56)), none⟩,
 ⟨some 7, some (.assign (.const (.int .i64 0))), none⟩])
  .ret))))))
theorem e_bv_Rotate {a0 a1 a2 : AV} {H : AHeap} : R f_bv_Rotate [a0, a1, a2] H = fnK Try.prog [] H [(.cell 6 T_api_Bits), (.tmp 7)] (evalL Try.prog KT R c_bv_Rotate (Env.args [a0, a1, a2] 0) H) :=
  runs_body (D := DT) (f := f_bv_Rotate) Try.func61 (by kernel_rfl) (by kernel_rfl) (by kernel_rfl) (by kernel_rfl) (by kernel_rfl) (Nat.le_of_ble_eq_true rfl)
end Go.Proofs.Ytiaoojghohfkjaa
end
