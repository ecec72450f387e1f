/- What this seat's program looks like to the rules: names, types, bodies in the short form. Written by seat.py. -/
import Derived.Test.YtphkkcocimmmfaaALC
import Derived.Test.YtphkkcocimmmfaaChecked
namespace Go.Proofs.Ytphkkcocimmmfaa
open Go.RowKit

def T_int : TypeId := 3
def T_bool : TypeId := 4
def T_string : TypeId := 9
def T_s_bool : TypeId := 22
def T_uint64 : TypeId := 23
def T_api_Bits : TypeId := 25
def T_api_Errno : TypeId := 27
def T_x30 : TypeId := 30
def T_s_int : TypeId := 56
def T_s_api_Node : TypeId := 83
def T_p_term_Graph : TypeId := 85
def T_p_plaitref3_Graph : TypeId := 87
def T_api_Node : TypeId := 91
def T_plaitref3_Graph : TypeId := 94
def T_uint : TypeId := 110
def T_m_api_Node_int : TypeId := 136
def T_m_string_int : TypeId := 137
def T_term_Graph : TypeId := 139
def T_bv_number : TypeId := 151
def T_a3_int : TypeId := 161
def f_plaitlaw3_TermMakes : FuncId := 9
def f_plaitlaw3_TermSorts : FuncId := 10
def f_plaitlaw3_TermOnce : FuncId := 11
def f_plaitlaw3_TermCones : FuncId := 12
def f_plaitlaw3_TermRoom : FuncId := 13
def f_plaitref3_Is : FuncId := 17
def f_plaitref1_Word : FuncId := 19
def f_plaitref1_Right : FuncId := 22
def f_plaithelp_Ints : FuncId := 32
def f_plaithelp_Place : FuncId := 39
def f_plaitlaw3_known : FuncId := 50
def f_plaitlaw3_light : FuncId := 51
def f_term_New : FuncId := 52
def f_plaitref3_New : FuncId := 53
def f_plait_term_Graph_Make : FuncId := 54
def f_plait_plaitref3_Graph_Make : FuncId := 55
def f_plait_term_Graph_Len : FuncId := 56
def f_plait_term_Graph_Node : FuncId := 57
def f_plait_plaitref3_Graph_At : FuncId := 58
def f_plait_term_Graph_Cone : FuncId := 59
def f_plait_plaitref3_Graph_Cone : FuncId := 60
def f_plait_term_Graph_Var : FuncId := 61
def f_plait_plaitref3_Graph_Var : FuncId := 62
def f_plait_term_Graph_Vars : FuncId := 63
def f_plait_plaitref3_Graph_Vars : FuncId := 64
def f_term_Sort : FuncId := 65
def f_plaitref3_Sort : FuncId := 66
def f_term_Arity : FuncId := 67
def f_plaitref3_Arity : FuncId := 68
def f_bv_Right : FuncId := 72
def f_plaitref1_Bits : FuncId := 73
def f_plait_term_Graph_formed : FuncId := 91
def f_plait_term_Graph_sorted : FuncId := 92
def f_slices_ContainsFunc_int_int : FuncId := 93
def f_term_Sort_1 : FuncId := 94
def f_term_sort : FuncId := 95
def f_term_told : FuncId := 96
def f_plaitref3_numbered : FuncId := 97
def f_plaitref3_alike : FuncId := 98
def f_plaitref3_wide : FuncId := 99
def f_bv_cut : FuncId := 103
def f_bv_of : FuncId := 104
def f_slices_IndexFunc_int_int : FuncId := 111
def f_term_numbered : FuncId := 112
def f_bv_mask : FuncId := 114
def f_plait_bv_number_not : FuncId := 115
def f_plait_bv_number_right : FuncId := 116
def KT : TypeId → Option (List Sc) := fun t => if t = T_api_Bits then some [(.i .i64), (.i .u64), (.i .u64)] else if t = T_api_Node then some [(.i .i64), (.i .i64), (.i .i64), (.i .i64), (.i .i64), (.i .i64), (.i .i64), (.i .i64), (.i .u64), (.i .u64), .s] else none
def DT : Quiets := fun f r => if f = f_plaitlaw3_TermMakes then (if r = 11 then [10] else []) else if f = f_plaitref1_Right then (if r = 5 then [1, 2] else []) else if f = f_plait_term_Graph_Cone then (if r = 12 then [5, 8, 10, 12] else if r = 1000000 then [0] else []) else if f = f_plait_plaitref3_Graph_Cone then (if r = 12 then [5, 8, 10, 12] else if r = 1000000 then [0] else []) else if f = f_plait_term_Graph_Vars then (if r = 1000000 then [0] else []) else if f = f_plait_plaitref3_Graph_Vars then (if r = 1000000 then [0] else []) else if f = f_bv_Right then (if r = 3 then [12, 13] else []) else []
noncomputable def R : Calling := runs Go.Proofs.Try.prog KT DT
theorem good : Good Go.Proofs.Try.prog KT := by
  refine ⟨fun t sh h => ?_, Go.Proofs.Try.checked.mixed⟩
  unfold KT at h
  split at h
  · rename_i ht; subst ht; cases h; exact keyOK_of (d := 8) (by kernel_rfl) (by omega) (by kernel_rfl) (by kernel_rfl)
  split at h
  · rename_i ht; subst ht; cases h; exact keyOK_of (d := 8) (by kernel_rfl) (by omega) (by kernel_rfl) (by kernel_rfl)
  cases h

@[simp] theorem ty0 : lnS Go.Proofs.Try.prog T_s_api_Node = .slice := by kernel_rfl
@[simp] theorem ty1 : eszS Go.Proofs.Try.prog T_s_api_Node = some 11 := by kernel_rfl
@[simp] theorem ty2 : ldS Go.Proofs.Try.prog T_api_Node = some (some 11) := by kernel_rfl
@[simp] theorem ty3 : faS Go.Proofs.Try.prog T_plaitref3_Graph 0 = some 0 := by kernel_rfl
@[simp] theorem ty4 : ldS Go.Proofs.Try.prog T_s_api_Node = some none := by kernel_rfl
@[simp] theorem ty5 : tZ Go.Proofs.Try.prog T_api_Node = some [(.int .i64 0), (.int .i64 0), (.int .i64 0), (.int .i64 0), (.int .i64 0), (.int .i64 0), (.int .i64 0), (.int .i64 0), (u 0#64), (u 0#64), (.str .empty)] := by kernel_rfl
@[simp] theorem ty6 : tS Go.Proofs.Try.prog T_api_Node = some 11 := by kernel_rfl
@[simp] theorem ty7 : KT T_api_Node = some [(.i .i64), (.i .i64), (.i .i64), (.i .i64), (.i .i64), (.i .i64), (.i .i64), (.i .i64), (.i .u64), (.i .u64), .s] := by kernel_rfl
@[simp] theorem ty8 : eqS Go.Proofs.Try.prog T_bool = .bool := by kernel_rfl
@[simp] theorem ty9 : lnS Go.Proofs.Try.prog T_s_int = .slice := by kernel_rfl
@[simp] theorem ty10 : eszS Go.Proofs.Try.prog T_s_int = some 1 := by kernel_rfl
@[simp] theorem ty11 : ldS Go.Proofs.Try.prog T_int = some none := by kernel_rfl
@[simp] theorem ty12 : eqS Go.Proofs.Try.prog T_p_term_Graph = .ptr := by kernel_rfl
@[simp] theorem ty13 : blS Go.Proofs.Try.prog T_api_Node = some true := by kernel_rfl
@[simp] theorem ty14 : plS Go.Proofs.Try.prog T_api_Node 0 = some (0, 1) := by kernel_rfl
@[simp] theorem ty15 : plS Go.Proofs.Try.prog T_api_Node 1 = some (1, 1) := by kernel_rfl
@[simp] theorem ty16 : plS Go.Proofs.Try.prog T_api_Node 8 = some (10, 1) := by kernel_rfl
@[simp] theorem ty17 : plS Go.Proofs.Try.prog T_api_Node 2 = some (2, 1) := by kernel_rfl
@[simp] theorem ty18 : plS Go.Proofs.Try.prog T_api_Node 3 = some (3, 1) := by kernel_rfl
@[simp] theorem ty19 : plS Go.Proofs.Try.prog T_api_Node 5 = some (5, 1) := by kernel_rfl
@[simp] theorem ty20 : bsS Go.Proofs.Try.prog T_s_int = some (1, [(.int .i64 0)]) := by kernel_rfl
@[simp] theorem ty21 : mkeyS Go.Proofs.Try.prog KT T_m_api_Node_int = some (.many [(.i .i64), (.i .i64), (.i .i64), (.i .i64), (.i .i64), (.i .i64), (.i .i64), (.i .i64), (.i .u64), (.i .u64), .s]) := by kernel_rfl
@[simp] theorem ty22 : mapS Go.Proofs.Try.prog KT T_m_api_Node_int = some ((.many [(.i .i64), (.i .i64), (.i .i64), (.i .i64), (.i .i64), (.i .i64), (.i .i64), (.i .i64), (.i .u64), (.i .u64), .s]), (.int .i64 0)) := by kernel_rfl
@[simp] theorem ty23 : mkeyS Go.Proofs.Try.prog KT T_m_string_int = some (.one .s) := by kernel_rfl
@[simp] theorem ty24 : mapS Go.Proofs.Try.prog KT T_m_string_int = some ((.one .s), (.int .i64 0)) := by kernel_rfl
@[simp] theorem ty25 : tZ Go.Proofs.Try.prog T_term_Graph = some [(.int .i64 0), .nils, .nilm, .nilm] := by kernel_rfl
@[simp] theorem ty26 : blS Go.Proofs.Try.prog T_term_Graph = some true := by kernel_rfl
@[simp] theorem ty27 : plS Go.Proofs.Try.prog T_term_Graph 0 = some (0, 1) := by kernel_rfl
@[simp] theorem ty28 : plS Go.Proofs.Try.prog T_term_Graph 2 = some (2, 1) := by kernel_rfl
@[simp] theorem ty29 : plS Go.Proofs.Try.prog T_term_Graph 3 = some (3, 1) := by kernel_rfl
@[simp] theorem ty30 : faS Go.Proofs.Try.prog T_term_Graph 2 = some 2 := by kernel_rfl
@[simp] theorem ty31 : ldS Go.Proofs.Try.prog T_m_api_Node_int = some none := by kernel_rfl
@[simp] theorem ty32 : faS Go.Proofs.Try.prog T_term_Graph 1 = some 1 := by kernel_rfl
@[simp] theorem ty33 : faS Go.Proofs.Try.prog T_term_Graph 0 = some 0 := by kernel_rfl
@[simp] theorem ty34 : bsS Go.Proofs.Try.prog T_s_api_Node = some (11, [(.int .i64 0), (.int .i64 0), (.int .i64 0), (.int .i64 0), (.int .i64 0), (.int .i64 0), (.int .i64 0), (.int .i64 0), (u 0#64), (u 0#64), (.str .empty)]) := by kernel_rfl
@[simp] theorem ty35 : mkS Go.Proofs.Try.prog T_s_api_Node = some (11, 96, [(.int .i64 0), (.int .i64 0), (.int .i64 0), (.int .i64 0), (.int .i64 0), (.int .i64 0), (.int .i64 0), (.int .i64 0), (u 0#64), (u 0#64), (.str .empty)]) := by kernel_rfl
@[simp] theorem ty36 : tS Go.Proofs.Try.prog T_s_api_Node = some 1 := by kernel_rfl
@[simp] theorem ty37 : faS Go.Proofs.Try.prog T_api_Node 0 = some 0 := by kernel_rfl
@[simp] theorem ty38 : faS Go.Proofs.Try.prog T_term_Graph 3 = some 3 := by kernel_rfl
@[simp] theorem ty39 : ldS Go.Proofs.Try.prog T_m_string_int = some none := by kernel_rfl
@[simp] theorem ty40 : faS Go.Proofs.Try.prog T_api_Node 8 = some 10 := by kernel_rfl
@[simp] theorem ty41 : ldS Go.Proofs.Try.prog T_string = some none := by kernel_rfl
@[simp] theorem ty42 : faS Go.Proofs.Try.prog T_api_Node 2 = some 2 := by kernel_rfl
@[simp] theorem ty43 : faS Go.Proofs.Try.prog T_api_Node 3 = some 3 := by kernel_rfl
@[simp] theorem ty44 : faS Go.Proofs.Try.prog T_api_Node 4 = some 4 := by kernel_rfl
@[simp] theorem ty45 : tZ Go.Proofs.Try.prog T_a3_int = some [(.int .i64 0), (.int .i64 0), (.int .i64 0)] := by kernel_rfl
@[simp] theorem ty46 : blS Go.Proofs.Try.prog T_a3_int = some true := by kernel_rfl
@[simp] theorem ty47 : plS Go.Proofs.Try.prog T_a3_int 0 = some (0, 1) := by kernel_rfl
@[simp] theorem ty48 : plS Go.Proofs.Try.prog T_a3_int 1 = some (1, 1) := by kernel_rfl
@[simp] theorem ty49 : plS Go.Proofs.Try.prog T_a3_int 2 = some (2, 1) := by kernel_rfl
@[simp] theorem ty50 : arrS Go.Proofs.Try.prog T_a3_int = some (3, 1) := by kernel_rfl
@[simp] theorem ty51 : arrL Go.Proofs.Try.prog T_a3_int = some none := by kernel_rfl
@[simp] theorem ty52 : faS Go.Proofs.Try.prog T_api_Node 7 = some 7 := by kernel_rfl
@[simp] theorem ty53 : ldS Go.Proofs.Try.prog T_api_Bits = some (some 3) := by kernel_rfl
@[simp] theorem ty54 : tZ Go.Proofs.Try.prog T_api_Bits = some [(.int .i64 0), (u 0#64), (u 0#64)] := by kernel_rfl
@[simp] theorem ty55 : blS Go.Proofs.Try.prog T_api_Bits = some true := by kernel_rfl
@[simp] theorem ty56 : KT T_api_Bits = some [(.i .i64), (.i .u64), (.i .u64)] := by kernel_rfl
@[simp] theorem ty57 : faS Go.Proofs.Try.prog T_api_Bits 0 = some 0 := by kernel_rfl
@[simp] theorem ty58 : faS Go.Proofs.Try.prog T_api_Node 1 = some 1 := by kernel_rfl
@[simp] theorem ty59 : faS Go.Proofs.Try.prog T_api_Node 5 = some 5 := by kernel_rfl
@[simp] theorem ty60 : faS Go.Proofs.Try.prog T_api_Node 6 = some 6 := by kernel_rfl
@[simp] theorem ty61 : mkS Go.Proofs.Try.prog T_s_int = some (1, 8, [(.int .i64 0)]) := by kernel_rfl
@[simp] theorem ty62 : tS Go.Proofs.Try.prog T_int = some 1 := by kernel_rfl
@[simp] theorem ty63 : faS Go.Proofs.Try.prog T_api_Bits 1 = some 1 := by kernel_rfl
@[simp] theorem ty64 : ldS Go.Proofs.Try.prog T_uint64 = some none := by kernel_rfl
@[simp] theorem ty65 : faS Go.Proofs.Try.prog T_api_Bits 2 = some 2 := by kernel_rfl
@[simp] theorem ty66 : tZ Go.Proofs.Try.prog T_bv_number = some [(u 0#64), (u 0#64)] := by kernel_rfl
@[simp] theorem ty67 : tS Go.Proofs.Try.prog T_bv_number = some 2 := by kernel_rfl
@[simp] theorem ty68 : faS Go.Proofs.Try.prog T_bv_number 0 = some 0 := by kernel_rfl
@[simp] theorem ty69 : faS Go.Proofs.Try.prog T_bv_number 1 = some 1 := by kernel_rfl
@[simp] theorem ty70 : plS Go.Proofs.Try.prog T_api_Bits 0 = some (0, 1) := by kernel_rfl
@[simp] theorem ty71 : plS Go.Proofs.Try.prog T_api_Bits 1 = some (1, 1) := by kernel_rfl
@[simp] theorem ty72 : plS Go.Proofs.Try.prog T_api_Bits 2 = some (2, 1) := by kernel_rfl
@[simp] theorem ty73 : tS Go.Proofs.Try.prog T_api_Bits = some 3 := by kernel_rfl
@[simp] theorem ty74 : blS Go.Proofs.Try.prog T_bv_number = some true := by kernel_rfl
@[simp] theorem ty75 : ldS Go.Proofs.Try.prog T_bv_number = some (some 2) := by kernel_rfl
@[simp] theorem ty76 : plS Go.Proofs.Try.prog T_bv_number 0 = some (0, 1) := by kernel_rfl
@[simp] theorem ty77 : plS Go.Proofs.Try.prog T_bv_number 1 = some (1, 1) := by kernel_rfl
@[simp] theorem ty78 : cvS Go.Proofs.Try.prog T_int T_uint = some (some .u64) := by kernel_rfl
@[simp] theorem ty79 : mkS Go.Proofs.Try.prog T_s_bool = some (1, 1, [(.bool false)]) := by kernel_rfl
@[simp] theorem ty80 : eszS Go.Proofs.Try.prog T_s_bool = some 1 := by kernel_rfl
@[simp] theorem ty81 : tS Go.Proofs.Try.prog T_bool = some 1 := by kernel_rfl
@[simp] theorem ty82 : ldS Go.Proofs.Try.prog T_bool = some none := by kernel_rfl
@[simp] theorem ty83 : lnS Go.Proofs.Try.prog T_string = .str := by kernel_rfl
@[simp] theorem ty84 : tZ Go.Proofs.Try.prog T_plaitref3_Graph = some [.nils, (.int .i64 0)] := by kernel_rfl
@[simp] theorem ty85 : blS Go.Proofs.Try.prog T_plaitref3_Graph = some true := by kernel_rfl
@[simp] theorem ty86 : plS Go.Proofs.Try.prog T_plaitref3_Graph 1 = some (1, 1) := by kernel_rfl
@[simp] theorem ty87 : faS Go.Proofs.Try.prog T_plaitref3_Graph 1 = some 1 := by kernel_rfl
@[simp] theorem ty88 : lnS Go.Proofs.Try.prog T_s_bool = .slice := by kernel_rfl
@[simp] theorem ty89 : tS Go.Proofs.Try.prog T_uint64 = some 1 := by kernel_rfl
@[simp] theorem ty90 : cvS Go.Proofs.Try.prog T_int T_uint64 = some (some .u64) := by kernel_rfl
@[simp] theorem ty91 : plS Go.Proofs.Try.prog T_api_Node 7 = some (7, 3) := by kernel_rfl

def l_plaitlaw3_TermMakes_0 : LCode := (.seq (.seq (.reg [] [⟨some 38, some (.move (.tmp 11)), none⟩,
    ⟨some 39, some (.move (.tmp 1)), none⟩,
    ⟨some 40, some (.call ⟨(.builtin .len), #[(.tmp 39)], #[T_s_api_Node]⟩), none⟩,
    ⟨some 41, some (.binOp .lss T_int (.tmp 38) (.tmp 40) T_int), none⟩])
  (.cond (.tmp 41) .skip
  (.exit 0)))
  (.seq (.block 1 (.seq (.reg [] [⟨some 45, some (.move (.tmp 9)), none⟩,
    ⟨some 46, some (.move (.tmp 1)), none⟩,
    ⟨some 47, some (.move (.tmp 11)), none⟩,
    ⟨some 48, some (.indexAddr T_s_api_Node (.tmp 46) (.tmp 47)), none⟩,
    ⟨some 49, some (.load T_api_Node (.tmp 48)), none⟩,
    ⟨some 50, some (.call ⟨(.value (.func f_plait_term_Graph_Make)), #[(.tmp 45), (.tmp 49)], #[T_p_term_Graph, T_api_Node]⟩), none⟩,
    ⟨some 44, some (.move (.tmp 50)), none⟩,
    ⟨some 51, some (.extract (.tmp 44) 0), none⟩,
    ⟨some 52, some (.extract (.tmp 44) 1), none⟩,
    ⟨some 12, some (.assign (.tmp 51)), none⟩,
    ⟨some 13, some (.assign (.tmp 52)), none⟩])
  (.seq (.reg [] [⟨some 54, some (.move (.tmp 10)), none⟩,
    ⟨some 55, some (.move (.tmp 1)), none⟩,
    ⟨some 56, some (.move (.tmp 11)), none⟩,
    ⟨some 57, some (.indexAddr T_s_api_Node (.tmp 55) (.tmp 56)), none⟩,
    ⟨some 58, some (.load T_api_Node (.tmp 57)), none⟩,
    ⟨some 59, some (.call ⟨(.value (.func f_plait_plaitref3_Graph_Make)), #[(.tmp 54), (.tmp 58)], #[T_p_plaitref3_Graph, T_api_Node]⟩), none⟩,
    ⟨some 53, some (.move (.tmp 59)), none⟩,
    ⟨some 60, some (.extract (.tmp 53) 0), none⟩,
    ⟨some 61, some (.extract (.tmp 53) 1), none⟩,
    ⟨some 14, some (.assign (.tmp 60)), none⟩,
    ⟨some 15, some (.assign (.tmp 61)), none⟩])
  (.seq (.reg [10] [⟨some 62, some (.move (.tmp 12)), none⟩,
    ⟨some 63, some (.move (.tmp 14)), none⟩,
    ⟨some 64, some (.binOp .neq T_int (.tmp 62) (.tmp 63) T_int), none⟩,
    ⟨some 65, some (.move (.tmp 64)), none⟩,
    ⟨some 66, some (.move (.tmp 13)), some (some 65, false)⟩,
    ⟨some 67, some (.move (.tmp 15)), some (some 65, false)⟩,
    ⟨some 68, some (.binOp .neq T_int (.tmp 66) (.tmp 67) T_int), some (some 65, false)⟩,
    ⟨some 69, some (.pick (.tmp 65) (.const (.bool true)) (.tmp 68)), none⟩,
    ⟨some 70, some (.move (.tmp 69)), none⟩,
    ⟨some 71, some (.move (.tmp 9)), some (some 70, false)⟩,
    ⟨some 72, some (.call ⟨(.value (.func f_plait_term_Graph_Len)), #[(.tmp 71)], #[T_p_term_Graph]⟩), some (some 70, false)⟩,
    ⟨some 73, some (.move (.tmp 10)), some (some 70, false)⟩,
    ⟨some 74, some (.nilCheck (.tmp 73)), some (some 70, false)⟩,
    ⟨some 75, some (.fieldAddr T_plaitref3_Graph (.tmp 74) 0), some (some 70, false)⟩,
    ⟨some 76, some (.load T_s_api_Node (.tmp 75)), some (some 70, false)⟩,
    ⟨some 77, some (.call ⟨(.builtin .len), #[(.tmp 76)], #[T_s_api_Node]⟩), some (some 70, false)⟩,
    ⟨some 78, some (.binOp .neq T_int (.tmp 72) (.tmp 77) T_int), some (some 70, false)⟩,
    ⟨some 79, some (.pick (.tmp 70) (.const (.bool true)) (.tmp 78)), none⟩])
  (.cond (.tmp 79) (.seq (.reg [] [⟨some 8, some (.assign (.const (.bool false))), none⟩])
  .ret)
  .skip)))))
  (.reg [] [⟨some 42, some (.move (.tmp 11)), none⟩,
    ⟨some 43, some (.binOp .add T_int (.tmp 42) (.const (.int .i64 1)) T_int), none⟩,
    ⟨some 11, some (.assign (.tmp 43)), none⟩])))
def l_plaitlaw3_TermMakes_1 : LCode := (.seq (.seq (.reg [] [⟨some 80, some (.move (.tmp 16)), none⟩,
    ⟨some 81, some (.move (.tmp 10)), none⟩,
    ⟨some 82, some (.nilCheck (.tmp 81)), none⟩,
    ⟨some 83, some (.fieldAddr T_plaitref3_Graph (.tmp 82) 0), none⟩,
    ⟨some 84, some (.load T_s_api_Node (.tmp 83)), none⟩,
    ⟨some 85, some (.call ⟨(.builtin .len), #[(.tmp 84)], #[T_s_api_Node]⟩), none⟩,
    ⟨some 86, some (.binOp .add T_int (.tmp 85) (.const (.int .i64 1)) T_int), none⟩,
    ⟨some 87, some (.binOp .leq T_int (.tmp 80) (.tmp 86) T_int), none⟩])
  (.cond (.tmp 87) .skip
  (.exit 2)))
  (.seq (.block 3 (.seq (.reg [] [⟨some 91, some (.move (.tmp 9)), none⟩,
    ⟨some 92, some (.move (.tmp 16)), none⟩,
    ⟨some 93, some (.call ⟨(.value (.func f_plait_term_Graph_Node)), #[(.tmp 91), (.tmp 92)], #[T_p_term_Graph, T_int]⟩), none⟩,
    ⟨some 90, some (.move (.tmp 93)), none⟩,
    ⟨some 94, some (.extract (.tmp 90) 0), none⟩,
    ⟨some 95, some (.extract (.tmp 90) 1), none⟩,
    ⟨some 17, some (.alloc T_api_Node), none⟩,
    ⟨none, some (.store T_api_Node (.tmp 17) (.tmp 94)), none⟩,
    ⟨some 18, some (.assign (.tmp 95)), none⟩])
  (.seq (.reg [] [⟨some 97, some (.move (.tmp 10)), none⟩,
    ⟨some 98, some (.move (.tmp 16)), none⟩,
    ⟨some 99, some (.call ⟨(.value (.func f_plait_plaitref3_Graph_At)), #[(.tmp 97), (.tmp 98)], #[T_p_plaitref3_Graph, T_int]⟩), none⟩,
    ⟨some 96, some (.move (.tmp 99)), none⟩,
    ⟨some 100, some (.extract (.tmp 96) 0), none⟩,
    ⟨some 101, some (.extract (.tmp 96) 1), none⟩,
    ⟨some 19, some (.alloc T_api_Node), none⟩,
    ⟨none, some (.store T_api_Node (.tmp 19) (.tmp 100)), none⟩,
    ⟨some 20, some (.assign (.tmp 101)), none⟩])
  (.seq (.reg [] [⟨some 102, some (.load T_api_Node (.tmp 17)), none⟩,
    ⟨some 103, some (.load T_api_Node (.tmp 19)), none⟩,
    ⟨some 104, some (.binOp .neq T_api_Node (.tmp 102) (.tmp 103) T_api_Node), none⟩,
    ⟨some 105, some (.move (.tmp 104)), none⟩,
    ⟨some 106, some (.move (.tmp 18)), some (some 105, false)⟩,
    ⟨some 107, some (.move (.tmp 20)), some (some 105, false)⟩,
    ⟨some 108, some (.binOp .neq T_bool (.tmp 106) (.tmp 107) T_bool), some (some 105, false)⟩,
    ⟨some 109, some (.pick (.tmp 105) (.const (.bool true)) (.tmp 108)), none⟩,
    ⟨some 110, some (.move (.tmp 109)), none⟩,
    ⟨some 111, some (.move (.tmp 9)), some (some 110, false)⟩,
    ⟨some 112, some (.move (.tmp 16)), some (some 110, false)⟩,
    ⟨some 113, some (.call ⟨(.value (.func f_plait_term_Graph_Cone)), #[(.tmp 111), (.tmp 112)], #[T_p_term_Graph, T_int]⟩), some (some 110, false)⟩,
    ⟨some 114, some (.move (.tmp 10)), some (some 110, false)⟩,
    ⟨some 115, some (.move (.tmp 16)), some (some 110, false)⟩,
    ⟨some 116, some (.call ⟨(.value (.func f_plait_plaitref3_Graph_Cone)), #[(.tmp 114), (.tmp 115)], #[T_p_plaitref3_Graph, T_int]⟩), some (some 110, false)⟩,
    ⟨some 117, some (.call ⟨(.value (.func f_plaithelp_Ints)), #[(.tmp 113), (.tmp 116)], #[T_s_int, T_s_int]⟩), some (some 110, false)⟩,
    ⟨some 118, some (.unOp .not T_bool (.tmp 117)), some (some 110, false)⟩,
    ⟨some 119, some (.pick (.tmp 110) (.const (.bool true)) (.tmp 118)), none⟩])
  (.cond (.tmp 119) (.seq (.reg [] [⟨some 8, some (.assign (.const (.bool false))), none⟩])
  .ret)
  .skip)))))
  (.reg [] [⟨some 88, some (.move (.tmp 16)), none⟩,
    ⟨some 89, some (.binOp .add T_int (.tmp 88) (.const (.int .i64 1)) T_int), none⟩,
    ⟨some 16, some (.assign (.tmp 89)), none⟩])))
@[simp] theorem d_l_plaitlaw3_TermMakes_0 : defs l_plaitlaw3_TermMakes_0 = [38, 39, 40, 41, 45, 46, 47, 48, 49, 50, 44, 51, 52, 12, 13, 54, 55, 56, 57, 58, 59, 53, 60, 61, 14, 15, 62, 63, 64, 65, 66, 67, 68, 69, 70, 71, 72, 73, 74, 75, 76, 77, 78, 79, 8, 42, 43, 11] := by rfl
@[simp] theorem d_l_plaitlaw3_TermMakes_1 : defs l_plaitlaw3_TermMakes_1 = [80, 81, 82, 83, 84, 85, 86, 87, 91, 92, 93, 90, 94, 95, 17, 18, 97, 98, 99, 96, 100, 101, 19, 20, 102, 103, 104, 105, 106, 107, 108, 109, 110, 111, 112, 113, 114, 115, 116, 117, 118, 119, 8, 88, 89, 16] := by rfl
def c_plaitlaw3_TermMakes : LCode := (.seq (.reg [] [⟨some 8, some (.assign (.const (.bool false))), none⟩])
  (.seq (.seq (.reg [] [⟨some 29, some (.call ⟨(.value (.func f_plaitlaw3_known)), #[], #[]⟩), none⟩,
    ⟨some 30, some (.unOp .not T_bool (.tmp 29)), none⟩])
  (.cond (.tmp 30) (.seq (.reg [] [⟨some 8, some (.assign (.const (.bool false))), none⟩])
  .ret)
  .skip))
  (.seq (.seq (.reg [] [⟨some 31, some (.move (.tmp 1)), none⟩,
    ⟨some 32, some (.call ⟨(.value (.func f_plaitlaw3_light)), #[(.tmp 31)], #[T_s_api_Node]⟩), none⟩,
    ⟨some 33, some (.unOp .not T_bool (.tmp 32)), none⟩])
  (.cond (.tmp 33) (.seq (.reg [] [⟨some 8, some (.assign (.const (.bool true))), none⟩])
  .ret)
  .skip))
  (.seq (.reg [] [⟨some 34, some (.move (.tmp 0)), none⟩,
    ⟨some 35, some (.call ⟨(.value (.func f_term_New)), #[(.tmp 34)], #[T_int]⟩), none⟩,
    ⟨some 36, some (.move (.tmp 0)), none⟩,
    ⟨some 37, some (.call ⟨(.value (.func f_plaitref3_New)), #[(.tmp 36)], #[T_int]⟩), none⟩,
    ⟨some 9, some (.assign (.tmp 35)), none⟩,
    ⟨some 10, some (.assign (.tmp 37)), none⟩])
  (.seq (.seq (.reg [] [⟨some 11, some (.assign (.const (.int .i64 0))), none⟩])
  (.block 0 (.loop l_plaitlaw3_TermMakes_0)))
  (.seq (.seq (.reg [] [⟨some 16, some (.assign (.const (.int .i64 (-1)))), none⟩])
  (.block 2 (.loop l_plaitlaw3_TermMakes_1)))
  (.seq (.reg [] [⟨some 121, some (.move (.tmp 9)), none⟩,
    ⟨some 122, some (.move (.tmp 3)), none⟩,
    ⟨some 123, some (.call ⟨(.value (.func f_plait_term_Graph_Var)), #[(.tmp 121), (.tmp 122)], #[T_p_term_Graph, T_string]⟩), none⟩,
    ⟨some 120, some (.move (.tmp 123)), none⟩,
    ⟨some 124, some (.extract (.tmp 120) 0), none⟩,
    ⟨some 125, some (.extract (.tmp 120) 1), none⟩,
    ⟨some 21, some (.assign (.tmp 124)), none⟩,
    ⟨some 22, some (.assign (.tmp 125)), none⟩])
  (.seq (.reg [] [⟨some 127, some (.move (.tmp 10)), none⟩,
    ⟨some 128, some (.move (.tmp 3)), none⟩,
    ⟨some 129, some (.call ⟨(.value (.func f_plait_plaitref3_Graph_Var)), #[(.tmp 127), (.tmp 128)], #[T_p_plaitref3_Graph, T_string]⟩), none⟩,
    ⟨some 126, some (.move (.tmp 129)), none⟩,
    ⟨some 130, some (.extract (.tmp 126) 0), none⟩,
    ⟨some 131, some (.extract (.tmp 126) 1), none⟩,
    ⟨some 23, some (.assign (.tmp 130)), none⟩,
    ⟨some 24, some (.assign (.tmp 131)), none⟩])
  (.seq (.reg [] [⟨some 133, some (.move (.tmp 9)), none⟩,
    ⟨some 134, some (.move (.tmp 2)), none⟩,
    ⟨some 135, some (.call ⟨(.value (.func f_plait_term_Graph_Node)), #[(.tmp 133), (.tmp 134)], #[T_p_term_Graph, T_int]⟩), none⟩,
    ⟨some 132, some (.move (.tmp 135)), none⟩,
    ⟨some 136, some (.extract (.tmp 132) 0), none⟩,
    ⟨some 137, some (.extract (.tmp 132) 1), none⟩,
    ⟨some 25, some (.alloc T_api_Node), none⟩,
    ⟨none, some (.store T_api_Node (.tmp 25) (.tmp 136)), none⟩,
    ⟨some 26, some (.assign (.tmp 137)), none⟩])
  (.seq (.reg [] [⟨some 139, some (.move (.tmp 10)), none⟩,
    ⟨some 140, some (.move (.tmp 2)), none⟩,
    ⟨some 141, some (.call ⟨(.value (.func f_plait_plaitref3_Graph_At)), #[(.tmp 139), (.tmp 140)], #[T_p_plaitref3_Graph, T_int]⟩), none⟩,
    ⟨some 138, some (.move (.tmp 141)), none⟩,
    ⟨some 142, some (.extract (.tmp 138) 0), none⟩,
    ⟨some 143, some (.extract (.tmp 138) 1), none⟩,
    ⟨some 27, some (.alloc T_api_Node), none⟩,
    ⟨none, some (.store T_api_Node (.tmp 27) (.tmp 142)), none⟩,
    ⟨some 28, some (.assign (.tmp 143)), none⟩])
  (.seq (.reg [] [⟨some 144, some (.move (.tmp 21)), none⟩,
    ⟨some 145, some (.move (.tmp 23)), none⟩,
    ⟨some 146, some (.binOp .eql T_int (.tmp 144) (.tmp 145) T_int), none⟩,
    ⟨some 147, some (.move (.tmp 146)), none⟩,
    ⟨some 148, some (.move (.tmp 22)), some (some 147, true)⟩,
    ⟨some 149, some (.move (.tmp 24)), some (some 147, true)⟩,
    ⟨some 150, some (.binOp .eql T_bool (.tmp 148) (.tmp 149) T_bool), some (some 147, true)⟩,
    ⟨some 151, some (.pick (.tmp 147) (.tmp 150) (.const (.bool false))), none⟩,
    ⟨some 152, some (.move (.tmp 151)), none⟩,
    ⟨some 153, some (.load T_api_Node (.tmp 25)), some (some 152, true)⟩,
    ⟨some 154, some (.load T_api_Node (.tmp 27)), some (some 152, true)⟩,
    ⟨some 155, some (.binOp .eql T_api_Node (.tmp 153) (.tmp 154) T_api_Node), some (some 152, true)⟩,
    ⟨some 156, some (.pick (.tmp 152) (.tmp 155) (.const (.bool false))), none⟩,
    ⟨some 157, some (.move (.tmp 156)), none⟩,
    ⟨some 158, some (.move (.tmp 26)), some (some 157, true)⟩,
    ⟨some 159, some (.move (.tmp 28)), some (some 157, true)⟩,
    ⟨some 160, some (.binOp .eql T_bool (.tmp 158) (.tmp 159) T_bool), some (some 157, true)⟩,
    ⟨some 161, some (.pick (.tmp 157) (.tmp 160) (.const (.bool false))), none⟩,
    ⟨some 162, some (.move (.tmp 161)), none⟩,
    ⟨some 163, some (.move (.tmp 9)), some (some 162, true)⟩,
    ⟨some 164, some (.call ⟨(.value (.func f_plait_term_Graph_Vars)), #[(.tmp 163)], #[T_p_term_Graph]⟩), some (some 162, true)⟩,
    ⟨some 165, some (.move (.tmp 10)), some (some 162, true)⟩,
    ⟨some 166, some (.call ⟨(.value (.func f_plait_plaitref3_Graph_Vars)), #[(.tmp 165)], #[T_p_plaitref3_Graph]⟩), some (some 162, true)⟩,
    ⟨some 167, some (.call ⟨(.value (.func f_plaithelp_Ints)), #[(.tmp 164), (.tmp 166)], #[T_s_int, T_s_int]⟩), some (some 162, true)⟩,
    ⟨some 168, some (.pick (.tmp 162) (.tmp 167) (.const (.bool false))), none⟩,
    ⟨some 169, some (.move (.tmp 168)), none⟩,
    ⟨some 170, some (.move (.tmp 9)), some (some 169, true)⟩,
    ⟨some 171, some (.move (.tmp 2)), some (some 169, true)⟩,
    ⟨some 172, some (.call ⟨(.value (.func f_plait_term_Graph_Cone)), #[(.tmp 170), (.tmp 171)], #[T_p_term_Graph, T_int]⟩), some (some 169, true)⟩,
    ⟨some 173, some (.move (.tmp 10)), some (some 169, true)⟩,
    ⟨some 174, some (.move (.tmp 2)), some (some 169, true)⟩,
    ⟨some 175, some (.call ⟨(.value (.func f_plait_plaitref3_Graph_Cone)), #[(.tmp 173), (.tmp 174)], #[T_p_plaitref3_Graph, T_int]⟩), some (some 169, true)⟩,
    ⟨some 176, some (.call ⟨(.value (.func f_plaithelp_Ints)), #[(.tmp 172), (.tmp 175)], #[T_s_int, T_s_int]⟩), some (some 169, true)⟩,
    ⟨some 177, some (.pick (.tmp 169) (.tmp 176) (.const (.bool false))), none⟩,
    ⟨some 8, some (.assign (.tmp 177)), none⟩])
  .ret)))))))))))
theorem e_plaitlaw3_TermMakes {a0 a1 a2 a3 : AV} {H : AHeap} : R f_plaitlaw3_TermMakes [a0, a1, a2, a3] H = fnK Go.Proofs.Try.prog [] H [(.tmp 8)] (evalL Go.Proofs.Try.prog KT R c_plaitlaw3_TermMakes (Env.args [a0, a1, a2, a3] 0) H) :=
  runs_body (D := DT) (f := f_plaitlaw3_TermMakes) Go.Proofs.Try.func9 (by kernel_rfl) (by kernel_rfl) (by kernel_rfl) (by kernel_rfl) (by kernel_rfl) (Nat.le_of_ble_eq_true rfl)

def l_plaitlaw3_TermSorts_0 : LCode := (.seq (.seq (.reg [] [⟨some 23, some (.move (.tmp 9)), none⟩,
    ⟨some 24, some (.binOp .leq T_int (.tmp 23) (.const (.int .i64 45)) T_int), none⟩])
  (.cond (.tmp 24) .skip
  (.exit 0)))
  (.seq (.block 1 (.seq (.reg [] [⟨some 28, some (.move (.tmp 9)), none⟩,
    ⟨some 29, some (.move (.tmp 1)), none⟩,
    ⟨some 30, some (.move (.tmp 2)), none⟩,
    ⟨some 31, some (.move (.tmp 3)), none⟩,
    ⟨some 32, some (.call ⟨(.value (.func f_term_Sort)), #[(.tmp 28), (.tmp 29), (.tmp 30), (.tmp 31)], #[T_int, T_int, T_int, T_s_int]⟩), none⟩,
    ⟨some 27, some (.move (.tmp 32)), none⟩,
    ⟨some 33, some (.extract (.tmp 27) 0), none⟩,
    ⟨some 34, some (.extract (.tmp 27) 1), none⟩,
    ⟨some 10, some (.assign (.tmp 33)), none⟩,
    ⟨some 11, some (.assign (.tmp 34)), none⟩])
  (.seq (.reg [] [⟨some 36, some (.move (.tmp 9)), none⟩,
    ⟨some 37, some (.move (.tmp 1)), none⟩,
    ⟨some 38, some (.move (.tmp 2)), none⟩,
    ⟨some 39, some (.move (.tmp 3)), none⟩,
    ⟨some 40, some (.call ⟨(.value (.func f_plaitref3_Sort)), #[(.tmp 36), (.tmp 37), (.tmp 38), (.tmp 39)], #[T_int, T_int, T_int, T_s_int]⟩), none⟩,
    ⟨some 35, some (.move (.tmp 40)), none⟩,
    ⟨some 41, some (.extract (.tmp 35) 0), none⟩,
    ⟨some 42, some (.extract (.tmp 35) 1), none⟩,
    ⟨some 12, some (.assign (.tmp 41)), none⟩,
    ⟨some 13, some (.assign (.tmp 42)), none⟩])
  (.seq (.reg [] [⟨some 43, some (.move (.tmp 10)), none⟩,
    ⟨some 44, some (.move (.tmp 12)), none⟩,
    ⟨some 45, some (.binOp .neq T_int (.tmp 43) (.tmp 44) T_int), none⟩,
    ⟨some 46, some (.move (.tmp 45)), none⟩,
    ⟨some 47, some (.move (.tmp 11)), some (some 46, false)⟩,
    ⟨some 48, some (.move (.tmp 13)), some (some 46, false)⟩,
    ⟨some 49, some (.binOp .neq T_int (.tmp 47) (.tmp 48) T_int), some (some 46, false)⟩,
    ⟨some 50, some (.pick (.tmp 46) (.const (.bool true)) (.tmp 49)), none⟩,
    ⟨some 51, some (.move (.tmp 50)), none⟩,
    ⟨some 52, some (.move (.tmp 9)), some (some 51, false)⟩,
    ⟨some 53, some (.call ⟨(.value (.func f_term_Arity)), #[(.tmp 52)], #[T_int]⟩), some (some 51, false)⟩,
    ⟨some 54, some (.move (.tmp 9)), some (some 51, false)⟩,
    ⟨some 55, some (.call ⟨(.value (.func f_plaitref3_Arity)), #[(.tmp 54)], #[T_int]⟩), some (some 51, false)⟩,
    ⟨some 56, some (.binOp .neq T_int (.tmp 53) (.tmp 55) T_int), some (some 51, false)⟩,
    ⟨some 57, some (.pick (.tmp 51) (.const (.bool true)) (.tmp 56)), none⟩])
  (.cond (.tmp 57) (.seq (.reg [] [⟨some 8, some (.assign (.const (.bool false))), none⟩])
  .ret)
  .skip)))))
  (.reg [] [⟨some 25, some (.move (.tmp 9)), none⟩,
    ⟨some 26, some (.binOp .add T_int (.tmp 25) (.const (.int .i64 1)) T_int), none⟩,
    ⟨some 9, some (.assign (.tmp 26)), none⟩])))
@[simp] theorem d_l_plaitlaw3_TermSorts_0 : defs l_plaitlaw3_TermSorts_0 = [23, 24, 28, 29, 30, 31, 32, 27, 33, 34, 10, 11, 36, 37, 38, 39, 40, 35, 41, 42, 12, 13, 43, 44, 45, 46, 47, 48, 49, 50, 51, 52, 53, 54, 55, 56, 57, 8, 25, 26, 9] := by rfl
def c_plaitlaw3_TermSorts : LCode := (.seq (.reg [] [⟨some 8, some (.assign (.const (.bool false))), none⟩])
  (.seq (.seq (.reg [] [⟨some 18, some (.call ⟨(.value (.func f_plaitlaw3_known)), #[], #[]⟩), none⟩,
    ⟨some 19, some (.unOp .not T_bool (.tmp 18)), none⟩])
  (.cond (.tmp 19) (.seq (.reg [] [⟨some 8, some (.assign (.const (.bool false))), none⟩])
  .ret)
  .skip))
  (.seq (.seq (.reg [] [⟨some 20, some (.move (.tmp 3)), none⟩,
    ⟨some 21, some (.call ⟨(.builtin .len), #[(.tmp 20)], #[T_s_int]⟩), none⟩,
    ⟨some 22, some (.binOp .gtr T_int (.tmp 21) (.const (.int .i64 10)) T_int), none⟩])
  (.cond (.tmp 22) (.seq (.reg [] [⟨some 8, some (.assign (.const (.bool true))), none⟩])
  .ret)
  .skip))
  (.seq (.seq (.reg [] [⟨some 9, some (.assign (.const (.int .i64 (-1)))), none⟩])
  (.block 0 (.loop l_plaitlaw3_TermSorts_0)))
  (.seq (.reg [] [⟨some 59, some (.move (.tmp 0)), none⟩,
    ⟨some 60, some (.move (.tmp 1)), none⟩,
    ⟨some 61, some (.move (.tmp 2)), none⟩,
    ⟨some 62, some (.move (.tmp 3)), none⟩,
    ⟨some 63, some (.call ⟨(.value (.func f_term_Sort)), #[(.tmp 59), (.tmp 60), (.tmp 61), (.tmp 62)], #[T_int, T_int, T_int, T_s_int]⟩), none⟩,
    ⟨some 58, some (.move (.tmp 63)), none⟩,
    ⟨some 64, some (.extract (.tmp 58) 0), none⟩,
    ⟨some 65, some (.extract (.tmp 58) 1), none⟩,
    ⟨some 14, some (.assign (.tmp 64)), none⟩,
    ⟨some 15, some (.assign (.tmp 65)), none⟩])
  (.seq (.reg [] [⟨some 67, some (.move (.tmp 0)), none⟩,
    ⟨some 68, some (.move (.tmp 1)), none⟩,
    ⟨some 69, some (.move (.tmp 2)), none⟩,
    ⟨some 70, some (.move (.tmp 3)), none⟩,
    ⟨some 71, some (.call ⟨(.value (.func f_plaitref3_Sort)), #[(.tmp 67), (.tmp 68), (.tmp 69), (.tmp 70)], #[T_int, T_int, T_int, T_s_int]⟩), none⟩,
    ⟨some 66, some (.move (.tmp 71)), none⟩,
    ⟨some 72, some (.extract (.tmp 66) 0), none⟩,
    ⟨some 73, some (.extract (.tmp 66) 1), none⟩,
    ⟨some 16, some (.assign (.tmp 72)), none⟩,
    ⟨some 17, some (.assign (.tmp 73)), none⟩])
  (.seq (.reg [] [⟨some 74, some (.move (.tmp 14)), none⟩,
    ⟨some 75, some (.move (.tmp 16)), none⟩,
    ⟨some 76, some (.binOp .eql T_int (.tmp 74) (.tmp 75) T_int), none⟩,
    ⟨some 77, some (.move (.tmp 76)), none⟩,
    ⟨some 78, some (.move (.tmp 15)), some (some 77, true)⟩,
    ⟨some 79, some (.move (.tmp 17)), some (some 77, true)⟩,
    ⟨some 80, some (.binOp .eql T_int (.tmp 78) (.tmp 79) T_int), some (some 77, true)⟩,
    ⟨some 81, some (.pick (.tmp 77) (.tmp 80) (.const (.bool false))), none⟩,
    ⟨some 82, some (.move (.tmp 81)), none⟩,
    ⟨some 83, some (.move (.tmp 0)), some (some 82, true)⟩,
    ⟨some 84, some (.call ⟨(.value (.func f_term_Arity)), #[(.tmp 83)], #[T_int]⟩), some (some 82, true)⟩,
    ⟨some 85, some (.move (.tmp 0)), some (some 82, true)⟩,
    ⟨some 86, some (.call ⟨(.value (.func f_plaitref3_Arity)), #[(.tmp 85)], #[T_int]⟩), some (some 82, true)⟩,
    ⟨some 87, some (.binOp .eql T_int (.tmp 84) (.tmp 86) T_int), some (some 82, true)⟩,
    ⟨some 88, some (.pick (.tmp 82) (.tmp 87) (.const (.bool false))), none⟩,
    ⟨some 8, some (.assign (.tmp 88)), none⟩])
  .ret)))))))
theorem e_plaitlaw3_TermSorts {a0 a1 a2 a3 : AV} {H : AHeap} : R f_plaitlaw3_TermSorts [a0, a1, a2, a3] H = fnK Go.Proofs.Try.prog [] H [(.tmp 8)] (evalL Go.Proofs.Try.prog KT R c_plaitlaw3_TermSorts (Env.args [a0, a1, a2, a3] 0) H) :=
  runs_body (D := DT) (f := f_plaitlaw3_TermSorts) Go.Proofs.Try.func10 (by kernel_rfl) (by kernel_rfl) (by kernel_rfl) (by kernel_rfl) (by kernel_rfl) (Nat.le_of_ble_eq_true rfl)

def l_plaitlaw3_TermOnce_0 : LCode := (.seq (.seq (.reg [] [⟨some 32, some (.move (.tmp 7)), none⟩,
    ⟨some 33, some (.move (.tmp 1)), none⟩,
    ⟨some 34, some (.call ⟨(.builtin .len), #[(.tmp 33)], #[T_s_api_Node]⟩), none⟩,
    ⟨some 35, some (.binOp .lss T_int (.tmp 32) (.tmp 34) T_int), none⟩])
  (.cond (.tmp 35) .skip
  (.exit 0)))
  (.seq (.block 1 (.seq (.reg [] [⟨some 38, some (.move (.tmp 5)), none⟩,
    ⟨some 39, some (.call ⟨(.value (.func f_plait_term_Graph_Len)), #[(.tmp 38)], #[T_p_term_Graph]⟩), none⟩,
    ⟨some 8, some (.assign (.tmp 39)), none⟩])
  (.seq (.reg [] [⟨some 41, some (.move (.tmp 5)), none⟩,
    ⟨some 42, some (.move (.tmp 1)), none⟩,
    ⟨some 43, some (.move (.tmp 7)), none⟩,
    ⟨some 44, some (.indexAddr T_s_api_Node (.tmp 42) (.tmp 43)), none⟩,
    ⟨some 45, some (.load T_api_Node (.tmp 44)), none⟩,
    ⟨some 46, some (.call ⟨(.value (.func f_plait_term_Graph_Make)), #[(.tmp 41), (.tmp 45)], #[T_p_term_Graph, T_api_Node]⟩), none⟩,
    ⟨some 40, some (.move (.tmp 46)), none⟩,
    ⟨some 47, some (.extract (.tmp 40) 0), none⟩,
    ⟨some 48, some (.extract (.tmp 40) 1), none⟩,
    ⟨some 9, some (.assign (.tmp 47)), none⟩,
    ⟨some 10, some (.assign (.tmp 48)), none⟩])
  (.seq (.seq (.reg [] [⟨some 49, some (.move (.tmp 10)), none⟩,
    ⟨some 50, some (.binOp .neq T_int (.tmp 49) (.const (.int .i64 0)) T_int), none⟩,
    ⟨some 51, some (.move (.tmp 50)), none⟩,
    ⟨some 52, some (.move (.tmp 5)), some (some 51, true)⟩,
    ⟨some 53, some (.call ⟨(.value (.func f_plait_term_Graph_Len)), #[(.tmp 52)], #[T_p_term_Graph]⟩), some (some 51, true)⟩,
    ⟨some 54, some (.move (.tmp 8)), some (some 51, true)⟩,
    ⟨some 55, some (.binOp .neq T_int (.tmp 53) (.tmp 54) T_int), some (some 51, true)⟩,
    ⟨some 56, some (.move (.tmp 55)), some (some 51, true)⟩,
    ⟨some 57, some (.move (.tmp 9)), some (some 56, false)⟩,
    ⟨some 58, some (.binOp .neq T_int (.tmp 57) (.const (.int .i64 0)) T_int), some (some 56, false)⟩,
    ⟨some 59, some (.pick (.tmp 56) (.const (.bool true)) (.tmp 58)), some (some 51, true)⟩,
    ⟨some 60, some (.pick (.tmp 51) (.tmp 59) (.const (.bool false))), none⟩])
  (.cond (.tmp 60) (.seq (.reg [] [⟨some 4, some (.assign (.const (.bool false))), none⟩])
  .ret)
  .skip))
  (.reg [] [⟨some 61, some (.move (.tmp 6)), none⟩,
    ⟨some 62, some (.move (.tmp 7)), none⟩,
    ⟨some 63, some (.move (.tmp 9)), none⟩,
    ⟨some 64, some (.indexAddr T_s_int (.tmp 61) (.tmp 62)), none⟩,
    ⟨none, some (.store T_int (.tmp 64) (.tmp 63)), none⟩])))))
  (.reg [] [⟨some 36, some (.move (.tmp 7)), none⟩,
    ⟨some 37, some (.binOp .add T_int (.tmp 36) (.const (.int .i64 1)) T_int), none⟩,
    ⟨some 7, some (.assign (.tmp 37)), none⟩])))
def l_plaitlaw3_TermOnce_1 : LCode := (.seq (.seq (.reg [] [⟨some 65, some (.move (.tmp 11)), none⟩,
    ⟨some 66, some (.move (.tmp 1)), none⟩,
    ⟨some 67, some (.call ⟨(.builtin .len), #[(.tmp 66)], #[T_s_api_Node]⟩), none⟩,
    ⟨some 68, some (.binOp .lss T_int (.tmp 65) (.tmp 67) T_int), none⟩])
  (.cond (.tmp 68) .skip
  (.exit 2)))
  (.seq (.block 3 (.seq (.seq (.reg [] [⟨some 71, some (.move (.tmp 6)), none⟩,
    ⟨some 72, some (.move (.tmp 11)), none⟩,
    ⟨some 73, some (.indexAddr T_s_int (.tmp 71) (.tmp 72)), none⟩,
    ⟨some 74, some (.load T_int (.tmp 73)), none⟩,
    ⟨some 75, some (.binOp .eql T_int (.tmp 74) (.const (.int .i64 0)) T_int), none⟩])
  (.cond (.tmp 75) (.exit 3)
  .skip))
  (.seq (.reg [] [⟨some 77, some (.move (.tmp 5)), none⟩,
    ⟨some 78, some (.move (.tmp 1)), none⟩,
    ⟨some 79, some (.move (.tmp 11)), none⟩,
    ⟨some 80, some (.indexAddr T_s_api_Node (.tmp 78) (.tmp 79)), none⟩,
    ⟨some 81, some (.load T_api_Node (.tmp 80)), none⟩,
    ⟨some 82, some (.call ⟨(.value (.func f_plait_term_Graph_Make)), #[(.tmp 77), (.tmp 81)], #[T_p_term_Graph, T_api_Node]⟩), none⟩,
    ⟨some 76, some (.move (.tmp 82)), none⟩,
    ⟨some 83, some (.extract (.tmp 76) 0), none⟩,
    ⟨some 84, some (.extract (.tmp 76) 1), none⟩,
    ⟨some 12, some (.assign (.tmp 83)), none⟩,
    ⟨some 13, some (.assign (.tmp 84)), none⟩])
  (.seq (.reg [] [⟨some 86, some (.move (.tmp 5)), none⟩,
    ⟨some 87, some (.move (.tmp 12)), none⟩,
    ⟨some 88, some (.call ⟨(.value (.func f_plait_term_Graph_Node)), #[(.tmp 86), (.tmp 87)], #[T_p_term_Graph, T_int]⟩), none⟩,
    ⟨some 85, some (.move (.tmp 88)), none⟩,
    ⟨some 89, some (.extract (.tmp 85) 0), none⟩,
    ⟨some 90, some (.extract (.tmp 85) 1), none⟩,
    ⟨some 14, some (.alloc T_api_Node), none⟩,
    ⟨none, some (.store T_api_Node (.tmp 14) (.tmp 89)), none⟩,
    ⟨some 15, some (.assign (.tmp 90)), none⟩])
  (.seq (.reg [] [⟨some 91, some (.move (.tmp 13)), none⟩,
    ⟨some 92, some (.binOp .neq T_int (.tmp 91) (.const (.int .i64 0)) T_int), none⟩,
    ⟨some 93, some (.move (.tmp 92)), none⟩,
    ⟨some 94, some (.move (.tmp 12)), some (some 93, false)⟩,
    ⟨some 95, some (.move (.tmp 6)), some (some 93, false)⟩,
    ⟨some 96, some (.move (.tmp 11)), some (some 93, false)⟩,
    ⟨some 97, some (.indexAddr T_s_int (.tmp 95) (.tmp 96)), some (some 93, false)⟩,
    ⟨some 98, some (.load T_int (.tmp 97)), some (some 93, false)⟩,
    ⟨some 99, some (.binOp .neq T_int (.tmp 94) (.tmp 98) T_int), some (some 93, false)⟩,
    ⟨some 100, some (.pick (.tmp 93) (.const (.bool true)) (.tmp 99)), none⟩,
    ⟨some 101, some (.move (.tmp 100)), none⟩,
    ⟨some 102, some (.move (.tmp 15)), some (some 101, false)⟩,
    ⟨some 103, some (.unOp .not T_bool (.tmp 102)), some (some 101, false)⟩,
    ⟨some 104, some (.pick (.tmp 101) (.const (.bool true)) (.tmp 103)), none⟩,
    ⟨some 105, some (.move (.tmp 104)), none⟩,
    ⟨some 106, some (.fieldAddr T_api_Node (.tmp 14) 2), some (some 105, false)⟩,
    ⟨some 107, some (.load T_int (.tmp 106)), some (some 105, false)⟩,
    ⟨some 108, some (.move (.tmp 12)), some (some 105, false)⟩,
    ⟨some 109, some (.binOp .geq T_int (.tmp 107) (.tmp 108) T_int), some (some 105, false)⟩,
    ⟨some 110, some (.pick (.tmp 105) (.const (.bool true)) (.tmp 109)), none⟩,
    ⟨some 111, some (.move (.tmp 110)), none⟩,
    ⟨some 112, some (.fieldAddr T_api_Node (.tmp 14) 3), some (some 111, false)⟩,
    ⟨some 113, some (.load T_int (.tmp 112)), some (some 111, false)⟩,
    ⟨some 114, some (.move (.tmp 12)), some (some 111, false)⟩,
    ⟨some 115, some (.binOp .geq T_int (.tmp 113) (.tmp 114) T_int), some (some 111, false)⟩,
    ⟨some 116, some (.pick (.tmp 111) (.const (.bool true)) (.tmp 115)), none⟩,
    ⟨some 117, some (.move (.tmp 116)), none⟩,
    ⟨some 118, some (.fieldAddr T_api_Node (.tmp 14) 4), some (some 117, false)⟩,
    ⟨some 119, some (.load T_int (.tmp 118)), some (some 117, false)⟩,
    ⟨some 120, some (.move (.tmp 12)), some (some 117, false)⟩,
    ⟨some 121, some (.binOp .geq T_int (.tmp 119) (.tmp 120) T_int), some (some 117, false)⟩,
    ⟨some 122, some (.pick (.tmp 117) (.const (.bool true)) (.tmp 121)), none⟩,
    ⟨some 123, some (.move (.tmp 122)), none⟩,
    ⟨some 124, some (.fieldAddr T_api_Node (.tmp 14) 0), some (some 123, false)⟩,
    ⟨some 125, some (.load T_int (.tmp 124)), some (some 123, false)⟩,
    ⟨some 126, some (.move (.tmp 1)), some (some 123, false)⟩,
    ⟨some 127, some (.move (.tmp 11)), some (some 123, false)⟩,
    ⟨some 128, some (.indexAddr T_s_api_Node (.tmp 126) (.tmp 127)), some (some 123, false)⟩,
    ⟨some 129, some (.fieldAddr T_api_Node (.tmp 128) 0), some (some 123, false)⟩,
    ⟨some 130, some (.load T_int (.tmp 129)), some (some 123, false)⟩,
    ⟨some 131, some (.binOp .neq T_int (.tmp 125) (.tmp 130) T_int), some (some 123, false)⟩,
    ⟨some 132, some (.pick (.tmp 123) (.const (.bool true)) (.tmp 131)), none⟩])
  (.cond (.tmp 132) (.seq (.reg [] [⟨some 4, some (.assign (.const (.bool false))), none⟩])
  .ret)
  .skip))))))
  (.reg [] [⟨some 69, some (.move (.tmp 11)), none⟩,
    ⟨some 70, some (.binOp .add T_int (.tmp 69) (.const (.int .i64 1)) T_int), none⟩,
    ⟨some 11, some (.assign (.tmp 70)), none⟩])))
def l_plaitlaw3_TermOnce_3 : LCode := (.seq (.seq (.reg [] [⟨some 145, some (.move (.tmp 19)), none⟩,
    ⟨some 146, some (.move (.tmp 16)), none⟩,
    ⟨some 147, some (.binOp .lss T_int (.tmp 145) (.tmp 146) T_int), none⟩])
  (.cond (.tmp 147) .skip
  (.exit 6)))
  (.seq (.block 7 (.seq (.reg [] [⟨some 151, some (.move (.tmp 5)), none⟩,
    ⟨some 152, some (.move (.tmp 19)), none⟩,
    ⟨some 153, some (.call ⟨(.value (.func f_plait_term_Graph_Node)), #[(.tmp 151), (.tmp 152)], #[T_p_term_Graph, T_int]⟩), none⟩,
    ⟨some 150, some (.move (.tmp 153)), none⟩,
    ⟨some 154, some (.extract (.tmp 150) 0), none⟩,
    ⟨some 155, some (.extract (.tmp 150) 1), none⟩,
    ⟨some 20, some (.alloc T_api_Node), none⟩,
    ⟨none, some (.store T_api_Node (.tmp 20) (.tmp 154)), none⟩,
    ⟨some 21, some (.assign (.tmp 155)), none⟩])
  (.seq (.reg [] [⟨some 156, some (.load T_api_Node (.tmp 17)), none⟩,
    ⟨some 157, some (.load T_api_Node (.tmp 20)), none⟩,
    ⟨some 158, some (.binOp .eql T_api_Node (.tmp 156) (.tmp 157) T_api_Node), none⟩])
  (.cond (.tmp 158) (.seq (.reg [] [⟨some 4, some (.assign (.const (.bool false))), none⟩])
  .ret)
  .skip))))
  (.reg [] [⟨some 148, some (.move (.tmp 19)), none⟩,
    ⟨some 149, some (.binOp .add T_int (.tmp 148) (.const (.int .i64 1)) T_int), none⟩,
    ⟨some 19, some (.assign (.tmp 149)), none⟩])))
def l_plaitlaw3_TermOnce_2 : LCode := (.seq (.seq (.reg [] [⟨some 133, some (.move (.tmp 16)), none⟩,
    ⟨some 134, some (.move (.tmp 5)), none⟩,
    ⟨some 135, some (.call ⟨(.value (.func f_plait_term_Graph_Len)), #[(.tmp 134)], #[T_p_term_Graph]⟩), none⟩,
    ⟨some 136, some (.binOp .leq T_int (.tmp 133) (.tmp 135) T_int), none⟩])
  (.cond (.tmp 136) .skip
  (.exit 4)))
  (.seq (.block 5 (.seq (.reg [] [⟨some 140, some (.move (.tmp 5)), none⟩,
    ⟨some 141, some (.move (.tmp 16)), none⟩,
    ⟨some 142, some (.call ⟨(.value (.func f_plait_term_Graph_Node)), #[(.tmp 140), (.tmp 141)], #[T_p_term_Graph, T_int]⟩), none⟩,
    ⟨some 139, some (.move (.tmp 142)), none⟩,
    ⟨some 143, some (.extract (.tmp 139) 0), none⟩,
    ⟨some 144, some (.extract (.tmp 139) 1), none⟩,
    ⟨some 17, some (.alloc T_api_Node), none⟩,
    ⟨none, some (.store T_api_Node (.tmp 17) (.tmp 143)), none⟩,
    ⟨some 18, some (.assign (.tmp 144)), none⟩])
  (.seq (.reg [] [⟨some 19, some (.assign (.const (.int .i64 1))), none⟩])
  (.block 6 (.loop l_plaitlaw3_TermOnce_3)))))
  (.reg [] [⟨some 137, some (.move (.tmp 16)), none⟩,
    ⟨some 138, some (.binOp .add T_int (.tmp 137) (.const (.int .i64 1)) T_int), none⟩,
    ⟨some 16, some (.assign (.tmp 138)), none⟩])))
@[simp] theorem d_l_plaitlaw3_TermOnce_0 : defs l_plaitlaw3_TermOnce_0 = [32, 33, 34, 35, 38, 39, 8, 41, 42, 43, 44, 45, 46, 40, 47, 48, 9, 10, 49, 50, 51, 52, 53, 54, 55, 56, 57, 58, 59, 60, 4, 61, 62, 63, 64, 36, 37, 7] := by rfl
@[simp] theorem d_l_plaitlaw3_TermOnce_1 : defs l_plaitlaw3_TermOnce_1 = [65, 66, 67, 68, 71, 72, 73, 74, 75, 77, 78, 79, 80, 81, 82, 76, 83, 84, 12, 13, 86, 87, 88, 85, 89, 90, 14, 15, 91, 92, 93, 94, 95, 96, 97, 98, 99, 100, 101, 102, 103, 104, 105, 106, 107, 108, 109, 110, 111, 112, 113, 114, 115, 116, 117, 118, 119, 120, 121, 122, 123, 124, 125, 126, 127, 128, 129, 130, 131, 132, 4, 69, 70, 11] := by rfl
@[simp] theorem d_l_plaitlaw3_TermOnce_3 : defs l_plaitlaw3_TermOnce_3 = [145, 146, 147, 151, 152, 153, 150, 154, 155, 20, 21, 156, 157, 158, 4, 148, 149, 19] := by rfl
@[simp] theorem d_l_plaitlaw3_TermOnce_2 : defs l_plaitlaw3_TermOnce_2 = [133, 134, 135, 136, 140, 141, 142, 139, 143, 144, 17, 18, 19, 145, 146, 147, 151, 152, 153, 150, 154, 155, 20, 21, 156, 157, 158, 4, 148, 149, 19, 137, 138, 16] := by rfl
def c_plaitlaw3_TermOnce : LCode := (.seq (.reg [] [⟨some 4, some (.assign (.const (.bool false))), none⟩])
  (.seq (.seq (.reg [] [⟨some 22, some (.call ⟨(.value (.func f_plaitlaw3_known)), #[], #[]⟩), none⟩,
    ⟨some 23, some (.unOp .not T_bool (.tmp 22)), none⟩])
  (.cond (.tmp 23) (.seq (.reg [] [⟨some 4, some (.assign (.const (.bool false))), none⟩])
  .ret)
  .skip))
  (.seq (.seq (.reg [] [⟨some 24, some (.move (.tmp 1)), none⟩,
    ⟨some 25, some (.call ⟨(.value (.func f_plaitlaw3_light)), #[(.tmp 24)], #[T_s_api_Node]⟩), none⟩,
    ⟨some 26, some (.unOp .not T_bool (.tmp 25)), none⟩])
  (.cond (.tmp 26) (.seq (.reg [] [⟨some 4, some (.assign (.const (.bool true))), none⟩])
  .ret)
  .skip))
  (.seq (.reg [] [⟨some 27, some (.move (.tmp 0)), none⟩,
    ⟨some 28, some (.call ⟨(.value (.func f_term_New)), #[(.tmp 27)], #[T_int]⟩), none⟩,
    ⟨some 5, some (.assign (.tmp 28)), none⟩])
  (.seq (.reg [] [⟨some 29, some (.move (.tmp 1)), none⟩,
    ⟨some 30, some (.call ⟨(.builtin .len), #[(.tmp 29)], #[T_s_api_Node]⟩), none⟩,
    ⟨some 31, some (.makeSlice T_s_int (.tmp 30) (.tmp 30)), none⟩,
    ⟨some 6, some (.assign (.tmp 31)), none⟩])
  (.seq (.seq (.reg [] [⟨some 7, some (.assign (.const (.int .i64 0))), none⟩])
  (.block 0 (.loop l_plaitlaw3_TermOnce_0)))
  (.seq (.seq (.reg [] [⟨some 11, some (.assign (.const (.int .i64 0))), none⟩])
  (.block 2 (.loop l_plaitlaw3_TermOnce_1)))
  (.seq (.seq (.reg [] [⟨some 16, some (.assign (.const (.int .i64 1))), none⟩])
  (.block 4 (.loop l_plaitlaw3_TermOnce_2)))
  (.seq (.reg [] [⟨some 159, some (.move (.tmp 5)), none⟩,
    ⟨some 160, some (.call ⟨(.value (.func f_plait_term_Graph_Len)), #[(.tmp 159)], #[T_p_term_Graph]⟩), none⟩,
    ⟨some 161, some (.move (.tmp 0)), none⟩,
    ⟨some 162, some (.call ⟨(.builtin .max), #[(.tmp 161), (.const (.int .i64 1))], #[T_int, T_int]⟩), none⟩,
    ⟨some 163, some (.binOp .leq T_int (.tmp 160) (.tmp 162) T_int), none⟩,
    ⟨some 4, some (.assign (.tmp 163)), none⟩])
  .ret)))))))))
theorem e_plaitlaw3_TermOnce {a0 a1 : AV} {H : AHeap} : R f_plaitlaw3_TermOnce [a0, a1] H = fnK Go.Proofs.Try.prog [] H [(.tmp 4)] (evalL Go.Proofs.Try.prog KT R c_plaitlaw3_TermOnce (Env.args [a0, a1] 0) H) :=
  runs_body (D := DT) (f := f_plaitlaw3_TermOnce) Go.Proofs.Try.func11 (by kernel_rfl) (by kernel_rfl) (by kernel_rfl) (by kernel_rfl) (by kernel_rfl) (Nat.le_of_ble_eq_true rfl)

def l_plaitlaw3_TermCones_0 : LCode := (.seq (.seq (.reg [] [⟨some 26, some (.move (.tmp 4)), none⟩,
    ⟨some 27, some (.move (.tmp 0)), none⟩,
    ⟨some 28, some (.call ⟨(.builtin .len), #[(.tmp 27)], #[T_s_api_Node]⟩), none⟩,
    ⟨some 29, some (.binOp .lss T_int (.tmp 26) (.tmp 28) T_int), none⟩])
  (.cond (.tmp 29) .skip
  (.exit 0)))
  (.seq (.block 1 (.reg [] [⟨some 32, some (.move (.tmp 3)), none⟩,
    ⟨some 33, some (.move (.tmp 0)), none⟩,
    ⟨some 34, some (.move (.tmp 4)), none⟩,
    ⟨some 35, some (.indexAddr T_s_api_Node (.tmp 33) (.tmp 34)), none⟩,
    ⟨some 36, some (.load T_api_Node (.tmp 35)), none⟩,
    ⟨some 37, some (.call ⟨(.value (.func f_plait_term_Graph_Make)), #[(.tmp 32), (.tmp 36)], #[T_p_term_Graph, T_api_Node]⟩), none⟩]))
  (.reg [] [⟨some 30, some (.move (.tmp 4)), none⟩,
    ⟨some 31, some (.binOp .add T_int (.tmp 30) (.const (.int .i64 1)) T_int), none⟩,
    ⟨some 4, some (.assign (.tmp 31)), none⟩])))
def l_plaitlaw3_TermCones_3 : LCode := (.seq (.seq (.reg [] [⟨some 71, some (.move (.tmp 12)), none⟩,
    ⟨some 72, some (.move (.tmp 11)), none⟩,
    ⟨some 73, some (.call ⟨(.builtin .len), #[(.tmp 72)], #[T_s_int]⟩), none⟩,
    ⟨some 74, some (.binOp .lss T_int (.tmp 71) (.tmp 73) T_int), none⟩])
  (.cond (.tmp 74) .skip
  (.exit 6)))
  (.seq (.block 7 (.reg [] [⟨some 77, some (.move (.tmp 8)), none⟩,
    ⟨some 78, some (.move (.tmp 11)), none⟩,
    ⟨some 79, some (.move (.tmp 12)), none⟩,
    ⟨some 80, some (.indexAddr T_s_int (.tmp 78) (.tmp 79)), none⟩,
    ⟨some 81, some (.load T_int (.tmp 80)), none⟩,
    ⟨some 82, some (.indexAddr T_s_bool (.tmp 77) (.tmp 81)), none⟩,
    ⟨none, some (.store T_bool (.tmp 82) (.const (.bool true))), none⟩]))
  (.reg [] [⟨some 75, some (.move (.tmp 12)), none⟩,
    ⟨some 76, some (.binOp .add T_int (.tmp 75) (.const (.int .i64 1)) T_int), none⟩,
    ⟨some 12, some (.assign (.tmp 76)), none⟩])))
def l_plaitlaw3_TermCones_2 : LCode := (.seq (.seq (.reg [] [⟨some 61, some (.move (.tmp 10)), none⟩,
    ⟨some 62, some (.binOp .lss T_int (.tmp 61) (.const (.int .i64 3)) T_int), none⟩])
  (.cond (.tmp 62) .skip
  (.exit 4)))
  (.seq (.block 5 (.seq (.reg [] [⟨some 65, some (.move (.tmp 3)), none⟩,
    ⟨some 66, some (.move (.tmp 9)), none⟩,
    ⟨some 67, some (.move (.tmp 10)), none⟩,
    ⟨some 68, some (.indexAddr T_s_int (.tmp 66) (.tmp 67)), none⟩,
    ⟨some 69, some (.load T_int (.tmp 68)), none⟩,
    ⟨some 70, some (.call ⟨(.value (.func f_plait_term_Graph_Cone)), #[(.tmp 65), (.tmp 69)], #[T_p_term_Graph, T_int]⟩), none⟩,
    ⟨some 11, some (.assign (.tmp 70)), none⟩])
  (.seq (.reg [] [⟨some 12, some (.assign (.const (.int .i64 0))), none⟩])
  (.block 6 (.loop l_plaitlaw3_TermCones_3)))))
  (.reg [] [⟨some 63, some (.move (.tmp 10)), none⟩,
    ⟨some 64, some (.binOp .add T_int (.tmp 63) (.const (.int .i64 1)) T_int), none⟩,
    ⟨some 10, some (.assign (.tmp 64)), none⟩])))
def l_plaitlaw3_TermCones_4 : LCode := (.seq (.seq (.reg [] [⟨some 86, some (.move (.tmp 14)), none⟩,
    ⟨some 87, some (.move (.tmp 3)), none⟩,
    ⟨some 88, some (.call ⟨(.value (.func f_plait_term_Graph_Len)), #[(.tmp 87)], #[T_p_term_Graph]⟩), none⟩,
    ⟨some 89, some (.binOp .leq T_int (.tmp 86) (.tmp 88) T_int), none⟩])
  (.cond (.tmp 89) .skip
  (.exit 8)))
  (.seq (.block 9 (.seq (.reg [] [⟨some 92, some (.move (.tmp 8)), none⟩,
    ⟨some 93, some (.move (.tmp 14)), none⟩,
    ⟨some 94, some (.indexAddr T_s_bool (.tmp 92) (.tmp 93)), none⟩,
    ⟨some 95, some (.load T_bool (.tmp 94)), none⟩])
  (.cond (.tmp 95) (.reg [] [⟨some 96, some (.move (.tmp 13)), none⟩,
    ⟨some 97, some (.move (.tmp 14)), none⟩,
    ⟨some 98, some (.buildSlice T_s_int 1 #[(0, (.tmp 97))]), none⟩,
    ⟨some 99, some (.call ⟨(.builtin .append), #[(.tmp 96), (.tmp 98)], #[T_s_int, T_s_int]⟩), none⟩,
    ⟨some 13, some (.assign (.tmp 99)), none⟩])
  .skip)))
  (.reg [] [⟨some 90, some (.move (.tmp 14)), none⟩,
    ⟨some 91, some (.binOp .add T_int (.tmp 90) (.const (.int .i64 1)) T_int), none⟩,
    ⟨some 14, some (.assign (.tmp 91)), none⟩])))
def l_plaitlaw3_TermCones_1 : LCode := (.seq (.seq (.reg [] [⟨some 38, some (.move (.tmp 5)), none⟩,
    ⟨some 39, some (.move (.tmp 3)), none⟩,
    ⟨some 40, some (.call ⟨(.value (.func f_plait_term_Graph_Len)), #[(.tmp 39)], #[T_p_term_Graph]⟩), none⟩,
    ⟨some 41, some (.binOp .leq T_int (.tmp 38) (.tmp 40) T_int), none⟩])
  (.cond (.tmp 41) .skip
  (.exit 2)))
  (.seq (.block 3 (.seq (.reg [] [⟨some 45, some (.move (.tmp 3)), none⟩,
    ⟨some 46, some (.move (.tmp 5)), none⟩,
    ⟨some 47, some (.call ⟨(.value (.func f_plait_term_Graph_Node)), #[(.tmp 45), (.tmp 46)], #[T_p_term_Graph, T_int]⟩), none⟩,
    ⟨some 44, some (.move (.tmp 47)), none⟩,
    ⟨some 48, some (.extract (.tmp 44) 0), none⟩,
    ⟨some 49, some (.extract (.tmp 44) 1), none⟩,
    ⟨some 6, some (.alloc T_api_Node), none⟩,
    ⟨none, some (.store T_api_Node (.tmp 6) (.tmp 48)), none⟩,
    ⟨some 7, some (.assign (.tmp 49)), none⟩])
  (.seq (.reg [] [⟨some 50, some (.move (.tmp 3)), none⟩,
    ⟨some 51, some (.call ⟨(.value (.func f_plait_term_Graph_Len)), #[(.tmp 50)], #[T_p_term_Graph]⟩), none⟩,
    ⟨some 52, some (.binOp .add T_int (.tmp 51) (.const (.int .i64 1)) T_int), none⟩,
    ⟨some 53, some (.makeSlice T_s_bool (.tmp 52) (.tmp 52)), none⟩,
    ⟨some 8, some (.assign (.tmp 53)), none⟩])
  (.seq (.reg [] [⟨some 54, some (.fieldAddr T_api_Node (.tmp 6) 2), none⟩,
    ⟨some 55, some (.load T_int (.tmp 54)), none⟩,
    ⟨some 56, some (.fieldAddr T_api_Node (.tmp 6) 3), none⟩,
    ⟨some 57, some (.load T_int (.tmp 56)), none⟩,
    ⟨some 58, some (.fieldAddr T_api_Node (.tmp 6) 4), none⟩,
    ⟨some 59, some (.load T_int (.tmp 58)), none⟩,
    ⟨some 60, some (.buildSlice T_s_int 3 #[(0, (.tmp 55)), (1, (.tmp 57)), (2, (.tmp 59))]), none⟩,
    ⟨some 9, some (.assign (.tmp 60)), none⟩])
  (.seq (.seq (.reg [] [⟨some 10, some (.assign (.const (.int .i64 0))), none⟩])
  (.block 4 (.loop l_plaitlaw3_TermCones_2)))
  (.seq (.reg [] [⟨some 83, some (.move (.tmp 8)), none⟩,
    ⟨some 84, some (.move (.tmp 5)), none⟩,
    ⟨some 85, some (.indexAddr T_s_bool (.tmp 83) (.tmp 84)), none⟩,
    ⟨none, some (.store T_bool (.tmp 85) (.const (.bool true))), none⟩])
  (.seq (.reg [] [⟨some 13, some (.assign (.const (.slice none 0 0))), none⟩])
  (.seq (.seq (.reg [] [⟨some 14, some (.assign (.const (.int .i64 1))), none⟩])
  (.block 8 (.loop l_plaitlaw3_TermCones_4)))
  (.seq (.reg [] [⟨some 100, some (.move (.tmp 3)), none⟩,
    ⟨some 101, some (.move (.tmp 5)), none⟩,
    ⟨some 102, some (.call ⟨(.value (.func f_plait_term_Graph_Cone)), #[(.tmp 100), (.tmp 101)], #[T_p_term_Graph, T_int]⟩), none⟩,
    ⟨some 103, some (.move (.tmp 13)), none⟩,
    ⟨some 104, some (.call ⟨(.value (.func f_plaithelp_Ints)), #[(.tmp 102), (.tmp 103)], #[T_s_int, T_s_int]⟩), none⟩,
    ⟨some 105, some (.unOp .not T_bool (.tmp 104)), none⟩])
  (.cond (.tmp 105) (.seq (.reg [] [⟨some 2, some (.assign (.const (.bool false))), none⟩])
  .ret)
  .skip))))))))))
  (.reg [] [⟨some 42, some (.move (.tmp 5)), none⟩,
    ⟨some 43, some (.binOp .add T_int (.tmp 42) (.const (.int .i64 1)) T_int), none⟩,
    ⟨some 5, some (.assign (.tmp 43)), none⟩])))
@[simp] theorem d_l_plaitlaw3_TermCones_0 : defs l_plaitlaw3_TermCones_0 = [26, 27, 28, 29, 32, 33, 34, 35, 36, 37, 30, 31, 4] := by rfl
@[simp] theorem d_l_plaitlaw3_TermCones_3 : defs l_plaitlaw3_TermCones_3 = [71, 72, 73, 74, 77, 78, 79, 80, 81, 82, 75, 76, 12] := by rfl
@[simp] theorem d_l_plaitlaw3_TermCones_2 : defs l_plaitlaw3_TermCones_2 = [61, 62, 65, 66, 67, 68, 69, 70, 11, 12, 71, 72, 73, 74, 77, 78, 79, 80, 81, 82, 75, 76, 12, 63, 64, 10] := by rfl
@[simp] theorem d_l_plaitlaw3_TermCones_4 : defs l_plaitlaw3_TermCones_4 = [86, 87, 88, 89, 92, 93, 94, 95, 96, 97, 98, 99, 13, 90, 91, 14] := by rfl
@[simp] theorem d_l_plaitlaw3_TermCones_1 : defs l_plaitlaw3_TermCones_1 = [38, 39, 40, 41, 45, 46, 47, 44, 48, 49, 6, 7, 50, 51, 52, 53, 8, 54, 55, 56, 57, 58, 59, 60, 9, 10, 61, 62, 65, 66, 67, 68, 69, 70, 11, 12, 71, 72, 73, 74, 77, 78, 79, 80, 81, 82, 75, 76, 12, 63, 64, 10, 83, 84, 85, 13, 14, 86, 87, 88, 89, 92, 93, 94, 95, 96, 97, 98, 99, 13, 90, 91, 14, 100, 101, 102, 103, 104, 105, 2, 42, 43, 5] := by rfl
def c_plaitlaw3_TermCones : LCode := (.seq (.reg [] [⟨some 2, some (.assign (.const (.bool false))), none⟩])
  (.seq (.seq (.reg [] [⟨some 15, some (.call ⟨(.value (.func f_plaitlaw3_known)), #[], #[]⟩), none⟩,
    ⟨some 16, some (.unOp .not T_bool (.tmp 15)), none⟩])
  (.cond (.tmp 16) (.seq (.reg [] [⟨some 2, some (.assign (.const (.bool false))), none⟩])
  .ret)
  .skip))
  (.seq (.seq (.reg [] [⟨some 17, some (.move (.tmp 0)), none⟩,
    ⟨some 18, some (.call ⟨(.value (.func f_plaitlaw3_light)), #[(.tmp 17)], #[T_s_api_Node]⟩), none⟩,
    ⟨some 19, some (.unOp .not T_bool (.tmp 18)), none⟩,
    ⟨some 20, some (.move (.tmp 19)), none⟩,
    ⟨some 21, some (.move (.tmp 0)), some (some 20, false)⟩,
    ⟨some 22, some (.call ⟨(.builtin .len), #[(.tmp 21)], #[T_s_api_Node]⟩), some (some 20, false)⟩,
    ⟨some 23, some (.binOp .gtr T_int (.tmp 22) (.const (.int .i64 80)) T_int), some (some 20, false)⟩,
    ⟨some 24, some (.pick (.tmp 20) (.const (.bool true)) (.tmp 23)), none⟩])
  (.cond (.tmp 24) (.seq (.reg [] [⟨some 2, some (.assign (.const (.bool true))), none⟩])
  .ret)
  .skip))
  (.seq (.reg [] [⟨some 25, some (.call ⟨(.value (.func f_term_New)), #[(.const (.int .i64 4096))], #[T_int]⟩), none⟩,
    ⟨some 3, some (.assign (.tmp 25)), none⟩])
  (.seq (.seq (.reg [] [⟨some 4, some (.assign (.const (.int .i64 0))), none⟩])
  (.block 0 (.loop l_plaitlaw3_TermCones_0)))
  (.seq (.seq (.reg [] [⟨some 5, some (.assign (.const (.int .i64 1))), none⟩])
  (.block 2 (.loop l_plaitlaw3_TermCones_1)))
  (.seq (.reg [] [⟨some 106, some (.move (.tmp 3)), none⟩,
    ⟨some 107, some (.call ⟨(.value (.func f_plait_term_Graph_Cone)), #[(.tmp 106), (.const (.int .i64 0))], #[T_p_term_Graph, T_int]⟩), none⟩,
    ⟨some 108, some (.call ⟨(.builtin .len), #[(.tmp 107)], #[T_s_int]⟩), none⟩,
    ⟨some 109, some (.binOp .eql T_int (.tmp 108) (.const (.int .i64 0)) T_int), none⟩,
    ⟨some 110, some (.move (.tmp 109)), none⟩,
    ⟨some 111, some (.move (.tmp 3)), some (some 110, true)⟩,
    ⟨some 112, some (.move (.tmp 3)), some (some 110, true)⟩,
    ⟨some 113, some (.call ⟨(.value (.func f_plait_term_Graph_Len)), #[(.tmp 112)], #[T_p_term_Graph]⟩), some (some 110, true)⟩,
    ⟨some 114, some (.binOp .add T_int (.tmp 113) (.const (.int .i64 1)) T_int), some (some 110, true)⟩,
    ⟨some 115, some (.call ⟨(.value (.func f_plait_term_Graph_Cone)), #[(.tmp 111), (.tmp 114)], #[T_p_term_Graph, T_int]⟩), some (some 110, true)⟩,
    ⟨some 116, some (.call ⟨(.builtin .len), #[(.tmp 115)], #[T_s_int]⟩), some (some 110, true)⟩,
    ⟨some 117, some (.binOp .eql T_int (.tmp 116) (.const (.int .i64 0)) T_int), some (some 110, true)⟩,
    ⟨some 118, some (.pick (.tmp 110) (.tmp 117) (.const (.bool false))), none⟩,
    ⟨some 2, some (.assign (.tmp 118)), none⟩])
  .ret)))))))
theorem e_plaitlaw3_TermCones {a0 : AV} {H : AHeap} : R f_plaitlaw3_TermCones [a0] H = fnK Go.Proofs.Try.prog [] H [(.tmp 2)] (evalL Go.Proofs.Try.prog KT R c_plaitlaw3_TermCones (Env.args [a0] 0) H) :=
  runs_body (D := DT) (f := f_plaitlaw3_TermCones) Go.Proofs.Try.func12 (by kernel_rfl) (by kernel_rfl) (by kernel_rfl) (by kernel_rfl) (by kernel_rfl) (Nat.le_of_ble_eq_true rfl)

def l_plaitlaw3_TermRoom_0 : LCode := (.seq (.seq (.reg [] [⟨some 21, some (.move (.tmp 7)), none⟩,
    ⟨some 22, some (.move (.tmp 1)), none⟩,
    ⟨some 23, some (.binOp .lss T_int (.tmp 21) (.tmp 22) T_int), none⟩])
  (.cond (.tmp 23) .skip
  (.exit 0)))
  (.seq (.block 1 (.seq (.reg [] [⟨some 27, some (.move (.tmp 5)), none⟩,
    ⟨some 28, some (.move (.tmp 7)), none⟩,
    ⟨some 29, some (.convert T_int T_uint64 (.tmp 28)), none⟩,
    ⟨some 30, some (.build T_api_Bits #[(0, (.const (.int .i64 64))), (1, (.tmp 29))]), none⟩,
    ⟨some 31, some (.build T_api_Node #[(0, (.const (.int .i64 1))), (1, (.const (.int .i64 64))), (7, (.tmp 30))]), none⟩,
    ⟨some 32, some (.call ⟨(.value (.func f_plait_term_Graph_Make)), #[(.tmp 27), (.tmp 31)], #[T_p_term_Graph, T_api_Node]⟩), none⟩,
    ⟨some 26, some (.move (.tmp 32)), none⟩,
    ⟨some 33, some (.extract (.tmp 26) 0), none⟩,
    ⟨some 34, some (.extract (.tmp 26) 1), none⟩,
    ⟨some 8, some (.assign (.tmp 33)), none⟩,
    ⟨some 9, some (.assign (.tmp 34)), none⟩])
  (.seq (.reg [] [⟨some 35, some (.move (.tmp 7)), none⟩,
    ⟨some 36, some (.move (.tmp 6)), none⟩,
    ⟨some 37, some (.binOp .lss T_int (.tmp 35) (.tmp 36) T_int), none⟩,
    ⟨some 38, some (.move (.tmp 37)), none⟩,
    ⟨some 39, some (.move (.tmp 9)), some (some 38, true)⟩,
    ⟨some 40, some (.binOp .neq T_int (.tmp 39) (.const (.int .i64 0)) T_int), some (some 38, true)⟩,
    ⟨some 41, some (.move (.tmp 40)), some (some 38, true)⟩,
    ⟨some 42, some (.move (.tmp 8)), some (some 41, false)⟩,
    ⟨some 43, some (.move (.tmp 7)), some (some 41, false)⟩,
    ⟨some 44, some (.binOp .add T_int (.tmp 43) (.const (.int .i64 1)) T_int), some (some 41, false)⟩,
    ⟨some 45, some (.binOp .neq T_int (.tmp 42) (.tmp 44) T_int), some (some 41, false)⟩,
    ⟨some 46, some (.pick (.tmp 41) (.const (.bool true)) (.tmp 45)), some (some 38, true)⟩,
    ⟨some 47, some (.pick (.tmp 38) (.tmp 46) (.const (.bool false))), none⟩,
    ⟨some 48, some (.move (.tmp 47)), none⟩,
    ⟨some 49, some (.move (.tmp 7)), some (some 48, false)⟩,
    ⟨some 50, some (.move (.tmp 6)), some (some 48, false)⟩,
    ⟨some 51, some (.binOp .geq T_int (.tmp 49) (.tmp 50) T_int), some (some 48, false)⟩,
    ⟨some 52, some (.move (.tmp 51)), some (some 48, false)⟩,
    ⟨some 53, some (.move (.tmp 9)), some (some 52, true)⟩,
    ⟨some 54, some (.binOp .neq T_int (.tmp 53) (.const (.int .i64 33)) T_int), some (some 52, true)⟩,
    ⟨some 55, some (.move (.tmp 54)), some (some 52, true)⟩,
    ⟨some 56, some (.move (.tmp 8)), some (some 55, false)⟩,
    ⟨some 57, some (.binOp .neq T_int (.tmp 56) (.const (.int .i64 0)) T_int), some (some 55, false)⟩,
    ⟨some 58, some (.pick (.tmp 55) (.const (.bool true)) (.tmp 57)), some (some 52, true)⟩,
    ⟨some 59, some (.pick (.tmp 52) (.tmp 58) (.const (.bool false))), some (some 48, false)⟩,
    ⟨some 60, some (.pick (.tmp 48) (.const (.bool true)) (.tmp 59)), none⟩])
  (.cond (.tmp 60) (.seq (.reg [] [⟨some 4, some (.assign (.const (.bool false))), none⟩])
  .ret)
  .skip))))
  (.reg [] [⟨some 24, some (.move (.tmp 7)), none⟩,
    ⟨some 25, some (.binOp .add T_int (.tmp 24) (.const (.int .i64 1)) T_int), none⟩,
    ⟨some 7, some (.assign (.tmp 25)), none⟩])))
@[simp] theorem d_l_plaitlaw3_TermRoom_0 : defs l_plaitlaw3_TermRoom_0 = [21, 22, 23, 27, 28, 29, 30, 31, 32, 26, 33, 34, 8, 9, 35, 36, 37, 38, 39, 40, 41, 42, 43, 44, 45, 46, 47, 48, 49, 50, 51, 52, 53, 54, 55, 56, 57, 58, 59, 60, 4, 24, 25, 7] := by rfl
def c_plaitlaw3_TermRoom : LCode := (.seq (.reg [] [⟨some 4, some (.assign (.const (.bool false))), none⟩])
  (.seq (.seq (.reg [] [⟨some 12, some (.call ⟨(.value (.func f_plaitlaw3_known)), #[], #[]⟩), none⟩,
    ⟨some 13, some (.unOp .not T_bool (.tmp 12)), none⟩])
  (.cond (.tmp 13) (.seq (.reg [] [⟨some 4, some (.assign (.const (.bool false))), none⟩])
  .ret)
  .skip))
  (.seq (.reg [] [⟨some 14, some (.move (.tmp 1)), none⟩,
    ⟨some 15, some (.call ⟨(.value (.func f_plaithelp_Place)), #[(.tmp 14), (.const (.int .i64 300))], #[T_int, T_int]⟩), none⟩,
    ⟨some 1, some (.assign (.tmp 15)), none⟩])
  (.seq (.reg [] [⟨some 16, some (.move (.tmp 0)), none⟩,
    ⟨some 17, some (.call ⟨(.value (.func f_term_New)), #[(.tmp 16)], #[T_int]⟩), none⟩,
    ⟨some 5, some (.assign (.tmp 17)), none⟩])
  (.seq (.reg [] [⟨some 18, some (.move (.tmp 0)), none⟩,
    ⟨some 19, some (.call ⟨(.builtin .max), #[(.tmp 18), (.const (.int .i64 1))], #[T_int, T_int]⟩), none⟩,
    ⟨some 20, some (.call ⟨(.builtin .min), #[(.tmp 19), (.const (.int .i64 4096))], #[T_int, T_int]⟩), none⟩,
    ⟨some 6, some (.assign (.tmp 20)), none⟩])
  (.seq (.seq (.reg [] [⟨some 7, some (.assign (.const (.int .i64 0))), none⟩])
  (.block 0 (.loop l_plaitlaw3_TermRoom_0)))
  (.seq (.seq (.reg [] [⟨some 61, some (.move (.tmp 5)), none⟩,
    ⟨some 62, some (.call ⟨(.value (.func f_plait_term_Graph_Len)), #[(.tmp 61)], #[T_p_term_Graph]⟩), none⟩,
    ⟨some 63, some (.move (.tmp 1)), none⟩,
    ⟨some 64, some (.move (.tmp 6)), none⟩,
    ⟨some 65, some (.call ⟨(.builtin .min), #[(.tmp 63), (.tmp 64)], #[T_int, T_int]⟩), none⟩,
    ⟨some 66, some (.binOp .neq T_int (.tmp 62) (.tmp 65) T_int), none⟩])
  (.cond (.tmp 66) (.seq (.reg [] [⟨some 4, some (.assign (.const (.bool false))), none⟩])
  .ret)
  .skip))
  (.seq (.reg [] [⟨some 68, some (.move (.tmp 5)), none⟩,
    ⟨some 69, some (.build T_api_Bits #[(0, (.const (.int .i64 64)))]), none⟩,
    ⟨some 70, some (.build T_api_Node #[(0, (.const (.int .i64 1))), (1, (.const (.int .i64 64))), (7, (.tmp 69))]), none⟩,
    ⟨some 71, some (.call ⟨(.value (.func f_plait_term_Graph_Make)), #[(.tmp 68), (.tmp 70)], #[T_p_term_Graph, T_api_Node]⟩), none⟩,
    ⟨some 67, some (.move (.tmp 71)), none⟩,
    ⟨some 72, some (.extract (.tmp 67) 0), none⟩,
    ⟨some 73, some (.extract (.tmp 67) 1), none⟩,
    ⟨some 10, some (.assign (.tmp 72)), none⟩,
    ⟨some 11, some (.assign (.tmp 73)), none⟩])
  (.seq (.reg [] [⟨some 74, some (.move (.tmp 11)), none⟩,
    ⟨some 75, some (.binOp .eql T_int (.tmp 74) (.const (.int .i64 0)) T_int), none⟩,
    ⟨some 76, some (.move (.tmp 75)), none⟩,
    ⟨some 77, some (.move (.tmp 10)), some (some 76, true)⟩,
    ⟨some 78, some (.binOp .eql T_int (.tmp 77) (.const (.int .i64 1)) T_int), some (some 76, true)⟩,
    ⟨some 79, some (.pick (.tmp 76) (.tmp 78) (.const (.bool false))), none⟩,
    ⟨some 4, some (.assign (.tmp 79)), none⟩])
  .ret)))))))))
theorem e_plaitlaw3_TermRoom {a0 a1 : AV} {H : AHeap} : R f_plaitlaw3_TermRoom [a0, a1] H = fnK Go.Proofs.Try.prog [] H [(.tmp 4)] (evalL Go.Proofs.Try.prog KT R c_plaitlaw3_TermRoom (Env.args [a0, a1] 0) H) :=
  runs_body (D := DT) (f := f_plaitlaw3_TermRoom) Go.Proofs.Try.func13 (by kernel_rfl) (by kernel_rfl) (by kernel_rfl) (by kernel_rfl) (by kernel_rfl) (Nat.le_of_ble_eq_true rfl)

def c_plaitref3_Is : LCode := (.seq (.reg [] [⟨some 2, some (.assign (.const (.bool false))), none⟩])
  (.seq (.reg [] [⟨some 3, some (.move (.tmp 0)), none⟩,
    ⟨some 4, some (.binOp .geq T_int (.tmp 3) (.const (.int .i64 0)) T_int), none⟩,
    ⟨some 5, some (.move (.tmp 4)), none⟩,
    ⟨some 6, some (.move (.tmp 0)), some (some 5, true)⟩,
    ⟨some 7, some (.binOp .leq T_int (.tmp 6) (.const (.int .i64 128)) T_int), some (some 5, true)⟩,
    ⟨some 8, some (.pick (.tmp 5) (.tmp 7) (.const (.bool false))), none⟩,
    ⟨some 2, some (.assign (.tmp 8)), none⟩])
  .ret))
theorem e_plaitref3_Is {a0 : AV} {H : AHeap} : R f_plaitref3_Is [a0] H = fnK Go.Proofs.Try.prog [] H [(.tmp 2)] (evalL Go.Proofs.Try.prog KT R c_plaitref3_Is (Env.args [a0] 0) H) :=
  runs_body (D := DT) (f := f_plaitref3_Is) Go.Proofs.Try.func17 (by kernel_rfl) (by kernel_rfl) (by kernel_rfl) (by kernel_rfl) (by kernel_rfl) (Nat.le_of_ble_eq_true rfl)

def l_plaitref1_Word_0 : LCode := (.seq (.seq (.reg [] [⟨some 8, some (.move (.tmp 4)), none⟩,
    ⟨some 9, some (.move (.tmp 0)), none⟩,
    ⟨some 10, some (.call ⟨(.builtin .len), #[(.tmp 9)], #[T_s_bool]⟩), none⟩,
    ⟨some 11, some (.binOp .lss T_int (.tmp 8) (.tmp 10) T_int), none⟩])
  (.cond (.tmp 11) .skip
  (.exit 0)))
  (.seq (.block 1 (.seq (.seq (.reg [] [⟨some 14, some (.move (.tmp 0)), none⟩,
    ⟨some 15, some (.move (.tmp 4)), none⟩,
    ⟨some 16, some (.indexAddr T_s_bool (.tmp 14) (.tmp 15)), none⟩,
    ⟨some 17, some (.load T_bool (.tmp 16)), none⟩,
    ⟨some 18, some (.move (.tmp 17)), none⟩,
    ⟨some 19, some (.move (.tmp 4)), some (some 18, true)⟩,
    ⟨some 20, some (.binOp .lss T_int (.tmp 19) (.const (.int .i64 64)) T_int), some (some 18, true)⟩,
    ⟨some 21, some (.pick (.tmp 18) (.tmp 20) (.const (.bool false))), none⟩])
  (.cond (.tmp 21) (.reg [] [⟨some 22, some (.fieldAddr T_api_Bits (.tmp 3) 1), none⟩,
    ⟨some 23, some (.load T_uint64 (.tmp 22)), none⟩,
    ⟨some 24, some (.move (.tmp 4)), none⟩,
    ⟨some 25, some (.binOp .shl T_uint64 (.const (.int .u64 1)) (.tmp 24) T_int), none⟩,
    ⟨some 26, some (.binOp .or T_uint64 (.tmp 23) (.tmp 25) T_uint64), none⟩,
    ⟨some 27, some (.fieldAddr T_api_Bits (.tmp 3) 1), none⟩,
    ⟨none, some (.store T_uint64 (.tmp 27) (.tmp 26)), none⟩])
  .skip))
  (.seq (.reg [] [⟨some 28, some (.move (.tmp 0)), none⟩,
    ⟨some 29, some (.move (.tmp 4)), none⟩,
    ⟨some 30, some (.indexAddr T_s_bool (.tmp 28) (.tmp 29)), none⟩,
    ⟨some 31, some (.load T_bool (.tmp 30)), none⟩,
    ⟨some 32, some (.move (.tmp 31)), none⟩,
    ⟨some 33, some (.move (.tmp 4)), some (some 32, true)⟩,
    ⟨some 34, some (.binOp .geq T_int (.tmp 33) (.const (.int .i64 64)) T_int), some (some 32, true)⟩,
    ⟨some 35, some (.pick (.tmp 32) (.tmp 34) (.const (.bool false))), none⟩])
  (.cond (.tmp 35) (.reg [] [⟨some 36, some (.fieldAddr T_api_Bits (.tmp 3) 2), none⟩,
    ⟨some 37, some (.load T_uint64 (.tmp 36)), none⟩,
    ⟨some 38, some (.move (.tmp 4)), none⟩,
    ⟨some 39, some (.binOp .sub T_int (.tmp 38) (.const (.int .i64 64)) T_int), none⟩,
    ⟨some 40, some (.binOp .shl T_uint64 (.const (.int .u64 1)) (.tmp 39) T_int), none⟩,
    ⟨some 41, some (.binOp .or T_uint64 (.tmp 37) (.tmp 40) T_uint64), none⟩,
    ⟨some 42, some (.fieldAddr T_api_Bits (.tmp 3) 2), none⟩,
    ⟨none, some (.store T_uint64 (.tmp 42) (.tmp 41)), none⟩])
  .skip))))
  (.reg [] [⟨some 12, some (.move (.tmp 4)), none⟩,
    ⟨some 13, some (.binOp .add T_int (.tmp 12) (.const (.int .i64 1)) T_int), none⟩,
    ⟨some 4, some (.assign (.tmp 13)), none⟩])))
@[simp] theorem d_l_plaitref1_Word_0 : defs l_plaitref1_Word_0 = [8, 9, 10, 11, 14, 15, 16, 17, 18, 19, 20, 21, 22, 23, 24, 25, 26, 27, 28, 29, 30, 31, 32, 33, 34, 35, 36, 37, 38, 39, 40, 41, 42, 12, 13, 4] := by rfl
def c_plaitref1_Word : LCode := (.seq (.reg [] [⟨some 2, some (.alloc T_api_Bits), none⟩])
  (.seq (.reg [] [⟨some 5, some (.move (.tmp 0)), none⟩,
    ⟨some 6, some (.call ⟨(.builtin .len), #[(.tmp 5)], #[T_s_bool]⟩), none⟩,
    ⟨some 7, some (.build T_api_Bits #[(0, (.tmp 6))]), none⟩,
    ⟨some 3, some (.alloc T_api_Bits), none⟩,
    ⟨none, some (.store T_api_Bits (.tmp 3) (.tmp 7)), none⟩])
  (.seq (.seq (.reg [] [⟨some 4, some (.assign (.const (.int .i64 0))), none⟩])
  (.block 0 (.loop l_plaitref1_Word_0)))
  (.seq (.reg [] [⟨some 43, some (.load T_api_Bits (.tmp 3)), none⟩,
    ⟨none, some (.store T_api_Bits (.tmp 2) (.tmp 43)), none⟩])
  .ret))))
theorem e_plaitref1_Word {a0 : AV} {H : AHeap} : R f_plaitref1_Word [a0] H = fnK Go.Proofs.Try.prog [] H [(.cell 2 T_api_Bits)] (evalL Go.Proofs.Try.prog KT R c_plaitref1_Word (Env.args [a0] 0) H) :=
  runs_body (D := DT) (f := f_plaitref1_Word) Go.Proofs.Try.func19 (by kernel_rfl) (by kernel_rfl) (by kernel_rfl) (by kernel_rfl) (by kernel_rfl) (Nat.le_of_ble_eq_true rfl)

def c_plaitref1_Right : LCode := (.seq (.reg [] [⟨some 1, some (.box T_api_Bits (.tmp 0)), none⟩,
    ⟨some 2, some (.assign (.const (.bool false))), none⟩])
  (.seq (.seq (.reg [] [⟨some 3, some (.fieldAddr T_api_Bits (.tmp 1) 0), none⟩,
    ⟨some 4, some (.load T_int (.tmp 3)), none⟩,
    ⟨some 5, some (.binOp .lss T_int (.tmp 4) (.const (.int .i64 0)) T_int), none⟩,
    ⟨some 6, some (.move (.tmp 5)), none⟩,
    ⟨some 7, some (.fieldAddr T_api_Bits (.tmp 1) 0), some (some 6, false)⟩,
    ⟨some 8, some (.load T_int (.tmp 7)), some (some 6, false)⟩,
    ⟨some 9, some (.binOp .gtr T_int (.tmp 8) (.const (.int .i64 128)) T_int), some (some 6, false)⟩,
    ⟨some 10, some (.pick (.tmp 6) (.const (.bool true)) (.tmp 9)), none⟩])
  (.cond (.tmp 10) (.seq (.reg [] [⟨some 2, some (.assign (.const (.bool false))), none⟩])
  .ret)
  .skip))
  (.seq (.seq (.reg [] [⟨some 11, some (.fieldAddr T_api_Bits (.tmp 1) 0), none⟩,
    ⟨some 12, some (.load T_int (.tmp 11)), none⟩,
    ⟨some 13, some (.binOp .eql T_int (.tmp 12) (.const (.int .i64 0)) T_int), none⟩])
  (.cond (.tmp 13) (.seq (.reg [] [⟨some 14, some (.fieldAddr T_api_Bits (.tmp 1) 1), none⟩,
    ⟨some 15, some (.load T_uint64 (.tmp 14)), none⟩,
    ⟨some 16, some (.binOp .leq T_uint64 (.tmp 15) (.const (.int .u64 1)) T_uint64), none⟩,
    ⟨some 17, some (.move (.tmp 16)), none⟩,
    ⟨some 18, some (.fieldAddr T_api_Bits (.tmp 1) 2), some (some 17, true)⟩,
    ⟨some 19, some (.load T_uint64 (.tmp 18)), some (some 17, true)⟩,
    ⟨some 20, some (.binOp .eql T_uint64 (.tmp 19) (.const (.int .u64 0)) T_uint64), some (some 17, true)⟩,
    ⟨some 21, some (.pick (.tmp 17) (.tmp 20) (.const (.bool false))), none⟩,
    ⟨some 2, some (.assign (.tmp 21)), none⟩])
  .ret)
  .skip))
  (.seq (.reg [1, 2] [⟨some 22, some (.load T_api_Bits (.tmp 1)), none⟩,
    ⟨some 23, some (.call ⟨(.value (.func f_plaitref1_Bits)), #[(.tmp 22)], #[T_api_Bits]⟩), none⟩,
    ⟨some 24, some (.call ⟨(.value (.func f_plaitref1_Word)), #[(.tmp 23)], #[T_s_bool]⟩), none⟩,
    ⟨some 25, some (.load T_api_Bits (.tmp 1)), none⟩,
    ⟨some 26, some (.binOp .eql T_api_Bits (.tmp 24) (.tmp 25) T_api_Bits), none⟩,
    ⟨some 2, some (.assign (.tmp 26)), none⟩])
  .ret))))
theorem e_plaitref1_Right {a0 : AV} {H : AHeap} : R f_plaitref1_Right [a0] H = fnK Go.Proofs.Try.prog [] H [(.tmp 2)] (evalL Go.Proofs.Try.prog KT R c_plaitref1_Right (Env.args [a0] 0) H) :=
  runs_body (D := DT) (f := f_plaitref1_Right) Go.Proofs.Try.func22 (by kernel_rfl) (by kernel_rfl) (by kernel_rfl) (by kernel_rfl) (by kernel_rfl) (Nat.le_of_ble_eq_true rfl)

def l_plaithelp_Ints_0 : LCode := (.seq (.seq (.reg [] [⟨some 11, some (.move (.tmp 5)), none⟩,
    ⟨some 12, some (.move (.tmp 0)), none⟩,
    ⟨some 13, some (.call ⟨(.builtin .len), #[(.tmp 12)], #[T_s_int]⟩), none⟩,
    ⟨some 14, some (.binOp .lss T_int (.tmp 11) (.tmp 13) T_int), none⟩])
  (.cond (.tmp 14) .skip
  (.exit 0)))
  (.seq (.block 1 (.seq (.reg [] [⟨some 17, some (.move (.tmp 0)), none⟩,
    ⟨some 18, some (.move (.tmp 5)), none⟩,
    ⟨some 19, some (.indexAddr T_s_int (.tmp 17) (.tmp 18)), none⟩,
    ⟨some 20, some (.load T_int (.tmp 19)), none⟩,
    ⟨some 21, some (.move (.tmp 1)), none⟩,
    ⟨some 22, some (.move (.tmp 5)), none⟩,
    ⟨some 23, some (.indexAddr T_s_int (.tmp 21) (.tmp 22)), none⟩,
    ⟨some 24, some (.load T_int (.tmp 23)), none⟩,
    ⟨some 25, some (.binOp .neq T_int (.tmp 20) (.tmp 24) T_int), none⟩])
  (.cond (.tmp 25) (.seq (.reg [] [⟨some 4, some (.assign (.const (.bool false))), none⟩])
  .ret)
  .skip)))
  (.reg [] [⟨some 15, some (.move (.tmp 5)), none⟩,
    ⟨some 16, some (.binOp .add T_int (.tmp 15) (.const (.int .i64 1)) T_int), none⟩,
    ⟨some 5, some (.assign (.tmp 16)), none⟩])))
@[simp] theorem d_l_plaithelp_Ints_0 : defs l_plaithelp_Ints_0 = [11, 12, 13, 14, 17, 18, 19, 20, 21, 22, 23, 24, 25, 4, 15, 16, 5] := by rfl
def c_plaithelp_Ints : LCode := (.seq (.reg [] [⟨some 4, some (.assign (.const (.bool false))), none⟩])
  (.seq (.seq (.reg [] [⟨some 6, some (.move (.tmp 0)), none⟩,
    ⟨some 7, some (.call ⟨(.builtin .len), #[(.tmp 6)], #[T_s_int]⟩), none⟩,
    ⟨some 8, some (.move (.tmp 1)), none⟩,
    ⟨some 9, some (.call ⟨(.builtin .len), #[(.tmp 8)], #[T_s_int]⟩), none⟩,
    ⟨some 10, some (.binOp .neq T_int (.tmp 7) (.tmp 9) T_int), none⟩])
  (.cond (.tmp 10) (.seq (.reg [] [⟨some 4, some (.assign (.const (.bool false))), none⟩])
  .ret)
  .skip))
  (.seq (.seq (.reg [] [⟨some 5, some (.assign (.const (.int .i64 0))), none⟩])
  (.block 0 (.loop l_plaithelp_Ints_0)))
  (.seq (.reg [] [⟨some 4, some (.assign (.const (.bool true))), none⟩])
  .ret))))
theorem e_plaithelp_Ints {a0 a1 : AV} {H : AHeap} : R f_plaithelp_Ints [a0, a1] H = fnK Go.Proofs.Try.prog [] H [(.tmp 4)] (evalL Go.Proofs.Try.prog KT R c_plaithelp_Ints (Env.args [a0, a1] 0) H) :=
  runs_body (D := DT) (f := f_plaithelp_Ints) Go.Proofs.Try.func32 (by kernel_rfl) (by kernel_rfl) (by kernel_rfl) (by kernel_rfl) (by kernel_rfl) (Nat.le_of_ble_eq_true rfl)

def c_plaithelp_Place : LCode := (.seq (.reg [] [⟨some 4, some (.assign (.const (.int .i64 0))), none⟩])
  (.seq (.reg [] [⟨some 5, some (.move (.tmp 0)), none⟩,
    ⟨some 6, some (.move (.tmp 1)), none⟩,
    ⟨some 7, some (.binOp .rem T_int (.tmp 5) (.tmp 6) T_int), none⟩,
    ⟨some 0, some (.assign (.tmp 7)), none⟩])
  (.seq (.seq (.reg [] [⟨some 8, some (.move (.tmp 0)), none⟩,
    ⟨some 9, some (.binOp .lss T_int (.tmp 8) (.const (.int .i64 0)) T_int), none⟩])
  (.cond (.tmp 9) (.reg [] [⟨some 10, some (.move (.tmp 0)), none⟩,
    ⟨some 11, some (.move (.tmp 1)), none⟩,
    ⟨some 12, some (.binOp .add T_int (.tmp 10) (.tmp 11) T_int), none⟩,
    ⟨some 0, some (.assign (.tmp 12)), none⟩])
  .skip))
  (.seq (.reg [] [⟨some 13, some (.move (.tmp 0)), none⟩,
    ⟨some 4, some (.assign (.tmp 13)), none⟩])
  .ret))))
theorem e_plaithelp_Place {a0 a1 : AV} {H : AHeap} : R f_plaithelp_Place [a0, a1] H = fnK Go.Proofs.Try.prog [] H [(.tmp 4)] (evalL Go.Proofs.Try.prog KT R c_plaithelp_Place (Env.args [a0, a1] 0) H) :=
  runs_body (D := DT) (f := f_plaithelp_Place) Go.Proofs.Try.func39 (by kernel_rfl) (by kernel_rfl) (by kernel_rfl) (by kernel_rfl) (by kernel_rfl) (Nat.le_of_ble_eq_true rfl)

def c_plaitlaw3_known : LCode := (.seq (.reg [] [⟨some 0, some (.assign (.const (.bool false))), none⟩])
  (.seq (.reg [] [⟨some 20, some (.call ⟨(.value (.func f_term_New)), #[(.const (.int .i64 9))], #[T_int]⟩), none⟩,
    ⟨some 1, some (.assign (.tmp 20)), none⟩])
  (.seq (.seq (.reg [] [⟨some 21, some (.move (.tmp 1)), none⟩,
    ⟨some 22, some (.binOp .eql T_p_term_Graph (.tmp 21) (.const (.pointer none)) T_p_term_Graph), none⟩])
  (.cond (.tmp 22) (.seq (.reg [] [⟨some 0, some (.assign (.const (.bool false))), none⟩])
  .ret)
  .skip))
  (.seq (.reg [] [⟨some 24, some (.move (.tmp 1)), none⟩,
    ⟨some 25, some (.build T_api_Node #[(0, (.const (.int .i64 2))), (1, (.const (.int .i64 4))), (8, (.const (.string { data := #[120] })))]), none⟩,
    ⟨some 26, some (.call ⟨(.value (.func f_plait_term_Graph_Make)), #[(.tmp 24), (.tmp 25)], #[T_p_term_Graph, T_api_Node]⟩), none⟩,
    ⟨some 23, some (.move (.tmp 26)), none⟩,
    ⟨some 27, some (.extract (.tmp 23) 0), none⟩,
    ⟨some 28, some (.extract (.tmp 23) 1), none⟩,
    ⟨some 2, some (.assign (.tmp 27)), none⟩,
    ⟨some 3, some (.assign (.tmp 28)), none⟩])
  (.seq (.reg [] [⟨some 30, some (.move (.tmp 1)), none⟩,
    ⟨some 31, some (.build T_api_Node #[(0, (.const (.int .i64 18))), (2, (.const (.int .i64 1))), (3, (.const (.int .i64 1)))]), none⟩,
    ⟨some 32, some (.call ⟨(.value (.func f_plait_term_Graph_Make)), #[(.tmp 30), (.tmp 31)], #[T_p_term_Graph, T_api_Node]⟩), none⟩,
    ⟨some 29, some (.move (.tmp 32)), none⟩,
    ⟨some 33, some (.extract (.tmp 29) 0), none⟩,
    ⟨some 34, some (.extract (.tmp 29) 1), none⟩,
    ⟨some 4, some (.assign (.tmp 33)), none⟩,
    ⟨some 5, some (.assign (.tmp 34)), none⟩])
  (.seq (.reg [] [⟨some 36, some (.move (.tmp 1)), none⟩,
    ⟨some 37, some (.build T_api_Node #[(0, (.const (.int .i64 18))), (2, (.const (.int .i64 1))), (3, (.const (.int .i64 1)))]), none⟩,
    ⟨some 38, some (.call ⟨(.value (.func f_plait_term_Graph_Make)), #[(.tmp 36), (.tmp 37)], #[T_p_term_Graph, T_api_Node]⟩), none⟩,
    ⟨some 35, some (.move (.tmp 38)), none⟩,
    ⟨some 39, some (.extract (.tmp 35) 0), none⟩,
    ⟨some 40, some (.extract (.tmp 35) 1), none⟩,
    ⟨some 6, some (.assign (.tmp 39)), none⟩,
    ⟨some 7, some (.assign (.tmp 40)), none⟩])
  (.seq (.reg [] [⟨some 42, some (.move (.tmp 1)), none⟩,
    ⟨some 43, some (.build T_api_Node #[(0, (.const (.int .i64 38))), (2, (.const (.int .i64 2))), (3, (.const (.int .i64 2)))]), none⟩,
    ⟨some 44, some (.call ⟨(.value (.func f_plait_term_Graph_Make)), #[(.tmp 42), (.tmp 43)], #[T_p_term_Graph, T_api_Node]⟩), none⟩,
    ⟨some 41, some (.move (.tmp 44)), none⟩,
    ⟨some 45, some (.extract (.tmp 41) 0), none⟩,
    ⟨some 46, some (.extract (.tmp 41) 1), none⟩,
    ⟨some 8, some (.assign (.tmp 45)), none⟩,
    ⟨some 9, some (.assign (.tmp 46)), none⟩])
  (.seq (.reg [] [⟨some 48, some (.move (.tmp 1)), none⟩,
    ⟨some 49, some (.build T_api_Node #[(0, (.const (.int .i64 29))), (2, (.const (.int .i64 1))), (3, (.const (.int .i64 3)))]), none⟩,
    ⟨some 50, some (.call ⟨(.value (.func f_plait_term_Graph_Make)), #[(.tmp 48), (.tmp 49)], #[T_p_term_Graph, T_api_Node]⟩), none⟩,
    ⟨some 47, some (.move (.tmp 50)), none⟩,
    ⟨some 51, some (.extract (.tmp 47) 0), none⟩,
    ⟨some 52, some (.extract (.tmp 47) 1), none⟩,
    ⟨some 10, some (.assign (.tmp 51)), none⟩,
    ⟨some 11, some (.assign (.tmp 52)), none⟩])
  (.seq (.reg [] [⟨some 54, some (.move (.tmp 1)), none⟩,
    ⟨some 55, some (.build T_api_Node #[(0, (.const (.int .i64 44))), (2, (.const (.int .i64 1))), (5, (.const (.int .i64 33)))]), none⟩,
    ⟨some 56, some (.call ⟨(.value (.func f_plait_term_Graph_Make)), #[(.tmp 54), (.tmp 55)], #[T_p_term_Graph, T_api_Node]⟩), none⟩,
    ⟨some 53, some (.move (.tmp 56)), none⟩,
    ⟨some 57, some (.extract (.tmp 53) 0), none⟩,
    ⟨some 58, some (.extract (.tmp 53) 1), none⟩,
    ⟨some 12, some (.assign (.tmp 57)), none⟩,
    ⟨some 13, some (.assign (.tmp 58)), none⟩])
  (.seq (.reg [] [⟨some 60, some (.move (.tmp 1)), none⟩,
    ⟨some 61, some (.call ⟨(.value (.func f_plait_term_Graph_Node)), #[(.tmp 60), (.const (.int .i64 3))], #[T_p_term_Graph, T_int]⟩), none⟩,
    ⟨some 59, some (.move (.tmp 61)), none⟩,
    ⟨some 62, some (.extract (.tmp 59) 0), none⟩,
    ⟨some 63, some (.extract (.tmp 59) 1), none⟩,
    ⟨some 14, some (.alloc T_api_Node), none⟩,
    ⟨none, some (.store T_api_Node (.tmp 14) (.tmp 62)), none⟩,
    ⟨some 15, some (.assign (.tmp 63)), none⟩])
  (.seq (.reg [] [⟨some 65, some (.move (.tmp 1)), none⟩,
    ⟨some 66, some (.call ⟨(.value (.func f_plait_term_Graph_Var)), #[(.tmp 65), (.const (.string { data := #[120] }))], #[T_p_term_Graph, T_string]⟩), none⟩,
    ⟨some 64, some (.move (.tmp 66)), none⟩,
    ⟨some 67, some (.extract (.tmp 64) 0), none⟩,
    ⟨some 68, some (.extract (.tmp 64) 1), none⟩,
    ⟨some 16, some (.assign (.tmp 67)), none⟩,
    ⟨some 17, some (.assign (.tmp 68)), none⟩])
  (.seq (.reg [] [⟨some 70, some (.buildSlice T_s_int 1 #[(0, (.const (.int .i64 4)))]), none⟩,
    ⟨some 71, some (.call ⟨(.value (.func f_term_Sort)), #[(.const (.int .i64 39)), (.const (.int .i64 3)), (.const (.int .i64 1)), (.tmp 70)], #[T_int, T_int, T_int, T_s_int]⟩), none⟩,
    ⟨some 69, some (.move (.tmp 71)), none⟩,
    ⟨some 72, some (.extract (.tmp 69) 0), none⟩,
    ⟨some 73, some (.extract (.tmp 69) 1), none⟩,
    ⟨some 18, some (.assign (.tmp 72)), none⟩,
    ⟨some 19, some (.assign (.tmp 73)), none⟩])
  (.seq (.reg [] [⟨some 74, some (.move (.tmp 2)), none⟩,
    ⟨some 75, some (.binOp .eql T_int (.tmp 74) (.const (.int .i64 1)) T_int), none⟩,
    ⟨some 76, some (.move (.tmp 75)), none⟩,
    ⟨some 77, some (.move (.tmp 4)), some (some 76, true)⟩,
    ⟨some 78, some (.binOp .eql T_int (.tmp 77) (.const (.int .i64 2)) T_int), some (some 76, true)⟩,
    ⟨some 79, some (.pick (.tmp 76) (.tmp 78) (.const (.bool false))), none⟩,
    ⟨some 80, some (.move (.tmp 79)), none⟩,
    ⟨some 81, some (.move (.tmp 6)), some (some 80, true)⟩,
    ⟨some 82, some (.binOp .eql T_int (.tmp 81) (.const (.int .i64 2)) T_int), some (some 80, true)⟩,
    ⟨some 83, some (.pick (.tmp 80) (.tmp 82) (.const (.bool false))), none⟩,
    ⟨some 84, some (.move (.tmp 83)), none⟩,
    ⟨some 85, some (.move (.tmp 8)), some (some 84, true)⟩,
    ⟨some 86, some (.binOp .eql T_int (.tmp 85) (.const (.int .i64 3)) T_int), some (some 84, true)⟩,
    ⟨some 87, some (.pick (.tmp 84) (.tmp 86) (.const (.bool false))), none⟩,
    ⟨some 88, some (.move (.tmp 87)), none⟩,
    ⟨some 89, some (.move (.tmp 3)), some (some 88, true)⟩,
    ⟨some 90, some (.move (.tmp 5)), some (some 88, true)⟩,
    ⟨some 91, some (.binOp .add T_int (.tmp 89) (.tmp 90) T_int), some (some 88, true)⟩,
    ⟨some 92, some (.move (.tmp 7)), some (some 88, true)⟩,
    ⟨some 93, some (.binOp .add T_int (.tmp 91) (.tmp 92) T_int), some (some 88, true)⟩,
    ⟨some 94, some (.move (.tmp 9)), some (some 88, true)⟩,
    ⟨some 95, some (.binOp .add T_int (.tmp 93) (.tmp 94) T_int), some (some 88, true)⟩,
    ⟨some 96, some (.move (.tmp 19)), some (some 88, true)⟩,
    ⟨some 97, some (.binOp .add T_int (.tmp 95) (.tmp 96) T_int), some (some 88, true)⟩,
    ⟨some 98, some (.binOp .eql T_int (.tmp 97) (.const (.int .i64 0)) T_int), some (some 88, true)⟩,
    ⟨some 99, some (.pick (.tmp 88) (.tmp 98) (.const (.bool false))), none⟩,
    ⟨some 100, some (.move (.tmp 99)), none⟩,
    ⟨some 101, some (.move (.tmp 11)), some (some 100, true)⟩,
    ⟨some 102, some (.binOp .eql T_int (.tmp 101) (.const (.int .i64 30)) T_int), some (some 100, true)⟩,
    ⟨some 103, some (.pick (.tmp 100) (.tmp 102) (.const (.bool false))), none⟩,
    ⟨some 104, some (.move (.tmp 103)), none⟩,
    ⟨some 105, some (.move (.tmp 13)), some (some 104, true)⟩,
    ⟨some 106, some (.binOp .eql T_int (.tmp 105) (.const (.int .i64 31)) T_int), some (some 104, true)⟩,
    ⟨some 107, some (.pick (.tmp 104) (.tmp 106) (.const (.bool false))), none⟩,
    ⟨some 108, some (.move (.tmp 107)), none⟩,
    ⟨some 109, some (.move (.tmp 15)), some (some 108, true)⟩,
    ⟨some 110, some (.pick (.tmp 108) (.tmp 109) (.const (.bool false))), none⟩,
    ⟨some 111, some (.move (.tmp 110)), none⟩,
    ⟨some 112, some (.load T_api_Node (.tmp 14)), some (some 111, true)⟩,
    ⟨some 113, some (.build T_api_Node #[(0, (.const (.int .i64 38))), (1, (.const (.int .i64 8))), (2, (.const (.int .i64 2))), (3, (.const (.int .i64 2)))]), some (some 111, true)⟩,
    ⟨some 114, some (.binOp .eql T_api_Node (.tmp 112) (.tmp 113) T_api_Node), some (some 111, true)⟩,
    ⟨some 115, some (.pick (.tmp 111) (.tmp 114) (.const (.bool false))), none⟩,
    ⟨some 116, some (.move (.tmp 115)), none⟩,
    ⟨some 117, some (.move (.tmp 17)), some (some 116, true)⟩,
    ⟨some 118, some (.pick (.tmp 116) (.tmp 117) (.const (.bool false))), none⟩,
    ⟨some 119, some (.move (.tmp 118)), none⟩,
    ⟨some 120, some (.move (.tmp 16)), some (some 119, true)⟩,
    ⟨some 121, some (.binOp .eql T_int (.tmp 120) (.const (.int .i64 1)) T_int), some (some 119, true)⟩,
    ⟨some 122, some (.pick (.tmp 119) (.tmp 121) (.const (.bool false))), none⟩,
    ⟨some 123, some (.move (.tmp 122)), none⟩,
    ⟨some 124, some (.move (.tmp 18)), some (some 123, true)⟩,
    ⟨some 125, some (.binOp .eql T_int (.tmp 124) (.const (.int .i64 3)) T_int), some (some 123, true)⟩,
    ⟨some 126, some (.pick (.tmp 123) (.tmp 125) (.const (.bool false))), none⟩,
    ⟨some 127, some (.move (.tmp 126)), none⟩,
    ⟨some 128, some (.call ⟨(.value (.func f_term_Arity)), #[(.const (.int .i64 9))], #[T_int]⟩), some (some 127, true)⟩,
    ⟨some 129, some (.binOp .eql T_int (.tmp 128) (.const (.int .i64 3)) T_int), some (some 127, true)⟩,
    ⟨some 130, some (.pick (.tmp 127) (.tmp 129) (.const (.bool false))), none⟩,
    ⟨some 131, some (.move (.tmp 130)), none⟩,
    ⟨some 132, some (.move (.tmp 1)), some (some 131, true)⟩,
    ⟨some 133, some (.call ⟨(.value (.func f_plait_term_Graph_Cone)), #[(.tmp 132), (.const (.int .i64 3))], #[T_p_term_Graph, T_int]⟩), some (some 131, true)⟩,
    ⟨some 134, some (.buildSlice T_s_int 3 #[(0, (.const (.int .i64 1))), (1, (.const (.int .i64 2))), (2, (.const (.int .i64 3)))]), some (some 131, true)⟩,
    ⟨some 135, some (.call ⟨(.value (.func f_plaithelp_Ints)), #[(.tmp 133), (.tmp 134)], #[T_s_int, T_s_int]⟩), some (some 131, true)⟩,
    ⟨some 136, some (.pick (.tmp 131) (.tmp 135) (.const (.bool false))), none⟩,
    ⟨some 137, some (.move (.tmp 136)), none⟩,
    ⟨some 138, some (.move (.tmp 1)), some (some 137, true)⟩,
    ⟨some 139, some (.call ⟨(.value (.func f_plait_term_Graph_Len)), #[(.tmp 138)], #[T_p_term_Graph]⟩), some (some 137, true)⟩,
    ⟨some 140, some (.binOp .eql T_int (.tmp 139) (.const (.int .i64 3)) T_int), some (some 137, true)⟩,
    ⟨some 141, some (.pick (.tmp 137) (.tmp 140) (.const (.bool false))), none⟩,
    ⟨some 142, some (.move (.tmp 141)), none⟩,
    ⟨some 143, some (.move (.tmp 1)), some (some 142, true)⟩,
    ⟨some 144, some (.call ⟨(.value (.func f_plait_term_Graph_Vars)), #[(.tmp 143)], #[T_p_term_Graph]⟩), some (some 142, true)⟩,
    ⟨some 145, some (.buildSlice T_s_int 1 #[(0, (.const (.int .i64 1)))]), some (some 142, true)⟩,
    ⟨some 146, some (.call ⟨(.value (.func f_plaithelp_Ints)), #[(.tmp 144), (.tmp 145)], #[T_s_int, T_s_int]⟩), some (some 142, true)⟩,
    ⟨some 147, some (.pick (.tmp 142) (.tmp 146) (.const (.bool false))), none⟩,
    ⟨some 0, some (.assign (.tmp 147)), none⟩])
  .ret)))))))))))))
theorem e_plaitlaw3_known {H : AHeap} : R f_plaitlaw3_known [] H = fnK Go.Proofs.Try.prog [] H [(.tmp 0)] (evalL Go.Proofs.Try.prog KT R c_plaitlaw3_known (Env.args [] 0) H) :=
  runs_body (D := DT) (f := f_plaitlaw3_known) Go.Proofs.Try.func50 (by kernel_rfl) (by kernel_rfl) (by kernel_rfl) (by kernel_rfl) (by kernel_rfl) (Nat.le_of_ble_eq_true rfl)

def l_plaitlaw3_light_0 : LCode := (.seq (.seq (.reg [] [⟨some 4, some (.move (.tmp 3)), none⟩,
    ⟨some 5, some (.move (.tmp 0)), none⟩,
    ⟨some 6, some (.call ⟨(.builtin .len), #[(.tmp 5)], #[T_s_api_Node]⟩), none⟩,
    ⟨some 7, some (.binOp .lss T_int (.tmp 4) (.tmp 6) T_int), none⟩,
    ⟨some 8, some (.move (.tmp 7)), none⟩,
    ⟨some 9, some (.move (.tmp 3)), some (some 8, true)⟩,
    ⟨some 10, some (.binOp .leq T_int (.tmp 9) (.const (.int .i64 200)) T_int), some (some 8, true)⟩,
    ⟨some 11, some (.pick (.tmp 8) (.tmp 10) (.const (.bool false))), none⟩])
  (.cond (.tmp 11) .skip
  (.exit 0)))
  (.seq (.block 1 (.seq (.reg [] [⟨some 14, some (.move (.tmp 0)), none⟩,
    ⟨some 15, some (.move (.tmp 3)), none⟩,
    ⟨some 16, some (.indexAddr T_s_api_Node (.tmp 14) (.tmp 15)), none⟩,
    ⟨some 17, some (.fieldAddr T_api_Node (.tmp 16) 8), none⟩,
    ⟨some 18, some (.load T_string (.tmp 17)), none⟩,
    ⟨some 19, some (.call ⟨(.builtin .len), #[(.tmp 18)], #[T_string]⟩), none⟩,
    ⟨some 20, some (.binOp .gtr T_int (.tmp 19) (.const (.int .i64 100)) T_int), none⟩])
  (.cond (.tmp 20) (.seq (.reg [] [⟨some 2, some (.assign (.const (.bool false))), none⟩])
  .ret)
  .skip)))
  (.reg [] [⟨some 12, some (.move (.tmp 3)), none⟩,
    ⟨some 13, some (.binOp .add T_int (.tmp 12) (.const (.int .i64 1)) T_int), none⟩,
    ⟨some 3, some (.assign (.tmp 13)), none⟩])))
@[simp] theorem d_l_plaitlaw3_light_0 : defs l_plaitlaw3_light_0 = [4, 5, 6, 7, 8, 9, 10, 11, 14, 15, 16, 17, 18, 19, 20, 2, 12, 13, 3] := by rfl
def c_plaitlaw3_light : LCode := (.seq (.reg [] [⟨some 2, some (.assign (.const (.bool false))), none⟩])
  (.seq (.seq (.reg [] [⟨some 3, some (.assign (.const (.int .i64 0))), none⟩])
  (.block 0 (.loop l_plaitlaw3_light_0)))
  (.seq (.reg [] [⟨some 21, some (.move (.tmp 0)), none⟩,
    ⟨some 22, some (.call ⟨(.builtin .len), #[(.tmp 21)], #[T_s_api_Node]⟩), none⟩,
    ⟨some 23, some (.binOp .leq T_int (.tmp 22) (.const (.int .i64 200)) T_int), none⟩,
    ⟨some 2, some (.assign (.tmp 23)), none⟩])
  .ret)))
theorem e_plaitlaw3_light {a0 : AV} {H : AHeap} : R f_plaitlaw3_light [a0] H = fnK Go.Proofs.Try.prog [] H [(.tmp 2)] (evalL Go.Proofs.Try.prog KT R c_plaitlaw3_light (Env.args [a0] 0) H) :=
  runs_body (D := DT) (f := f_plaitlaw3_light) Go.Proofs.Try.func51 (by kernel_rfl) (by kernel_rfl) (by kernel_rfl) (by kernel_rfl) (by kernel_rfl) (Nat.le_of_ble_eq_true rfl)

def c_term_New : LCode := (.seq (.reg [] [⟨some 2, some (.assign (.const (.pointer none))), none⟩])
  (.seq (.reg [] [⟨some 3, some (.move (.tmp 0)), none⟩,
    ⟨some 4, some (.call ⟨(.builtin .max), #[(.tmp 3), (.const (.int .i64 1))], #[T_int, T_int]⟩), none⟩,
    ⟨some 5, some (.call ⟨(.builtin .min), #[(.tmp 4), (.const (.int .i64 4096))], #[T_int, T_int]⟩), none⟩,
    ⟨some 6, some (.makeMap T_m_api_Node_int none), none⟩,
    ⟨some 7, some (.makeMap T_m_string_int none), none⟩,
    ⟨some 8, some (.build T_term_Graph #[(0, (.tmp 5)), (2, (.tmp 6)), (3, (.tmp 7))]), none⟩,
    ⟨some 9, some (.box T_term_Graph (.tmp 8)), none⟩,
    ⟨some 2, some (.assign (.tmp 9)), none⟩])
  .ret))
theorem e_term_New {a0 : AV} {H : AHeap} : R f_term_New [a0] H = fnK Go.Proofs.Try.prog [] H [(.tmp 2)] (evalL Go.Proofs.Try.prog KT R c_term_New (Env.args [a0] 0) H) :=
  runs_body (D := DT) (f := f_term_New) Go.Proofs.Try.func52 (by kernel_rfl) (by kernel_rfl) (by kernel_rfl) (by kernel_rfl) (by kernel_rfl) (Nat.le_of_ble_eq_true rfl)

def c_plaitref3_New : LCode := (.seq (.reg [] [⟨some 2, some (.assign (.const (.pointer none))), none⟩])
  (.seq (.seq (.reg [] [⟨some 3, some (.move (.tmp 0)), none⟩,
    ⟨some 4, some (.binOp .lss T_int (.tmp 3) (.const (.int .i64 1)) T_int), none⟩])
  (.cond (.tmp 4) (.reg [] [⟨some 0, some (.assign (.const (.int .i64 1))), none⟩])
  .skip))
  (.seq (.reg [] [⟨some 5, some (.move (.tmp 0)), none⟩,
    ⟨some 6, some (.call ⟨(.builtin .min), #[(.tmp 5), (.const (.int .i64 4096))], #[T_int, T_int]⟩), none⟩,
    ⟨some 7, some (.build T_plaitref3_Graph #[(1, (.tmp 6))]), none⟩,
    ⟨some 8, some (.box T_plaitref3_Graph (.tmp 7)), none⟩,
    ⟨some 2, some (.assign (.tmp 8)), none⟩])
  .ret)))
theorem e_plaitref3_New {a0 : AV} {H : AHeap} : R f_plaitref3_New [a0] H = fnK Go.Proofs.Try.prog [] H [(.tmp 2)] (evalL Go.Proofs.Try.prog KT R c_plaitref3_New (Env.args [a0] 0) H) :=
  runs_body (D := DT) (f := f_plaitref3_New) Go.Proofs.Try.func53 (by kernel_rfl) (by kernel_rfl) (by kernel_rfl) (by kernel_rfl) (by kernel_rfl) (Nat.le_of_ble_eq_true rfl)

def c_plait_term_Graph_Make : LCode := (.seq (.reg [] [⟨some 3, some (.box T_api_Node (.tmp 1)), none⟩,
    ⟨some 4, some (.assign (.const (.int .i64 0))), none⟩,
    ⟨some 5, some (.assign (.const (.int .i64 0))), none⟩])
  (.seq (.seq (.reg [] [⟨some 9, some (.move (.tmp 0)), none⟩,
    ⟨some 10, some (.load T_api_Node (.tmp 3)), none⟩,
    ⟨some 11, some (.call ⟨(.value (.func f_plait_term_Graph_formed)), #[(.tmp 9), (.tmp 10)], #[T_p_term_Graph, T_api_Node]⟩), none⟩,
    ⟨some 12, some (.unOp .not T_bool (.tmp 11)), none⟩])
  (.cond (.tmp 12) (.seq (.reg [] [⟨some 4, some (.assign (.const (.int .i64 0))), none⟩,
    ⟨some 5, some (.assign (.const (.int .i64 32))), none⟩])
  .ret)
  .skip))
  (.seq (.reg [] [⟨some 14, some (.move (.tmp 0)), none⟩,
    ⟨some 15, some (.load T_api_Node (.tmp 3)), none⟩,
    ⟨some 16, some (.call ⟨(.value (.func f_plait_term_Graph_sorted)), #[(.tmp 14), (.tmp 15)], #[T_p_term_Graph, T_api_Node]⟩), none⟩,
    ⟨some 13, some (.move (.tmp 16)), none⟩,
    ⟨some 17, some (.extract (.tmp 13) 0), none⟩,
    ⟨some 18, some (.extract (.tmp 13) 1), none⟩,
    ⟨none, some (.store T_api_Node (.tmp 3) (.tmp 17)), none⟩,
    ⟨some 6, some (.assign (.tmp 18)), none⟩])
  (.seq (.seq (.reg [] [⟨some 19, some (.move (.tmp 6)), none⟩,
    ⟨some 20, some (.binOp .neq T_api_Errno (.tmp 19) (.const (.int .i64 0)) T_api_Errno), none⟩])
  (.cond (.tmp 20) (.seq (.reg [] [⟨some 21, some (.move (.tmp 6)), none⟩,
    ⟨some 4, some (.assign (.const (.int .i64 0))), none⟩,
    ⟨some 5, some (.assign (.tmp 21)), none⟩])
  .ret)
  .skip))
  (.seq (.seq (.reg [] [⟨some 22, some (.move (.tmp 0)), none⟩,
    ⟨some 23, some (.nilCheck (.tmp 22)), none⟩,
    ⟨some 24, some (.fieldAddr T_term_Graph (.tmp 23) 2), none⟩,
    ⟨some 25, some (.load T_m_api_Node_int (.tmp 24)), none⟩,
    ⟨some 26, some (.load T_api_Node (.tmp 3)), none⟩,
    ⟨some 27, some (.lookup T_m_api_Node_int (.tmp 25) (.tmp 26) false), none⟩,
    ⟨some 7, some (.assign (.tmp 27)), none⟩])
  (.seq (.reg [] [⟨some 28, some (.move (.tmp 7)), none⟩,
    ⟨some 29, some (.binOp .gtr T_int (.tmp 28) (.const (.int .i64 0)) T_int), none⟩])
  (.cond (.tmp 29) (.seq (.reg [] [⟨some 30, some (.move (.tmp 7)), none⟩,
    ⟨some 4, some (.assign (.tmp 30)), none⟩,
    ⟨some 5, some (.assign (.const (.int .i64 0))), none⟩])
  .ret)
  .skip)))
  (.seq (.seq (.reg [] [⟨some 31, some (.move (.tmp 0)), none⟩,
    ⟨some 32, some (.nilCheck (.tmp 31)), none⟩,
    ⟨some 33, some (.fieldAddr T_term_Graph (.tmp 32) 1), none⟩,
    ⟨some 34, some (.load T_s_api_Node (.tmp 33)), none⟩,
    ⟨some 35, some (.call ⟨(.builtin .len), #[(.tmp 34)], #[T_s_api_Node]⟩), none⟩,
    ⟨some 36, some (.move (.tmp 0)), none⟩,
    ⟨some 37, some (.nilCheck (.tmp 36)), none⟩,
    ⟨some 38, some (.fieldAddr T_term_Graph (.tmp 37) 0), none⟩,
    ⟨some 39, some (.load T_int (.tmp 38)), none⟩,
    ⟨some 40, some (.binOp .geq T_int (.tmp 35) (.tmp 39) T_int), none⟩])
  (.cond (.tmp 40) (.seq (.reg [] [⟨some 4, some (.assign (.const (.int .i64 0))), none⟩,
    ⟨some 5, some (.assign (.const (.int .i64 33))), none⟩])
  .ret)
  .skip))
  (.seq (.reg [] [⟨some 41, some (.move (.tmp 0)), none⟩,
    ⟨some 42, some (.move (.tmp 0)), none⟩,
    ⟨some 43, some (.nilCheck (.tmp 42)), none⟩,
    ⟨some 44, some (.fieldAddr T_term_Graph (.tmp 43) 1), none⟩,
    ⟨some 45, some (.load T_s_api_Node (.tmp 44)), none⟩,
    ⟨some 46, some (.load T_api_Node (.tmp 3)), none⟩,
    ⟨some 47, some (.buildSlice T_s_api_Node 1 #[(0, (.tmp 46))]), none⟩,
    ⟨some 48, some (.call ⟨(.builtin .append), #[(.tmp 45), (.tmp 47)], #[T_s_api_Node, T_s_api_Node]⟩), none⟩,
    ⟨some 49, some (.nilCheck (.tmp 41)), none⟩,
    ⟨some 50, some (.fieldAddr T_term_Graph (.tmp 49) 1), none⟩,
    ⟨none, some (.store T_s_api_Node (.tmp 50) (.tmp 48)), none⟩])
  (.seq (.reg [] [⟨some 51, some (.move (.tmp 0)), none⟩,
    ⟨some 52, some (.nilCheck (.tmp 51)), none⟩,
    ⟨some 53, some (.fieldAddr T_term_Graph (.tmp 52) 1), none⟩,
    ⟨some 54, some (.load T_s_api_Node (.tmp 53)), none⟩,
    ⟨some 55, some (.call ⟨(.builtin .len), #[(.tmp 54)], #[T_s_api_Node]⟩), none⟩,
    ⟨some 8, some (.assign (.tmp 55)), none⟩])
  (.seq (.reg [] [⟨some 56, some (.move (.tmp 0)), none⟩,
    ⟨some 57, some (.nilCheck (.tmp 56)), none⟩,
    ⟨some 58, some (.fieldAddr T_term_Graph (.tmp 57) 2), none⟩,
    ⟨some 59, some (.load T_m_api_Node_int (.tmp 58)), none⟩,
    ⟨some 60, some (.load T_api_Node (.tmp 3)), none⟩,
    ⟨some 61, some (.move (.tmp 8)), none⟩,
    ⟨none, some (.mapUpdate T_m_api_Node_int (.tmp 59) (.tmp 60) (.tmp 61)), none⟩])
  (.seq (.seq (.reg [] [⟨some 62, some (.fieldAddr T_api_Node (.tmp 3) 0), none⟩,
    ⟨some 63, some (.load T_int (.tmp 62)), none⟩,
    ⟨some 64, some (.binOp .eql T_int (.tmp 63) (.const (.int .i64 2)) T_int), none⟩])
  (.cond (.tmp 64) (.reg [] [⟨some 65, some (.move (.tmp 0)), none⟩,
    ⟨some 66, some (.nilCheck (.tmp 65)), none⟩,
    ⟨some 67, some (.fieldAddr T_term_Graph (.tmp 66) 3), none⟩,
    ⟨some 68, some (.load T_m_string_int (.tmp 67)), none⟩,
    ⟨some 69, some (.fieldAddr T_api_Node (.tmp 3) 8), none⟩,
    ⟨some 70, some (.load T_string (.tmp 69)), none⟩,
    ⟨some 71, some (.move (.tmp 8)), none⟩,
    ⟨none, some (.mapUpdate T_m_string_int (.tmp 68) (.tmp 70) (.tmp 71)), none⟩])
  .skip))
  (.seq (.reg [] [⟨some 72, some (.move (.tmp 8)), none⟩,
    ⟨some 4, some (.assign (.tmp 72)), none⟩,
    ⟨some 5, some (.assign (.const (.int .i64 0))), none⟩])
  .ret)))))))))))
theorem e_plait_term_Graph_Make {a0 a1 : AV} {H : AHeap} : R f_plait_term_Graph_Make [a0, a1] H = fnK Go.Proofs.Try.prog [] H [(.tmp 4), (.tmp 5)] (evalL Go.Proofs.Try.prog KT R c_plait_term_Graph_Make (Env.args [a0, a1] 0) H) :=
  runs_body (D := DT) (f := f_plait_term_Graph_Make) Go.Proofs.Try.func54 (by kernel_rfl) (by kernel_rfl) (by kernel_rfl) (by kernel_rfl) (by kernel_rfl) (Nat.le_of_ble_eq_true rfl)

def l_plait_plaitref3_Graph_Make_0 : LCode := (.seq (.seq (.reg [] [⟨some 50, some (.move (.tmp 9)), none⟩,
    ⟨some 51, some (.binOp .lss T_int (.tmp 50) (.const (.int .i64 3)) T_int), none⟩])
  (.cond (.tmp 51) .skip
  (.exit 0)))
  (.seq (.block 1 (.seq (.reg [] [⟨some 55, some (.move (.tmp 0)), none⟩,
    ⟨some 56, some (.move (.tmp 7)), none⟩,
    ⟨some 57, some (.move (.tmp 9)), none⟩,
    ⟨some 58, some (.indexAddr T_s_int (.tmp 56) (.tmp 57)), none⟩,
    ⟨some 59, some (.load T_int (.tmp 58)), none⟩,
    ⟨some 60, some (.call ⟨(.value (.func f_plait_plaitref3_Graph_At)), #[(.tmp 55), (.tmp 59)], #[T_p_plaitref3_Graph, T_int]⟩), none⟩,
    ⟨some 54, some (.move (.tmp 60)), none⟩,
    ⟨some 61, some (.extract (.tmp 54) 0), none⟩,
    ⟨some 62, some (.extract (.tmp 54) 1), none⟩,
    ⟨some 10, some (.alloc T_api_Node), none⟩,
    ⟨none, some (.store T_api_Node (.tmp 10) (.tmp 61)), none⟩,
    ⟨some 11, some (.assign (.tmp 62)), none⟩])
  (.seq (.seq (.reg [] [⟨some 63, some (.move (.tmp 9)), none⟩,
    ⟨some 64, some (.move (.tmp 6)), none⟩,
    ⟨some 65, some (.binOp .lss T_int (.tmp 63) (.tmp 64) T_int), none⟩,
    ⟨some 66, some (.move (.tmp 65)), none⟩,
    ⟨some 67, some (.move (.tmp 11)), some (some 66, true)⟩,
    ⟨some 68, some (.unOp .not T_bool (.tmp 67)), some (some 66, true)⟩,
    ⟨some 69, some (.pick (.tmp 66) (.tmp 68) (.const (.bool false))), none⟩,
    ⟨some 70, some (.move (.tmp 69)), none⟩,
    ⟨some 71, some (.move (.tmp 9)), some (some 70, false)⟩,
    ⟨some 72, some (.move (.tmp 6)), some (some 70, false)⟩,
    ⟨some 73, some (.binOp .geq T_int (.tmp 71) (.tmp 72) T_int), some (some 70, false)⟩,
    ⟨some 74, some (.move (.tmp 73)), some (some 70, false)⟩,
    ⟨some 75, some (.move (.tmp 7)), some (some 74, true)⟩,
    ⟨some 76, some (.move (.tmp 9)), some (some 74, true)⟩,
    ⟨some 77, some (.indexAddr T_s_int (.tmp 75) (.tmp 76)), some (some 74, true)⟩,
    ⟨some 78, some (.load T_int (.tmp 77)), some (some 74, true)⟩,
    ⟨some 79, some (.binOp .neq T_int (.tmp 78) (.const (.int .i64 0)) T_int), some (some 74, true)⟩,
    ⟨some 80, some (.pick (.tmp 74) (.tmp 79) (.const (.bool false))), some (some 70, false)⟩,
    ⟨some 81, some (.pick (.tmp 70) (.const (.bool true)) (.tmp 80)), none⟩])
  (.cond (.tmp 81) (.seq (.reg [] [⟨some 4, some (.assign (.const (.int .i64 0))), none⟩,
    ⟨some 5, some (.assign (.const (.int .i64 32))), none⟩])
  .ret)
  .skip))
  (.seq (.reg [] [⟨some 82, some (.move (.tmp 9)), none⟩,
    ⟨some 83, some (.move (.tmp 6)), none⟩,
    ⟨some 84, some (.binOp .lss T_int (.tmp 82) (.tmp 83) T_int), none⟩])
  (.cond (.tmp 84) (.reg [] [⟨some 85, some (.move (.tmp 8)), none⟩,
    ⟨some 86, some (.fieldAddr T_api_Node (.tmp 10) 1), none⟩,
    ⟨some 87, some (.load T_int (.tmp 86)), none⟩,
    ⟨some 88, some (.buildSlice T_s_int 1 #[(0, (.tmp 87))]), none⟩,
    ⟨some 89, some (.call ⟨(.builtin .append), #[(.tmp 85), (.tmp 88)], #[T_s_int, T_s_int]⟩), none⟩,
    ⟨some 8, some (.assign (.tmp 89)), none⟩])
  .skip)))))
  (.reg [] [⟨some 52, some (.move (.tmp 9)), none⟩,
    ⟨some 53, some (.binOp .add T_int (.tmp 52) (.const (.int .i64 1)) T_int), none⟩,
    ⟨some 9, some (.assign (.tmp 53)), none⟩])))
def l_plait_plaitref3_Graph_Make_1 : LCode := (.seq (.seq (.reg [] [⟨some 175, some (.move (.tmp 16)), none⟩,
    ⟨some 176, some (.move (.tmp 0)), none⟩,
    ⟨some 177, some (.nilCheck (.tmp 176)), none⟩,
    ⟨some 178, some (.fieldAddr T_plaitref3_Graph (.tmp 177) 0), none⟩,
    ⟨some 179, some (.load T_s_api_Node (.tmp 178)), none⟩,
    ⟨some 180, some (.call ⟨(.builtin .len), #[(.tmp 179)], #[T_s_api_Node]⟩), none⟩,
    ⟨some 181, some (.binOp .lss T_int (.tmp 175) (.tmp 180) T_int), none⟩])
  (.cond (.tmp 181) .skip
  (.exit 3)))
  (.seq (.block 4 (.seq (.reg [] [⟨some 184, some (.move (.tmp 0)), none⟩,
    ⟨some 185, some (.nilCheck (.tmp 184)), none⟩,
    ⟨some 186, some (.fieldAddr T_plaitref3_Graph (.tmp 185) 0), none⟩,
    ⟨some 187, some (.load T_s_api_Node (.tmp 186)), none⟩,
    ⟨some 188, some (.move (.tmp 16)), none⟩,
    ⟨some 189, some (.indexAddr T_s_api_Node (.tmp 187) (.tmp 188)), none⟩,
    ⟨some 190, some (.load T_api_Node (.tmp 189)), none⟩,
    ⟨some 191, some (.load T_api_Node (.tmp 3)), none⟩,
    ⟨some 192, some (.binOp .eql T_api_Node (.tmp 190) (.tmp 191) T_api_Node), none⟩])
  (.cond (.tmp 192) (.seq (.reg [] [⟨some 193, some (.move (.tmp 16)), none⟩,
    ⟨some 194, some (.binOp .add T_int (.tmp 193) (.const (.int .i64 1)) T_int), none⟩,
    ⟨some 4, some (.assign (.tmp 194)), none⟩,
    ⟨some 5, some (.assign (.const (.int .i64 0))), none⟩])
  .ret)
  .skip)))
  (.reg [] [⟨some 182, some (.move (.tmp 16)), none⟩,
    ⟨some 183, some (.binOp .add T_int (.tmp 182) (.const (.int .i64 1)) T_int), none⟩,
    ⟨some 16, some (.assign (.tmp 183)), none⟩])))
@[simp] theorem d_l_plait_plaitref3_Graph_Make_0 : defs l_plait_plaitref3_Graph_Make_0 = [50, 51, 55, 56, 57, 58, 59, 60, 54, 61, 62, 10, 11, 63, 64, 65, 66, 67, 68, 69, 70, 71, 72, 73, 74, 75, 76, 77, 78, 79, 80, 81, 4, 5, 82, 83, 84, 85, 86, 87, 88, 89, 8, 52, 53, 9] := by rfl
@[simp] theorem d_l_plait_plaitref3_Graph_Make_1 : defs l_plait_plaitref3_Graph_Make_1 = [175, 176, 177, 178, 179, 180, 181, 184, 185, 186, 187, 188, 189, 190, 191, 192, 193, 194, 4, 5, 182, 183, 16] := by rfl
def c_plait_plaitref3_Graph_Make : LCode := (.seq (.reg [] [⟨some 3, some (.box T_api_Node (.tmp 1)), none⟩,
    ⟨some 4, some (.assign (.const (.int .i64 0))), none⟩,
    ⟨some 5, some (.assign (.const (.int .i64 0))), none⟩])
  (.seq (.reg [] [⟨some 17, some (.fieldAddr T_api_Node (.tmp 3) 0), none⟩,
    ⟨some 18, some (.load T_int (.tmp 17)), none⟩,
    ⟨some 19, some (.call ⟨(.value (.func f_plaitref3_Arity)), #[(.tmp 18)], #[T_int]⟩), none⟩,
    ⟨some 6, some (.assign (.tmp 19)), none⟩])
  (.seq (.reg [] [⟨some 20, some (.fieldAddr T_api_Node (.tmp 3) 2), none⟩,
    ⟨some 21, some (.load T_int (.tmp 20)), none⟩,
    ⟨some 22, some (.fieldAddr T_api_Node (.tmp 3) 3), none⟩,
    ⟨some 23, some (.load T_int (.tmp 22)), none⟩,
    ⟨some 24, some (.fieldAddr T_api_Node (.tmp 3) 4), none⟩,
    ⟨some 25, some (.load T_int (.tmp 24)), none⟩,
    ⟨some 26, some (.buildSlice T_s_int 3 #[(0, (.tmp 21)), (1, (.tmp 23)), (2, (.tmp 25))]), none⟩,
    ⟨some 7, some (.assign (.tmp 26)), none⟩])
  (.seq (.seq (.reg [] [⟨some 27, some (.move (.tmp 6)), none⟩,
    ⟨some 28, some (.binOp .lss T_int (.tmp 27) (.const (.int .i64 0)) T_int), none⟩,
    ⟨some 29, some (.move (.tmp 28)), none⟩,
    ⟨some 30, some (.fieldAddr T_api_Node (.tmp 3) 0), some (some 29, false)⟩,
    ⟨some 31, some (.load T_int (.tmp 30)), some (some 29, false)⟩,
    ⟨some 32, some (.binOp .neq T_int (.tmp 31) (.const (.int .i64 1)) T_int), some (some 29, false)⟩,
    ⟨some 33, some (.move (.tmp 32)), some (some 29, false)⟩,
    ⟨some 34, some (.fieldAddr T_api_Node (.tmp 3) 7), some (some 33, true)⟩,
    ⟨some 35, some (.load T_api_Bits (.tmp 34)), some (some 33, true)⟩,
    ⟨some 36, some (.build T_api_Bits #[]), some (some 33, true)⟩,
    ⟨some 37, some (.binOp .neq T_api_Bits (.tmp 35) (.tmp 36) T_api_Bits), some (some 33, true)⟩,
    ⟨some 38, some (.pick (.tmp 33) (.tmp 37) (.const (.bool false))), some (some 29, false)⟩,
    ⟨some 39, some (.pick (.tmp 29) (.const (.bool true)) (.tmp 38)), none⟩,
    ⟨some 40, some (.move (.tmp 39)), none⟩,
    ⟨some 41, some (.fieldAddr T_api_Node (.tmp 3) 0), some (some 40, false)⟩,
    ⟨some 42, some (.load T_int (.tmp 41)), some (some 40, false)⟩,
    ⟨some 43, some (.binOp .neq T_int (.tmp 42) (.const (.int .i64 2)) T_int), some (some 40, false)⟩,
    ⟨some 44, some (.move (.tmp 43)), some (some 40, false)⟩,
    ⟨some 45, some (.fieldAddr T_api_Node (.tmp 3) 8), some (some 44, true)⟩,
    ⟨some 46, some (.load T_string (.tmp 45)), some (some 44, true)⟩,
    ⟨some 47, some (.binOp .neq T_string (.tmp 46) (.const (.string { data := #[] })) T_string), some (some 44, true)⟩,
    ⟨some 48, some (.pick (.tmp 44) (.tmp 47) (.const (.bool false))), some (some 40, false)⟩,
    ⟨some 49, some (.pick (.tmp 40) (.const (.bool true)) (.tmp 48)), none⟩])
  (.cond (.tmp 49) (.seq (.reg [] [⟨some 4, some (.assign (.const (.int .i64 0))), none⟩,
    ⟨some 5, some (.assign (.const (.int .i64 32))), none⟩])
  .ret)
  .skip))
  (.seq (.reg [] [⟨some 8, some (.assign (.const (.slice none 0 0))), none⟩])
  (.seq (.seq (.reg [] [⟨some 9, some (.assign (.const (.int .i64 0))), none⟩])
  (.block 0 (.loop l_plait_plaitref3_Graph_Make_0)))
  (.seq (.seq (.reg [] [⟨some 90, some (.fieldAddr T_api_Node (.tmp 3) 0), none⟩,
    ⟨some 91, some (.load T_int (.tmp 90)), none⟩])
  (.block 2 (.seq (.reg [] [⟨some 109, some (.binOp .eql T_int (.tmp 91) (.const (.int .i64 1)) T_int), none⟩,
    ⟨some 108, some (.assign (.tmp 109)), none⟩])
  (.cond (.tmp 108) (.seq (.reg [] [⟨some 110, some (.fieldAddr T_api_Node (.tmp 3) 7), none⟩,
    ⟨some 111, some (.load T_api_Bits (.tmp 110)), none⟩,
    ⟨some 112, some (.call ⟨(.value (.func f_plaitref1_Right)), #[(.tmp 111)], #[T_api_Bits]⟩), none⟩,
    ⟨some 113, some (.unOp .not T_bool (.tmp 112)), none⟩,
    ⟨some 114, some (.move (.tmp 113)), none⟩,
    ⟨some 115, some (.fieldAddr T_api_Node (.tmp 3) 7), some (some 114, false)⟩,
    ⟨some 116, some (.fieldAddr T_api_Bits (.tmp 115) 0), some (some 114, false)⟩,
    ⟨some 117, some (.load T_int (.tmp 116)), some (some 114, false)⟩,
    ⟨some 118, some (.fieldAddr T_api_Node (.tmp 3) 1), some (some 114, false)⟩,
    ⟨some 119, some (.load T_int (.tmp 118)), some (some 114, false)⟩,
    ⟨some 120, some (.binOp .neq T_int (.tmp 117) (.tmp 119) T_int), some (some 114, false)⟩,
    ⟨some 121, some (.pick (.tmp 114) (.const (.bool true)) (.tmp 120)), none⟩,
    ⟨some 122, some (.move (.tmp 121)), none⟩,
    ⟨some 123, some (.fieldAddr T_api_Node (.tmp 3) 5), some (some 122, false)⟩,
    ⟨some 124, some (.load T_int (.tmp 123)), some (some 122, false)⟩,
    ⟨some 125, some (.binOp .neq T_int (.tmp 124) (.const (.int .i64 0)) T_int), some (some 122, false)⟩,
    ⟨some 126, some (.pick (.tmp 122) (.const (.bool true)) (.tmp 125)), none⟩,
    ⟨some 127, some (.move (.tmp 126)), none⟩,
    ⟨some 128, some (.fieldAddr T_api_Node (.tmp 3) 6), some (some 127, false)⟩,
    ⟨some 129, some (.load T_int (.tmp 128)), some (some 127, false)⟩,
    ⟨some 130, some (.binOp .neq T_int (.tmp 129) (.const (.int .i64 0)) T_int), some (some 127, false)⟩,
    ⟨some 131, some (.pick (.tmp 127) (.const (.bool true)) (.tmp 130)), none⟩])
  (.cond (.tmp 131) (.seq (.reg [] [⟨some 4, some (.assign (.const (.int .i64 0))), none⟩,
    ⟨some 5, some (.assign (.const (.int .i64 30))), none⟩])
  .ret)
  .skip))
  (.seq (.reg [] [⟨some 133, some (.binOp .eql T_int (.tmp 91) (.const (.int .i64 2)) T_int), none⟩,
    ⟨some 132, some (.assign (.tmp 133)), none⟩])
  (.cond (.tmp 132) (.seq (.seq (.reg [] [⟨some 134, some (.fieldAddr T_api_Node (.tmp 3) 1), none⟩,
    ⟨some 135, some (.load T_int (.tmp 134)), none⟩,
    ⟨some 136, some (.call ⟨(.value (.func f_plaitref3_Is)), #[(.tmp 135)], #[T_int]⟩), none⟩,
    ⟨some 137, some (.unOp .not T_bool (.tmp 136)), none⟩,
    ⟨some 138, some (.move (.tmp 137)), none⟩,
    ⟨some 139, some (.fieldAddr T_api_Node (.tmp 3) 5), some (some 138, false)⟩,
    ⟨some 140, some (.load T_int (.tmp 139)), some (some 138, false)⟩,
    ⟨some 141, some (.binOp .neq T_int (.tmp 140) (.const (.int .i64 0)) T_int), some (some 138, false)⟩,
    ⟨some 142, some (.pick (.tmp 138) (.const (.bool true)) (.tmp 141)), none⟩,
    ⟨some 143, some (.move (.tmp 142)), none⟩,
    ⟨some 144, some (.fieldAddr T_api_Node (.tmp 3) 6), some (some 143, false)⟩,
    ⟨some 145, some (.load T_int (.tmp 144)), some (some 143, false)⟩,
    ⟨some 146, some (.binOp .neq T_int (.tmp 145) (.const (.int .i64 0)) T_int), some (some 143, false)⟩,
    ⟨some 147, some (.pick (.tmp 143) (.const (.bool true)) (.tmp 146)), none⟩])
  (.cond (.tmp 147) (.seq (.reg [] [⟨some 4, some (.assign (.const (.int .i64 0))), none⟩,
    ⟨some 5, some (.assign (.const (.int .i64 30))), none⟩])
  .ret)
  .skip))
  (.seq (.reg [] [⟨some 149, some (.move (.tmp 0)), none⟩,
    ⟨some 150, some (.fieldAddr T_api_Node (.tmp 3) 8), none⟩,
    ⟨some 151, some (.load T_string (.tmp 150)), none⟩,
    ⟨some 152, some (.call ⟨(.value (.func f_plait_plaitref3_Graph_Var)), #[(.tmp 149), (.tmp 151)], #[T_p_plaitref3_Graph, T_string]⟩), none⟩,
    ⟨some 148, some (.move (.tmp 152)), none⟩,
    ⟨some 153, some (.extract (.tmp 148) 0), none⟩,
    ⟨some 154, some (.extract (.tmp 148) 1), none⟩,
    ⟨some 12, some (.assign (.tmp 153)), none⟩,
    ⟨some 13, some (.assign (.tmp 154)), none⟩])
  (.seq (.reg [] [⟨some 155, some (.fieldAddr T_api_Node (.tmp 3) 8), none⟩,
    ⟨some 156, some (.load T_string (.tmp 155)), none⟩,
    ⟨some 157, some (.binOp .eql T_string (.tmp 156) (.const (.string { data := #[] })) T_string), none⟩,
    ⟨some 158, some (.move (.tmp 157)), none⟩,
    ⟨some 159, some (.move (.tmp 13)), some (some 158, false)⟩,
    ⟨some 160, some (.move (.tmp 159)), some (some 158, false)⟩,
    ⟨some 161, some (.move (.tmp 0)), some (some 160, true)⟩,
    ⟨some 162, some (.nilCheck (.tmp 161)), some (some 160, true)⟩,
    ⟨some 163, some (.fieldAddr T_plaitref3_Graph (.tmp 162) 0), some (some 160, true)⟩,
    ⟨some 164, some (.load T_s_api_Node (.tmp 163)), some (some 160, true)⟩,
    ⟨some 165, some (.move (.tmp 12)), some (some 160, true)⟩,
    ⟨some 166, some (.binOp .sub T_int (.tmp 165) (.const (.int .i64 1)) T_int), some (some 160, true)⟩,
    ⟨some 167, some (.indexAddr T_s_api_Node (.tmp 164) (.tmp 166)), some (some 160, true)⟩,
    ⟨some 168, some (.fieldAddr T_api_Node (.tmp 167) 1), some (some 160, true)⟩,
    ⟨some 169, some (.load T_int (.tmp 168)), some (some 160, true)⟩,
    ⟨some 170, some (.fieldAddr T_api_Node (.tmp 3) 1), some (some 160, true)⟩,
    ⟨some 171, some (.load T_int (.tmp 170)), some (some 160, true)⟩,
    ⟨some 172, some (.binOp .neq T_int (.tmp 169) (.tmp 171) T_int), some (some 160, true)⟩,
    ⟨some 173, some (.pick (.tmp 160) (.tmp 172) (.const (.bool false))), some (some 158, false)⟩,
    ⟨some 174, some (.pick (.tmp 158) (.const (.bool true)) (.tmp 173)), none⟩])
  (.cond (.tmp 174) (.seq (.reg [] [⟨some 4, some (.assign (.const (.int .i64 0))), none⟩,
    ⟨some 5, some (.assign (.const (.int .i64 34))), none⟩])
  .ret)
  .skip))))
  (.seq (.reg [] [⟨some 93, some (.fieldAddr T_api_Node (.tmp 3) 0), none⟩,
    ⟨some 94, some (.load T_int (.tmp 93)), none⟩,
    ⟨some 95, some (.fieldAddr T_api_Node (.tmp 3) 5), none⟩,
    ⟨some 96, some (.load T_int (.tmp 95)), none⟩,
    ⟨some 97, some (.fieldAddr T_api_Node (.tmp 3) 6), none⟩,
    ⟨some 98, some (.load T_int (.tmp 97)), none⟩,
    ⟨some 99, some (.move (.tmp 8)), none⟩,
    ⟨some 100, some (.call ⟨(.value (.func f_plaitref3_Sort)), #[(.tmp 94), (.tmp 96), (.tmp 98), (.tmp 99)], #[T_int, T_int, T_int, T_s_int]⟩), none⟩,
    ⟨some 92, some (.move (.tmp 100)), none⟩,
    ⟨some 101, some (.extract (.tmp 92) 0), none⟩,
    ⟨some 102, some (.extract (.tmp 92) 1), none⟩,
    ⟨some 14, some (.assign (.tmp 101)), none⟩,
    ⟨some 15, some (.assign (.tmp 102)), none⟩])
  (.seq (.seq (.reg [] [⟨some 103, some (.move (.tmp 15)), none⟩,
    ⟨some 104, some (.binOp .neq T_int (.tmp 103) (.const (.int .i64 0)) T_int), none⟩])
  (.cond (.tmp 104) (.seq (.reg [] [⟨some 105, some (.move (.tmp 15)), none⟩,
    ⟨some 4, some (.assign (.const (.int .i64 0))), none⟩,
    ⟨some 5, some (.assign (.tmp 105)), none⟩])
  .ret)
  .skip))
  (.reg [] [⟨some 106, some (.move (.tmp 14)), none⟩,
    ⟨some 107, some (.fieldAddr T_api_Node (.tmp 3) 1), none⟩,
    ⟨none, some (.store T_int (.tmp 107) (.tmp 106)), none⟩])))))))))
  (.seq (.seq (.reg [] [⟨some 16, some (.assign (.const (.int .i64 0))), none⟩])
  (.block 3 (.loop l_plait_plaitref3_Graph_Make_1)))
  (.seq (.seq (.reg [] [⟨some 195, some (.move (.tmp 0)), none⟩,
    ⟨some 196, some (.nilCheck (.tmp 195)), none⟩,
    ⟨some 197, some (.fieldAddr T_plaitref3_Graph (.tmp 196) 0), none⟩,
    ⟨some 198, some (.load T_s_api_Node (.tmp 197)), none⟩,
    ⟨some 199, some (.call ⟨(.builtin .len), #[(.tmp 198)], #[T_s_api_Node]⟩), none⟩,
    ⟨some 200, some (.move (.tmp 0)), none⟩,
    ⟨some 201, some (.nilCheck (.tmp 200)), none⟩,
    ⟨some 202, some (.fieldAddr T_plaitref3_Graph (.tmp 201) 1), none⟩,
    ⟨some 203, some (.load T_int (.tmp 202)), none⟩,
    ⟨some 204, some (.binOp .geq T_int (.tmp 199) (.tmp 203) T_int), none⟩])
  (.cond (.tmp 204) (.seq (.reg [] [⟨some 4, some (.assign (.const (.int .i64 0))), none⟩,
    ⟨some 5, some (.assign (.const (.int .i64 33))), none⟩])
  .ret)
  .skip))
  (.seq (.reg [] [⟨some 205, some (.move (.tmp 0)), none⟩,
    ⟨some 206, some (.move (.tmp 0)), none⟩,
    ⟨some 207, some (.nilCheck (.tmp 206)), none⟩,
    ⟨some 208, some (.fieldAddr T_plaitref3_Graph (.tmp 207) 0), none⟩,
    ⟨some 209, some (.load T_s_api_Node (.tmp 208)), none⟩,
    ⟨some 210, some (.load T_api_Node (.tmp 3)), none⟩,
    ⟨some 211, some (.buildSlice T_s_api_Node 1 #[(0, (.tmp 210))]), none⟩,
    ⟨some 212, some (.call ⟨(.builtin .append), #[(.tmp 209), (.tmp 211)], #[T_s_api_Node, T_s_api_Node]⟩), none⟩,
    ⟨some 213, some (.nilCheck (.tmp 205)), none⟩,
    ⟨some 214, some (.fieldAddr T_plaitref3_Graph (.tmp 213) 0), none⟩,
    ⟨none, some (.store T_s_api_Node (.tmp 214) (.tmp 212)), none⟩])
  (.seq (.reg [] [⟨some 215, some (.move (.tmp 0)), none⟩,
    ⟨some 216, some (.nilCheck (.tmp 215)), none⟩,
    ⟨some 217, some (.fieldAddr T_plaitref3_Graph (.tmp 216) 0), none⟩,
    ⟨some 218, some (.load T_s_api_Node (.tmp 217)), none⟩,
    ⟨some 219, some (.call ⟨(.builtin .len), #[(.tmp 218)], #[T_s_api_Node]⟩), none⟩,
    ⟨some 4, some (.assign (.tmp 219)), none⟩,
    ⟨some 5, some (.assign (.const (.int .i64 0))), none⟩])
  .ret)))))))))))
theorem e_plait_plaitref3_Graph_Make {a0 a1 : AV} {H : AHeap} : R f_plait_plaitref3_Graph_Make [a0, a1] H = fnK Go.Proofs.Try.prog [] H [(.tmp 4), (.tmp 5)] (evalL Go.Proofs.Try.prog KT R c_plait_plaitref3_Graph_Make (Env.args [a0, a1] 0) H) :=
  runs_body (D := DT) (f := f_plait_plaitref3_Graph_Make) Go.Proofs.Try.func55 (by kernel_rfl) (by kernel_rfl) (by kernel_rfl) (by kernel_rfl) (by kernel_rfl) (Nat.le_of_ble_eq_true rfl)

def c_plait_term_Graph_Len : LCode := (.seq (.reg [] [⟨some 2, some (.assign (.const (.int .i64 0))), none⟩])
  (.seq (.reg [] [⟨some 3, some (.move (.tmp 0)), none⟩,
    ⟨some 4, some (.nilCheck (.tmp 3)), none⟩,
    ⟨some 5, some (.fieldAddr T_term_Graph (.tmp 4) 1), none⟩,
    ⟨some 6, some (.load T_s_api_Node (.tmp 5)), none⟩,
    ⟨some 7, some (.call ⟨(.builtin .len), #[(.tmp 6)], #[T_s_api_Node]⟩), none⟩,
    ⟨some 2, some (.assign (.tmp 7)), none⟩])
  .ret))
theorem e_plait_term_Graph_Len {a0 : AV} {H : AHeap} : R f_plait_term_Graph_Len [a0] H = fnK Go.Proofs.Try.prog [] H [(.tmp 2)] (evalL Go.Proofs.Try.prog KT R c_plait_term_Graph_Len (Env.args [a0] 0) H) :=
  runs_body (D := DT) (f := f_plait_term_Graph_Len) Go.Proofs.Try.func56 (by kernel_rfl) (by kernel_rfl) (by kernel_rfl) (by kernel_rfl) (by kernel_rfl) (Nat.le_of_ble_eq_true rfl)

def c_plait_term_Graph_Node : LCode := (.seq (.reg [] [⟨some 4, some (.alloc T_api_Node), none⟩,
    ⟨some 5, some (.assign (.const (.bool false))), none⟩])
  (.seq (.seq (.reg [] [⟨some 6, some (.move (.tmp 1)), none⟩,
    ⟨some 7, some (.binOp .lss T_int (.tmp 6) (.const (.int .i64 1)) T_int), none⟩,
    ⟨some 8, some (.move (.tmp 7)), none⟩,
    ⟨some 9, some (.move (.tmp 1)), some (some 8, false)⟩,
    ⟨some 10, some (.move (.tmp 0)), some (some 8, false)⟩,
    ⟨some 11, some (.nilCheck (.tmp 10)), some (some 8, false)⟩,
    ⟨some 12, some (.fieldAddr T_term_Graph (.tmp 11) 1), some (some 8, false)⟩,
    ⟨some 13, some (.load T_s_api_Node (.tmp 12)), some (some 8, false)⟩,
    ⟨some 14, some (.call ⟨(.builtin .len), #[(.tmp 13)], #[T_s_api_Node]⟩), some (some 8, false)⟩,
    ⟨some 15, some (.binOp .gtr T_int (.tmp 9) (.tmp 14) T_int), some (some 8, false)⟩,
    ⟨some 16, some (.pick (.tmp 8) (.const (.bool true)) (.tmp 15)), none⟩])
  (.cond (.tmp 16) (.seq (.reg [] [⟨some 17, some (.build T_api_Node #[]), none⟩,
    ⟨none, some (.store T_api_Node (.tmp 4) (.tmp 17)), none⟩,
    ⟨some 5, some (.assign (.const (.bool false))), none⟩])
  .ret)
  .skip))
  (.seq (.reg [] [⟨some 18, some (.move (.tmp 0)), none⟩,
    ⟨some 19, some (.nilCheck (.tmp 18)), none⟩,
    ⟨some 20, some (.fieldAddr T_term_Graph (.tmp 19) 1), none⟩,
    ⟨some 21, some (.load T_s_api_Node (.tmp 20)), none⟩,
    ⟨some 22, some (.move (.tmp 1)), none⟩,
    ⟨some 23, some (.binOp .sub T_int (.tmp 22) (.const (.int .i64 1)) T_int), none⟩,
    ⟨some 24, some (.indexAddr T_s_api_Node (.tmp 21) (.tmp 23)), none⟩,
    ⟨some 25, some (.load T_api_Node (.tmp 24)), none⟩,
    ⟨none, some (.store T_api_Node (.tmp 4) (.tmp 25)), none⟩,
    ⟨some 5, some (.assign (.const (.bool true))), none⟩])
  .ret)))
theorem e_plait_term_Graph_Node {a0 a1 : AV} {H : AHeap} : R f_plait_term_Graph_Node [a0, a1] H = fnK Go.Proofs.Try.prog [] H [(.cell 4 T_api_Node), (.tmp 5)] (evalL Go.Proofs.Try.prog KT R c_plait_term_Graph_Node (Env.args [a0, a1] 0) H) :=
  runs_body (D := DT) (f := f_plait_term_Graph_Node) Go.Proofs.Try.func57 (by kernel_rfl) (by kernel_rfl) (by kernel_rfl) (by kernel_rfl) (by kernel_rfl) (Nat.le_of_ble_eq_true rfl)

def c_plait_plaitref3_Graph_At : LCode := (.seq (.reg [] [⟨some 4, some (.alloc T_api_Node), none⟩,
    ⟨some 5, some (.assign (.const (.bool false))), none⟩])
  (.seq (.seq (.reg [] [⟨some 6, some (.move (.tmp 1)), none⟩,
    ⟨some 7, some (.binOp .lss T_int (.tmp 6) (.const (.int .i64 1)) T_int), none⟩,
    ⟨some 8, some (.move (.tmp 7)), none⟩,
    ⟨some 9, some (.move (.tmp 1)), some (some 8, false)⟩,
    ⟨some 10, some (.move (.tmp 0)), some (some 8, false)⟩,
    ⟨some 11, some (.nilCheck (.tmp 10)), some (some 8, false)⟩,
    ⟨some 12, some (.fieldAddr T_plaitref3_Graph (.tmp 11) 0), some (some 8, false)⟩,
    ⟨some 13, some (.load T_s_api_Node (.tmp 12)), some (some 8, false)⟩,
    ⟨some 14, some (.call ⟨(.builtin .len), #[(.tmp 13)], #[T_s_api_Node]⟩), some (some 8, false)⟩,
    ⟨some 15, some (.binOp .gtr T_int (.tmp 9) (.tmp 14) T_int), some (some 8, false)⟩,
    ⟨some 16, some (.pick (.tmp 8) (.const (.bool true)) (.tmp 15)), none⟩])
  (.cond (.tmp 16) (.seq (.reg [] [⟨some 17, some (.build T_api_Node #[]), none⟩,
    ⟨none, some (.store T_api_Node (.tmp 4) (.tmp 17)), none⟩,
    ⟨some 5, some (.assign (.const (.bool false))), none⟩])
  .ret)
  .skip))
  (.seq (.reg [] [⟨some 18, some (.move (.tmp 0)), none⟩,
    ⟨some 19, some (.nilCheck (.tmp 18)), none⟩,
    ⟨some 20, some (.fieldAddr T_plaitref3_Graph (.tmp 19) 0), none⟩,
    ⟨some 21, some (.load T_s_api_Node (.tmp 20)), none⟩,
    ⟨some 22, some (.move (.tmp 1)), none⟩,
    ⟨some 23, some (.binOp .sub T_int (.tmp 22) (.const (.int .i64 1)) T_int), none⟩,
    ⟨some 24, some (.indexAddr T_s_api_Node (.tmp 21) (.tmp 23)), none⟩,
    ⟨some 25, some (.load T_api_Node (.tmp 24)), none⟩,
    ⟨none, some (.store T_api_Node (.tmp 4) (.tmp 25)), none⟩,
    ⟨some 5, some (.assign (.const (.bool true))), none⟩])
  .ret)))
theorem e_plait_plaitref3_Graph_At {a0 a1 : AV} {H : AHeap} : R f_plait_plaitref3_Graph_At [a0, a1] H = fnK Go.Proofs.Try.prog [] H [(.cell 4 T_api_Node), (.tmp 5)] (evalL Go.Proofs.Try.prog KT R c_plait_plaitref3_Graph_At (Env.args [a0, a1] 0) H) :=
  runs_body (D := DT) (f := f_plait_plaitref3_Graph_At) Go.Proofs.Try.func58 (by kernel_rfl) (by kernel_rfl) (by kernel_rfl) (by kernel_rfl) (by kernel_rfl) (Nat.le_of_ble_eq_true rfl)

def l_plait_term_Graph_Cone_0 : LCode := (.seq (.seq (.reg [] [⟨some 29, some (.move (.tmp 7)), none⟩,
    ⟨some 30, some (.binOp .gtr T_int (.tmp 29) (.const (.int .i64 0)) T_int), none⟩])
  (.cond (.tmp 30) .skip
  (.exit 0)))
  (.seq (.block 1 (.seq (.seq (.reg [] [⟨some 33, some (.move (.tmp 5)), none⟩,
    ⟨some 34, some (.move (.tmp 7)), none⟩,
    ⟨some 35, some (.indexAddr T_s_bool (.tmp 33) (.tmp 34)), none⟩,
    ⟨some 36, some (.load T_bool (.tmp 35)), none⟩,
    ⟨some 37, some (.unOp .not T_bool (.tmp 36)), none⟩])
  (.cond (.tmp 37) (.exit 1)
  .skip))
  (.seq (.reg [] [⟨some 38, some (.move (.tmp 6)), none⟩,
    ⟨some 39, some (.binOp .add T_int (.tmp 38) (.const (.int .i64 1)) T_int), none⟩,
    ⟨some 6, some (.assign (.tmp 39)), none⟩])
  (.seq (.reg [] [⟨some 40, some (.move (.tmp 0)), none⟩,
    ⟨some 41, some (.nilCheck (.tmp 40)), none⟩,
    ⟨some 42, some (.fieldAddr T_term_Graph (.tmp 41) 1), none⟩,
    ⟨some 43, some (.load T_s_api_Node (.tmp 42)), none⟩,
    ⟨some 44, some (.move (.tmp 7)), none⟩,
    ⟨some 45, some (.binOp .sub T_int (.tmp 44) (.const (.int .i64 1)) T_int), none⟩,
    ⟨some 46, some (.indexAddr T_s_api_Node (.tmp 43) (.tmp 45)), none⟩,
    ⟨some 47, some (.load T_api_Node (.tmp 46)), none⟩,
    ⟨some 8, some (.alloc T_api_Node), none⟩,
    ⟨none, some (.store T_api_Node (.tmp 8) (.tmp 47)), none⟩])
  (.reg [5, 8, 10, 12] [⟨some 48, some (.move (.tmp 5)), none⟩,
    ⟨some 49, some (.fieldAddr T_api_Node (.tmp 8) 2), none⟩,
    ⟨some 50, some (.load T_int (.tmp 49)), none⟩,
    ⟨some 51, some (.move (.tmp 5)), none⟩,
    ⟨some 52, some (.fieldAddr T_api_Node (.tmp 8) 3), none⟩,
    ⟨some 53, some (.load T_int (.tmp 52)), none⟩,
    ⟨some 54, some (.move (.tmp 5)), none⟩,
    ⟨some 55, some (.fieldAddr T_api_Node (.tmp 8) 4), none⟩,
    ⟨some 56, some (.load T_int (.tmp 55)), none⟩,
    ⟨some 57, some (.indexAddr T_s_bool (.tmp 48) (.tmp 50)), none⟩,
    ⟨none, some (.store T_bool (.tmp 57) (.const (.bool true))), none⟩,
    ⟨some 58, some (.indexAddr T_s_bool (.tmp 51) (.tmp 53)), none⟩,
    ⟨none, some (.store T_bool (.tmp 58) (.const (.bool true))), none⟩,
    ⟨some 59, some (.indexAddr T_s_bool (.tmp 54) (.tmp 56)), none⟩,
    ⟨none, some (.store T_bool (.tmp 59) (.const (.bool true))), none⟩])))))
  (.reg [] [⟨some 31, some (.move (.tmp 7)), none⟩,
    ⟨some 32, some (.binOp .sub T_int (.tmp 31) (.const (.int .i64 1)) T_int), none⟩,
    ⟨some 7, some (.assign (.tmp 32)), none⟩])))
def l_plait_term_Graph_Cone_1 : LCode := (.seq (.seq (.reg [] [⟨some 62, some (.move (.tmp 10)), none⟩,
    ⟨some 63, some (.move (.tmp 1)), none⟩,
    ⟨some 64, some (.binOp .leq T_int (.tmp 62) (.tmp 63) T_int), none⟩])
  (.cond (.tmp 64) .skip
  (.exit 2)))
  (.seq (.block 3 (.seq (.reg [] [⟨some 67, some (.move (.tmp 5)), none⟩,
    ⟨some 68, some (.move (.tmp 10)), none⟩,
    ⟨some 69, some (.indexAddr T_s_bool (.tmp 67) (.tmp 68)), none⟩,
    ⟨some 70, some (.load T_bool (.tmp 69)), none⟩])
  (.cond (.tmp 70) (.reg [] [⟨some 71, some (.move (.tmp 9)), none⟩,
    ⟨some 72, some (.move (.tmp 10)), none⟩,
    ⟨some 73, some (.buildSlice T_s_int 1 #[(0, (.tmp 72))]), none⟩,
    ⟨some 74, some (.call ⟨(.builtin .append), #[(.tmp 71), (.tmp 73)], #[T_s_int, T_s_int]⟩), none⟩,
    ⟨some 9, some (.assign (.tmp 74)), none⟩])
  .skip)))
  (.reg [] [⟨some 65, some (.move (.tmp 10)), none⟩,
    ⟨some 66, some (.binOp .add T_int (.tmp 65) (.const (.int .i64 1)) T_int), none⟩,
    ⟨some 10, some (.assign (.tmp 66)), none⟩])))
@[simp] theorem d_l_plait_term_Graph_Cone_0 : defs l_plait_term_Graph_Cone_0 = [29, 30, 33, 34, 35, 36, 37, 38, 39, 6, 40, 41, 42, 43, 44, 45, 46, 47, 8, 48, 49, 50, 51, 52, 53, 54, 55, 56, 57, 58, 59, 31, 32, 7] := by rfl
@[simp] theorem d_l_plait_term_Graph_Cone_1 : defs l_plait_term_Graph_Cone_1 = [62, 63, 64, 67, 68, 69, 70, 71, 72, 73, 74, 9, 65, 66, 10] := by rfl
def c_plait_term_Graph_Cone : LCode := (.seq (.reg [] [⟨some 4, some (.assign (.const (.slice none 0 0))), none⟩])
  (.seq (.seq (.reg [] [⟨some 11, some (.move (.tmp 1)), none⟩,
    ⟨some 12, some (.binOp .lss T_int (.tmp 11) (.const (.int .i64 1)) T_int), none⟩,
    ⟨some 13, some (.move (.tmp 12)), none⟩,
    ⟨some 14, some (.move (.tmp 1)), some (some 13, false)⟩,
    ⟨some 15, some (.move (.tmp 0)), some (some 13, false)⟩,
    ⟨some 16, some (.nilCheck (.tmp 15)), some (some 13, false)⟩,
    ⟨some 17, some (.fieldAddr T_term_Graph (.tmp 16) 1), some (some 13, false)⟩,
    ⟨some 18, some (.load T_s_api_Node (.tmp 17)), some (some 13, false)⟩,
    ⟨some 19, some (.call ⟨(.builtin .len), #[(.tmp 18)], #[T_s_api_Node]⟩), some (some 13, false)⟩,
    ⟨some 20, some (.binOp .gtr T_int (.tmp 14) (.tmp 19) T_int), some (some 13, false)⟩,
    ⟨some 21, some (.pick (.tmp 13) (.const (.bool true)) (.tmp 20)), none⟩])
  (.cond (.tmp 21) (.seq (.reg [] [⟨some 4, some (.assign (.const (.slice none 0 0))), none⟩])
  .ret)
  .skip))
  (.seq (.reg [] [⟨some 22, some (.move (.tmp 1)), none⟩,
    ⟨some 23, some (.binOp .add T_int (.tmp 22) (.const (.int .i64 1)) T_int), none⟩,
    ⟨some 24, some (.makeSlice T_s_bool (.tmp 23) (.tmp 23)), none⟩,
    ⟨some 5, some (.assign (.tmp 24)), none⟩])
  (.seq (.reg [] [⟨some 25, some (.move (.tmp 5)), none⟩,
    ⟨some 26, some (.move (.tmp 1)), none⟩,
    ⟨some 27, some (.indexAddr T_s_bool (.tmp 25) (.tmp 26)), none⟩,
    ⟨none, some (.store T_bool (.tmp 27) (.const (.bool true))), none⟩])
  (.seq (.reg [] [⟨some 6, some (.assign (.const (.int .i64 0))), none⟩])
  (.seq (.seq (.reg [] [⟨some 28, some (.move (.tmp 1)), none⟩,
    ⟨some 7, some (.assign (.tmp 28)), none⟩])
  (.block 0 (.loop l_plait_term_Graph_Cone_0)))
  (.seq (.reg [] [⟨some 60, some (.move (.tmp 6)), none⟩,
    ⟨some 61, some (.makeSlice T_s_int (.const (.int .i64 0)) (.tmp 60)), none⟩,
    ⟨some 9, some (.assign (.tmp 61)), none⟩])
  (.seq (.seq (.reg [] [⟨some 10, some (.assign (.const (.int .i64 1))), none⟩])
  (.block 2 (.loop l_plait_term_Graph_Cone_1)))
  (.seq (.reg [] [⟨some 75, some (.move (.tmp 9)), none⟩,
    ⟨some 4, some (.assign (.tmp 75)), none⟩])
  .ret)))))))))
theorem e_plait_term_Graph_Cone {a0 a1 : AV} {H : AHeap} : R f_plait_term_Graph_Cone [a0, a1] H = fnK Go.Proofs.Try.prog [0] H [(.tmp 4)] (evalL Go.Proofs.Try.prog KT R c_plait_term_Graph_Cone (Env.args [a0, a1] 0) H) :=
  runs_body (D := DT) (f := f_plait_term_Graph_Cone) Go.Proofs.Try.func59 (by kernel_rfl) (by kernel_rfl) (by kernel_rfl) (by kernel_rfl) (by kernel_rfl) (Nat.le_of_ble_eq_true rfl)

def l_plait_plaitref3_Graph_Cone_0 : LCode := (.seq (.seq (.reg [] [⟨some 29, some (.move (.tmp 7)), none⟩,
    ⟨some 30, some (.binOp .gtr T_int (.tmp 29) (.const (.int .i64 0)) T_int), none⟩])
  (.cond (.tmp 30) .skip
  (.exit 0)))
  (.seq (.block 1 (.seq (.seq (.reg [] [⟨some 33, some (.move (.tmp 5)), none⟩,
    ⟨some 34, some (.move (.tmp 7)), none⟩,
    ⟨some 35, some (.indexAddr T_s_bool (.tmp 33) (.tmp 34)), none⟩,
    ⟨some 36, some (.load T_bool (.tmp 35)), none⟩,
    ⟨some 37, some (.unOp .not T_bool (.tmp 36)), none⟩])
  (.cond (.tmp 37) (.exit 1)
  .skip))
  (.seq (.reg [] [⟨some 38, some (.move (.tmp 6)), none⟩,
    ⟨some 39, some (.move (.tmp 7)), none⟩,
    ⟨some 40, some (.buildSlice T_s_int 1 #[(0, (.tmp 39))]), none⟩,
    ⟨some 41, some (.call ⟨(.builtin .append), #[(.tmp 38), (.tmp 40)], #[T_s_int, T_s_int]⟩), none⟩,
    ⟨some 6, some (.assign (.tmp 41)), none⟩])
  (.seq (.reg [] [⟨some 42, some (.move (.tmp 0)), none⟩,
    ⟨some 43, some (.nilCheck (.tmp 42)), none⟩,
    ⟨some 44, some (.fieldAddr T_plaitref3_Graph (.tmp 43) 0), none⟩,
    ⟨some 45, some (.load T_s_api_Node (.tmp 44)), none⟩,
    ⟨some 46, some (.move (.tmp 7)), none⟩,
    ⟨some 47, some (.binOp .sub T_int (.tmp 46) (.const (.int .i64 1)) T_int), none⟩,
    ⟨some 48, some (.indexAddr T_s_api_Node (.tmp 45) (.tmp 47)), none⟩,
    ⟨some 49, some (.load T_api_Node (.tmp 48)), none⟩,
    ⟨some 8, some (.alloc T_api_Node), none⟩,
    ⟨none, some (.store T_api_Node (.tmp 8) (.tmp 49)), none⟩])
  (.reg [5, 8, 10, 12] [⟨some 50, some (.move (.tmp 5)), none⟩,
    ⟨some 51, some (.fieldAddr T_api_Node (.tmp 8) 2), none⟩,
    ⟨some 52, some (.load T_int (.tmp 51)), none⟩,
    ⟨some 53, some (.move (.tmp 5)), none⟩,
    ⟨some 54, some (.fieldAddr T_api_Node (.tmp 8) 3), none⟩,
    ⟨some 55, some (.load T_int (.tmp 54)), none⟩,
    ⟨some 56, some (.move (.tmp 5)), none⟩,
    ⟨some 57, some (.fieldAddr T_api_Node (.tmp 8) 4), none⟩,
    ⟨some 58, some (.load T_int (.tmp 57)), none⟩,
    ⟨some 59, some (.indexAddr T_s_bool (.tmp 50) (.tmp 52)), none⟩,
    ⟨none, some (.store T_bool (.tmp 59) (.const (.bool true))), none⟩,
    ⟨some 60, some (.indexAddr T_s_bool (.tmp 53) (.tmp 55)), none⟩,
    ⟨none, some (.store T_bool (.tmp 60) (.const (.bool true))), none⟩,
    ⟨some 61, some (.indexAddr T_s_bool (.tmp 56) (.tmp 58)), none⟩,
    ⟨none, some (.store T_bool (.tmp 61) (.const (.bool true))), none⟩])))))
  (.reg [] [⟨some 31, some (.move (.tmp 7)), none⟩,
    ⟨some 32, some (.binOp .sub T_int (.tmp 31) (.const (.int .i64 1)) T_int), none⟩,
    ⟨some 7, some (.assign (.tmp 32)), none⟩])))
def l_plait_plaitref3_Graph_Cone_1 : LCode := (.seq (.seq (.reg [] [⟨some 65, some (.move (.tmp 10)), none⟩,
    ⟨some 66, some (.binOp .geq T_int (.tmp 65) (.const (.int .i64 0)) T_int), none⟩])
  (.cond (.tmp 66) .skip
  (.exit 2)))
  (.seq (.block 3 (.reg [] [⟨some 69, some (.move (.tmp 9)), none⟩,
    ⟨some 70, some (.move (.tmp 6)), none⟩,
    ⟨some 71, some (.move (.tmp 10)), none⟩,
    ⟨some 72, some (.indexAddr T_s_int (.tmp 70) (.tmp 71)), none⟩,
    ⟨some 73, some (.load T_int (.tmp 72)), none⟩,
    ⟨some 74, some (.buildSlice T_s_int 1 #[(0, (.tmp 73))]), none⟩,
    ⟨some 75, some (.call ⟨(.builtin .append), #[(.tmp 69), (.tmp 74)], #[T_s_int, T_s_int]⟩), none⟩,
    ⟨some 9, some (.assign (.tmp 75)), none⟩]))
  (.reg [] [⟨some 67, some (.move (.tmp 10)), none⟩,
    ⟨some 68, some (.binOp .sub T_int (.tmp 67) (.const (.int .i64 1)) T_int), none⟩,
    ⟨some 10, some (.assign (.tmp 68)), none⟩])))
@[simp] theorem d_l_plait_plaitref3_Graph_Cone_0 : defs l_plait_plaitref3_Graph_Cone_0 = [29, 30, 33, 34, 35, 36, 37, 38, 39, 40, 41, 6, 42, 43, 44, 45, 46, 47, 48, 49, 8, 50, 51, 52, 53, 54, 55, 56, 57, 58, 59, 60, 61, 31, 32, 7] := by rfl
@[simp] theorem d_l_plait_plaitref3_Graph_Cone_1 : defs l_plait_plaitref3_Graph_Cone_1 = [65, 66, 69, 70, 71, 72, 73, 74, 75, 9, 67, 68, 10] := by rfl
def c_plait_plaitref3_Graph_Cone : LCode := (.seq (.reg [] [⟨some 4, some (.assign (.const (.slice none 0 0))), none⟩])
  (.seq (.seq (.reg [] [⟨some 11, some (.move (.tmp 1)), none⟩,
    ⟨some 12, some (.binOp .lss T_int (.tmp 11) (.const (.int .i64 1)) T_int), none⟩,
    ⟨some 13, some (.move (.tmp 12)), none⟩,
    ⟨some 14, some (.move (.tmp 1)), some (some 13, false)⟩,
    ⟨some 15, some (.move (.tmp 0)), some (some 13, false)⟩,
    ⟨some 16, some (.nilCheck (.tmp 15)), some (some 13, false)⟩,
    ⟨some 17, some (.fieldAddr T_plaitref3_Graph (.tmp 16) 0), some (some 13, false)⟩,
    ⟨some 18, some (.load T_s_api_Node (.tmp 17)), some (some 13, false)⟩,
    ⟨some 19, some (.call ⟨(.builtin .len), #[(.tmp 18)], #[T_s_api_Node]⟩), some (some 13, false)⟩,
    ⟨some 20, some (.binOp .gtr T_int (.tmp 14) (.tmp 19) T_int), some (some 13, false)⟩,
    ⟨some 21, some (.pick (.tmp 13) (.const (.bool true)) (.tmp 20)), none⟩])
  (.cond (.tmp 21) (.seq (.reg [] [⟨some 4, some (.assign (.const (.slice none 0 0))), none⟩])
  .ret)
  .skip))
  (.seq (.reg [] [⟨some 22, some (.move (.tmp 1)), none⟩,
    ⟨some 23, some (.binOp .add T_int (.tmp 22) (.const (.int .i64 1)) T_int), none⟩,
    ⟨some 24, some (.makeSlice T_s_bool (.tmp 23) (.tmp 23)), none⟩,
    ⟨some 5, some (.assign (.tmp 24)), none⟩])
  (.seq (.reg [] [⟨some 25, some (.move (.tmp 5)), none⟩,
    ⟨some 26, some (.move (.tmp 1)), none⟩,
    ⟨some 27, some (.indexAddr T_s_bool (.tmp 25) (.tmp 26)), none⟩,
    ⟨none, some (.store T_bool (.tmp 27) (.const (.bool true))), none⟩])
  (.seq (.reg [] [⟨some 6, some (.assign (.const (.slice none 0 0))), none⟩])
  (.seq (.seq (.reg [] [⟨some 28, some (.move (.tmp 1)), none⟩,
    ⟨some 7, some (.assign (.tmp 28)), none⟩])
  (.block 0 (.loop l_plait_plaitref3_Graph_Cone_0)))
  (.seq (.reg [] [⟨some 9, some (.assign (.const (.slice none 0 0))), none⟩])
  (.seq (.seq (.reg [] [⟨some 62, some (.move (.tmp 6)), none⟩,
    ⟨some 63, some (.call ⟨(.builtin .len), #[(.tmp 62)], #[T_s_int]⟩), none⟩,
    ⟨some 64, some (.binOp .sub T_int (.tmp 63) (.const (.int .i64 1)) T_int), none⟩,
    ⟨some 10, some (.assign (.tmp 64)), none⟩])
  (.block 2 (.loop l_plait_plaitref3_Graph_Cone_1)))
  (.seq (.reg [] [⟨some 76, some (.move (.tmp 9)), none⟩,
    ⟨some 4, some (.assign (.tmp 76)), none⟩])
  .ret)))))))))
theorem e_plait_plaitref3_Graph_Cone {a0 a1 : AV} {H : AHeap} : R f_plait_plaitref3_Graph_Cone [a0, a1] H = fnK Go.Proofs.Try.prog [0] H [(.tmp 4)] (evalL Go.Proofs.Try.prog KT R c_plait_plaitref3_Graph_Cone (Env.args [a0, a1] 0) H) :=
  runs_body (D := DT) (f := f_plait_plaitref3_Graph_Cone) Go.Proofs.Try.func60 (by kernel_rfl) (by kernel_rfl) (by kernel_rfl) (by kernel_rfl) (by kernel_rfl) (Nat.le_of_ble_eq_true rfl)

def c_plait_term_Graph_Var : LCode := (.seq (.reg [] [⟨some 4, some (.assign (.const (.int .i64 0))), none⟩,
    ⟨some 5, some (.assign (.const (.bool false))), none⟩])
  (.seq (.reg [] [⟨some 9, some (.move (.tmp 0)), none⟩,
    ⟨some 10, some (.nilCheck (.tmp 9)), none⟩,
    ⟨some 11, some (.fieldAddr T_term_Graph (.tmp 10) 3), none⟩,
    ⟨some 12, some (.load T_m_string_int (.tmp 11)), none⟩,
    ⟨some 13, some (.move (.tmp 1)), none⟩,
    ⟨some 14, some (.lookup T_m_string_int (.tmp 12) (.tmp 13) true), none⟩,
    ⟨some 8, some (.move (.tmp 14)), none⟩,
    ⟨some 15, some (.extract (.tmp 8) 0), none⟩,
    ⟨some 16, some (.extract (.tmp 8) 1), none⟩,
    ⟨some 6, some (.assign (.tmp 15)), none⟩,
    ⟨some 7, some (.assign (.tmp 16)), none⟩])
  (.seq (.reg [] [⟨some 17, some (.move (.tmp 6)), none⟩,
    ⟨some 18, some (.move (.tmp 7)), none⟩,
    ⟨some 4, some (.assign (.tmp 17)), none⟩,
    ⟨some 5, some (.assign (.tmp 18)), none⟩])
  .ret)))
theorem e_plait_term_Graph_Var {a0 a1 : AV} {H : AHeap} : R f_plait_term_Graph_Var [a0, a1] H = fnK Go.Proofs.Try.prog [] H [(.tmp 4), (.tmp 5)] (evalL Go.Proofs.Try.prog KT R c_plait_term_Graph_Var (Env.args [a0, a1] 0) H) :=
  runs_body (D := DT) (f := f_plait_term_Graph_Var) Go.Proofs.Try.func61 (by kernel_rfl) (by kernel_rfl) (by kernel_rfl) (by kernel_rfl) (by kernel_rfl) (Nat.le_of_ble_eq_true rfl)

def l_plait_plaitref3_Graph_Var_0 : LCode := (.seq (.seq (.reg [] [⟨some 7, some (.move (.tmp 6)), none⟩,
    ⟨some 8, some (.move (.tmp 0)), none⟩,
    ⟨some 9, some (.nilCheck (.tmp 8)), none⟩,
    ⟨some 10, some (.fieldAddr T_plaitref3_Graph (.tmp 9) 0), none⟩,
    ⟨some 11, some (.load T_s_api_Node (.tmp 10)), none⟩,
    ⟨some 12, some (.call ⟨(.builtin .len), #[(.tmp 11)], #[T_s_api_Node]⟩), none⟩,
    ⟨some 13, some (.binOp .lss T_int (.tmp 7) (.tmp 12) T_int), none⟩])
  (.cond (.tmp 13) .skip
  (.exit 0)))
  (.seq (.block 1 (.seq (.reg [] [⟨some 16, some (.move (.tmp 0)), none⟩,
    ⟨some 17, some (.nilCheck (.tmp 16)), none⟩,
    ⟨some 18, some (.fieldAddr T_plaitref3_Graph (.tmp 17) 0), none⟩,
    ⟨some 19, some (.load T_s_api_Node (.tmp 18)), none⟩,
    ⟨some 20, some (.move (.tmp 6)), none⟩,
    ⟨some 21, some (.indexAddr T_s_api_Node (.tmp 19) (.tmp 20)), none⟩,
    ⟨some 22, some (.fieldAddr T_api_Node (.tmp 21) 0), none⟩,
    ⟨some 23, some (.load T_int (.tmp 22)), none⟩,
    ⟨some 24, some (.binOp .eql T_int (.tmp 23) (.const (.int .i64 2)) T_int), none⟩,
    ⟨some 25, some (.move (.tmp 24)), none⟩,
    ⟨some 26, some (.move (.tmp 0)), some (some 25, true)⟩,
    ⟨some 27, some (.nilCheck (.tmp 26)), some (some 25, true)⟩,
    ⟨some 28, some (.fieldAddr T_plaitref3_Graph (.tmp 27) 0), some (some 25, true)⟩,
    ⟨some 29, some (.load T_s_api_Node (.tmp 28)), some (some 25, true)⟩,
    ⟨some 30, some (.move (.tmp 6)), some (some 25, true)⟩,
    ⟨some 31, some (.indexAddr T_s_api_Node (.tmp 29) (.tmp 30)), some (some 25, true)⟩,
    ⟨some 32, some (.fieldAddr T_api_Node (.tmp 31) 8), some (some 25, true)⟩,
    ⟨some 33, some (.load T_string (.tmp 32)), some (some 25, true)⟩,
    ⟨some 34, some (.move (.tmp 1)), some (some 25, true)⟩,
    ⟨some 35, some (.binOp .eql T_string (.tmp 33) (.tmp 34) T_string), some (some 25, true)⟩,
    ⟨some 36, some (.pick (.tmp 25) (.tmp 35) (.const (.bool false))), none⟩])
  (.cond (.tmp 36) (.seq (.reg [] [⟨some 37, some (.move (.tmp 6)), none⟩,
    ⟨some 38, some (.binOp .add T_int (.tmp 37) (.const (.int .i64 1)) T_int), none⟩,
    ⟨some 4, some (.assign (.tmp 38)), none⟩,
    ⟨some 5, some (.assign (.const (.bool true))), none⟩])
  .ret)
  .skip)))
  (.reg [] [⟨some 14, some (.move (.tmp 6)), none⟩,
    ⟨some 15, some (.binOp .add T_int (.tmp 14) (.const (.int .i64 1)) T_int), none⟩,
    ⟨some 6, some (.assign (.tmp 15)), none⟩])))
@[simp] theorem d_l_plait_plaitref3_Graph_Var_0 : defs l_plait_plaitref3_Graph_Var_0 = [7, 8, 9, 10, 11, 12, 13, 16, 17, 18, 19, 20, 21, 22, 23, 24, 25, 26, 27, 28, 29, 30, 31, 32, 33, 34, 35, 36, 37, 38, 4, 5, 14, 15, 6] := by rfl
def c_plait_plaitref3_Graph_Var : LCode := (.seq (.reg [] [⟨some 4, some (.assign (.const (.int .i64 0))), none⟩,
    ⟨some 5, some (.assign (.const (.bool false))), none⟩])
  (.seq (.seq (.reg [] [⟨some 6, some (.assign (.const (.int .i64 0))), none⟩])
  (.block 0 (.loop l_plait_plaitref3_Graph_Var_0)))
  (.seq (.reg [] [⟨some 4, some (.assign (.const (.int .i64 0))), none⟩,
    ⟨some 5, some (.assign (.const (.bool false))), none⟩])
  .ret)))
theorem e_plait_plaitref3_Graph_Var {a0 a1 : AV} {H : AHeap} : R f_plait_plaitref3_Graph_Var [a0, a1] H = fnK Go.Proofs.Try.prog [] H [(.tmp 4), (.tmp 5)] (evalL Go.Proofs.Try.prog KT R c_plait_plaitref3_Graph_Var (Env.args [a0, a1] 0) H) :=
  runs_body (D := DT) (f := f_plait_plaitref3_Graph_Var) Go.Proofs.Try.func62 (by kernel_rfl) (by kernel_rfl) (by kernel_rfl) (by kernel_rfl) (by kernel_rfl) (Nat.le_of_ble_eq_true rfl)

def l_plait_term_Graph_Vars_0 : LCode := (.seq (.reg [] [⟨some 12, some (.binOp .lss T_int (.tmp 11) (.tmp 10) T_int), none⟩])
  (.seq (.cond (.tmp 12) .skip
  (.exit 0))
  (.seq (.block 1 (.seq (.reg [] [⟨some 13, some (.move (.tmp 11)), none⟩,
    ⟨some 14, some (.indexAddr T_s_api_Node (.tmp 9) (.tmp 11)), none⟩,
    ⟨some 15, some (.load T_api_Node (.tmp 14)), none⟩,
    ⟨some 5, some (.alloc T_api_Node), none⟩,
    ⟨some 4, some (.assign (.tmp 13)), none⟩,
    ⟨none, some (.store T_api_Node (.tmp 5) (.tmp 15)), none⟩])
  (.seq (.reg [] [⟨some 16, some (.fieldAddr T_api_Node (.tmp 5) 0), none⟩,
    ⟨some 17, some (.load T_int (.tmp 16)), none⟩,
    ⟨some 18, some (.binOp .eql T_int (.tmp 17) (.const (.int .i64 2)) T_int), none⟩])
  (.cond (.tmp 18) (.reg [] [⟨some 19, some (.move (.tmp 3)), none⟩,
    ⟨some 20, some (.move (.tmp 4)), none⟩,
    ⟨some 21, some (.binOp .add T_int (.tmp 20) (.const (.int .i64 1)) T_int), none⟩,
    ⟨some 22, some (.buildSlice T_s_int 1 #[(0, (.tmp 21))]), none⟩,
    ⟨some 23, some (.call ⟨(.builtin .append), #[(.tmp 19), (.tmp 22)], #[T_s_int, T_s_int]⟩), none⟩,
    ⟨some 3, some (.assign (.tmp 23)), none⟩])
  .skip))))
  (.reg [] [⟨some 24, some (.binOp .add T_int (.tmp 11) (.const (.int .i64 1)) T_int), none⟩,
    ⟨some 11, some (.move (.tmp 24)), none⟩]))))
@[simp] theorem d_l_plait_term_Graph_Vars_0 : defs l_plait_term_Graph_Vars_0 = [12, 13, 14, 15, 5, 4, 16, 17, 18, 19, 20, 21, 22, 23, 3, 24, 11] := by rfl
def c_plait_term_Graph_Vars : LCode := (.seq (.reg [] [⟨some 2, some (.assign (.const (.slice none 0 0))), none⟩])
  (.seq (.reg [] [⟨some 3, some (.assign (.const (.slice none 0 0))), none⟩])
  (.seq (.seq (.reg [] [⟨some 6, some (.move (.tmp 0)), none⟩,
    ⟨some 7, some (.nilCheck (.tmp 6)), none⟩,
    ⟨some 8, some (.fieldAddr T_term_Graph (.tmp 7) 1), none⟩,
    ⟨some 9, some (.load T_s_api_Node (.tmp 8)), none⟩,
    ⟨some 10, some (.call ⟨(.builtin .len), #[(.tmp 9)], #[T_s_api_Node]⟩), none⟩,
    ⟨some 11, some (.move (.const (.int .i64 0))), none⟩])
  (.block 0 (.loop l_plait_term_Graph_Vars_0)))
  (.seq (.reg [] [⟨some 25, some (.move (.tmp 3)), none⟩,
    ⟨some 2, some (.assign (.tmp 25)), none⟩])
  .ret))))
theorem e_plait_term_Graph_Vars {a0 : AV} {H : AHeap} : R f_plait_term_Graph_Vars [a0] H = fnK Go.Proofs.Try.prog [0] H [(.tmp 2)] (evalL Go.Proofs.Try.prog KT R c_plait_term_Graph_Vars (Env.args [a0] 0) H) :=
  runs_body (D := DT) (f := f_plait_term_Graph_Vars) Go.Proofs.Try.func63 (by kernel_rfl) (by kernel_rfl) (by kernel_rfl) (by kernel_rfl) (by kernel_rfl) (Nat.le_of_ble_eq_true rfl)

def l_plait_plaitref3_Graph_Vars_0 : LCode := (.seq (.seq (.reg [] [⟨some 5, some (.move (.tmp 4)), none⟩,
    ⟨some 6, some (.move (.tmp 0)), none⟩,
    ⟨some 7, some (.nilCheck (.tmp 6)), none⟩,
    ⟨some 8, some (.fieldAddr T_plaitref3_Graph (.tmp 7) 0), none⟩,
    ⟨some 9, some (.load T_s_api_Node (.tmp 8)), none⟩,
    ⟨some 10, some (.call ⟨(.builtin .len), #[(.tmp 9)], #[T_s_api_Node]⟩), none⟩,
    ⟨some 11, some (.binOp .lss T_int (.tmp 5) (.tmp 10) T_int), none⟩])
  (.cond (.tmp 11) .skip
  (.exit 0)))
  (.seq (.block 1 (.seq (.reg [] [⟨some 14, some (.move (.tmp 0)), none⟩,
    ⟨some 15, some (.nilCheck (.tmp 14)), none⟩,
    ⟨some 16, some (.fieldAddr T_plaitref3_Graph (.tmp 15) 0), none⟩,
    ⟨some 17, some (.load T_s_api_Node (.tmp 16)), none⟩,
    ⟨some 18, some (.move (.tmp 4)), none⟩,
    ⟨some 19, some (.indexAddr T_s_api_Node (.tmp 17) (.tmp 18)), none⟩,
    ⟨some 20, some (.fieldAddr T_api_Node (.tmp 19) 0), none⟩,
    ⟨some 21, some (.load T_int (.tmp 20)), none⟩,
    ⟨some 22, some (.binOp .eql T_int (.tmp 21) (.const (.int .i64 2)) T_int), none⟩])
  (.cond (.tmp 22) (.reg [] [⟨some 23, some (.move (.tmp 3)), none⟩,
    ⟨some 24, some (.move (.tmp 4)), none⟩,
    ⟨some 25, some (.binOp .add T_int (.tmp 24) (.const (.int .i64 1)) T_int), none⟩,
    ⟨some 26, some (.buildSlice T_s_int 1 #[(0, (.tmp 25))]), none⟩,
    ⟨some 27, some (.call ⟨(.builtin .append), #[(.tmp 23), (.tmp 26)], #[T_s_int, T_s_int]⟩), none⟩,
    ⟨some 3, some (.assign (.tmp 27)), none⟩])
  .skip)))
  (.reg [] [⟨some 12, some (.move (.tmp 4)), none⟩,
    ⟨some 13, some (.binOp .add T_int (.tmp 12) (.const (.int .i64 1)) T_int), none⟩,
    ⟨some 4, some (.assign (.tmp 13)), none⟩])))
@[simp] theorem d_l_plait_plaitref3_Graph_Vars_0 : defs l_plait_plaitref3_Graph_Vars_0 = [5, 6, 7, 8, 9, 10, 11, 14, 15, 16, 17, 18, 19, 20, 21, 22, 23, 24, 25, 26, 27, 3, 12, 13, 4] := by rfl
def c_plait_plaitref3_Graph_Vars : LCode := (.seq (.reg [] [⟨some 2, some (.assign (.const (.slice none 0 0))), none⟩])
  (.seq (.reg [] [⟨some 3, some (.assign (.const (.slice none 0 0))), none⟩])
  (.seq (.seq (.reg [] [⟨some 4, some (.assign (.const (.int .i64 0))), none⟩])
  (.block 0 (.loop l_plait_plaitref3_Graph_Vars_0)))
  (.seq (.reg [] [⟨some 28, some (.move (.tmp 3)), none⟩,
    ⟨some 2, some (.assign (.tmp 28)), none⟩])
  .ret))))
theorem e_plait_plaitref3_Graph_Vars {a0 : AV} {H : AHeap} : R f_plait_plaitref3_Graph_Vars [a0] H = fnK Go.Proofs.Try.prog [0] H [(.tmp 2)] (evalL Go.Proofs.Try.prog KT R c_plait_plaitref3_Graph_Vars (Env.args [a0] 0) H) :=
  runs_body (D := DT) (f := f_plait_plaitref3_Graph_Vars) Go.Proofs.Try.func64 (by kernel_rfl) (by kernel_rfl) (by kernel_rfl) (by kernel_rfl) (by kernel_rfl) (Nat.le_of_ble_eq_true rfl)

def c_term_Sort : LCode := (.seq (.reg [] [⟨some 8, some (.assign (.const (.int .i64 0))), none⟩,
    ⟨some 9, some (.assign (.const (.int .i64 0))), none⟩])
  (.seq (.reg [] [⟨some 13, some (.move (.tmp 0)), none⟩,
    ⟨some 14, some (.call ⟨(.value (.func f_term_Arity)), #[(.tmp 13)], #[T_int]⟩), none⟩,
    ⟨some 10, some (.assign (.tmp 14)), none⟩])
  (.seq (.seq (.reg [] [⟨some 15, some (.move (.tmp 10)), none⟩,
    ⟨some 16, some (.binOp .lss T_int (.tmp 15) (.const (.int .i64 1)) T_int), none⟩])
  (.cond (.tmp 16) (.seq (.reg [] [⟨some 8, some (.assign (.const (.int .i64 0))), none⟩,
    ⟨some 9, some (.assign (.const (.int .i64 32))), none⟩])
  .ret)
  .skip))
  (.seq (.seq (.reg [] [⟨some 17, some (.move (.tmp 3)), none⟩,
    ⟨some 18, some (.call ⟨(.builtin .len), #[(.tmp 17)], #[T_s_int]⟩), none⟩,
    ⟨some 19, some (.move (.tmp 10)), none⟩,
    ⟨some 20, some (.binOp .neq T_int (.tmp 18) (.tmp 19) T_int), none⟩,
    ⟨some 21, some (.move (.tmp 20)), none⟩,
    ⟨some 22, some (.move (.tmp 3)), some (some 21, false)⟩,
    ⟨some 23, some (.call ⟨(.value (.func f_slices_ContainsFunc_int_int)), #[(.tmp 22), (.func f_term_Sort_1)], #[T_s_int, T_x30]⟩), some (some 21, false)⟩,
    ⟨some 24, some (.pick (.tmp 21) (.const (.bool true)) (.tmp 23)), none⟩])
  (.cond (.tmp 24) (.seq (.reg [] [⟨some 8, some (.assign (.const (.int .i64 0))), none⟩,
    ⟨some 9, some (.assign (.const (.int .i64 30))), none⟩])
  .ret)
  .skip))
  (.seq (.reg [] [⟨some 26, some (.move (.tmp 0)), none⟩,
    ⟨some 27, some (.move (.tmp 1)), none⟩,
    ⟨some 28, some (.move (.tmp 2)), none⟩,
    ⟨some 29, some (.move (.tmp 3)), none⟩,
    ⟨some 30, some (.call ⟨(.value (.func f_term_told)), #[(.tmp 26), (.tmp 27), (.tmp 28), (.tmp 29)], #[T_int, T_int, T_int, T_s_int]⟩), none⟩,
    ⟨some 25, some (.move (.tmp 30)), none⟩,
    ⟨some 31, some (.extract (.tmp 25) 0), none⟩,
    ⟨some 32, some (.extract (.tmp 25) 1), none⟩,
    ⟨some 11, some (.assign (.tmp 31)), none⟩,
    ⟨some 12, some (.assign (.tmp 32)), none⟩])
  (.seq (.block 0 (.seq (.reg [] [⟨some 34, some (.move (.tmp 12)), none⟩,
    ⟨some 35, some (.unOp .not T_bool (.tmp 34)), none⟩,
    ⟨some 33, some (.assign (.tmp 35)), none⟩])
  (.cond (.tmp 33) (.seq (.reg [] [⟨some 8, some (.assign (.const (.int .i64 0))), none⟩,
    ⟨some 9, some (.assign (.const (.int .i64 30))), none⟩])
  .ret)
  (.seq (.reg [] [⟨some 37, some (.move (.tmp 11)), none⟩,
    ⟨some 38, some (.binOp .gtr T_int (.tmp 37) (.const (.int .i64 128)) T_int), none⟩,
    ⟨some 36, some (.assign (.tmp 38)), none⟩])
  (.cond (.tmp 36) (.seq (.reg [] [⟨some 8, some (.assign (.const (.int .i64 0))), none⟩,
    ⟨some 9, some (.assign (.const (.int .i64 31))), none⟩])
  .ret)
  .skip)))))
  (.seq (.reg [] [⟨some 39, some (.move (.tmp 11)), none⟩,
    ⟨some 8, some (.assign (.tmp 39)), none⟩,
    ⟨some 9, some (.assign (.const (.int .i64 0))), none⟩])
  .ret)))))))
theorem e_term_Sort {a0 a1 a2 a3 : AV} {H : AHeap} : R f_term_Sort [a0, a1, a2, a3] H = fnK Go.Proofs.Try.prog [] H [(.tmp 8), (.tmp 9)] (evalL Go.Proofs.Try.prog KT R c_term_Sort (Env.args [a0, a1, a2, a3] 0) H) :=
  runs_body (D := DT) (f := f_term_Sort) Go.Proofs.Try.func65 (by kernel_rfl) (by kernel_rfl) (by kernel_rfl) (by kernel_rfl) (by kernel_rfl) (Nat.le_of_ble_eq_true rfl)

def l_plaitref3_Sort_0 : LCode := (.seq (.seq (.reg [] [⟨some 20, some (.move (.tmp 11)), none⟩,
    ⟨some 21, some (.move (.tmp 10)), none⟩,
    ⟨some 22, some (.binOp .lss T_int (.tmp 20) (.tmp 21) T_int), none⟩])
  (.cond (.tmp 22) .skip
  (.exit 0)))
  (.seq (.block 1 (.seq (.reg [] [⟨some 25, some (.move (.tmp 3)), none⟩,
    ⟨some 26, some (.move (.tmp 11)), none⟩,
    ⟨some 27, some (.indexAddr T_s_int (.tmp 25) (.tmp 26)), none⟩,
    ⟨some 28, some (.load T_int (.tmp 27)), none⟩,
    ⟨some 29, some (.call ⟨(.value (.func f_plaitref3_Is)), #[(.tmp 28)], #[T_int]⟩), none⟩,
    ⟨some 30, some (.unOp .not T_bool (.tmp 29)), none⟩])
  (.cond (.tmp 30) (.seq (.reg [] [⟨some 8, some (.assign (.const (.int .i64 0))), none⟩,
    ⟨some 9, some (.assign (.const (.int .i64 30))), none⟩])
  .ret)
  .skip)))
  (.reg [] [⟨some 23, some (.move (.tmp 11)), none⟩,
    ⟨some 24, some (.binOp .add T_int (.tmp 23) (.const (.int .i64 1)) T_int), none⟩,
    ⟨some 11, some (.assign (.tmp 24)), none⟩])))
@[simp] theorem d_l_plaitref3_Sort_0 : defs l_plaitref3_Sort_0 = [20, 21, 22, 25, 26, 27, 28, 29, 30, 8, 9, 23, 24, 11] := by rfl
def c_plaitref3_Sort : LCode := (.seq (.reg [] [⟨some 8, some (.assign (.const (.int .i64 0))), none⟩,
    ⟨some 9, some (.assign (.const (.int .i64 0))), none⟩])
  (.seq (.reg [] [⟨some 12, some (.move (.tmp 0)), none⟩,
    ⟨some 13, some (.call ⟨(.value (.func f_plaitref3_Arity)), #[(.tmp 12)], #[T_int]⟩), none⟩,
    ⟨some 10, some (.assign (.tmp 13)), none⟩])
  (.seq (.seq (.reg [] [⟨some 14, some (.move (.tmp 10)), none⟩,
    ⟨some 15, some (.binOp .lss T_int (.tmp 14) (.const (.int .i64 1)) T_int), none⟩])
  (.cond (.tmp 15) (.seq (.reg [] [⟨some 8, some (.assign (.const (.int .i64 0))), none⟩,
    ⟨some 9, some (.assign (.const (.int .i64 32))), none⟩])
  .ret)
  .skip))
  (.seq (.seq (.reg [] [⟨some 16, some (.move (.tmp 3)), none⟩,
    ⟨some 17, some (.call ⟨(.builtin .len), #[(.tmp 16)], #[T_s_int]⟩), none⟩,
    ⟨some 18, some (.move (.tmp 10)), none⟩,
    ⟨some 19, some (.binOp .neq T_int (.tmp 17) (.tmp 18) T_int), none⟩])
  (.cond (.tmp 19) (.seq (.reg [] [⟨some 8, some (.assign (.const (.int .i64 0))), none⟩,
    ⟨some 9, some (.assign (.const (.int .i64 30))), none⟩])
  .ret)
  .skip))
  (.seq (.seq (.reg [] [⟨some 11, some (.assign (.const (.int .i64 0))), none⟩])
  (.block 0 (.loop l_plaitref3_Sort_0)))
  (.seq (.seq (.reg [] [⟨some 31, some (.move (.tmp 0)), none⟩,
    ⟨some 32, some (.binOp .geq T_int (.tmp 31) (.const (.int .i64 39)) T_int), none⟩])
  (.cond (.tmp 32) (.seq (.reg [] [⟨some 33, some (.move (.tmp 0)), none⟩,
    ⟨some 34, some (.move (.tmp 1)), none⟩,
    ⟨some 35, some (.move (.tmp 2)), none⟩,
    ⟨some 36, some (.move (.tmp 3)), none⟩,
    ⟨some 37, some (.indexAddr T_s_int (.tmp 36) (.const (.int .i64 0))), none⟩,
    ⟨some 38, some (.load T_int (.tmp 37)), none⟩,
    ⟨some 39, some (.call ⟨(.value (.func f_plaitref3_numbered)), #[(.tmp 33), (.tmp 34), (.tmp 35), (.tmp 38)], #[T_int, T_int, T_int, T_int]⟩), none⟩,
    ⟨some 40, some (.extract (.tmp 39) 0), none⟩,
    ⟨some 41, some (.extract (.tmp 39) 1), none⟩,
    ⟨some 8, some (.assign (.tmp 40)), none⟩,
    ⟨some 9, some (.assign (.tmp 41)), none⟩])
  .ret)
  .skip))
  (.seq (.seq (.reg [] [⟨some 42, some (.move (.tmp 1)), none⟩,
    ⟨some 43, some (.binOp .neq T_int (.tmp 42) (.const (.int .i64 0)) T_int), none⟩,
    ⟨some 44, some (.move (.tmp 43)), none⟩,
    ⟨some 45, some (.move (.tmp 2)), some (some 44, false)⟩,
    ⟨some 46, some (.binOp .neq T_int (.tmp 45) (.const (.int .i64 0)) T_int), some (some 44, false)⟩,
    ⟨some 47, some (.pick (.tmp 44) (.const (.bool true)) (.tmp 46)), none⟩])
  (.cond (.tmp 47) (.seq (.reg [] [⟨some 8, some (.assign (.const (.int .i64 0))), none⟩,
    ⟨some 9, some (.assign (.const (.int .i64 30))), none⟩])
  .ret)
  .skip))
  (.seq (.block 2 (.seq (.reg [] [⟨some 49, some (.move (.tmp 0)), none⟩,
    ⟨some 50, some (.binOp .geq T_int (.tmp 49) (.const (.int .i64 3)) T_int), none⟩,
    ⟨some 51, some (.move (.tmp 50)), none⟩,
    ⟨some 52, some (.move (.tmp 0)), some (some 51, true)⟩,
    ⟨some 53, some (.binOp .leq T_int (.tmp 52) (.const (.int .i64 7)) T_int), some (some 51, true)⟩,
    ⟨some 54, some (.pick (.tmp 51) (.tmp 53) (.const (.bool false))), none⟩,
    ⟨some 48, some (.assign (.tmp 54)), none⟩])
  (.cond (.tmp 48) (.seq (.seq (.reg [] [⟨some 55, some (.move (.tmp 3)), none⟩,
    ⟨some 56, some (.call ⟨(.value (.func f_plaitref3_alike)), #[(.tmp 55)], #[T_s_int]⟩), none⟩,
    ⟨some 57, some (.unOp .not T_bool (.tmp 56)), none⟩,
    ⟨some 58, some (.move (.tmp 57)), none⟩,
    ⟨some 59, some (.move (.tmp 3)), some (some 58, false)⟩,
    ⟨some 60, some (.indexAddr T_s_int (.tmp 59) (.const (.int .i64 0))), some (some 58, false)⟩,
    ⟨some 61, some (.load T_int (.tmp 60)), some (some 58, false)⟩,
    ⟨some 62, some (.binOp .neq T_int (.tmp 61) (.const (.int .i64 0)) T_int), some (some 58, false)⟩,
    ⟨some 63, some (.pick (.tmp 58) (.const (.bool true)) (.tmp 62)), none⟩])
  (.cond (.tmp 63) (.seq (.reg [] [⟨some 8, some (.assign (.const (.int .i64 0))), none⟩,
    ⟨some 9, some (.assign (.const (.int .i64 30))), none⟩])
  .ret)
  .skip))
  (.seq (.reg [] [⟨some 8, some (.assign (.const (.int .i64 0))), none⟩,
    ⟨some 9, some (.assign (.const (.int .i64 0))), none⟩])
  .ret))
  (.seq (.reg [] [⟨some 65, some (.move (.tmp 0)), none⟩,
    ⟨some 66, some (.binOp .eql T_int (.tmp 65) (.const (.int .i64 8)) T_int), none⟩,
    ⟨some 64, some (.assign (.tmp 66)), none⟩])
  (.cond (.tmp 64) (.seq (.seq (.reg [] [⟨some 67, some (.move (.tmp 3)), none⟩,
    ⟨some 68, some (.call ⟨(.value (.func f_plaitref3_alike)), #[(.tmp 67)], #[T_s_int]⟩), none⟩,
    ⟨some 69, some (.unOp .not T_bool (.tmp 68)), none⟩])
  (.cond (.tmp 69) (.seq (.reg [] [⟨some 8, some (.assign (.const (.int .i64 0))), none⟩,
    ⟨some 9, some (.assign (.const (.int .i64 30))), none⟩])
  .ret)
  .skip))
  (.seq (.reg [] [⟨some 8, some (.assign (.const (.int .i64 0))), none⟩,
    ⟨some 9, some (.assign (.const (.int .i64 0))), none⟩])
  .ret))
  (.seq (.reg [] [⟨some 71, some (.move (.tmp 0)), none⟩,
    ⟨some 72, some (.binOp .eql T_int (.tmp 71) (.const (.int .i64 9)) T_int), none⟩,
    ⟨some 70, some (.assign (.tmp 72)), none⟩])
  (.cond (.tmp 70) (.seq (.seq (.reg [] [⟨some 73, some (.move (.tmp 3)), none⟩,
    ⟨some 74, some (.indexAddr T_s_int (.tmp 73) (.const (.int .i64 0))), none⟩,
    ⟨some 75, some (.load T_int (.tmp 74)), none⟩,
    ⟨some 76, some (.binOp .neq T_int (.tmp 75) (.const (.int .i64 0)) T_int), none⟩,
    ⟨some 77, some (.move (.tmp 76)), none⟩,
    ⟨some 78, some (.move (.tmp 3)), some (some 77, false)⟩,
    ⟨some 79, some (.indexAddr T_s_int (.tmp 78) (.const (.int .i64 1))), some (some 77, false)⟩,
    ⟨some 80, some (.load T_int (.tmp 79)), some (some 77, false)⟩,
    ⟨some 81, some (.move (.tmp 3)), some (some 77, false)⟩,
    ⟨some 82, some (.indexAddr T_s_int (.tmp 81) (.const (.int .i64 2))), some (some 77, false)⟩,
    ⟨some 83, some (.load T_int (.tmp 82)), some (some 77, false)⟩,
    ⟨some 84, some (.binOp .neq T_int (.tmp 80) (.tmp 83) T_int), some (some 77, false)⟩,
    ⟨some 85, some (.pick (.tmp 77) (.const (.bool true)) (.tmp 84)), none⟩])
  (.cond (.tmp 85) (.seq (.reg [] [⟨some 8, some (.assign (.const (.int .i64 0))), none⟩,
    ⟨some 9, some (.assign (.const (.int .i64 30))), none⟩])
  .ret)
  .skip))
  (.seq (.reg [] [⟨some 86, some (.move (.tmp 3)), none⟩,
    ⟨some 87, some (.indexAddr T_s_int (.tmp 86) (.const (.int .i64 1))), none⟩,
    ⟨some 88, some (.load T_int (.tmp 87)), none⟩,
    ⟨some 8, some (.assign (.tmp 88)), none⟩,
    ⟨some 9, some (.assign (.const (.int .i64 0))), none⟩])
  .ret))
  (.seq (.reg [] [⟨some 90, some (.move (.tmp 0)), none⟩,
    ⟨some 91, some (.binOp .eql T_int (.tmp 90) (.const (.int .i64 38)) T_int), none⟩,
    ⟨some 89, some (.assign (.tmp 91)), none⟩])
  (.cond (.tmp 89) (.seq (.seq (.reg [] [⟨some 92, some (.move (.tmp 3)), none⟩,
    ⟨some 93, some (.indexAddr T_s_int (.tmp 92) (.const (.int .i64 0))), none⟩,
    ⟨some 94, some (.load T_int (.tmp 93)), none⟩,
    ⟨some 95, some (.binOp .eql T_int (.tmp 94) (.const (.int .i64 0)) T_int), none⟩,
    ⟨some 96, some (.move (.tmp 95)), none⟩,
    ⟨some 97, some (.move (.tmp 3)), some (some 96, false)⟩,
    ⟨some 98, some (.indexAddr T_s_int (.tmp 97) (.const (.int .i64 1))), some (some 96, false)⟩,
    ⟨some 99, some (.load T_int (.tmp 98)), some (some 96, false)⟩,
    ⟨some 100, some (.binOp .eql T_int (.tmp 99) (.const (.int .i64 0)) T_int), some (some 96, false)⟩,
    ⟨some 101, some (.pick (.tmp 96) (.const (.bool true)) (.tmp 100)), none⟩])
  (.cond (.tmp 101) (.seq (.reg [] [⟨some 8, some (.assign (.const (.int .i64 0))), none⟩,
    ⟨some 9, some (.assign (.const (.int .i64 30))), none⟩])
  .ret)
  .skip))
  (.seq (.reg [] [⟨some 102, some (.move (.tmp 3)), none⟩,
    ⟨some 103, some (.indexAddr T_s_int (.tmp 102) (.const (.int .i64 0))), none⟩,
    ⟨some 104, some (.load T_int (.tmp 103)), none⟩,
    ⟨some 105, some (.move (.tmp 3)), none⟩,
    ⟨some 106, some (.indexAddr T_s_int (.tmp 105) (.const (.int .i64 1))), none⟩,
    ⟨some 107, some (.load T_int (.tmp 106)), none⟩,
    ⟨some 108, some (.binOp .add T_int (.tmp 104) (.tmp 107) T_int), none⟩,
    ⟨some 109, some (.call ⟨(.value (.func f_plaitref3_wide)), #[(.tmp 108)], #[T_int]⟩), none⟩,
    ⟨some 110, some (.extract (.tmp 109) 0), none⟩,
    ⟨some 111, some (.extract (.tmp 109) 1), none⟩,
    ⟨some 8, some (.assign (.tmp 110)), none⟩,
    ⟨some 9, some (.assign (.tmp 111)), none⟩])
  .ret))
  .skip)))))))))
  (.seq (.seq (.reg [] [⟨some 112, some (.move (.tmp 3)), none⟩,
    ⟨some 113, some (.call ⟨(.value (.func f_plaitref3_alike)), #[(.tmp 112)], #[T_s_int]⟩), none⟩,
    ⟨some 114, some (.unOp .not T_bool (.tmp 113)), none⟩,
    ⟨some 115, some (.move (.tmp 114)), none⟩,
    ⟨some 116, some (.move (.tmp 3)), some (some 115, false)⟩,
    ⟨some 117, some (.indexAddr T_s_int (.tmp 116) (.const (.int .i64 0))), some (some 115, false)⟩,
    ⟨some 118, some (.load T_int (.tmp 117)), some (some 115, false)⟩,
    ⟨some 119, some (.binOp .eql T_int (.tmp 118) (.const (.int .i64 0)) T_int), some (some 115, false)⟩,
    ⟨some 120, some (.pick (.tmp 115) (.const (.bool true)) (.tmp 119)), none⟩])
  (.cond (.tmp 120) (.seq (.reg [] [⟨some 8, some (.assign (.const (.int .i64 0))), none⟩,
    ⟨some 9, some (.assign (.const (.int .i64 30))), none⟩])
  .ret)
  .skip))
  (.seq (.seq (.reg [] [⟨some 121, some (.move (.tmp 0)), none⟩,
    ⟨some 122, some (.binOp .geq T_int (.tmp 121) (.const (.int .i64 10)) T_int), none⟩,
    ⟨some 123, some (.move (.tmp 122)), none⟩,
    ⟨some 124, some (.move (.tmp 0)), some (some 123, true)⟩,
    ⟨some 125, some (.binOp .leq T_int (.tmp 124) (.const (.int .i64 28)) T_int), some (some 123, true)⟩,
    ⟨some 126, some (.pick (.tmp 123) (.tmp 125) (.const (.bool false))), none⟩])
  (.cond (.tmp 126) (.seq (.reg [] [⟨some 127, some (.move (.tmp 3)), none⟩,
    ⟨some 128, some (.indexAddr T_s_int (.tmp 127) (.const (.int .i64 0))), none⟩,
    ⟨some 129, some (.load T_int (.tmp 128)), none⟩,
    ⟨some 8, some (.assign (.tmp 129)), none⟩,
    ⟨some 9, some (.assign (.const (.int .i64 0))), none⟩])
  .ret)
  .skip))
  (.seq (.seq (.reg [] [⟨some 130, some (.move (.tmp 0)), none⟩,
    ⟨some 131, some (.binOp .eql T_int (.tmp 130) (.const (.int .i64 37)) T_int), none⟩])
  (.cond (.tmp 131) (.seq (.reg [] [⟨some 8, some (.assign (.const (.int .i64 1))), none⟩,
    ⟨some 9, some (.assign (.const (.int .i64 0))), none⟩])
  .ret)
  .skip))
  (.seq (.reg [] [⟨some 8, some (.assign (.const (.int .i64 0))), none⟩,
    ⟨some 9, some (.assign (.const (.int .i64 0))), none⟩])
  .ret))))))))))))
theorem e_plaitref3_Sort {a0 a1 a2 a3 : AV} {H : AHeap} : R f_plaitref3_Sort [a0, a1, a2, a3] H = fnK Go.Proofs.Try.prog [] H [(.tmp 8), (.tmp 9)] (evalL Go.Proofs.Try.prog KT R c_plaitref3_Sort (Env.args [a0, a1, a2, a3] 0) H) :=
  runs_body (D := DT) (f := f_plaitref3_Sort) Go.Proofs.Try.func66 (by kernel_rfl) (by kernel_rfl) (by kernel_rfl) (by kernel_rfl) (by kernel_rfl) (Nat.le_of_ble_eq_true rfl)

def c_term_Arity : LCode := (.seq (.reg [] [⟨some 2, some (.assign (.const (.int .i64 0))), none⟩])
  (.seq (.block 0 (.seq (.reg [] [⟨some 4, some (.move (.tmp 0)), none⟩,
    ⟨some 5, some (.binOp .lss T_int (.tmp 4) (.const (.int .i64 1)) T_int), none⟩,
    ⟨some 6, some (.move (.tmp 5)), none⟩,
    ⟨some 7, some (.move (.tmp 0)), some (some 6, false)⟩,
    ⟨some 8, some (.binOp .gtr T_int (.tmp 7) (.const (.int .i64 44)) T_int), some (some 6, false)⟩,
    ⟨some 9, some (.pick (.tmp 6) (.const (.bool true)) (.tmp 8)), none⟩,
    ⟨some 3, some (.assign (.tmp 9)), none⟩])
  (.cond (.tmp 3) (.seq (.reg [] [⟨some 2, some (.assign (.const (.int .i64 (-1)))), none⟩])
  .ret)
  (.seq (.reg [] [⟨some 11, some (.move (.tmp 0)), none⟩,
    ⟨some 12, some (.binOp .leq T_int (.tmp 11) (.const (.int .i64 2)) T_int), none⟩,
    ⟨some 10, some (.assign (.tmp 12)), none⟩])
  (.cond (.tmp 10) (.seq (.reg [] [⟨some 2, some (.assign (.const (.int .i64 0))), none⟩])
  .ret)
  (.seq (.reg [] [⟨some 14, some (.move (.tmp 0)), none⟩,
    ⟨some 15, some (.binOp .eql T_int (.tmp 14) (.const (.int .i64 3)) T_int), none⟩,
    ⟨some 16, some (.move (.tmp 15)), none⟩,
    ⟨some 17, some (.move (.tmp 0)), some (some 16, false)⟩,
    ⟨some 18, some (.binOp .eql T_int (.tmp 17) (.const (.int .i64 10)) T_int), some (some 16, false)⟩,
    ⟨some 19, some (.pick (.tmp 16) (.const (.bool true)) (.tmp 18)), none⟩,
    ⟨some 20, some (.move (.tmp 19)), none⟩,
    ⟨some 21, some (.move (.tmp 0)), some (some 20, false)⟩,
    ⟨some 22, some (.binOp .eql T_int (.tmp 21) (.const (.int .i64 11)) T_int), some (some 20, false)⟩,
    ⟨some 23, some (.pick (.tmp 20) (.const (.bool true)) (.tmp 22)), none⟩,
    ⟨some 24, some (.move (.tmp 23)), none⟩,
    ⟨some 25, some (.move (.tmp 0)), some (some 24, false)⟩,
    ⟨some 26, some (.binOp .geq T_int (.tmp 25) (.const (.int .i64 39)) T_int), some (some 24, false)⟩,
    ⟨some 27, some (.pick (.tmp 24) (.const (.bool true)) (.tmp 26)), none⟩,
    ⟨some 13, some (.assign (.tmp 27)), none⟩])
  (.cond (.tmp 13) (.seq (.reg [] [⟨some 2, some (.assign (.const (.int .i64 1))), none⟩])
  .ret)
  (.seq (.reg [] [⟨some 29, some (.move (.tmp 0)), none⟩,
    ⟨some 30, some (.binOp .eql T_int (.tmp 29) (.const (.int .i64 9)) T_int), none⟩,
    ⟨some 28, some (.assign (.tmp 30)), none⟩])
  (.cond (.tmp 28) (.seq (.reg [] [⟨some 2, some (.assign (.const (.int .i64 3))), none⟩])
  .ret)
  .skip)))))))))
  (.seq (.reg [] [⟨some 2, some (.assign (.const (.int .i64 2))), none⟩])
  .ret)))
theorem e_term_Arity {a0 : AV} {H : AHeap} : R f_term_Arity [a0] H = fnK Go.Proofs.Try.prog [] H [(.tmp 2)] (evalL Go.Proofs.Try.prog KT R c_term_Arity (Env.args [a0] 0) H) :=
  runs_body (D := DT) (f := f_term_Arity) Go.Proofs.Try.func67 (by kernel_rfl) (by kernel_rfl) (by kernel_rfl) (by kernel_rfl) (by kernel_rfl) (Nat.le_of_ble_eq_true rfl)

def c_plaitref3_Arity : LCode := (.seq (.reg [] [⟨some 2, some (.assign (.const (.int .i64 0))), none⟩])
  (.seq (.seq (.reg [] [⟨some 3, some (.move (.tmp 0)), none⟩])
  (.block 0 (.seq (.seq (.reg [] [⟨some 5, some (.binOp .eql T_int (.tmp 3) (.const (.int .i64 1)) T_int), none⟩,
    ⟨some 4, some (.assign (.tmp 5)), none⟩])
  (.cond (.tmp 4) .skip
  (.reg [] [⟨some 6, some (.binOp .eql T_int (.tmp 3) (.const (.int .i64 2)) T_int), none⟩,
    ⟨some 4, some (.assign (.tmp 6)), none⟩])))
  (.cond (.tmp 4) (.seq (.reg [] [⟨some 2, some (.assign (.const (.int .i64 0))), none⟩])
  .ret)
  (.seq (.seq (.reg [] [⟨some 8, some (.binOp .eql T_int (.tmp 3) (.const (.int .i64 3)) T_int), none⟩,
    ⟨some 7, some (.assign (.tmp 8)), none⟩])
  (.cond (.tmp 7) .skip
  (.seq (.reg [] [⟨some 9, some (.binOp .eql T_int (.tmp 3) (.const (.int .i64 10)) T_int), none⟩,
    ⟨some 7, some (.assign (.tmp 9)), none⟩])
  (.cond (.tmp 7) .skip
  (.seq (.reg [] [⟨some 10, some (.binOp .eql T_int (.tmp 3) (.const (.int .i64 11)) T_int), none⟩,
    ⟨some 7, some (.assign (.tmp 10)), none⟩])
  (.cond (.tmp 7) .skip
  (.seq (.reg [] [⟨some 11, some (.binOp .eql T_int (.tmp 3) (.const (.int .i64 39)) T_int), none⟩,
    ⟨some 7, some (.assign (.tmp 11)), none⟩])
  (.cond (.tmp 7) .skip
  (.seq (.reg [] [⟨some 12, some (.binOp .eql T_int (.tmp 3) (.const (.int .i64 40)) T_int), none⟩,
    ⟨some 7, some (.assign (.tmp 12)), none⟩])
  (.cond (.tmp 7) .skip
  (.seq (.reg [] [⟨some 13, some (.binOp .eql T_int (.tmp 3) (.const (.int .i64 41)) T_int), none⟩,
    ⟨some 7, some (.assign (.tmp 13)), none⟩])
  (.cond (.tmp 7) .skip
  (.seq (.reg [] [⟨some 14, some (.binOp .eql T_int (.tmp 3) (.const (.int .i64 42)) T_int), none⟩,
    ⟨some 7, some (.assign (.tmp 14)), none⟩])
  (.cond (.tmp 7) .skip
  (.seq (.reg [] [⟨some 15, some (.binOp .eql T_int (.tmp 3) (.const (.int .i64 43)) T_int), none⟩,
    ⟨some 7, some (.assign (.tmp 15)), none⟩])
  (.cond (.tmp 7) .skip
  (.reg [] [⟨some 16, some (.binOp .eql T_int (.tmp 3) (.const (.int .i64 44)) T_int), none⟩,
    ⟨some 7, some (.assign (.tmp 16)), none⟩])))))))))))))))))
  (.cond (.tmp 7) (.seq (.reg [] [⟨some 2, some (.assign (.const (.int .i64 1))), none⟩])
  .ret)
  (.seq (.reg [] [⟨some 18, some (.binOp .eql T_int (.tmp 3) (.const (.int .i64 9)) T_int), none⟩,
    ⟨some 17, some (.assign (.tmp 18)), none⟩])
  (.cond (.tmp 17) (.seq (.reg [] [⟨some 2, some (.assign (.const (.int .i64 3))), none⟩])
  .ret)
  .skip))))))))
  (.seq (.seq (.reg [] [⟨some 19, some (.move (.tmp 0)), none⟩,
    ⟨some 20, some (.binOp .lss T_int (.tmp 19) (.const (.int .i64 1)) T_int), none⟩,
    ⟨some 21, some (.move (.tmp 20)), none⟩,
    ⟨some 22, some (.move (.tmp 0)), some (some 21, false)⟩,
    ⟨some 23, some (.binOp .gtr T_int (.tmp 22) (.const (.int .i64 44)) T_int), some (some 21, false)⟩,
    ⟨some 24, some (.pick (.tmp 21) (.const (.bool true)) (.tmp 23)), none⟩])
  (.cond (.tmp 24) (.seq (.reg [] [⟨some 2, some (.assign (.const (.int .i64 (-1)))), none⟩])
  .ret)
  .skip))
  (.seq (.reg [] [⟨some 2, some (.assign (.const (.int .i64 2))), none⟩])
  .ret))))
theorem e_plaitref3_Arity {a0 : AV} {H : AHeap} : R f_plaitref3_Arity [a0] H = fnK Go.Proofs.Try.prog [] H [(.tmp 2)] (evalL Go.Proofs.Try.prog KT R c_plaitref3_Arity (Env.args [a0] 0) H) :=
  runs_body (D := DT) (f := f_plaitref3_Arity) Go.Proofs.Try.func68 (by kernel_rfl) (by kernel_rfl) (by kernel_rfl) (by kernel_rfl) (by kernel_rfl) (Nat.le_of_ble_eq_true rfl)

def c_bv_Right : LCode := (.seq (.reg [] [⟨some 1, some (.box T_api_Bits (.tmp 0)), none⟩,
    ⟨some 2, some (.assign (.const (.bool false))), none⟩])
  (.seq (.seq (.reg [] [⟨some 3, some (.fieldAddr T_api_Bits (.tmp 1) 0), none⟩,
    ⟨some 4, some (.load T_int (.tmp 3)), none⟩,
    ⟨some 5, some (.binOp .eql T_int (.tmp 4) (.const (.int .i64 0)) T_int), none⟩])
  (.cond (.tmp 5) (.seq (.reg [] [⟨some 6, some (.fieldAddr T_api_Bits (.tmp 1) 1), none⟩,
    ⟨some 7, some (.load T_uint64 (.tmp 6)), none⟩,
    ⟨some 8, some (.binOp .leq T_uint64 (.tmp 7) (.const (.int .u64 1)) T_uint64), none⟩,
    ⟨some 9, some (.move (.tmp 8)), none⟩,
    ⟨some 10, some (.fieldAddr T_api_Bits (.tmp 1) 2), some (some 9, true)⟩,
    ⟨some 11, some (.load T_uint64 (.tmp 10)), some (some 9, true)⟩,
    ⟨some 12, some (.binOp .eql T_uint64 (.tmp 11) (.const (.int .u64 0)) T_uint64), some (some 9, true)⟩,
    ⟨some 13, some (.pick (.tmp 9) (.tmp 12) (.const (.bool false))), none⟩,
    ⟨some 2, some (.assign (.tmp 13)), none⟩])
  .ret)
  .skip))
  (.seq (.reg [12, 13] [⟨some 14, some (.fieldAddr T_api_Bits (.tmp 1) 0), none⟩,
    ⟨some 15, some (.load T_int (.tmp 14)), none⟩,
    ⟨some 16, some (.binOp .gtr T_int (.tmp 15) (.const (.int .i64 0)) T_int), none⟩,
    ⟨some 17, some (.move (.tmp 16)), none⟩,
    ⟨some 18, some (.fieldAddr T_api_Bits (.tmp 1) 0), some (some 17, true)⟩,
    ⟨some 19, some (.load T_int (.tmp 18)), some (some 17, true)⟩,
    ⟨some 20, some (.binOp .leq T_int (.tmp 19) (.const (.int .i64 128)) T_int), some (some 17, true)⟩,
    ⟨some 21, some (.pick (.tmp 17) (.tmp 20) (.const (.bool false))), none⟩,
    ⟨some 22, some (.move (.tmp 21)), none⟩,
    ⟨some 23, some (.fieldAddr T_api_Bits (.tmp 1) 0), some (some 22, true)⟩,
    ⟨some 24, some (.load T_int (.tmp 23)), some (some 22, true)⟩,
    ⟨some 25, some (.load T_api_Bits (.tmp 1)), some (some 22, true)⟩,
    ⟨some 26, some (.call ⟨(.value (.func f_bv_of)), #[(.tmp 25)], #[T_api_Bits]⟩), some (some 22, true)⟩,
    ⟨some 27, some (.call ⟨(.value (.func f_bv_cut)), #[(.tmp 24), (.tmp 26)], #[T_int, T_bv_number]⟩), some (some 22, true)⟩,
    ⟨some 28, some (.load T_api_Bits (.tmp 1)), some (some 22, true)⟩,
    ⟨some 29, some (.binOp .eql T_api_Bits (.tmp 27) (.tmp 28) T_api_Bits), some (some 22, true)⟩,
    ⟨some 30, some (.pick (.tmp 22) (.tmp 29) (.const (.bool false))), none⟩,
    ⟨some 2, some (.assign (.tmp 30)), none⟩])
  .ret)))
theorem e_bv_Right {a0 : AV} {H : AHeap} : R f_bv_Right [a0] H = fnK Go.Proofs.Try.prog [] H [(.tmp 2)] (evalL Go.Proofs.Try.prog KT R c_bv_Right (Env.args [a0] 0) H) :=
  runs_body (D := DT) (f := f_bv_Right) Go.Proofs.Try.func72 (by kernel_rfl) (by kernel_rfl) (by kernel_rfl) (by kernel_rfl) (by kernel_rfl) (Nat.le_of_ble_eq_true rfl)

def l_plaitref1_Bits_0 : LCode := (.seq (.seq (.reg [] [⟨some 8, some (.move (.tmp 4)), none⟩,
    ⟨some 9, some (.fieldAddr T_api_Bits (.tmp 1) 0), none⟩,
    ⟨some 10, some (.load T_int (.tmp 9)), none⟩,
    ⟨some 11, some (.binOp .lss T_int (.tmp 8) (.tmp 10) T_int), none⟩])
  (.cond (.tmp 11) .skip
  (.exit 0)))
  (.seq (.block 1 (.seq (.reg [] [⟨some 14, some (.move (.tmp 4)), none⟩,
    ⟨some 15, some (.binOp .lss T_int (.tmp 14) (.const (.int .i64 64)) T_int), none⟩])
  (.cond (.tmp 15) (.reg [] [⟨some 16, some (.move (.tmp 3)), none⟩,
    ⟨some 17, some (.move (.tmp 4)), none⟩,
    ⟨some 18, some (.fieldAddr T_api_Bits (.tmp 1) 1), none⟩,
    ⟨some 19, some (.load T_uint64 (.tmp 18)), none⟩,
    ⟨some 20, some (.move (.tmp 4)), none⟩,
    ⟨some 21, some (.binOp .shr T_uint64 (.tmp 19) (.tmp 20) T_int), none⟩,
    ⟨some 22, some (.binOp .and T_uint64 (.tmp 21) (.const (.int .u64 1)) T_uint64), none⟩,
    ⟨some 23, some (.binOp .eql T_uint64 (.tmp 22) (.const (.int .u64 1)) T_uint64), none⟩,
    ⟨some 24, some (.indexAddr T_s_bool (.tmp 16) (.tmp 17)), none⟩,
    ⟨none, some (.store T_bool (.tmp 24) (.tmp 23)), none⟩])
  (.reg [] [⟨some 25, some (.move (.tmp 3)), none⟩,
    ⟨some 26, some (.move (.tmp 4)), none⟩,
    ⟨some 27, some (.fieldAddr T_api_Bits (.tmp 1) 2), none⟩,
    ⟨some 28, some (.load T_uint64 (.tmp 27)), none⟩,
    ⟨some 29, some (.move (.tmp 4)), none⟩,
    ⟨some 30, some (.binOp .sub T_int (.tmp 29) (.const (.int .i64 64)) T_int), none⟩,
    ⟨some 31, some (.binOp .shr T_uint64 (.tmp 28) (.tmp 30) T_int), none⟩,
    ⟨some 32, some (.binOp .and T_uint64 (.tmp 31) (.const (.int .u64 1)) T_uint64), none⟩,
    ⟨some 33, some (.binOp .eql T_uint64 (.tmp 32) (.const (.int .u64 1)) T_uint64), none⟩,
    ⟨some 34, some (.indexAddr T_s_bool (.tmp 25) (.tmp 26)), none⟩,
    ⟨none, some (.store T_bool (.tmp 34) (.tmp 33)), none⟩]))))
  (.reg [] [⟨some 12, some (.move (.tmp 4)), none⟩,
    ⟨some 13, some (.binOp .add T_int (.tmp 12) (.const (.int .i64 1)) T_int), none⟩,
    ⟨some 4, some (.assign (.tmp 13)), none⟩])))
@[simp] theorem d_l_plaitref1_Bits_0 : defs l_plaitref1_Bits_0 = [8, 9, 10, 11, 14, 15, 16, 17, 18, 19, 20, 21, 22, 23, 24, 25, 26, 27, 28, 29, 30, 31, 32, 33, 34, 12, 13, 4] := by rfl
def c_plaitref1_Bits : LCode := (.seq (.reg [] [⟨some 1, some (.box T_api_Bits (.tmp 0)), none⟩,
    ⟨some 2, some (.assign (.const (.slice none 0 0))), none⟩])
  (.seq (.reg [] [⟨some 5, some (.fieldAddr T_api_Bits (.tmp 1) 0), none⟩,
    ⟨some 6, some (.load T_int (.tmp 5)), none⟩,
    ⟨some 7, some (.makeSlice T_s_bool (.tmp 6) (.tmp 6)), none⟩,
    ⟨some 3, some (.assign (.tmp 7)), none⟩])
  (.seq (.seq (.reg [] [⟨some 4, some (.assign (.const (.int .i64 0))), none⟩])
  (.block 0 (.loop l_plaitref1_Bits_0)))
  (.seq (.reg [] [⟨some 35, some (.move (.tmp 3)), none⟩,
    ⟨some 2, some (.assign (.tmp 35)), none⟩])
  .ret))))
theorem e_plaitref1_Bits {a0 : AV} {H : AHeap} : R f_plaitref1_Bits [a0] H = fnK Go.Proofs.Try.prog [] H [(.tmp 2)] (evalL Go.Proofs.Try.prog KT R c_plaitref1_Bits (Env.args [a0] 0) H) :=
  runs_body (D := DT) (f := f_plaitref1_Bits) Go.Proofs.Try.func73 (by kernel_rfl) (by kernel_rfl) (by kernel_rfl) (by kernel_rfl) (by kernel_rfl) (Nat.le_of_ble_eq_true rfl)

def l_plait_term_Graph_formed_0 : LCode := (.seq (.reg [] [⟨some 19, some (.binOp .lss T_int (.tmp 18) (.const (.int .i64 3)) T_int), none⟩])
  (.seq (.cond (.tmp 19) .skip
  (.exit 0))
  (.seq (.block 1 (.seq (.reg [] [⟨some 20, some (.move (.tmp 18)), none⟩,
    ⟨some 21, some (.index T_a3_int (.tmp 17) (.tmp 18)), none⟩,
    ⟨some 6, some (.assign (.tmp 20)), none⟩,
    ⟨some 7, some (.assign (.tmp 21)), none⟩])
  (.seq (.reg [] [⟨some 22, some (.move (.tmp 6)), none⟩,
    ⟨some 23, some (.move (.tmp 5)), none⟩,
    ⟨some 24, some (.binOp .lss T_int (.tmp 22) (.tmp 23) T_int), none⟩,
    ⟨some 25, some (.move (.tmp 24)), none⟩,
    ⟨some 26, some (.move (.tmp 7)), some (some 25, true)⟩,
    ⟨some 27, some (.binOp .lss T_int (.tmp 26) (.const (.int .i64 1)) T_int), some (some 25, true)⟩,
    ⟨some 28, some (.move (.tmp 27)), some (some 25, true)⟩,
    ⟨some 29, some (.move (.tmp 7)), some (some 28, false)⟩,
    ⟨some 30, some (.move (.tmp 0)), some (some 28, false)⟩,
    ⟨some 31, some (.nilCheck (.tmp 30)), some (some 28, false)⟩,
    ⟨some 32, some (.fieldAddr T_term_Graph (.tmp 31) 1), some (some 28, false)⟩,
    ⟨some 33, some (.load T_s_api_Node (.tmp 32)), some (some 28, false)⟩,
    ⟨some 34, some (.call ⟨(.builtin .len), #[(.tmp 33)], #[T_s_api_Node]⟩), some (some 28, false)⟩,
    ⟨some 35, some (.binOp .gtr T_int (.tmp 29) (.tmp 34) T_int), some (some 28, false)⟩,
    ⟨some 36, some (.pick (.tmp 28) (.const (.bool true)) (.tmp 35)), some (some 25, true)⟩,
    ⟨some 37, some (.pick (.tmp 25) (.tmp 36) (.const (.bool false))), none⟩,
    ⟨some 38, some (.move (.tmp 37)), none⟩,
    ⟨some 39, some (.move (.tmp 6)), some (some 38, false)⟩,
    ⟨some 40, some (.move (.tmp 5)), some (some 38, false)⟩,
    ⟨some 41, some (.binOp .geq T_int (.tmp 39) (.tmp 40) T_int), some (some 38, false)⟩,
    ⟨some 42, some (.move (.tmp 41)), some (some 38, false)⟩,
    ⟨some 43, some (.move (.tmp 7)), some (some 42, true)⟩,
    ⟨some 44, some (.binOp .neq T_int (.tmp 43) (.const (.int .i64 0)) T_int), some (some 42, true)⟩,
    ⟨some 45, some (.pick (.tmp 42) (.tmp 44) (.const (.bool false))), some (some 38, false)⟩,
    ⟨some 46, some (.pick (.tmp 38) (.const (.bool true)) (.tmp 45)), none⟩])
  (.cond (.tmp 46) (.seq (.reg [] [⟨some 4, some (.assign (.const (.bool false))), none⟩])
  .ret)
  .skip))))
  (.reg [] [⟨some 47, some (.binOp .add T_int (.tmp 18) (.const (.int .i64 1)) T_int), none⟩,
    ⟨some 18, some (.move (.tmp 47)), none⟩]))))
@[simp] theorem d_l_plait_term_Graph_formed_0 : defs l_plait_term_Graph_formed_0 = [19, 20, 21, 6, 7, 22, 23, 24, 25, 26, 27, 28, 29, 30, 31, 32, 33, 34, 35, 36, 37, 38, 39, 40, 41, 42, 43, 44, 45, 46, 4, 47, 18] := by rfl
def c_plait_term_Graph_formed : LCode := (.seq (.reg [] [⟨some 3, some (.box T_api_Node (.tmp 1)), none⟩,
    ⟨some 4, some (.assign (.const (.bool false))), none⟩])
  (.seq (.reg [] [⟨some 8, some (.fieldAddr T_api_Node (.tmp 3) 0), none⟩,
    ⟨some 9, some (.load T_int (.tmp 8)), none⟩,
    ⟨some 10, some (.call ⟨(.value (.func f_term_Arity)), #[(.tmp 9)], #[T_int]⟩), none⟩,
    ⟨some 5, some (.assign (.tmp 10)), none⟩])
  (.seq (.seq (.reg [] [⟨some 11, some (.fieldAddr T_api_Node (.tmp 3) 2), none⟩,
    ⟨some 12, some (.load T_int (.tmp 11)), none⟩,
    ⟨some 13, some (.fieldAddr T_api_Node (.tmp 3) 3), none⟩,
    ⟨some 14, some (.load T_int (.tmp 13)), none⟩,
    ⟨some 15, some (.fieldAddr T_api_Node (.tmp 3) 4), none⟩,
    ⟨some 16, some (.load T_int (.tmp 15)), none⟩,
    ⟨some 17, some (.build T_a3_int #[(0, (.tmp 12)), (1, (.tmp 14)), (2, (.tmp 16))]), none⟩,
    ⟨some 18, some (.move (.const (.int .i64 0))), none⟩])
  (.block 0 (.loop l_plait_term_Graph_formed_0)))
  (.seq (.reg [] [⟨some 48, some (.move (.tmp 5)), none⟩,
    ⟨some 49, some (.binOp .geq T_int (.tmp 48) (.const (.int .i64 0)) T_int), none⟩,
    ⟨some 50, some (.move (.tmp 49)), none⟩,
    ⟨some 51, some (.fieldAddr T_api_Node (.tmp 3) 0), some (some 50, true)⟩,
    ⟨some 52, some (.load T_int (.tmp 51)), some (some 50, true)⟩,
    ⟨some 53, some (.binOp .eql T_int (.tmp 52) (.const (.int .i64 1)) T_int), some (some 50, true)⟩,
    ⟨some 54, some (.move (.tmp 53)), some (some 50, true)⟩,
    ⟨some 55, some (.fieldAddr T_api_Node (.tmp 3) 7), some (some 54, false)⟩,
    ⟨some 56, some (.load T_api_Bits (.tmp 55)), some (some 54, false)⟩,
    ⟨some 57, some (.build T_api_Bits #[]), some (some 54, false)⟩,
    ⟨some 58, some (.binOp .eql T_api_Bits (.tmp 56) (.tmp 57) T_api_Bits), some (some 54, false)⟩,
    ⟨some 59, some (.pick (.tmp 54) (.const (.bool true)) (.tmp 58)), some (some 50, true)⟩,
    ⟨some 60, some (.pick (.tmp 50) (.tmp 59) (.const (.bool false))), none⟩,
    ⟨some 61, some (.move (.tmp 60)), none⟩,
    ⟨some 62, some (.fieldAddr T_api_Node (.tmp 3) 0), some (some 61, true)⟩,
    ⟨some 63, some (.load T_int (.tmp 62)), some (some 61, true)⟩,
    ⟨some 64, some (.binOp .eql T_int (.tmp 63) (.const (.int .i64 2)) T_int), some (some 61, true)⟩,
    ⟨some 65, some (.move (.tmp 64)), some (some 61, true)⟩,
    ⟨some 66, some (.fieldAddr T_api_Node (.tmp 3) 8), some (some 65, false)⟩,
    ⟨some 67, some (.load T_string (.tmp 66)), some (some 65, false)⟩,
    ⟨some 68, some (.binOp .eql T_string (.tmp 67) (.const (.string { data := #[] })) T_string), some (some 65, false)⟩,
    ⟨some 69, some (.pick (.tmp 65) (.const (.bool true)) (.tmp 68)), some (some 61, true)⟩,
    ⟨some 70, some (.pick (.tmp 61) (.tmp 69) (.const (.bool false))), none⟩,
    ⟨some 4, some (.assign (.tmp 70)), none⟩])
  .ret))))
theorem e_plait_term_Graph_formed {a0 a1 : AV} {H : AHeap} : R f_plait_term_Graph_formed [a0, a1] H = fnK Go.Proofs.Try.prog [] H [(.tmp 4)] (evalL Go.Proofs.Try.prog KT R c_plait_term_Graph_formed (Env.args [a0, a1] 0) H) :=
  runs_body (D := DT) (f := f_plait_term_Graph_formed) Go.Proofs.Try.func91 (by kernel_rfl) (by kernel_rfl) (by kernel_rfl) (by kernel_rfl) (by kernel_rfl) (Nat.le_of_ble_eq_true rfl)

def l_plait_term_Graph_sorted_0 : LCode := (.seq (.reg [] [⟨some 94, some (.binOp .lss T_int (.tmp 93) (.const (.int .i64 3)) T_int), none⟩])
  (.seq (.cond (.tmp 94) .skip
  (.exit 1))
  (.seq (.block 2 (.seq (.reg [] [⟨some 95, some (.index T_a3_int (.tmp 92) (.tmp 93)), none⟩,
    ⟨some 9, some (.assign (.tmp 95)), none⟩])
  (.seq (.reg [] [⟨some 96, some (.move (.tmp 9)), none⟩,
    ⟨some 97, some (.binOp .gtr T_int (.tmp 96) (.const (.int .i64 0)) T_int), none⟩])
  (.cond (.tmp 97) (.reg [] [⟨some 98, some (.move (.tmp 7)), none⟩,
    ⟨some 99, some (.move (.tmp 0)), none⟩,
    ⟨some 100, some (.nilCheck (.tmp 99)), none⟩,
    ⟨some 101, some (.fieldAddr T_term_Graph (.tmp 100) 1), none⟩,
    ⟨some 102, some (.load T_s_api_Node (.tmp 101)), none⟩,
    ⟨some 103, some (.move (.tmp 9)), none⟩,
    ⟨some 104, some (.binOp .sub T_int (.tmp 103) (.const (.int .i64 1)) T_int), none⟩,
    ⟨some 105, some (.indexAddr T_s_api_Node (.tmp 102) (.tmp 104)), none⟩,
    ⟨some 106, some (.fieldAddr T_api_Node (.tmp 105) 1), none⟩,
    ⟨some 107, some (.load T_int (.tmp 106)), none⟩,
    ⟨some 108, some (.buildSlice T_s_int 1 #[(0, (.tmp 107))]), none⟩,
    ⟨some 109, some (.call ⟨(.builtin .append), #[(.tmp 98), (.tmp 108)], #[T_s_int, T_s_int]⟩), none⟩,
    ⟨some 7, some (.assign (.tmp 109)), none⟩])
  .skip))))
  (.reg [] [⟨some 110, some (.binOp .add T_int (.tmp 93) (.const (.int .i64 1)) T_int), none⟩,
    ⟨some 93, some (.move (.tmp 110)), none⟩]))))
@[simp] theorem d_l_plait_term_Graph_sorted_0 : defs l_plait_term_Graph_sorted_0 = [94, 95, 9, 96, 97, 98, 99, 100, 101, 102, 103, 104, 105, 106, 107, 108, 109, 7, 110, 93] := by rfl
def c_plait_term_Graph_sorted : LCode := (.seq (.reg [] [⟨some 3, some (.box T_api_Node (.tmp 1)), none⟩,
    ⟨some 4, some (.alloc T_api_Node), none⟩,
    ⟨some 5, some (.assign (.const (.int .i64 0))), none⟩])
  (.seq (.seq (.reg [] [⟨some 11, some (.fieldAddr T_api_Node (.tmp 3) 0), none⟩,
    ⟨some 12, some (.load T_int (.tmp 11)), none⟩])
  (.block 0 (.seq (.reg [] [⟨some 14, some (.binOp .eql T_int (.tmp 12) (.const (.int .i64 1)) T_int), none⟩,
    ⟨some 13, some (.assign (.tmp 14)), none⟩])
  (.cond (.tmp 13) (.seq (.seq (.reg [] [⟨some 15, some (.fieldAddr T_api_Node (.tmp 3) 7), none⟩,
    ⟨some 16, some (.load T_api_Bits (.tmp 15)), none⟩,
    ⟨some 17, some (.call ⟨(.value (.func f_bv_Right)), #[(.tmp 16)], #[T_api_Bits]⟩), none⟩,
    ⟨some 18, some (.unOp .not T_bool (.tmp 17)), none⟩,
    ⟨some 19, some (.move (.tmp 18)), none⟩,
    ⟨some 20, some (.fieldAddr T_api_Node (.tmp 3) 7), some (some 19, false)⟩,
    ⟨some 21, some (.fieldAddr T_api_Bits (.tmp 20) 0), some (some 19, false)⟩,
    ⟨some 22, some (.load T_int (.tmp 21)), some (some 19, false)⟩,
    ⟨some 23, some (.fieldAddr T_api_Node (.tmp 3) 1), some (some 19, false)⟩,
    ⟨some 24, some (.load T_int (.tmp 23)), some (some 19, false)⟩,
    ⟨some 25, some (.binOp .neq T_int (.tmp 22) (.tmp 24) T_int), some (some 19, false)⟩,
    ⟨some 26, some (.pick (.tmp 19) (.const (.bool true)) (.tmp 25)), none⟩,
    ⟨some 27, some (.move (.tmp 26)), none⟩,
    ⟨some 28, some (.fieldAddr T_api_Node (.tmp 3) 5), some (some 27, false)⟩,
    ⟨some 29, some (.load T_int (.tmp 28)), some (some 27, false)⟩,
    ⟨some 30, some (.binOp .neq T_int (.tmp 29) (.const (.int .i64 0)) T_int), some (some 27, false)⟩,
    ⟨some 31, some (.pick (.tmp 27) (.const (.bool true)) (.tmp 30)), none⟩,
    ⟨some 32, some (.move (.tmp 31)), none⟩,
    ⟨some 33, some (.fieldAddr T_api_Node (.tmp 3) 6), some (some 32, false)⟩,
    ⟨some 34, some (.load T_int (.tmp 33)), some (some 32, false)⟩,
    ⟨some 35, some (.binOp .neq T_int (.tmp 34) (.const (.int .i64 0)) T_int), some (some 32, false)⟩,
    ⟨some 36, some (.pick (.tmp 32) (.const (.bool true)) (.tmp 35)), none⟩])
  (.cond (.tmp 36) (.seq (.reg [] [⟨some 37, some (.load T_api_Node (.tmp 3)), none⟩,
    ⟨none, some (.store T_api_Node (.tmp 4) (.tmp 37)), none⟩,
    ⟨some 5, some (.assign (.const (.int .i64 30))), none⟩])
  .ret)
  .skip))
  (.seq (.reg [] [⟨some 38, some (.load T_api_Node (.tmp 3)), none⟩,
    ⟨none, some (.store T_api_Node (.tmp 4) (.tmp 38)), none⟩,
    ⟨some 5, some (.assign (.const (.int .i64 0))), none⟩])
  .ret))
  (.seq (.reg [] [⟨some 40, some (.binOp .eql T_int (.tmp 12) (.const (.int .i64 2)) T_int), none⟩,
    ⟨some 39, some (.assign (.tmp 40)), none⟩])
  (.cond (.tmp 39) (.seq (.seq (.reg [] [⟨some 41, some (.fieldAddr T_api_Node (.tmp 3) 1), none⟩,
    ⟨some 42, some (.load T_int (.tmp 41)), none⟩,
    ⟨some 43, some (.call ⟨(.value (.func f_term_sort)), #[(.tmp 42)], #[T_int]⟩), none⟩,
    ⟨some 44, some (.unOp .not T_bool (.tmp 43)), none⟩,
    ⟨some 45, some (.move (.tmp 44)), none⟩,
    ⟨some 46, some (.fieldAddr T_api_Node (.tmp 3) 5), some (some 45, false)⟩,
    ⟨some 47, some (.load T_int (.tmp 46)), some (some 45, false)⟩,
    ⟨some 48, some (.binOp .neq T_int (.tmp 47) (.const (.int .i64 0)) T_int), some (some 45, false)⟩,
    ⟨some 49, some (.pick (.tmp 45) (.const (.bool true)) (.tmp 48)), none⟩,
    ⟨some 50, some (.move (.tmp 49)), none⟩,
    ⟨some 51, some (.fieldAddr T_api_Node (.tmp 3) 6), some (some 50, false)⟩,
    ⟨some 52, some (.load T_int (.tmp 51)), some (some 50, false)⟩,
    ⟨some 53, some (.binOp .neq T_int (.tmp 52) (.const (.int .i64 0)) T_int), some (some 50, false)⟩,
    ⟨some 54, some (.pick (.tmp 50) (.const (.bool true)) (.tmp 53)), none⟩])
  (.cond (.tmp 54) (.seq (.reg [] [⟨some 55, some (.load T_api_Node (.tmp 3)), none⟩,
    ⟨none, some (.store T_api_Node (.tmp 4) (.tmp 55)), none⟩,
    ⟨some 5, some (.assign (.const (.int .i64 30))), none⟩])
  .ret)
  .skip))
  (.seq (.seq (.reg [] [⟨some 56, some (.move (.tmp 0)), none⟩,
    ⟨some 57, some (.nilCheck (.tmp 56)), none⟩,
    ⟨some 58, some (.fieldAddr T_term_Graph (.tmp 57) 3), none⟩,
    ⟨some 59, some (.load T_m_string_int (.tmp 58)), none⟩,
    ⟨some 60, some (.fieldAddr T_api_Node (.tmp 3) 8), none⟩,
    ⟨some 61, some (.load T_string (.tmp 60)), none⟩,
    ⟨some 62, some (.lookup T_m_string_int (.tmp 59) (.tmp 61) false), none⟩,
    ⟨some 6, some (.assign (.tmp 62)), none⟩])
  (.seq (.reg [] [⟨some 63, some (.fieldAddr T_api_Node (.tmp 3) 8), none⟩,
    ⟨some 64, some (.load T_string (.tmp 63)), none⟩,
    ⟨some 65, some (.binOp .eql T_string (.tmp 64) (.const (.string { data := #[] })) T_string), none⟩,
    ⟨some 66, some (.move (.tmp 65)), none⟩,
    ⟨some 67, some (.move (.tmp 6)), some (some 66, false)⟩,
    ⟨some 68, some (.binOp .gtr T_int (.tmp 67) (.const (.int .i64 0)) T_int), some (some 66, false)⟩,
    ⟨some 69, some (.move (.tmp 68)), some (some 66, false)⟩,
    ⟨some 70, some (.move (.tmp 0)), some (some 69, true)⟩,
    ⟨some 71, some (.nilCheck (.tmp 70)), some (some 69, true)⟩,
    ⟨some 72, some (.fieldAddr T_term_Graph (.tmp 71) 1), some (some 69, true)⟩,
    ⟨some 73, some (.load T_s_api_Node (.tmp 72)), some (some 69, true)⟩,
    ⟨some 74, some (.move (.tmp 6)), some (some 69, true)⟩,
    ⟨some 75, some (.binOp .sub T_int (.tmp 74) (.const (.int .i64 1)) T_int), some (some 69, true)⟩,
    ⟨some 76, some (.indexAddr T_s_api_Node (.tmp 73) (.tmp 75)), some (some 69, true)⟩,
    ⟨some 77, some (.fieldAddr T_api_Node (.tmp 76) 1), some (some 69, true)⟩,
    ⟨some 78, some (.load T_int (.tmp 77)), some (some 69, true)⟩,
    ⟨some 79, some (.fieldAddr T_api_Node (.tmp 3) 1), some (some 69, true)⟩,
    ⟨some 80, some (.load T_int (.tmp 79)), some (some 69, true)⟩,
    ⟨some 81, some (.binOp .neq T_int (.tmp 78) (.tmp 80) T_int), some (some 69, true)⟩,
    ⟨some 82, some (.pick (.tmp 69) (.tmp 81) (.const (.bool false))), some (some 66, false)⟩,
    ⟨some 83, some (.pick (.tmp 66) (.const (.bool true)) (.tmp 82)), none⟩])
  (.cond (.tmp 83) (.seq (.reg [] [⟨some 84, some (.load T_api_Node (.tmp 3)), none⟩,
    ⟨none, some (.store T_api_Node (.tmp 4) (.tmp 84)), none⟩,
    ⟨some 5, some (.assign (.const (.int .i64 34))), none⟩])
  .ret)
  .skip)))
  (.seq (.reg [] [⟨some 85, some (.load T_api_Node (.tmp 3)), none⟩,
    ⟨none, some (.store T_api_Node (.tmp 4) (.tmp 85)), none⟩,
    ⟨some 5, some (.assign (.const (.int .i64 0))), none⟩])
  .ret)))
  .skip))))))
  (.seq (.reg [] [⟨some 7, some (.assign (.const (.slice none 0 0))), none⟩])
  (.seq (.seq (.reg [] [⟨some 86, some (.fieldAddr T_api_Node (.tmp 3) 2), none⟩,
    ⟨some 87, some (.load T_int (.tmp 86)), none⟩,
    ⟨some 88, some (.fieldAddr T_api_Node (.tmp 3) 3), none⟩,
    ⟨some 89, some (.load T_int (.tmp 88)), none⟩,
    ⟨some 90, some (.fieldAddr T_api_Node (.tmp 3) 4), none⟩,
    ⟨some 91, some (.load T_int (.tmp 90)), none⟩,
    ⟨some 92, some (.build T_a3_int #[(0, (.tmp 87)), (1, (.tmp 89)), (2, (.tmp 91))]), none⟩,
    ⟨some 93, some (.move (.const (.int .i64 0))), none⟩])
  (.block 1 (.loop l_plait_term_Graph_sorted_0)))
  (.seq (.reg [] [⟨some 10, some (.assign (.const (.int .i64 0))), none⟩])
  (.seq (.reg [] [⟨some 112, some (.fieldAddr T_api_Node (.tmp 3) 0), none⟩,
    ⟨some 113, some (.load T_int (.tmp 112)), none⟩,
    ⟨some 114, some (.fieldAddr T_api_Node (.tmp 3) 5), none⟩,
    ⟨some 115, some (.load T_int (.tmp 114)), none⟩,
    ⟨some 116, some (.fieldAddr T_api_Node (.tmp 3) 6), none⟩,
    ⟨some 117, some (.load T_int (.tmp 116)), none⟩,
    ⟨some 118, some (.move (.tmp 7)), none⟩,
    ⟨some 119, some (.call ⟨(.value (.func f_term_Sort)), #[(.tmp 113), (.tmp 115), (.tmp 117), (.tmp 118)], #[T_int, T_int, T_int, T_s_int]⟩), none⟩,
    ⟨some 111, some (.move (.tmp 119)), none⟩,
    ⟨some 120, some (.extract (.tmp 111) 0), none⟩,
    ⟨some 121, some (.extract (.tmp 111) 1), none⟩,
    ⟨some 122, some (.fieldAddr T_api_Node (.tmp 3) 1), none⟩,
    ⟨none, some (.store T_int (.tmp 122) (.tmp 120)), none⟩,
    ⟨some 10, some (.assign (.tmp 121)), none⟩])
  (.seq (.reg [] [⟨some 123, some (.load T_api_Node (.tmp 3)), none⟩,
    ⟨some 124, some (.move (.tmp 10)), none⟩,
    ⟨none, some (.store T_api_Node (.tmp 4) (.tmp 123)), none⟩,
    ⟨some 5, some (.assign (.tmp 124)), none⟩])
  .ret)))))))
theorem e_plait_term_Graph_sorted {a0 a1 : AV} {H : AHeap} : R f_plait_term_Graph_sorted [a0, a1] H = fnK Go.Proofs.Try.prog [] H [(.cell 4 T_api_Node), (.tmp 5)] (evalL Go.Proofs.Try.prog KT R c_plait_term_Graph_sorted (Env.args [a0, a1] 0) H) :=
  runs_body (D := DT) (f := f_plait_term_Graph_sorted) Go.Proofs.Try.func92 (by kernel_rfl) (by kernel_rfl) (by kernel_rfl) (by kernel_rfl) (by kernel_rfl) (Nat.le_of_ble_eq_true rfl)

def c_slices_ContainsFunc_int_int : LCode := (.seq (.reg [] [⟨some 4, some (.assign (.const (.bool false))), none⟩])
  (.seq (.reg [] [⟨some 5, some (.move (.tmp 0)), none⟩,
    ⟨some 6, some (.move (.tmp 1)), none⟩,
    ⟨some 7, some (.call ⟨(.value (.func f_slices_IndexFunc_int_int)), #[(.tmp 5), (.tmp 6)], #[T_s_int, T_x30]⟩), none⟩,
    ⟨some 8, some (.binOp .geq T_int (.tmp 7) (.const (.int .i64 0)) T_int), none⟩,
    ⟨some 4, some (.assign (.tmp 8)), none⟩])
  .ret))
theorem e_slices_ContainsFunc_int_int {a0 a1 : AV} {H : AHeap} : R f_slices_ContainsFunc_int_int [a0, a1] H = fnK Go.Proofs.Try.prog [] H [(.tmp 4)] (evalL Go.Proofs.Try.prog KT R c_slices_ContainsFunc_int_int (Env.args [a0, a1] 0) H) :=
  runs_body (D := DT) (f := f_slices_ContainsFunc_int_int) Go.Proofs.Try.func93 (by kernel_rfl) (by kernel_rfl) (by kernel_rfl) (by kernel_rfl) (by kernel_rfl) (Nat.le_of_ble_eq_true rfl)

def c_term_Sort_1 : LCode := (.seq (.reg [] [⟨some 2, some (.assign (.const (.bool false))), none⟩])
  (.seq (.reg [] [⟨some 3, some (.move (.tmp 0)), none⟩,
    ⟨some 4, some (.call ⟨(.value (.func f_term_sort)), #[(.tmp 3)], #[T_int]⟩), none⟩,
    ⟨some 5, some (.unOp .not T_bool (.tmp 4)), none⟩,
    ⟨some 2, some (.assign (.tmp 5)), none⟩])
  .ret))
theorem e_term_Sort_1 {a0 : AV} {H : AHeap} : R f_term_Sort_1 [a0] H = fnK Go.Proofs.Try.prog [] H [(.tmp 2)] (evalL Go.Proofs.Try.prog KT R c_term_Sort_1 (Env.args [a0] 0) H) :=
  runs_body (D := DT) (f := f_term_Sort_1) Go.Proofs.Try.func94 (by kernel_rfl) (by kernel_rfl) (by kernel_rfl) (by kernel_rfl) (by kernel_rfl) (Nat.le_of_ble_eq_true rfl)

def c_term_sort : LCode := (.seq (.reg [] [⟨some 2, some (.assign (.const (.bool false))), none⟩])
  (.seq (.reg [] [⟨some 3, some (.move (.tmp 0)), none⟩,
    ⟨some 4, some (.binOp .geq T_int (.tmp 3) (.const (.int .i64 0)) T_int), none⟩,
    ⟨some 5, some (.move (.tmp 4)), none⟩,
    ⟨some 6, some (.move (.tmp 0)), some (some 5, true)⟩,
    ⟨some 7, some (.binOp .leq T_int (.tmp 6) (.const (.int .i64 128)) T_int), some (some 5, true)⟩,
    ⟨some 8, some (.pick (.tmp 5) (.tmp 7) (.const (.bool false))), none⟩,
    ⟨some 2, some (.assign (.tmp 8)), none⟩])
  .ret))
theorem e_term_sort {a0 : AV} {H : AHeap} : R f_term_sort [a0] H = fnK Go.Proofs.Try.prog [] H [(.tmp 2)] (evalL Go.Proofs.Try.prog KT R c_term_sort (Env.args [a0] 0) H) :=
  runs_body (D := DT) (f := f_term_sort) Go.Proofs.Try.func95 (by kernel_rfl) (by kernel_rfl) (by kernel_rfl) (by kernel_rfl) (by kernel_rfl) (Nat.le_of_ble_eq_true rfl)

def c_term_told : LCode := (.seq (.reg [] [⟨some 8, some (.assign (.const (.int .i64 0))), none⟩,
    ⟨some 9, some (.assign (.const (.bool false))), none⟩])
  (.seq (.reg [] [⟨some 15, some (.move (.tmp 1)), none⟩,
    ⟨some 16, some (.binOp .eql T_int (.tmp 15) (.const (.int .i64 0)) T_int), none⟩,
    ⟨some 17, some (.move (.tmp 16)), none⟩,
    ⟨some 18, some (.move (.tmp 2)), some (some 17, true)⟩,
    ⟨some 19, some (.binOp .eql T_int (.tmp 18) (.const (.int .i64 0)) T_int), some (some 17, true)⟩,
    ⟨some 20, some (.pick (.tmp 17) (.tmp 19) (.const (.bool false))), none⟩,
    ⟨some 10, some (.assign (.tmp 20)), none⟩])
  (.seq (.reg [] [⟨some 21, some (.move (.tmp 3)), none⟩,
    ⟨some 22, some (.indexAddr T_s_int (.tmp 21) (.const (.int .i64 0))), none⟩,
    ⟨some 23, some (.load T_int (.tmp 22)), none⟩,
    ⟨some 24, some (.move (.tmp 3)), none⟩,
    ⟨some 25, some (.move (.tmp 3)), none⟩,
    ⟨some 26, some (.call ⟨(.builtin .len), #[(.tmp 25)], #[T_s_int]⟩), none⟩,
    ⟨some 27, some (.binOp .sub T_int (.tmp 26) (.const (.int .i64 1)) T_int), none⟩,
    ⟨some 28, some (.indexAddr T_s_int (.tmp 24) (.tmp 27)), none⟩,
    ⟨some 29, some (.load T_int (.tmp 28)), none⟩,
    ⟨some 11, some (.assign (.tmp 23)), none⟩,
    ⟨some 12, some (.assign (.tmp 29)), none⟩])
  (.seq (.block 0 (.seq (.reg [] [⟨some 31, some (.move (.tmp 0)), none⟩,
    ⟨some 32, some (.binOp .leq T_int (.tmp 31) (.const (.int .i64 7)) T_int), none⟩,
    ⟨some 30, some (.assign (.tmp 32)), none⟩])
  (.cond (.tmp 30) (.seq (.reg [] [⟨some 33, some (.move (.tmp 10)), none⟩,
    ⟨some 34, some (.move (.tmp 33)), none⟩,
    ⟨some 35, some (.move (.tmp 11)), some (some 34, true)⟩,
    ⟨some 36, some (.binOp .eql T_int (.tmp 35) (.const (.int .i64 0)) T_int), some (some 34, true)⟩,
    ⟨some 37, some (.pick (.tmp 34) (.tmp 36) (.const (.bool false))), none⟩,
    ⟨some 38, some (.move (.tmp 37)), none⟩,
    ⟨some 39, some (.move (.tmp 12)), some (some 38, true)⟩,
    ⟨some 40, some (.binOp .eql T_int (.tmp 39) (.const (.int .i64 0)) T_int), some (some 38, true)⟩,
    ⟨some 41, some (.pick (.tmp 38) (.tmp 40) (.const (.bool false))), none⟩,
    ⟨some 8, some (.assign (.const (.int .i64 0))), none⟩,
    ⟨some 9, some (.assign (.tmp 41)), none⟩])
  .ret)
  (.seq (.reg [] [⟨some 43, some (.move (.tmp 0)), none⟩,
    ⟨some 44, some (.binOp .eql T_int (.tmp 43) (.const (.int .i64 8)) T_int), none⟩,
    ⟨some 42, some (.assign (.tmp 44)), none⟩])
  (.cond (.tmp 42) (.seq (.reg [] [⟨some 45, some (.move (.tmp 10)), none⟩,
    ⟨some 46, some (.move (.tmp 45)), none⟩,
    ⟨some 47, some (.move (.tmp 11)), some (some 46, true)⟩,
    ⟨some 48, some (.move (.tmp 12)), some (some 46, true)⟩,
    ⟨some 49, some (.binOp .eql T_int (.tmp 47) (.tmp 48) T_int), some (some 46, true)⟩,
    ⟨some 50, some (.pick (.tmp 46) (.tmp 49) (.const (.bool false))), none⟩,
    ⟨some 8, some (.assign (.const (.int .i64 0))), none⟩,
    ⟨some 9, some (.assign (.tmp 50)), none⟩])
  .ret)
  (.seq (.reg [] [⟨some 52, some (.move (.tmp 0)), none⟩,
    ⟨some 53, some (.binOp .eql T_int (.tmp 52) (.const (.int .i64 9)) T_int), none⟩,
    ⟨some 51, some (.assign (.tmp 53)), none⟩])
  (.cond (.tmp 51) (.seq (.reg [] [⟨some 54, some (.move (.tmp 12)), none⟩,
    ⟨some 55, some (.move (.tmp 10)), none⟩,
    ⟨some 56, some (.move (.tmp 55)), none⟩,
    ⟨some 57, some (.move (.tmp 11)), some (some 56, true)⟩,
    ⟨some 58, some (.binOp .eql T_int (.tmp 57) (.const (.int .i64 0)) T_int), some (some 56, true)⟩,
    ⟨some 59, some (.pick (.tmp 56) (.tmp 58) (.const (.bool false))), none⟩,
    ⟨some 60, some (.move (.tmp 59)), none⟩,
    ⟨some 61, some (.move (.tmp 3)), some (some 60, true)⟩,
    ⟨some 62, some (.indexAddr T_s_int (.tmp 61) (.const (.int .i64 1))), some (some 60, true)⟩,
    ⟨some 63, some (.load T_int (.tmp 62)), some (some 60, true)⟩,
    ⟨some 64, some (.move (.tmp 12)), some (some 60, true)⟩,
    ⟨some 65, some (.binOp .eql T_int (.tmp 63) (.tmp 64) T_int), some (some 60, true)⟩,
    ⟨some 66, some (.pick (.tmp 60) (.tmp 65) (.const (.bool false))), none⟩,
    ⟨some 8, some (.assign (.tmp 54)), none⟩,
    ⟨some 9, some (.assign (.tmp 66)), none⟩])
  .ret)
  (.seq (.reg [] [⟨some 68, some (.move (.tmp 0)), none⟩,
    ⟨some 69, some (.binOp .eql T_int (.tmp 68) (.const (.int .i64 38)) T_int), none⟩,
    ⟨some 67, some (.assign (.tmp 69)), none⟩])
  (.cond (.tmp 67) (.seq (.reg [] [⟨some 70, some (.move (.tmp 11)), none⟩,
    ⟨some 71, some (.move (.tmp 12)), none⟩,
    ⟨some 72, some (.binOp .add T_int (.tmp 70) (.tmp 71) T_int), none⟩,
    ⟨some 73, some (.move (.tmp 10)), none⟩,
    ⟨some 74, some (.move (.tmp 73)), none⟩,
    ⟨some 75, some (.move (.tmp 11)), some (some 74, true)⟩,
    ⟨some 76, some (.binOp .gtr T_int (.tmp 75) (.const (.int .i64 0)) T_int), some (some 74, true)⟩,
    ⟨some 77, some (.pick (.tmp 74) (.tmp 76) (.const (.bool false))), none⟩,
    ⟨some 78, some (.move (.tmp 77)), none⟩,
    ⟨some 79, some (.move (.tmp 12)), some (some 78, true)⟩,
    ⟨some 80, some (.binOp .gtr T_int (.tmp 79) (.const (.int .i64 0)) T_int), some (some 78, true)⟩,
    ⟨some 81, some (.pick (.tmp 78) (.tmp 80) (.const (.bool false))), none⟩,
    ⟨some 8, some (.assign (.tmp 72)), none⟩,
    ⟨some 9, some (.assign (.tmp 81)), none⟩])
  .ret)
  (.seq (.reg [] [⟨some 83, some (.move (.tmp 0)), none⟩,
    ⟨some 84, some (.binOp .geq T_int (.tmp 83) (.const (.int .i64 39)) T_int), none⟩,
    ⟨some 82, some (.assign (.tmp 84)), none⟩])
  (.cond (.tmp 82) (.seq (.reg [] [⟨some 86, some (.move (.tmp 0)), none⟩,
    ⟨some 87, some (.move (.tmp 1)), none⟩,
    ⟨some 88, some (.move (.tmp 2)), none⟩,
    ⟨some 89, some (.move (.tmp 11)), none⟩,
    ⟨some 90, some (.call ⟨(.value (.func f_term_numbered)), #[(.tmp 86), (.tmp 87), (.tmp 88), (.tmp 89)], #[T_int, T_int, T_int, T_int]⟩), none⟩,
    ⟨some 85, some (.move (.tmp 90)), none⟩,
    ⟨some 91, some (.extract (.tmp 85) 0), none⟩,
    ⟨some 92, some (.extract (.tmp 85) 1), none⟩,
    ⟨some 13, some (.assign (.tmp 91)), none⟩,
    ⟨some 14, some (.assign (.tmp 92)), none⟩])
  (.seq (.reg [] [⟨some 93, some (.move (.tmp 13)), none⟩,
    ⟨some 94, some (.move (.tmp 14)), none⟩,
    ⟨some 95, some (.move (.tmp 94)), none⟩,
    ⟨some 96, some (.move (.tmp 11)), some (some 95, true)⟩,
    ⟨some 97, some (.binOp .gtr T_int (.tmp 96) (.const (.int .i64 0)) T_int), some (some 95, true)⟩,
    ⟨some 98, some (.pick (.tmp 95) (.tmp 97) (.const (.bool false))), none⟩,
    ⟨some 8, some (.assign (.tmp 93)), none⟩,
    ⟨some 9, some (.assign (.tmp 98)), none⟩])
  .ret))
  (.seq (.reg [] [⟨some 100, some (.move (.tmp 0)), none⟩,
    ⟨some 101, some (.binOp .eql T_int (.tmp 100) (.const (.int .i64 37)) T_int), none⟩,
    ⟨some 99, some (.assign (.tmp 101)), none⟩])
  (.cond (.tmp 99) (.seq (.reg [] [⟨some 102, some (.move (.tmp 10)), none⟩,
    ⟨some 103, some (.move (.tmp 102)), none⟩,
    ⟨some 104, some (.move (.tmp 11)), some (some 103, true)⟩,
    ⟨some 105, some (.move (.tmp 12)), some (some 103, true)⟩,
    ⟨some 106, some (.binOp .eql T_int (.tmp 104) (.tmp 105) T_int), some (some 103, true)⟩,
    ⟨some 107, some (.pick (.tmp 103) (.tmp 106) (.const (.bool false))), none⟩,
    ⟨some 108, some (.move (.tmp 107)), none⟩,
    ⟨some 109, some (.move (.tmp 11)), some (some 108, true)⟩,
    ⟨some 110, some (.binOp .gtr T_int (.tmp 109) (.const (.int .i64 0)) T_int), some (some 108, true)⟩,
    ⟨some 111, some (.pick (.tmp 108) (.tmp 110) (.const (.bool false))), none⟩,
    ⟨some 8, some (.assign (.const (.int .i64 1))), none⟩,
    ⟨some 9, some (.assign (.tmp 111)), none⟩])
  .ret)
  (.seq (.reg [] [⟨some 113, some (.move (.tmp 0)), none⟩,
    ⟨some 114, some (.binOp .geq T_int (.tmp 113) (.const (.int .i64 29)) T_int), none⟩,
    ⟨some 112, some (.assign (.tmp 114)), none⟩])
  (.cond (.tmp 112) (.seq (.reg [] [⟨some 115, some (.move (.tmp 10)), none⟩,
    ⟨some 116, some (.move (.tmp 115)), none⟩,
    ⟨some 117, some (.move (.tmp 11)), some (some 116, true)⟩,
    ⟨some 118, some (.move (.tmp 12)), some (some 116, true)⟩,
    ⟨some 119, some (.binOp .eql T_int (.tmp 117) (.tmp 118) T_int), some (some 116, true)⟩,
    ⟨some 120, some (.pick (.tmp 116) (.tmp 119) (.const (.bool false))), none⟩,
    ⟨some 121, some (.move (.tmp 120)), none⟩,
    ⟨some 122, some (.move (.tmp 11)), some (some 121, true)⟩,
    ⟨some 123, some (.binOp .gtr T_int (.tmp 122) (.const (.int .i64 0)) T_int), some (some 121, true)⟩,
    ⟨some 124, some (.pick (.tmp 121) (.tmp 123) (.const (.bool false))), none⟩,
    ⟨some 8, some (.assign (.const (.int .i64 0))), none⟩,
    ⟨some 9, some (.assign (.tmp 124)), none⟩])
  .ret)
  .skip)))))))))))))))
  (.seq (.reg [] [⟨some 125, some (.move (.tmp 11)), none⟩,
    ⟨some 126, some (.move (.tmp 10)), none⟩,
    ⟨some 127, some (.move (.tmp 126)), none⟩,
    ⟨some 128, some (.move (.tmp 11)), some (some 127, true)⟩,
    ⟨some 129, some (.move (.tmp 12)), some (some 127, true)⟩,
    ⟨some 130, some (.binOp .eql T_int (.tmp 128) (.tmp 129) T_int), some (some 127, true)⟩,
    ⟨some 131, some (.pick (.tmp 127) (.tmp 130) (.const (.bool false))), none⟩,
    ⟨some 132, some (.move (.tmp 131)), none⟩,
    ⟨some 133, some (.move (.tmp 11)), some (some 132, true)⟩,
    ⟨some 134, some (.binOp .gtr T_int (.tmp 133) (.const (.int .i64 0)) T_int), some (some 132, true)⟩,
    ⟨some 135, some (.pick (.tmp 132) (.tmp 134) (.const (.bool false))), none⟩,
    ⟨some 8, some (.assign (.tmp 125)), none⟩,
    ⟨some 9, some (.assign (.tmp 135)), none⟩])
  .ret)))))
theorem e_term_told {a0 a1 a2 a3 : AV} {H : AHeap} : R f_term_told [a0, a1, a2, a3] H = fnK Go.Proofs.Try.prog [] H [(.tmp 8), (.tmp 9)] (evalL Go.Proofs.Try.prog KT R c_term_told (Env.args [a0, a1, a2, a3] 0) H) :=
  runs_body (D := DT) (f := f_term_told) Go.Proofs.Try.func96 (by kernel_rfl) (by kernel_rfl) (by kernel_rfl) (by kernel_rfl) (by kernel_rfl) (Nat.le_of_ble_eq_true rfl)

def c_plaitref3_numbered : LCode := (.seq (.reg [] [⟨some 8, some (.assign (.const (.int .i64 0))), none⟩,
    ⟨some 9, some (.assign (.const (.int .i64 0))), none⟩])
  (.seq (.seq (.reg [] [⟨some 10, some (.move (.tmp 3)), none⟩,
    ⟨some 11, some (.binOp .eql T_int (.tmp 10) (.const (.int .i64 0)) T_int), none⟩])
  (.cond (.tmp 11) (.seq (.reg [] [⟨some 8, some (.assign (.const (.int .i64 0))), none⟩,
    ⟨some 9, some (.assign (.const (.int .i64 30))), none⟩])
  .ret)
  .skip))
  (.seq (.seq (.reg [] [⟨some 12, some (.move (.tmp 0)), none⟩,
    ⟨some 13, some (.binOp .eql T_int (.tmp 12) (.const (.int .i64 39)) T_int), none⟩])
  (.cond (.tmp 13) (.seq (.seq (.reg [] [⟨some 14, some (.move (.tmp 2)), none⟩,
    ⟨some 15, some (.binOp .lss T_int (.tmp 14) (.const (.int .i64 0)) T_int), none⟩,
    ⟨some 16, some (.move (.tmp 15)), none⟩,
    ⟨some 17, some (.move (.tmp 1)), some (some 16, false)⟩,
    ⟨some 18, some (.move (.tmp 2)), some (some 16, false)⟩,
    ⟨some 19, some (.binOp .lss T_int (.tmp 17) (.tmp 18) T_int), some (some 16, false)⟩,
    ⟨some 20, some (.pick (.tmp 16) (.const (.bool true)) (.tmp 19)), none⟩,
    ⟨some 21, some (.move (.tmp 20)), none⟩,
    ⟨some 22, some (.move (.tmp 1)), some (some 21, false)⟩,
    ⟨some 23, some (.move (.tmp 3)), some (some 21, false)⟩,
    ⟨some 24, some (.binOp .geq T_int (.tmp 22) (.tmp 23) T_int), some (some 21, false)⟩,
    ⟨some 25, some (.pick (.tmp 21) (.const (.bool true)) (.tmp 24)), none⟩])
  (.cond (.tmp 25) (.seq (.reg [] [⟨some 8, some (.assign (.const (.int .i64 0))), none⟩,
    ⟨some 9, some (.assign (.const (.int .i64 30))), none⟩])
  .ret)
  .skip))
  (.seq (.reg [] [⟨some 26, some (.move (.tmp 1)), none⟩,
    ⟨some 27, some (.move (.tmp 2)), none⟩,
    ⟨some 28, some (.binOp .sub T_int (.tmp 26) (.tmp 27) T_int), none⟩,
    ⟨some 29, some (.binOp .add T_int (.tmp 28) (.const (.int .i64 1)) T_int), none⟩,
    ⟨some 8, some (.assign (.tmp 29)), none⟩,
    ⟨some 9, some (.assign (.const (.int .i64 0))), none⟩])
  .ret))
  .skip))
  (.seq (.seq (.reg [] [⟨some 30, some (.move (.tmp 2)), none⟩,
    ⟨some 31, some (.binOp .neq T_int (.tmp 30) (.const (.int .i64 0)) T_int), none⟩,
    ⟨some 32, some (.move (.tmp 31)), none⟩,
    ⟨some 33, some (.move (.tmp 1)), some (some 32, false)⟩,
    ⟨some 34, some (.binOp .lss T_int (.tmp 33) (.const (.int .i64 0)) T_int), some (some 32, false)⟩,
    ⟨some 35, some (.pick (.tmp 32) (.const (.bool true)) (.tmp 34)), none⟩,
    ⟨some 36, some (.move (.tmp 35)), none⟩,
    ⟨some 37, some (.move (.tmp 0)), some (some 36, false)⟩,
    ⟨some 38, some (.binOp .eql T_int (.tmp 37) (.const (.int .i64 44)) T_int), some (some 36, false)⟩,
    ⟨some 39, some (.move (.tmp 38)), some (some 36, false)⟩,
    ⟨some 40, some (.move (.tmp 1)), some (some 39, true)⟩,
    ⟨some 41, some (.binOp .lss T_int (.tmp 40) (.const (.int .i64 1)) T_int), some (some 39, true)⟩,
    ⟨some 42, some (.pick (.tmp 39) (.tmp 41) (.const (.bool false))), some (some 36, false)⟩,
    ⟨some 43, some (.pick (.tmp 36) (.const (.bool true)) (.tmp 42)), none⟩])
  (.cond (.tmp 43) (.seq (.reg [] [⟨some 8, some (.assign (.const (.int .i64 0))), none⟩,
    ⟨some 9, some (.assign (.const (.int .i64 30))), none⟩])
  .ret)
  .skip))
  (.seq (.seq (.reg [] [⟨some 44, some (.move (.tmp 0)), none⟩])
  (.block 0 (.seq (.seq (.reg [] [⟨some 46, some (.binOp .eql T_int (.tmp 44) (.const (.int .i64 40)) T_int), none⟩,
    ⟨some 45, some (.assign (.tmp 46)), none⟩])
  (.cond (.tmp 45) .skip
  (.reg [] [⟨some 47, some (.binOp .eql T_int (.tmp 44) (.const (.int .i64 41)) T_int), none⟩,
    ⟨some 45, some (.assign (.tmp 47)), none⟩])))
  (.cond (.tmp 45) (.seq (.seq (.reg [] [⟨some 48, some (.move (.tmp 1)), none⟩,
    ⟨some 49, some (.binOp .gtr T_int (.tmp 48) (.const (.int .i64 128)) T_int), none⟩])
  (.cond (.tmp 49) (.seq (.reg [] [⟨some 8, some (.assign (.const (.int .i64 0))), none⟩,
    ⟨some 9, some (.assign (.const (.int .i64 31))), none⟩])
  .ret)
  .skip))
  (.seq (.reg [] [⟨some 50, some (.move (.tmp 3)), none⟩,
    ⟨some 51, some (.move (.tmp 1)), none⟩,
    ⟨some 52, some (.binOp .add T_int (.tmp 50) (.tmp 51) T_int), none⟩,
    ⟨some 53, some (.call ⟨(.value (.func f_plaitref3_wide)), #[(.tmp 52)], #[T_int]⟩), none⟩,
    ⟨some 54, some (.extract (.tmp 53) 0), none⟩,
    ⟨some 55, some (.extract (.tmp 53) 1), none⟩,
    ⟨some 8, some (.assign (.tmp 54)), none⟩,
    ⟨some 9, some (.assign (.tmp 55)), none⟩])
  .ret))
  (.seq (.reg [] [⟨some 57, some (.binOp .eql T_int (.tmp 44) (.const (.int .i64 44)) T_int), none⟩,
    ⟨some 56, some (.assign (.tmp 57)), none⟩])
  (.cond (.tmp 56) (.seq (.seq (.reg [] [⟨some 58, some (.move (.tmp 1)), none⟩,
    ⟨some 59, some (.binOp .gtr T_int (.tmp 58) (.const (.int .i64 128)) T_int), none⟩])
  (.cond (.tmp 59) (.seq (.reg [] [⟨some 8, some (.assign (.const (.int .i64 0))), none⟩,
    ⟨some 9, some (.assign (.const (.int .i64 31))), none⟩])
  .ret)
  .skip))
  (.seq (.reg [] [⟨some 60, some (.move (.tmp 3)), none⟩,
    ⟨some 61, some (.move (.tmp 1)), none⟩,
    ⟨some 62, some (.binOp .mul T_int (.tmp 60) (.tmp 61) T_int), none⟩,
    ⟨some 63, some (.call ⟨(.value (.func f_plaitref3_wide)), #[(.tmp 62)], #[T_int]⟩), none⟩,
    ⟨some 64, some (.extract (.tmp 63) 0), none⟩,
    ⟨some 65, some (.extract (.tmp 63) 1), none⟩,
    ⟨some 8, some (.assign (.tmp 64)), none⟩,
    ⟨some 9, some (.assign (.tmp 65)), none⟩])
  .ret))
  .skip))))))
  (.seq (.reg [] [⟨some 66, some (.move (.tmp 3)), none⟩,
    ⟨some 8, some (.assign (.tmp 66)), none⟩,
    ⟨some 9, some (.assign (.const (.int .i64 0))), none⟩])
  .ret))))))
theorem e_plaitref3_numbered {a0 a1 a2 a3 : AV} {H : AHeap} : R f_plaitref3_numbered [a0, a1, a2, a3] H = fnK Go.Proofs.Try.prog [] H [(.tmp 8), (.tmp 9)] (evalL Go.Proofs.Try.prog KT R c_plaitref3_numbered (Env.args [a0, a1, a2, a3] 0) H) :=
  runs_body (D := DT) (f := f_plaitref3_numbered) Go.Proofs.Try.func97 (by kernel_rfl) (by kernel_rfl) (by kernel_rfl) (by kernel_rfl) (by kernel_rfl) (Nat.le_of_ble_eq_true rfl)

def l_plaitref3_alike_0 : LCode := (.seq (.seq (.reg [] [⟨some 4, some (.move (.tmp 3)), none⟩,
    ⟨some 5, some (.move (.tmp 0)), none⟩,
    ⟨some 6, some (.call ⟨(.builtin .len), #[(.tmp 5)], #[T_s_int]⟩), none⟩,
    ⟨some 7, some (.binOp .lss T_int (.tmp 4) (.tmp 6) T_int), none⟩])
  (.cond (.tmp 7) .skip
  (.exit 0)))
  (.seq (.block 1 (.seq (.reg [] [⟨some 10, some (.move (.tmp 0)), none⟩,
    ⟨some 11, some (.move (.tmp 3)), none⟩,
    ⟨some 12, some (.indexAddr T_s_int (.tmp 10) (.tmp 11)), none⟩,
    ⟨some 13, some (.load T_int (.tmp 12)), none⟩,
    ⟨some 14, some (.move (.tmp 0)), none⟩,
    ⟨some 15, some (.indexAddr T_s_int (.tmp 14) (.const (.int .i64 0))), none⟩,
    ⟨some 16, some (.load T_int (.tmp 15)), none⟩,
    ⟨some 17, some (.binOp .neq T_int (.tmp 13) (.tmp 16) T_int), none⟩])
  (.cond (.tmp 17) (.seq (.reg [] [⟨some 2, some (.assign (.const (.bool false))), none⟩])
  .ret)
  .skip)))
  (.reg [] [⟨some 8, some (.move (.tmp 3)), none⟩,
    ⟨some 9, some (.binOp .add T_int (.tmp 8) (.const (.int .i64 1)) T_int), none⟩,
    ⟨some 3, some (.assign (.tmp 9)), none⟩])))
@[simp] theorem d_l_plaitref3_alike_0 : defs l_plaitref3_alike_0 = [4, 5, 6, 7, 10, 11, 12, 13, 14, 15, 16, 17, 2, 8, 9, 3] := by rfl
def c_plaitref3_alike : LCode := (.seq (.reg [] [⟨some 2, some (.assign (.const (.bool false))), none⟩])
  (.seq (.seq (.reg [] [⟨some 3, some (.assign (.const (.int .i64 1))), none⟩])
  (.block 0 (.loop l_plaitref3_alike_0)))
  (.seq (.reg [] [⟨some 2, some (.assign (.const (.bool true))), none⟩])
  .ret)))
theorem e_plaitref3_alike {a0 : AV} {H : AHeap} : R f_plaitref3_alike [a0] H = fnK Go.Proofs.Try.prog [] H [(.tmp 2)] (evalL Go.Proofs.Try.prog KT R c_plaitref3_alike (Env.args [a0] 0) H) :=
  runs_body (D := DT) (f := f_plaitref3_alike) Go.Proofs.Try.func98 (by kernel_rfl) (by kernel_rfl) (by kernel_rfl) (by kernel_rfl) (by kernel_rfl) (Nat.le_of_ble_eq_true rfl)

def c_plaitref3_wide : LCode := (.seq (.reg [] [⟨some 2, some (.assign (.const (.int .i64 0))), none⟩,
    ⟨some 3, some (.assign (.const (.int .i64 0))), none⟩])
  (.seq (.seq (.reg [] [⟨some 4, some (.move (.tmp 0)), none⟩,
    ⟨some 5, some (.binOp .gtr T_int (.tmp 4) (.const (.int .i64 128)) T_int), none⟩])
  (.cond (.tmp 5) (.seq (.reg [] [⟨some 2, some (.assign (.const (.int .i64 0))), none⟩,
    ⟨some 3, some (.assign (.const (.int .i64 31))), none⟩])
  .ret)
  .skip))
  (.seq (.reg [] [⟨some 6, some (.move (.tmp 0)), none⟩,
    ⟨some 2, some (.assign (.tmp 6)), none⟩,
    ⟨some 3, some (.assign (.const (.int .i64 0))), none⟩])
  .ret)))
theorem e_plaitref3_wide {a0 : AV} {H : AHeap} : R f_plaitref3_wide [a0] H = fnK Go.Proofs.Try.prog [] H [(.tmp 2), (.tmp 3)] (evalL Go.Proofs.Try.prog KT R c_plaitref3_wide (Env.args [a0] 0) H) :=
  runs_body (D := DT) (f := f_plaitref3_wide) Go.Proofs.Try.func99 (by kernel_rfl) (by kernel_rfl) (by kernel_rfl) (by kernel_rfl) (by kernel_rfl) (Nat.le_of_ble_eq_true rfl)

def c_bv_cut : LCode := (.seq (.reg [] [⟨some 3, some (.box T_bv_number (.tmp 1)), none⟩,
    ⟨some 4, some (.alloc T_api_Bits), none⟩])
  (.seq (.reg [] [⟨some 6, some (.move (.tmp 0)), none⟩,
    ⟨some 7, some (.call ⟨(.value (.func f_bv_mask)), #[(.tmp 6)], #[T_int]⟩), none⟩,
    ⟨some 5, some (.alloc T_bv_number), none⟩,
    ⟨none, some (.store T_bv_number (.tmp 5) (.tmp 7)), none⟩])
  (.seq (.reg [] [⟨some 8, some (.move (.tmp 0)), none⟩,
    ⟨some 9, some (.fieldAddr T_bv_number (.tmp 3) 0), none⟩,
    ⟨some 10, some (.load T_uint64 (.tmp 9)), none⟩,
    ⟨some 11, some (.fieldAddr T_bv_number (.tmp 5) 0), none⟩,
    ⟨some 12, some (.load T_uint64 (.tmp 11)), none⟩,
    ⟨some 13, some (.binOp .and T_uint64 (.tmp 10) (.tmp 12) T_uint64), none⟩,
    ⟨some 14, some (.fieldAddr T_bv_number (.tmp 3) 1), none⟩,
    ⟨some 15, some (.load T_uint64 (.tmp 14)), none⟩,
    ⟨some 16, some (.fieldAddr T_bv_number (.tmp 5) 1), none⟩,
    ⟨some 17, some (.load T_uint64 (.tmp 16)), none⟩,
    ⟨some 18, some (.binOp .and T_uint64 (.tmp 15) (.tmp 17) T_uint64), none⟩,
    ⟨some 19, some (.build T_api_Bits #[(0, (.tmp 8)), (1, (.tmp 13)), (2, (.tmp 18))]), none⟩,
    ⟨none, some (.store T_api_Bits (.tmp 4) (.tmp 19)), none⟩])
  .ret)))
theorem e_bv_cut {a0 a1 : AV} {H : AHeap} : R f_bv_cut [a0, a1] H = fnK Go.Proofs.Try.prog [] H [(.cell 4 T_api_Bits)] (evalL Go.Proofs.Try.prog KT R c_bv_cut (Env.args [a0, a1] 0) H) :=
  runs_body (D := DT) (f := f_bv_cut) Go.Proofs.Try.func103 (by kernel_rfl) (by kernel_rfl) (by kernel_rfl) (by kernel_rfl) (by kernel_rfl) (Nat.le_of_ble_eq_true rfl)

def c_bv_of : LCode := (.seq (.reg [] [⟨some 1, some (.box T_api_Bits (.tmp 0)), none⟩,
    ⟨some 2, some (.alloc T_bv_number), none⟩])
  (.seq (.reg [] [⟨some 3, some (.fieldAddr T_api_Bits (.tmp 1) 1), none⟩,
    ⟨some 4, some (.load T_uint64 (.tmp 3)), none⟩,
    ⟨some 5, some (.fieldAddr T_api_Bits (.tmp 1) 2), none⟩,
    ⟨some 6, some (.load T_uint64 (.tmp 5)), none⟩,
    ⟨some 7, some (.build T_bv_number #[(0, (.tmp 4)), (1, (.tmp 6))]), none⟩,
    ⟨none, some (.store T_bv_number (.tmp 2) (.tmp 7)), none⟩])
  .ret))
theorem e_bv_of {a0 : AV} {H : AHeap} : R f_bv_of [a0] H = fnK Go.Proofs.Try.prog [] H [(.cell 2 T_bv_number)] (evalL Go.Proofs.Try.prog KT R c_bv_of (Env.args [a0] 0) H) :=
  runs_body (D := DT) (f := f_bv_of) Go.Proofs.Try.func104 (by kernel_rfl) (by kernel_rfl) (by kernel_rfl) (by kernel_rfl) (by kernel_rfl) (Nat.le_of_ble_eq_true rfl)

def l_slices_IndexFunc_int_int_0 : LCode := (.seq (.reg [] [⟨some 9, some (.binOp .lss T_int (.tmp 8) (.tmp 7) T_int), none⟩])
  (.seq (.cond (.tmp 9) .skip
  (.exit 0))
  (.seq (.block 1 (.seq (.reg [] [⟨some 10, some (.move (.tmp 8)), none⟩,
    ⟨some 5, some (.assign (.tmp 10)), none⟩])
  (.seq (.reg [] [⟨some 11, some (.move (.tmp 1)), none⟩,
    ⟨some 12, some (.move (.tmp 0)), none⟩,
    ⟨some 13, some (.move (.tmp 5)), none⟩,
    ⟨some 14, some (.indexAddr T_s_int (.tmp 12) (.tmp 13)), none⟩,
    ⟨some 15, some (.load T_int (.tmp 14)), none⟩,
    ⟨some 16, some (.call ⟨(.value (.tmp 11)), #[(.tmp 15)], #[T_int]⟩), none⟩])
  (.cond (.tmp 16) (.seq (.reg [] [⟨some 17, some (.move (.tmp 5)), none⟩,
    ⟨some 4, some (.assign (.tmp 17)), none⟩])
  .ret)
  .skip))))
  (.reg [] [⟨some 18, some (.binOp .add T_int (.tmp 8) (.const (.int .i64 1)) T_int), none⟩,
    ⟨some 8, some (.move (.tmp 18)), none⟩]))))
@[simp] theorem d_l_slices_IndexFunc_int_int_0 : defs l_slices_IndexFunc_int_int_0 = [9, 10, 5, 11, 12, 13, 14, 15, 16, 17, 4, 18, 8] := by rfl
def c_slices_IndexFunc_int_int : LCode := (.seq (.reg [] [⟨some 4, some (.assign (.const (.int .i64 0))), none⟩])
  (.seq (.seq (.reg [] [⟨some 6, some (.move (.tmp 0)), none⟩,
    ⟨some 7, some (.call ⟨(.builtin .len), #[(.tmp 6)], #[T_s_int]⟩), none⟩,
    ⟨some 8, some (.move (.const (.int .i64 0))), none⟩])
  (.block 0 (.loop l_slices_IndexFunc_int_int_0)))
  (.seq (.reg [] [⟨some 4, some (.assign (.const (.int .i64 (-1)))), none⟩])
  .ret)))
theorem e_slices_IndexFunc_int_int {a0 a1 : AV} {H : AHeap} : R f_slices_IndexFunc_int_int [a0, a1] H = fnK Go.Proofs.Try.prog [] H [(.tmp 4)] (evalL Go.Proofs.Try.prog KT R c_slices_IndexFunc_int_int (Env.args [a0, a1] 0) H) :=
  runs_body (D := DT) (f := f_slices_IndexFunc_int_int) Go.Proofs.Try.func111 (by kernel_rfl) (by kernel_rfl) (by kernel_rfl) (by kernel_rfl) (by kernel_rfl) (Nat.le_of_ble_eq_true rfl)

def c_term_numbered : LCode := (.seq (.reg [] [⟨some 8, some (.assign (.const (.int .i64 0))), none⟩,
    ⟨some 9, some (.assign (.const (.bool false))), none⟩])
  (.seq (.seq (.reg [] [⟨some 10, some (.move (.tmp 0)), none⟩])
  (.block 0 (.seq (.reg [] [⟨some 12, some (.binOp .eql T_int (.tmp 10) (.const (.int .i64 39)) T_int), none⟩,
    ⟨some 11, some (.assign (.tmp 12)), none⟩])
  (.cond (.tmp 11) (.seq (.reg [] [⟨some 13, some (.move (.tmp 1)), none⟩,
    ⟨some 14, some (.move (.tmp 2)), none⟩,
    ⟨some 15, some (.binOp .sub T_int (.tmp 13) (.tmp 14) T_int), none⟩,
    ⟨some 16, some (.binOp .add T_int (.tmp 15) (.const (.int .i64 1)) T_int), none⟩,
    ⟨some 17, some (.move (.tmp 2)), none⟩,
    ⟨some 18, some (.binOp .geq T_int (.tmp 17) (.const (.int .i64 0)) T_int), none⟩,
    ⟨some 19, some (.move (.tmp 18)), none⟩,
    ⟨some 20, some (.move (.tmp 1)), some (some 19, true)⟩,
    ⟨some 21, some (.move (.tmp 2)), some (some 19, true)⟩,
    ⟨some 22, some (.binOp .geq T_int (.tmp 20) (.tmp 21) T_int), some (some 19, true)⟩,
    ⟨some 23, some (.pick (.tmp 19) (.tmp 22) (.const (.bool false))), none⟩,
    ⟨some 24, some (.move (.tmp 23)), none⟩,
    ⟨some 25, some (.move (.tmp 1)), some (some 24, true)⟩,
    ⟨some 26, some (.move (.tmp 3)), some (some 24, true)⟩,
    ⟨some 27, some (.binOp .lss T_int (.tmp 25) (.tmp 26) T_int), some (some 24, true)⟩,
    ⟨some 28, some (.pick (.tmp 24) (.tmp 27) (.const (.bool false))), none⟩,
    ⟨some 8, some (.assign (.tmp 16)), none⟩,
    ⟨some 9, some (.assign (.tmp 28)), none⟩])
  .ret)
  (.seq (.seq (.reg [] [⟨some 30, some (.binOp .eql T_int (.tmp 10) (.const (.int .i64 42)) T_int), none⟩,
    ⟨some 29, some (.assign (.tmp 30)), none⟩])
  (.cond (.tmp 29) .skip
  (.reg [] [⟨some 31, some (.binOp .eql T_int (.tmp 10) (.const (.int .i64 43)) T_int), none⟩,
    ⟨some 29, some (.assign (.tmp 31)), none⟩])))
  (.cond (.tmp 29) (.seq (.reg [] [⟨some 32, some (.move (.tmp 3)), none⟩,
    ⟨some 33, some (.move (.tmp 1)), none⟩,
    ⟨some 34, some (.binOp .geq T_int (.tmp 33) (.const (.int .i64 0)) T_int), none⟩,
    ⟨some 35, some (.move (.tmp 34)), none⟩,
    ⟨some 36, some (.move (.tmp 2)), some (some 35, true)⟩,
    ⟨some 37, some (.binOp .eql T_int (.tmp 36) (.const (.int .i64 0)) T_int), some (some 35, true)⟩,
    ⟨some 38, some (.pick (.tmp 35) (.tmp 37) (.const (.bool false))), none⟩,
    ⟨some 8, some (.assign (.tmp 32)), none⟩,
    ⟨some 9, some (.assign (.tmp 38)), none⟩])
  .ret)
  (.seq (.reg [] [⟨some 40, some (.binOp .eql T_int (.tmp 10) (.const (.int .i64 44)) T_int), none⟩,
    ⟨some 39, some (.assign (.tmp 40)), none⟩])
  (.cond (.tmp 39) (.seq (.reg [] [⟨some 41, some (.move (.tmp 3)), none⟩,
    ⟨some 42, some (.move (.tmp 1)), none⟩,
    ⟨some 43, some (.call ⟨(.builtin .min), #[(.tmp 42), (.const (.int .i64 129))], #[T_int, T_int]⟩), none⟩,
    ⟨some 44, some (.binOp .mul T_int (.tmp 41) (.tmp 43) T_int), none⟩,
    ⟨some 45, some (.move (.tmp 1)), none⟩,
    ⟨some 46, some (.binOp .geq T_int (.tmp 45) (.const (.int .i64 1)) T_int), none⟩,
    ⟨some 47, some (.move (.tmp 46)), none⟩,
    ⟨some 48, some (.move (.tmp 2)), some (some 47, true)⟩,
    ⟨some 49, some (.binOp .eql T_int (.tmp 48) (.const (.int .i64 0)) T_int), some (some 47, true)⟩,
    ⟨some 50, some (.pick (.tmp 47) (.tmp 49) (.const (.bool false))), none⟩,
    ⟨some 8, some (.assign (.tmp 44)), none⟩,
    ⟨some 9, some (.assign (.tmp 50)), none⟩])
  .ret)
  .skip))))))))
  (.seq (.reg [] [⟨some 51, some (.move (.tmp 3)), none⟩,
    ⟨some 52, some (.move (.tmp 1)), none⟩,
    ⟨some 53, some (.call ⟨(.builtin .max), #[(.tmp 52), (.const (.int .i64 0))], #[T_int, T_int]⟩), none⟩,
    ⟨some 54, some (.call ⟨(.builtin .min), #[(.tmp 53), (.const (.int .i64 128))], #[T_int, T_int]⟩), none⟩,
    ⟨some 55, some (.binOp .add T_int (.tmp 51) (.tmp 54) T_int), none⟩,
    ⟨some 56, some (.move (.tmp 1)), none⟩,
    ⟨some 57, some (.binOp .geq T_int (.tmp 56) (.const (.int .i64 0)) T_int), none⟩,
    ⟨some 58, some (.move (.tmp 57)), none⟩,
    ⟨some 59, some (.move (.tmp 2)), some (some 58, true)⟩,
    ⟨some 60, some (.binOp .eql T_int (.tmp 59) (.const (.int .i64 0)) T_int), some (some 58, true)⟩,
    ⟨some 61, some (.pick (.tmp 58) (.tmp 60) (.const (.bool false))), none⟩,
    ⟨some 8, some (.assign (.tmp 55)), none⟩,
    ⟨some 9, some (.assign (.tmp 61)), none⟩])
  .ret)))
theorem e_term_numbered {a0 a1 a2 a3 : AV} {H : AHeap} : R f_term_numbered [a0, a1, a2, a3] H = fnK Go.Proofs.Try.prog [] H [(.tmp 8), (.tmp 9)] (evalL Go.Proofs.Try.prog KT R c_term_numbered (Env.args [a0, a1, a2, a3] 0) H) :=
  runs_body (D := DT) (f := f_term_numbered) Go.Proofs.Try.func112 (by kernel_rfl) (by kernel_rfl) (by kernel_rfl) (by kernel_rfl) (by kernel_rfl) (Nat.le_of_ble_eq_true rfl)

def c_bv_mask : LCode := (.seq (.reg [] [⟨some 2, some (.alloc T_bv_number), none⟩])
  (.seq (.reg [] [⟨some 3, some (.build T_bv_number #[]), none⟩,
    ⟨some 4, some (.call ⟨(.value (.func f_plait_bv_number_not)), #[(.tmp 3)], #[T_bv_number]⟩), none⟩,
    ⟨some 5, some (.move (.tmp 0)), none⟩,
    ⟨some 6, some (.binOp .sub T_int (.const (.int .i64 128)) (.tmp 5) T_int), none⟩,
    ⟨some 7, some (.call ⟨(.value (.func f_plait_bv_number_right)), #[(.tmp 4), (.tmp 6)], #[T_bv_number, T_int]⟩), none⟩,
    ⟨none, some (.store T_bv_number (.tmp 2) (.tmp 7)), none⟩])
  .ret))
theorem e_bv_mask {a0 : AV} {H : AHeap} : R f_bv_mask [a0] H = fnK Go.Proofs.Try.prog [] H [(.cell 2 T_bv_number)] (evalL Go.Proofs.Try.prog KT R c_bv_mask (Env.args [a0] 0) H) :=
  runs_body (D := DT) (f := f_bv_mask) Go.Proofs.Try.func114 (by kernel_rfl) (by kernel_rfl) (by kernel_rfl) (by kernel_rfl) (by kernel_rfl) (Nat.le_of_ble_eq_true rfl)

def c_plait_bv_number_not : LCode := (.seq (.reg [] [⟨some 1, some (.box T_bv_number (.tmp 0)), none⟩,
    ⟨some 2, some (.alloc T_bv_number), none⟩])
  (.seq (.reg [] [⟨some 3, some (.fieldAddr T_bv_number (.tmp 1) 0), none⟩,
    ⟨some 4, some (.load T_uint64 (.tmp 3)), none⟩,
    ⟨some 5, some (.unOp .xor T_uint64 (.tmp 4)), none⟩,
    ⟨some 6, some (.fieldAddr T_bv_number (.tmp 1) 1), none⟩,
    ⟨some 7, some (.load T_uint64 (.tmp 6)), none⟩,
    ⟨some 8, some (.unOp .xor T_uint64 (.tmp 7)), none⟩,
    ⟨some 9, some (.build T_bv_number #[(0, (.tmp 5)), (1, (.tmp 8))]), none⟩,
    ⟨none, some (.store T_bv_number (.tmp 2) (.tmp 9)), none⟩])
  .ret))
theorem e_plait_bv_number_not {a0 : AV} {H : AHeap} : R f_plait_bv_number_not [a0] H = fnK Go.Proofs.Try.prog [] H [(.cell 2 T_bv_number)] (evalL Go.Proofs.Try.prog KT R c_plait_bv_number_not (Env.args [a0] 0) H) :=
  runs_body (D := DT) (f := f_plait_bv_number_not) Go.Proofs.Try.func115 (by kernel_rfl) (by kernel_rfl) (by kernel_rfl) (by kernel_rfl) (by kernel_rfl) (Nat.le_of_ble_eq_true rfl)

def c_plait_bv_number_right : LCode := (.seq (.reg [] [⟨some 2, some (.box T_bv_number (.tmp 0)), none⟩,
    ⟨some 4, some (.alloc T_bv_number), none⟩])
  (.seq (.seq (.reg [] [⟨some 5, some (.move (.tmp 1)), none⟩,
    ⟨some 6, some (.binOp .geq T_int (.tmp 5) (.const (.int .i64 64)) T_int), none⟩])
  (.cond (.tmp 6) (.seq (.reg [] [⟨some 7, some (.fieldAddr T_bv_number (.tmp 2) 1), none⟩,
    ⟨some 8, some (.load T_uint64 (.tmp 7)), none⟩,
    ⟨some 9, some (.move (.tmp 1)), none⟩,
    ⟨some 10, some (.binOp .sub T_int (.tmp 9) (.const (.int .i64 64)) T_int), none⟩,
    ⟨some 11, some (.convert T_int T_uint (.tmp 10)), none⟩,
    ⟨some 12, some (.binOp .shr T_uint64 (.tmp 8) (.tmp 11) T_uint), none⟩,
    ⟨some 13, some (.build T_bv_number #[(0, (.tmp 12)), (1, (.const (.int .u64 0)))]), none⟩,
    ⟨none, some (.store T_bv_number (.tmp 4) (.tmp 13)), none⟩])
  .ret)
  .skip))
  (.seq (.reg [] [⟨some 14, some (.fieldAddr T_bv_number (.tmp 2) 0), none⟩,
    ⟨some 15, some (.load T_uint64 (.tmp 14)), none⟩,
    ⟨some 16, some (.move (.tmp 1)), none⟩,
    ⟨some 17, some (.convert T_int T_uint (.tmp 16)), none⟩,
    ⟨some 18, some (.binOp .shr T_uint64 (.tmp 15) (.tmp 17) T_uint), none⟩,
    ⟨some 19, some (.fieldAddr T_bv_number (.tmp 2) 1), none⟩,
    ⟨some 20, some (.load T_uint64 (.tmp 19)), none⟩,
    ⟨some 21, some (.move (.tmp 1)), none⟩,
    ⟨some 22, some (.binOp .sub T_int (.const (.int .i64 64)) (.tmp 21) T_int), none⟩,
    ⟨some 23, some (.convert T_int T_uint (.tmp 22)), none⟩,
    ⟨some 24, some (.binOp .shl T_uint64 (.tmp 20) (.tmp 23) T_uint), none⟩,
    ⟨some 25, some (.binOp .or T_uint64 (.tmp 18) (.tmp 24) T_uint64), none⟩,
    ⟨some 26, some (.fieldAddr T_bv_number (.tmp 2) 1), none⟩,
    ⟨some 27, some (.load T_uint64 (.tmp 26)), none⟩,
    ⟨some 28, some (.move (.tmp 1)), none⟩,
    ⟨some 29, some (.convert T_int T_uint (.tmp 28)), none⟩,
    ⟨some 30, some (.binOp .shr T_uint64 (.tmp 27) (.tmp 29) T_uint), none⟩,
    ⟨some 31, some (.build T_bv_number #[(0, (.tmp 25)), (1, (.tmp 30))]), none⟩,
    ⟨none, some (.store T_bv_number (.tmp 4) (.tmp 31)), none⟩])
  .ret)))
theorem e_plait_bv_number_right {a0 a1 : AV} {H : AHeap} : R f_plait_bv_number_right [a0, a1] H = fnK Go.Proofs.Try.prog [] H [(.cell 4 T_bv_number)] (evalL Go.Proofs.Try.prog KT R c_plait_bv_number_right (Env.args [a0, a1] 0) H) :=
  runs_body (D := DT) (f := f_plait_bv_number_right) Go.Proofs.Try.func116 (by kernel_rfl) (by kernel_rfl) (by kernel_rfl) (by kernel_rfl) (by kernel_rfl) (Nat.le_of_ble_eq_true rfl)

end Go.Proofs.Ytphkkcocimmmfaa
