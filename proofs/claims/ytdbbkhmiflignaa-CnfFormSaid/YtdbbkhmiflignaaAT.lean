/- What this seat's program looks like to the rules: names, types, bodies in the short form. Written by seat.py. -/
import Derived.Test.YtdbbkhmiflignaaALC
import Derived.Test.YtdbbkhmiflignaaChecked
namespace Go.Proofs.Ytdbbkhmiflignaa
open Go.RowKit

def T_int : TypeId := 3
def T_bool : TypeId := 4
def T_s_plaitlaw10_Step : TypeId := 22
def T_p_plaitlaw10_run : TypeId := 25
def T_p_aig_Graph : TypeId := 27
def T_p_cnf_Encoder : TypeId := 28
def T_s_s_int : TypeId := 29
def T_s_int : TypeId := 30
def T_plaitlaw10_run : TypeId := 32
def T_s_bool : TypeId := 43
def T_api_Errno : TypeId := 44
def T_plaitlaw10_Step : TypeId := 61
def T_s_a2_int : TypeId := 70
def T_m_a2_int_int : TypeId := 71
def T_aig_Graph : TypeId := 73
def T_m_int_int : TypeId := 74
def T_cnf_Encoder : TypeId := 76
def T_a2_int : TypeId := 80
def T_uint : TypeId := 81
def T_cnf_todo : TypeId := 98
def T_s_cnf_todo : TypeId := 100
def f_plaitlaw10_CnfForm : FuncId := 3
def f_plaitlaw10_known : FuncId := 6
def f_plaithelp_Place : FuncId := 7
def f_plaitlaw10_play : FuncId := 8
def f_plait_aig_Graph_Nodes : FuncId := 9
def f_plaitref12_Set : FuncId := 10
def f_plaitref12_Has : FuncId := 11
def f_plait_cnf_Encoder_Vars : FuncId := 12
def f_plaithelp_Ints : FuncId := 13
def f_plait_cnf_Encoder_Of : FuncId := 14
def f_plait_aig_Graph_Inputs : FuncId := 16
def f_plaithelp_CopyLists : FuncId := 18
def f_plaitref12_Can : FuncId := 19
def f_plait_cnf_Encoder_Root : FuncId := 26
def f_aig_New : FuncId := 27
def f_cnf_New : FuncId := 28
def f_plait_aig_Graph_Input : FuncId := 29
def f_plait_aig_Graph_And : FuncId := 30
def f_plait_aig_Graph_Xor : FuncId := 31
def f_plait_plaitlaw10_run_root : FuncId := 32
def f_plait_cnf_Encoder_Fresh : FuncId := 33
def f_slices_Clone_int_int : FuncId := 35
def f_plait_aig_Graph_lit : FuncId := 36
def f_plaithelp_CopyInts : FuncId := 37
def f_plaitref12_All : FuncId := 38
def f_plait_aig_Graph_Cone : FuncId := 51
def f_plait_cnf_Encoder_lays : FuncId := 52
def f_cnf_asks : FuncId := 53
def f_plait_cnf_Encoder_node : FuncId := 54
def f_plait_cnf_Encoder_lit : FuncId := 55
def f_plait_aig_Graph_node : FuncId := 56
def f_plait_aig_Graph_either : FuncId := 57
def f_plaithelp_Spoil : FuncId := 58
def f_plaitref12_True : FuncId := 59
def f_plait_aig_Graph_Kids : FuncId := 73
def f_plait_aig_Graph_Or : FuncId := 74
def f_aig_turned : FuncId := 81
def KT : TypeId → Option (List Sc) := fun t => if t = T_a2_int then some [(.i .i64), (.i .i64)] else none
def DT : Quiets := fun f r => if f = f_plaitlaw10_CnfForm then (if r = 7 then [15] else if r = 19 then [36] else []) else if f = f_plaitlaw10_play then (if r = 7 then [6] else []) else if f = f_plait_aig_Graph_Inputs then (if r = 1000000 then [0] else []) else if f = f_plait_cnf_Encoder_Root then (if r = 18 then [3, 6, 802, 997, 1000] else if r = 25 then [2, 4, 7, 997] else []) else if f = f_plait_plaitlaw10_run_root then (if r = 1 then [6] else if r = 2 then [8, 12, 14, 998, 1000] else []) else if f = f_plait_aig_Graph_Cone then (if r = 10 then [6, 9] else []) else []
noncomputable def R : Calling := runs Go.Proofs.Try.prog KT DT
theorem good : Good Go.Proofs.Try.prog KT := by
  refine ⟨fun t sh h => ?_, Go.Proofs.Try.checked.mixed⟩
  unfold KT at h
  split at h
  · rename_i ht; subst ht; cases h; exact keyOK_of (d := 8) (by kernel_rfl) (by omega) (by kernel_rfl) (by kernel_rfl)
  cases h

@[simp] theorem ty0 : lnS Go.Proofs.Try.prog T_s_plaitlaw10_Step = .slice := by kernel_rfl
@[simp] theorem ty1 : faS Go.Proofs.Try.prog T_plaitlaw10_run 5 = some 5 := by kernel_rfl
@[simp] theorem ty2 : ldS Go.Proofs.Try.prog T_bool = some none := by kernel_rfl
@[simp] theorem ty3 : faS Go.Proofs.Try.prog T_plaitlaw10_run 2 = some 2 := by kernel_rfl
@[simp] theorem ty4 : ldS Go.Proofs.Try.prog T_s_s_int = some none := by kernel_rfl
@[simp] theorem ty5 : lnS Go.Proofs.Try.prog T_s_s_int = .slice := by kernel_rfl
@[simp] theorem ty6 : faS Go.Proofs.Try.prog T_plaitlaw10_run 0 = some 0 := by kernel_rfl
@[simp] theorem ty7 : ldS Go.Proofs.Try.prog T_p_aig_Graph = some none := by kernel_rfl
@[simp] theorem ty8 : eszS Go.Proofs.Try.prog T_s_s_int = some 1 := by kernel_rfl
@[simp] theorem ty9 : ldS Go.Proofs.Try.prog T_s_int = some none := by kernel_rfl
@[simp] theorem ty10 : lnS Go.Proofs.Try.prog T_s_int = .slice := by kernel_rfl
@[simp] theorem ty11 : eszS Go.Proofs.Try.prog T_s_int = some 1 := by kernel_rfl
@[simp] theorem ty12 : ldS Go.Proofs.Try.prog T_int = some none := by kernel_rfl
@[simp] theorem ty13 : faS Go.Proofs.Try.prog T_plaitlaw10_run 1 = some 1 := by kernel_rfl
@[simp] theorem ty14 : ldS Go.Proofs.Try.prog T_p_cnf_Encoder = some none := by kernel_rfl
@[simp] theorem ty15 : bsS Go.Proofs.Try.prog T_s_s_int = some (1, [.nils]) := by kernel_rfl
@[simp] theorem ty16 : mkS Go.Proofs.Try.prog T_s_s_int = some (1, 24, [.nils]) := by kernel_rfl
@[simp] theorem ty17 : mkS Go.Proofs.Try.prog T_s_int = some (1, 8, [(.int .i64 0)]) := by kernel_rfl
@[simp] theorem ty18 : tS Go.Proofs.Try.prog T_int = some 1 := by kernel_rfl
@[simp] theorem ty19 : tZ Go.Proofs.Try.prog T_plaitlaw10_Step = some [(.int .i64 0), (.int .i64 0), (.int .i64 0)] := by kernel_rfl
@[simp] theorem ty20 : blS Go.Proofs.Try.prog T_plaitlaw10_Step = some true := by kernel_rfl
@[simp] theorem ty21 : plS Go.Proofs.Try.prog T_plaitlaw10_Step 0 = some (0, 1) := by kernel_rfl
@[simp] theorem ty22 : plS Go.Proofs.Try.prog T_plaitlaw10_Step 1 = some (1, 1) := by kernel_rfl
@[simp] theorem ty23 : plS Go.Proofs.Try.prog T_plaitlaw10_Step 2 = some (2, 1) := by kernel_rfl
@[simp] theorem ty24 : bsS Go.Proofs.Try.prog T_s_plaitlaw10_Step = some (3, [(.int .i64 0), (.int .i64 0), (.int .i64 0)]) := by kernel_rfl
@[simp] theorem ty25 : eqS Go.Proofs.Try.prog T_p_cnf_Encoder = .ptr := by kernel_rfl
@[simp] theorem ty26 : eqS Go.Proofs.Try.prog T_p_aig_Graph = .ptr := by kernel_rfl
@[simp] theorem ty27 : faS Go.Proofs.Try.prog T_plaitlaw10_run 4 = some 4 := by kernel_rfl
@[simp] theorem ty28 : bsS Go.Proofs.Try.prog T_s_int = some (1, [(.int .i64 0)]) := by kernel_rfl
@[simp] theorem ty29 : tZ Go.Proofs.Try.prog T_plaitlaw10_run = some [.nilp, .nilp, .nils, .nils, .nils, (.bool false)] := by kernel_rfl
@[simp] theorem ty30 : blS Go.Proofs.Try.prog T_plaitlaw10_run = some true := by kernel_rfl
@[simp] theorem ty31 : plS Go.Proofs.Try.prog T_plaitlaw10_run 0 = some (0, 1) := by kernel_rfl
@[simp] theorem ty32 : plS Go.Proofs.Try.prog T_plaitlaw10_run 5 = some (5, 1) := by kernel_rfl
@[simp] theorem ty33 : tS Go.Proofs.Try.prog T_p_cnf_Encoder = some 1 := by kernel_rfl
@[simp] theorem ty34 : eszS Go.Proofs.Try.prog T_s_plaitlaw10_Step = some 3 := by kernel_rfl
@[simp] theorem ty35 : faS Go.Proofs.Try.prog T_plaitlaw10_Step 1 = some 1 := by kernel_rfl
@[simp] theorem ty36 : faS Go.Proofs.Try.prog T_plaitlaw10_Step 2 = some 2 := by kernel_rfl
@[simp] theorem ty37 : faS Go.Proofs.Try.prog T_plaitlaw10_Step 0 = some 0 := by kernel_rfl
@[simp] theorem ty38 : tS Go.Proofs.Try.prog T_bool = some 1 := by kernel_rfl
@[simp] theorem ty39 : faS Go.Proofs.Try.prog T_aig_Graph 1 = some 1 := by kernel_rfl
@[simp] theorem ty40 : ldS Go.Proofs.Try.prog T_s_a2_int = some none := by kernel_rfl
@[simp] theorem ty41 : lnS Go.Proofs.Try.prog T_s_a2_int = .slice := by kernel_rfl
@[simp] theorem ty42 : faS Go.Proofs.Try.prog T_cnf_Encoder 1 = some 1 := by kernel_rfl
@[simp] theorem ty43 : faS Go.Proofs.Try.prog T_aig_Graph 3 = some 3 := by kernel_rfl
@[simp] theorem ty44 : eqS Go.Proofs.Try.prog T_s_int = .slice := by kernel_rfl
@[simp] theorem ty45 : mkeyS Go.Proofs.Try.prog KT T_m_a2_int_int = some (.many [(.i .i64), (.i .i64)]) := by kernel_rfl
@[simp] theorem ty46 : mapS Go.Proofs.Try.prog KT T_m_a2_int_int = some ((.many [(.i .i64), (.i .i64)]), (.int .i64 0)) := by kernel_rfl
@[simp] theorem ty47 : tZ Go.Proofs.Try.prog T_aig_Graph = some [(.int .i64 0), .nils, .nilm, .nils] := by kernel_rfl
@[simp] theorem ty48 : blS Go.Proofs.Try.prog T_aig_Graph = some true := by kernel_rfl
@[simp] theorem ty49 : plS Go.Proofs.Try.prog T_aig_Graph 0 = some (0, 1) := by kernel_rfl
@[simp] theorem ty50 : plS Go.Proofs.Try.prog T_aig_Graph 2 = some (2, 1) := by kernel_rfl
@[simp] theorem ty51 : mkeyS Go.Proofs.Try.prog KT T_m_int_int = some (.one (.i .i64)) := by kernel_rfl
@[simp] theorem ty52 : mapS Go.Proofs.Try.prog KT T_m_int_int = some ((.one (.i .i64)), (.int .i64 0)) := by kernel_rfl
@[simp] theorem ty53 : tZ Go.Proofs.Try.prog T_cnf_Encoder = some [.nilp, (.int .i64 0), .nilm, .nilm, .nils] := by kernel_rfl
@[simp] theorem ty54 : blS Go.Proofs.Try.prog T_cnf_Encoder = some true := by kernel_rfl
@[simp] theorem ty55 : plS Go.Proofs.Try.prog T_cnf_Encoder 0 = some (0, 1) := by kernel_rfl
@[simp] theorem ty56 : plS Go.Proofs.Try.prog T_cnf_Encoder 1 = some (1, 1) := by kernel_rfl
@[simp] theorem ty57 : plS Go.Proofs.Try.prog T_cnf_Encoder 2 = some (2, 1) := by kernel_rfl
@[simp] theorem ty58 : plS Go.Proofs.Try.prog T_cnf_Encoder 3 = some (3, 1) := by kernel_rfl
@[simp] theorem ty59 : tZ Go.Proofs.Try.prog T_a2_int = some [(.int .i64 0), (.int .i64 0)] := by kernel_rfl
@[simp] theorem ty60 : blS Go.Proofs.Try.prog T_a2_int = some true := by kernel_rfl
@[simp] theorem ty61 : tS Go.Proofs.Try.prog T_s_int = some 1 := by kernel_rfl
@[simp] theorem ty62 : faS Go.Proofs.Try.prog T_aig_Graph 0 = some 0 := by kernel_rfl
@[simp] theorem ty63 : ldS Go.Proofs.Try.prog T_a2_int = some (some 2) := by kernel_rfl
@[simp] theorem ty64 : bsS Go.Proofs.Try.prog T_s_a2_int = some (2, [(.int .i64 0), (.int .i64 0)]) := by kernel_rfl
@[simp] theorem ty65 : mkS Go.Proofs.Try.prog T_s_a2_int = some (2, 16, [(.int .i64 0), (.int .i64 0)]) := by kernel_rfl
@[simp] theorem ty66 : tS Go.Proofs.Try.prog T_s_a2_int = some 1 := by kernel_rfl
@[simp] theorem ty67 : plS Go.Proofs.Try.prog T_a2_int 0 = some (0, 1) := by kernel_rfl
@[simp] theorem ty68 : plS Go.Proofs.Try.prog T_a2_int 1 = some (1, 1) := by kernel_rfl
@[simp] theorem ty69 : tS Go.Proofs.Try.prog T_a2_int = some 2 := by kernel_rfl
@[simp] theorem ty70 : faS Go.Proofs.Try.prog T_aig_Graph 2 = some 2 := by kernel_rfl
@[simp] theorem ty71 : ldS Go.Proofs.Try.prog T_m_a2_int_int = some none := by kernel_rfl
@[simp] theorem ty72 : tS Go.Proofs.Try.prog T_s_s_int = some 1 := by kernel_rfl
@[simp] theorem ty73 : faS Go.Proofs.Try.prog T_plaitlaw10_run 3 = some 3 := by kernel_rfl
@[simp] theorem ty74 : faS Go.Proofs.Try.prog T_cnf_Encoder 0 = some 0 := by kernel_rfl
@[simp] theorem ty75 : faS Go.Proofs.Try.prog T_cnf_Encoder 2 = some 2 := by kernel_rfl
@[simp] theorem ty76 : ldS Go.Proofs.Try.prog T_m_int_int = some none := by kernel_rfl
@[simp] theorem ty77 : faS Go.Proofs.Try.prog T_cnf_Encoder 4 = some 4 := by kernel_rfl
@[simp] theorem ty78 : bsS Go.Proofs.Try.prog T_s_cnf_todo = some (2, [(.int .i64 0), (.int .i64 0)]) := by kernel_rfl
@[simp] theorem ty79 : lnS Go.Proofs.Try.prog T_s_cnf_todo = .slice := by kernel_rfl
@[simp] theorem ty80 : eszS Go.Proofs.Try.prog T_s_cnf_todo = some 2 := by kernel_rfl
@[simp] theorem ty81 : ldS Go.Proofs.Try.prog T_cnf_todo = some (some 2) := by kernel_rfl
@[simp] theorem ty82 : tZ Go.Proofs.Try.prog T_cnf_todo = some [(.int .i64 0), (.int .i64 0)] := by kernel_rfl
@[simp] theorem ty83 : tS Go.Proofs.Try.prog T_cnf_todo = some 2 := by kernel_rfl
@[simp] theorem ty84 : mkS Go.Proofs.Try.prog T_s_cnf_todo = some (2, 16, [(.int .i64 0), (.int .i64 0)]) := by kernel_rfl
@[simp] theorem ty85 : mkS Go.Proofs.Try.prog T_s_bool = some (1, 1, [(.bool false)]) := by kernel_rfl
@[simp] theorem ty86 : eszS Go.Proofs.Try.prog T_s_bool = some 1 := by kernel_rfl
@[simp] theorem ty87 : eszS Go.Proofs.Try.prog T_s_a2_int = some 2 := by kernel_rfl
@[simp] theorem ty88 : KT T_a2_int = some [(.i .i64), (.i .i64)] := by kernel_rfl
@[simp] theorem ty89 : arrS Go.Proofs.Try.prog T_a2_int = some (2, 1) := by kernel_rfl
@[simp] theorem ty90 : arrL Go.Proofs.Try.prog T_a2_int = some none := by kernel_rfl
@[simp] theorem ty91 : lnS Go.Proofs.Try.prog T_s_bool = .slice := by kernel_rfl
@[simp] theorem ty92 : blS Go.Proofs.Try.prog T_cnf_todo = some true := by kernel_rfl
@[simp] theorem ty93 : plS Go.Proofs.Try.prog T_cnf_todo 0 = some (0, 1) := by kernel_rfl
@[simp] theorem ty94 : plS Go.Proofs.Try.prog T_cnf_todo 1 = some (1, 1) := by kernel_rfl
@[simp] theorem ty95 : faS Go.Proofs.Try.prog T_cnf_Encoder 3 = some 3 := by kernel_rfl
@[simp] theorem ty96 : faS Go.Proofs.Try.prog T_cnf_todo 0 = some 0 := by kernel_rfl
@[simp] theorem ty97 : faS Go.Proofs.Try.prog T_cnf_todo 1 = some 1 := by kernel_rfl
@[simp] theorem ty98 : eqS Go.Proofs.Try.prog T_bool = .bool := by kernel_rfl

def l_plaitlaw10_CnfForm_1 : LCode := (.seq (.seq (.reg [] [⟨some 82, some (.move (.tmp 10)), none⟩,
    ⟨some 83, some (.move (.tmp 8)), none⟩,
    ⟨some 84, some (.call ⟨(.builtin .len), #[(.tmp 83)], #[T_s_int]⟩), none⟩,
    ⟨some 85, some (.binOp .lss T_int (.tmp 82) (.tmp 84) T_int), none⟩])
  (.cond (.tmp 85) .skip
  (.exit 2)))
  (.seq (.block 3 (.seq (.reg [36] [⟨some 88, some (.move (.tmp 8)), none⟩,
    ⟨some 89, some (.move (.tmp 8)), none⟩,
    ⟨some 90, some (.move (.tmp 10)), none⟩,
    ⟨some 91, some (.indexAddr T_s_int (.tmp 89) (.tmp 90)), none⟩,
    ⟨some 92, some (.load T_int (.tmp 91)), none⟩,
    ⟨some 93, some (.unOp .neg T_int (.tmp 92)), none⟩,
    ⟨some 94, some (.call ⟨(.value (.func f_plaitref12_Has)), #[(.tmp 88), (.tmp 93)], #[T_s_int, T_int]⟩), none⟩,
    ⟨some 95, some (.move (.tmp 94)), none⟩,
    ⟨some 96, some (.move (.tmp 8)), some (some 95, false)⟩,
    ⟨some 97, some (.move (.tmp 10)), some (some 95, false)⟩,
    ⟨some 98, some (.indexAddr T_s_int (.tmp 96) (.tmp 97)), some (some 95, false)⟩,
    ⟨some 99, some (.load T_int (.tmp 98)), some (some 95, false)⟩,
    ⟨some 100, some (.move (.tmp 8)), some (some 95, false)⟩,
    ⟨some 101, some (.move (.tmp 10)), some (some 95, false)⟩,
    ⟨some 102, some (.indexAddr T_s_int (.tmp 100) (.tmp 101)), some (some 95, false)⟩,
    ⟨some 103, some (.load T_int (.tmp 102)), some (some 95, false)⟩,
    ⟨some 104, some (.unOp .neg T_int (.tmp 103)), some (some 95, false)⟩,
    ⟨some 105, some (.call ⟨(.builtin .max), #[(.tmp 99), (.tmp 104)], #[T_int, T_int]⟩), some (some 95, false)⟩,
    ⟨some 106, some (.move (.tmp 1)), some (some 95, false)⟩,
    ⟨some 107, some (.binOp .lss T_int (.tmp 105) (.tmp 106) T_int), some (some 95, false)⟩,
    ⟨some 108, some (.pick (.tmp 95) (.const (.bool true)) (.tmp 107)), none⟩,
    ⟨some 109, some (.move (.tmp 108)), none⟩,
    ⟨some 110, some (.move (.tmp 8)), some (some 109, false)⟩,
    ⟨some 111, some (.move (.tmp 10)), some (some 109, false)⟩,
    ⟨some 112, some (.indexAddr T_s_int (.tmp 110) (.tmp 111)), some (some 109, false)⟩,
    ⟨some 113, some (.load T_int (.tmp 112)), some (some 109, false)⟩,
    ⟨some 114, some (.move (.tmp 8)), some (some 109, false)⟩,
    ⟨some 115, some (.move (.tmp 10)), some (some 109, false)⟩,
    ⟨some 116, some (.indexAddr T_s_int (.tmp 114) (.tmp 115)), some (some 109, false)⟩,
    ⟨some 117, some (.load T_int (.tmp 116)), some (some 109, false)⟩,
    ⟨some 118, some (.unOp .neg T_int (.tmp 117)), some (some 109, false)⟩,
    ⟨some 119, some (.call ⟨(.builtin .max), #[(.tmp 113), (.tmp 118)], #[T_int, T_int]⟩), some (some 109, false)⟩,
    ⟨some 120, some (.move (.tmp 5)), some (some 109, false)⟩,
    ⟨some 121, some (.nilCheck (.tmp 120)), some (some 109, false)⟩,
    ⟨some 122, some (.fieldAddr T_plaitlaw10_run (.tmp 121) 1), some (some 109, false)⟩,
    ⟨some 123, some (.load T_p_cnf_Encoder (.tmp 122)), some (some 109, false)⟩,
    ⟨some 124, some (.call ⟨(.value (.func f_plait_cnf_Encoder_Vars)), #[(.tmp 123)], #[T_p_cnf_Encoder]⟩), some (some 109, false)⟩,
    ⟨some 125, some (.binOp .gtr T_int (.tmp 119) (.tmp 124) T_int), some (some 109, false)⟩,
    ⟨some 126, some (.pick (.tmp 109) (.const (.bool true)) (.tmp 125)), none⟩])
  (.cond (.tmp 126) (.seq (.reg [] [⟨some 4, some (.assign (.const (.bool false))), none⟩])
  .ret)
  .skip)))
  (.reg [] [⟨some 86, some (.move (.tmp 10)), none⟩,
    ⟨some 87, some (.binOp .add T_int (.tmp 86) (.const (.int .i64 1)) T_int), none⟩,
    ⟨some 10, some (.assign (.tmp 87)), none⟩])))
def l_plaitlaw10_CnfForm_2 : LCode := (.seq (.seq (.reg [] [⟨some 127, some (.move (.tmp 11)), none⟩,
    ⟨some 128, some (.move (.tmp 6)), none⟩,
    ⟨some 129, some (.call ⟨(.builtin .len), #[(.tmp 128)], #[T_s_s_int]⟩), none⟩,
    ⟨some 130, some (.binOp .lss T_int (.tmp 127) (.tmp 129) T_int), none⟩])
  (.cond (.tmp 130) .skip
  (.exit 4)))
  (.seq (.block 5 (.seq (.reg [] [⟨some 133, some (.move (.tmp 6)), none⟩,
    ⟨some 134, some (.move (.tmp 11)), none⟩,
    ⟨some 135, some (.indexAddr T_s_s_int (.tmp 133) (.tmp 134)), none⟩,
    ⟨some 136, some (.load T_s_int (.tmp 135)), none⟩,
    ⟨some 137, some (.move (.tmp 8)), none⟩,
    ⟨some 138, some (.call ⟨(.value (.func f_plaithelp_Ints)), #[(.tmp 136), (.tmp 137)], #[T_s_int, T_s_int]⟩), none⟩])
  (.cond (.tmp 138) (.seq (.reg [] [⟨some 4, some (.assign (.const (.bool false))), none⟩])
  .ret)
  .skip)))
  (.reg [] [⟨some 131, some (.move (.tmp 11)), none⟩,
    ⟨some 132, some (.binOp .add T_int (.tmp 131) (.const (.int .i64 1)) T_int), none⟩,
    ⟨some 11, some (.assign (.tmp 132)), none⟩])))
def l_plaitlaw10_CnfForm_0 : LCode := (.seq (.seq (.reg [] [⟨some 47, some (.move (.tmp 7)), none⟩,
    ⟨some 48, some (.move (.tmp 5)), none⟩,
    ⟨some 49, some (.nilCheck (.tmp 48)), none⟩,
    ⟨some 50, some (.fieldAddr T_plaitlaw10_run (.tmp 49) 2), none⟩,
    ⟨some 51, some (.load T_s_s_int (.tmp 50)), none⟩,
    ⟨some 52, some (.call ⟨(.builtin .len), #[(.tmp 51)], #[T_s_s_int]⟩), none⟩,
    ⟨some 53, some (.binOp .lss T_int (.tmp 47) (.tmp 52) T_int), none⟩])
  (.cond (.tmp 53) .skip
  (.exit 0)))
  (.seq (.block 1 (.seq (.reg [] [⟨some 57, some (.move (.tmp 5)), none⟩,
    ⟨some 58, some (.nilCheck (.tmp 57)), none⟩,
    ⟨some 59, some (.fieldAddr T_plaitlaw10_run (.tmp 58) 2), none⟩,
    ⟨some 60, some (.load T_s_s_int (.tmp 59)), none⟩,
    ⟨some 61, some (.move (.tmp 7)), none⟩,
    ⟨some 62, some (.indexAddr T_s_s_int (.tmp 60) (.tmp 61)), none⟩,
    ⟨some 63, some (.load T_s_int (.tmp 62)), none⟩,
    ⟨some 64, some (.call ⟨(.value (.func f_plaitref12_Set)), #[(.tmp 63)], #[T_s_int]⟩), none⟩,
    ⟨some 56, some (.move (.tmp 64)), none⟩,
    ⟨some 65, some (.extract (.tmp 56) 0), none⟩,
    ⟨some 66, some (.extract (.tmp 56) 1), none⟩,
    ⟨some 8, some (.assign (.tmp 65)), none⟩,
    ⟨some 9, some (.assign (.tmp 66)), none⟩])
  (.seq (.seq (.reg [] [⟨some 67, some (.move (.tmp 9)), none⟩,
    ⟨some 68, some (.unOp .not T_bool (.tmp 67)), none⟩,
    ⟨some 69, some (.move (.tmp 68)), none⟩,
    ⟨some 70, some (.move (.tmp 8)), some (some 69, false)⟩,
    ⟨some 71, some (.call ⟨(.builtin .len), #[(.tmp 70)], #[T_s_int]⟩), some (some 69, false)⟩,
    ⟨some 72, some (.move (.tmp 5)), some (some 69, false)⟩,
    ⟨some 73, some (.nilCheck (.tmp 72)), some (some 69, false)⟩,
    ⟨some 74, some (.fieldAddr T_plaitlaw10_run (.tmp 73) 2), some (some 69, false)⟩,
    ⟨some 75, some (.load T_s_s_int (.tmp 74)), some (some 69, false)⟩,
    ⟨some 76, some (.move (.tmp 7)), some (some 69, false)⟩,
    ⟨some 77, some (.indexAddr T_s_s_int (.tmp 75) (.tmp 76)), some (some 69, false)⟩,
    ⟨some 78, some (.load T_s_int (.tmp 77)), some (some 69, false)⟩,
    ⟨some 79, some (.call ⟨(.builtin .len), #[(.tmp 78)], #[T_s_int]⟩), some (some 69, false)⟩,
    ⟨some 80, some (.binOp .neq T_int (.tmp 71) (.tmp 79) T_int), some (some 69, false)⟩,
    ⟨some 81, some (.pick (.tmp 69) (.const (.bool true)) (.tmp 80)), none⟩])
  (.cond (.tmp 81) (.seq (.reg [] [⟨some 4, some (.assign (.const (.bool false))), none⟩])
  .ret)
  .skip))
  (.seq (.seq (.reg [] [⟨some 10, some (.assign (.const (.int .i64 0))), none⟩])
  (.block 2 (.loop l_plaitlaw10_CnfForm_1)))
  (.seq (.seq (.reg [] [⟨some 11, some (.assign (.const (.int .i64 0))), none⟩])
  (.block 4 (.loop l_plaitlaw10_CnfForm_2)))
  (.reg [] [⟨some 139, some (.move (.tmp 6)), none⟩,
    ⟨some 140, some (.move (.tmp 8)), none⟩,
    ⟨some 141, some (.buildSlice T_s_s_int 1 #[(0, (.tmp 140))]), none⟩,
    ⟨some 142, some (.call ⟨(.builtin .append), #[(.tmp 139), (.tmp 141)], #[T_s_s_int, T_s_s_int]⟩), none⟩,
    ⟨some 6, some (.assign (.tmp 142)), none⟩]))))))
  (.reg [] [⟨some 54, some (.move (.tmp 7)), none⟩,
    ⟨some 55, some (.binOp .add T_int (.tmp 54) (.const (.int .i64 1)) T_int), none⟩,
    ⟨some 7, some (.assign (.tmp 55)), none⟩])))
def l_plaitlaw10_CnfForm_3 : LCode := (.seq (.seq (.reg [] [⟨some 144, some (.move (.tmp 13)), none⟩,
    ⟨some 145, some (.move (.tmp 5)), none⟩,
    ⟨some 146, some (.nilCheck (.tmp 145)), none⟩,
    ⟨some 147, some (.fieldAddr T_plaitlaw10_run (.tmp 146) 0), none⟩,
    ⟨some 148, some (.load T_p_aig_Graph (.tmp 147)), none⟩,
    ⟨some 149, some (.call ⟨(.value (.func f_plait_aig_Graph_Nodes)), #[(.tmp 148)], #[T_p_aig_Graph]⟩), none⟩,
    ⟨some 150, some (.binOp .leq T_int (.tmp 144) (.tmp 149) T_int), none⟩])
  (.cond (.tmp 150) .skip
  (.exit 6)))
  (.seq (.block 7 (.seq (.reg [] [⟨some 154, some (.move (.tmp 5)), none⟩,
    ⟨some 155, some (.nilCheck (.tmp 154)), none⟩,
    ⟨some 156, some (.fieldAddr T_plaitlaw10_run (.tmp 155) 1), none⟩,
    ⟨some 157, some (.load T_p_cnf_Encoder (.tmp 156)), none⟩,
    ⟨some 158, some (.move (.tmp 13)), none⟩,
    ⟨some 159, some (.call ⟨(.value (.func f_plait_cnf_Encoder_Of)), #[(.tmp 157), (.tmp 158)], #[T_p_cnf_Encoder, T_int]⟩), none⟩,
    ⟨some 153, some (.move (.tmp 159)), none⟩,
    ⟨some 160, some (.extract (.tmp 153) 0), none⟩,
    ⟨some 161, some (.extract (.tmp 153) 1), none⟩,
    ⟨some 14, some (.assign (.tmp 160)), none⟩,
    ⟨some 15, some (.assign (.tmp 161)), none⟩])
  (.seq (.reg [] [⟨some 162, some (.move (.tmp 15)), none⟩])
  (.cond (.tmp 162) (.seq (.seq (.reg [] [⟨some 163, some (.move (.tmp 14)), none⟩,
    ⟨some 164, some (.move (.tmp 1)), none⟩,
    ⟨some 165, some (.binOp .lss T_int (.tmp 163) (.tmp 164) T_int), none⟩,
    ⟨some 166, some (.move (.tmp 165)), none⟩,
    ⟨some 167, some (.move (.tmp 14)), some (some 166, false)⟩,
    ⟨some 168, some (.move (.tmp 5)), some (some 166, false)⟩,
    ⟨some 169, some (.nilCheck (.tmp 168)), some (some 166, false)⟩,
    ⟨some 170, some (.fieldAddr T_plaitlaw10_run (.tmp 169) 1), some (some 166, false)⟩,
    ⟨some 171, some (.load T_p_cnf_Encoder (.tmp 170)), some (some 166, false)⟩,
    ⟨some 172, some (.call ⟨(.value (.func f_plait_cnf_Encoder_Vars)), #[(.tmp 171)], #[T_p_cnf_Encoder]⟩), some (some 166, false)⟩,
    ⟨some 173, some (.binOp .gtr T_int (.tmp 167) (.tmp 172) T_int), some (some 166, false)⟩,
    ⟨some 174, some (.pick (.tmp 166) (.const (.bool true)) (.tmp 173)), none⟩,
    ⟨some 175, some (.move (.tmp 174)), none⟩,
    ⟨some 176, some (.move (.tmp 14)), some (some 175, false)⟩,
    ⟨some 177, some (.binOp .geq T_int (.tmp 176) (.const (.int .i64 1200)) T_int), some (some 175, false)⟩,
    ⟨some 178, some (.pick (.tmp 175) (.const (.bool true)) (.tmp 177)), none⟩,
    ⟨some 179, some (.move (.tmp 178)), none⟩,
    ⟨some 180, some (.move (.tmp 12)), some (some 179, false)⟩,
    ⟨some 181, some (.move (.tmp 14)), some (some 179, false)⟩,
    ⟨some 182, some (.indexAddr T_s_int (.tmp 180) (.tmp 181)), some (some 179, false)⟩,
    ⟨some 183, some (.load T_int (.tmp 182)), some (some 179, false)⟩,
    ⟨some 184, some (.binOp .neq T_int (.tmp 183) (.const (.int .i64 0)) T_int), some (some 179, false)⟩,
    ⟨some 185, some (.pick (.tmp 179) (.const (.bool true)) (.tmp 184)), none⟩])
  (.cond (.tmp 185) (.seq (.reg [] [⟨some 4, some (.assign (.const (.bool false))), none⟩])
  .ret)
  .skip))
  (.reg [] [⟨some 186, some (.move (.tmp 12)), none⟩,
    ⟨some 187, some (.move (.tmp 14)), none⟩,
    ⟨some 188, some (.move (.tmp 13)), none⟩,
    ⟨some 189, some (.indexAddr T_s_int (.tmp 186) (.tmp 187)), none⟩,
    ⟨none, some (.store T_int (.tmp 189) (.tmp 188)), none⟩]))
  .skip))))
  (.reg [] [⟨some 151, some (.move (.tmp 13)), none⟩,
    ⟨some 152, some (.binOp .add T_int (.tmp 151) (.const (.int .i64 1)) T_int), none⟩,
    ⟨some 13, some (.assign (.tmp 152)), none⟩])))
@[simp] theorem d_l_plaitlaw10_CnfForm_1 : defs l_plaitlaw10_CnfForm_1 = [82, 83, 84, 85, 88, 89, 90, 91, 92, 93, 94, 95, 96, 97, 98, 99, 100, 101, 102, 103, 104, 105, 106, 107, 108, 109, 110, 111, 112, 113, 114, 115, 116, 117, 118, 119, 120, 121, 122, 123, 124, 125, 126, 4, 86, 87, 10] := by rfl
@[simp] theorem d_l_plaitlaw10_CnfForm_2 : defs l_plaitlaw10_CnfForm_2 = [127, 128, 129, 130, 133, 134, 135, 136, 137, 138, 4, 131, 132, 11] := by rfl
@[simp] theorem d_l_plaitlaw10_CnfForm_0 : defs l_plaitlaw10_CnfForm_0 = [47, 48, 49, 50, 51, 52, 53, 57, 58, 59, 60, 61, 62, 63, 64, 56, 65, 66, 8, 9, 67, 68, 69, 70, 71, 72, 73, 74, 75, 76, 77, 78, 79, 80, 81, 4, 10, 82, 83, 84, 85, 88, 89, 90, 91, 92, 93, 94, 95, 96, 97, 98, 99, 100, 101, 102, 103, 104, 105, 106, 107, 108, 109, 110, 111, 112, 113, 114, 115, 116, 117, 118, 119, 120, 121, 122, 123, 124, 125, 126, 4, 86, 87, 10, 11, 127, 128, 129, 130, 133, 134, 135, 136, 137, 138, 4, 131, 132, 11, 139, 140, 141, 142, 6, 54, 55, 7] := by rfl
@[simp] theorem d_l_plaitlaw10_CnfForm_3 : defs l_plaitlaw10_CnfForm_3 = [144, 145, 146, 147, 148, 149, 150, 154, 155, 156, 157, 158, 159, 153, 160, 161, 14, 15, 162, 163, 164, 165, 166, 167, 168, 169, 170, 171, 172, 173, 174, 175, 176, 177, 178, 179, 180, 181, 182, 183, 184, 185, 4, 186, 187, 188, 189, 151, 152, 13] := by rfl
def c_plaitlaw10_CnfForm : LCode := (.seq (.reg [] [⟨some 4, some (.assign (.const (.bool false))), none⟩])
  (.seq (.seq (.reg [] [⟨some 16, some (.call ⟨(.value (.func f_plaitlaw10_known)), #[], #[]⟩), none⟩,
    ⟨some 17, some (.unOp .not T_bool (.tmp 16)), none⟩])
  (.cond (.tmp 17) (.seq (.reg [] [⟨some 4, some (.assign (.const (.bool false))), none⟩])
  .ret)
  .skip))
  (.seq (.seq (.reg [] [⟨some 18, some (.move (.tmp 0)), none⟩,
    ⟨some 19, some (.call ⟨(.builtin .len), #[(.tmp 18)], #[T_s_plaitlaw10_Step]⟩), none⟩,
    ⟨some 20, some (.binOp .gtr T_int (.tmp 19) (.const (.int .i64 60)) T_int), none⟩])
  (.cond (.tmp 20) (.seq (.reg [] [⟨some 4, some (.assign (.const (.bool true))), none⟩])
  .ret)
  .skip))
  (.seq (.reg [] [⟨some 21, some (.move (.tmp 1)), none⟩,
    ⟨some 22, some (.call ⟨(.value (.func f_plaithelp_Place)), #[(.tmp 21), (.const (.int .i64 1000))], #[T_int, T_int]⟩), none⟩,
    ⟨some 23, some (.binOp .add T_int (.const (.int .i64 1)) (.tmp 22) T_int), none⟩,
    ⟨some 1, some (.assign (.tmp 23)), none⟩])
  (.seq (.reg [] [⟨some 24, some (.move (.tmp 0)), none⟩,
    ⟨some 25, some (.move (.tmp 1)), none⟩,
    ⟨some 26, some (.call ⟨(.value (.func f_plaitlaw10_play)), #[(.tmp 24), (.tmp 25)], #[T_s_plaitlaw10_Step, T_int]⟩), none⟩,
    ⟨some 5, some (.assign (.tmp 26)), none⟩])
  (.seq (.seq (.reg [15] [⟨some 27, some (.move (.tmp 5)), none⟩,
    ⟨some 28, some (.nilCheck (.tmp 27)), none⟩,
    ⟨some 29, some (.fieldAddr T_plaitlaw10_run (.tmp 28) 5), none⟩,
    ⟨some 30, some (.load T_bool (.tmp 29)), none⟩,
    ⟨some 31, some (.unOp .not T_bool (.tmp 30)), none⟩,
    ⟨some 32, some (.move (.tmp 31)), none⟩,
    ⟨some 33, some (.move (.tmp 5)), some (some 32, false)⟩,
    ⟨some 34, some (.nilCheck (.tmp 33)), some (some 32, false)⟩,
    ⟨some 35, some (.fieldAddr T_plaitlaw10_run (.tmp 34) 2), some (some 32, false)⟩,
    ⟨some 36, some (.load T_s_s_int (.tmp 35)), some (some 32, false)⟩,
    ⟨some 37, some (.call ⟨(.builtin .len), #[(.tmp 36)], #[T_s_s_int]⟩), some (some 32, false)⟩,
    ⟨some 38, some (.move (.tmp 5)), some (some 32, false)⟩,
    ⟨some 39, some (.nilCheck (.tmp 38)), some (some 32, false)⟩,
    ⟨some 40, some (.fieldAddr T_plaitlaw10_run (.tmp 39) 0), some (some 32, false)⟩,
    ⟨some 41, some (.load T_p_aig_Graph (.tmp 40)), some (some 32, false)⟩,
    ⟨some 42, some (.call ⟨(.value (.func f_plait_aig_Graph_Nodes)), #[(.tmp 41)], #[T_p_aig_Graph]⟩), some (some 32, false)⟩,
    ⟨some 43, some (.binOp .mul T_int (.const (.int .i64 3)) (.tmp 42) T_int), some (some 32, false)⟩,
    ⟨some 44, some (.binOp .add T_int (.tmp 43) (.const (.int .i64 1)) T_int), some (some 32, false)⟩,
    ⟨some 45, some (.binOp .gtr T_int (.tmp 37) (.tmp 44) T_int), some (some 32, false)⟩,
    ⟨some 46, some (.pick (.tmp 32) (.const (.bool true)) (.tmp 45)), none⟩])
  (.cond (.tmp 46) (.seq (.reg [] [⟨some 4, some (.assign (.const (.bool false))), none⟩])
  .ret)
  .skip))
  (.seq (.reg [] [⟨some 6, some (.assign (.const (.slice none 0 0))), none⟩])
  (.seq (.seq (.reg [] [⟨some 7, some (.assign (.const (.int .i64 0))), none⟩])
  (.block 0 (.loop l_plaitlaw10_CnfForm_0)))
  (.seq (.reg [] [⟨some 143, some (.makeSlice T_s_int (.const (.int .i64 1200)) (.const (.int .i64 1200))), none⟩,
    ⟨some 12, some (.assign (.tmp 143)), none⟩])
  (.seq (.seq (.reg [] [⟨some 13, some (.assign (.const (.int .i64 1))), none⟩])
  (.block 6 (.loop l_plaitlaw10_CnfForm_3)))
  (.seq (.reg [] [⟨some 4, some (.assign (.const (.bool true))), none⟩])
  .ret)))))))))))
theorem e_plaitlaw10_CnfForm {a0 a1 : AV} {H : AHeap} : R f_plaitlaw10_CnfForm [a0, a1] H = fnK Go.Proofs.Try.prog [] H [(.tmp 4)] (evalL Go.Proofs.Try.prog KT R c_plaitlaw10_CnfForm (Env.args [a0, a1] 0) H) :=
  runs_body (D := DT) (f := f_plaitlaw10_CnfForm) Go.Proofs.Try.func3 (by kernel_rfl) (by kernel_rfl) (by kernel_rfl) (by kernel_rfl) (by kernel_rfl) (Nat.le_of_ble_eq_true rfl)

def c_plaitlaw10_known : LCode := (.seq (.reg [] [⟨some 0, some (.assign (.const (.bool false))), none⟩])
  (.seq (.reg [] [⟨some 7, some (.build T_plaitlaw10_Step #[]), none⟩,
    ⟨some 8, some (.build T_plaitlaw10_Step #[]), none⟩,
    ⟨some 9, some (.build T_plaitlaw10_Step #[(0, (.const (.int .i64 1))), (1, (.const (.int .i64 2))), (2, (.const (.int .i64 4)))]), none⟩,
    ⟨some 10, some (.build T_plaitlaw10_Step #[(0, (.const (.int .i64 5))), (1, (.const (.int .i64 6)))]), none⟩,
    ⟨some 11, some (.buildSlice T_s_plaitlaw10_Step 4 #[(0, (.tmp 7)), (1, (.tmp 8)), (2, (.tmp 9)), (3, (.tmp 10))]), none⟩,
    ⟨some 12, some (.call ⟨(.value (.func f_plaitlaw10_play)), #[(.tmp 11), (.const (.int .i64 1))], #[T_s_plaitlaw10_Step, T_int]⟩), none⟩,
    ⟨some 1, some (.assign (.tmp 12)), none⟩])
  (.seq (.seq (.reg [] [⟨some 13, some (.move (.tmp 1)), none⟩,
    ⟨some 14, some (.nilCheck (.tmp 13)), none⟩,
    ⟨some 15, some (.fieldAddr T_plaitlaw10_run (.tmp 14) 1), none⟩,
    ⟨some 16, some (.load T_p_cnf_Encoder (.tmp 15)), none⟩,
    ⟨some 17, some (.binOp .eql T_p_cnf_Encoder (.tmp 16) (.const (.pointer none)) T_p_cnf_Encoder), none⟩,
    ⟨some 18, some (.move (.tmp 17)), none⟩,
    ⟨some 19, some (.move (.tmp 1)), some (some 18, false)⟩,
    ⟨some 20, some (.nilCheck (.tmp 19)), some (some 18, false)⟩,
    ⟨some 21, some (.fieldAddr T_plaitlaw10_run (.tmp 20) 0), some (some 18, false)⟩,
    ⟨some 22, some (.load T_p_aig_Graph (.tmp 21)), some (some 18, false)⟩,
    ⟨some 23, some (.binOp .eql T_p_aig_Graph (.tmp 22) (.const (.pointer none)) T_p_aig_Graph), some (some 18, false)⟩,
    ⟨some 24, some (.pick (.tmp 18) (.const (.bool true)) (.tmp 23)), none⟩,
    ⟨some 25, some (.move (.tmp 24)), none⟩,
    ⟨some 26, some (.move (.tmp 1)), some (some 25, false)⟩,
    ⟨some 27, some (.nilCheck (.tmp 26)), some (some 25, false)⟩,
    ⟨some 28, some (.fieldAddr T_plaitlaw10_run (.tmp 27) 5), some (some 25, false)⟩,
    ⟨some 29, some (.load T_bool (.tmp 28)), some (some 25, false)⟩,
    ⟨some 30, some (.unOp .not T_bool (.tmp 29)), some (some 25, false)⟩,
    ⟨some 31, some (.pick (.tmp 25) (.const (.bool true)) (.tmp 30)), none⟩,
    ⟨some 32, some (.move (.tmp 31)), none⟩,
    ⟨some 33, some (.move (.tmp 1)), some (some 32, false)⟩,
    ⟨some 34, some (.nilCheck (.tmp 33)), some (some 32, false)⟩,
    ⟨some 35, some (.fieldAddr T_plaitlaw10_run (.tmp 34) 4), some (some 32, false)⟩,
    ⟨some 36, some (.load T_s_int (.tmp 35)), some (some 32, false)⟩,
    ⟨some 37, some (.call ⟨(.builtin .len), #[(.tmp 36)], #[T_s_int]⟩), some (some 32, false)⟩,
    ⟨some 38, some (.binOp .neq T_int (.tmp 37) (.const (.int .i64 1)) T_int), some (some 32, false)⟩,
    ⟨some 39, some (.pick (.tmp 32) (.const (.bool true)) (.tmp 38)), none⟩,
    ⟨some 40, some (.move (.tmp 39)), none⟩,
    ⟨some 41, some (.move (.tmp 1)), some (some 40, false)⟩,
    ⟨some 42, some (.nilCheck (.tmp 41)), some (some 40, false)⟩,
    ⟨some 43, some (.fieldAddr T_plaitlaw10_run (.tmp 42) 2), some (some 40, false)⟩,
    ⟨some 44, some (.load T_s_s_int (.tmp 43)), some (some 40, false)⟩,
    ⟨some 45, some (.call ⟨(.builtin .len), #[(.tmp 44)], #[T_s_s_int]⟩), some (some 40, false)⟩,
    ⟨some 46, some (.binOp .neq T_int (.tmp 45) (.const (.int .i64 2)) T_int), some (some 40, false)⟩,
    ⟨some 47, some (.pick (.tmp 40) (.const (.bool true)) (.tmp 46)), none⟩,
    ⟨some 48, some (.move (.tmp 47)), none⟩,
    ⟨some 49, some (.move (.tmp 1)), some (some 48, false)⟩,
    ⟨some 50, some (.nilCheck (.tmp 49)), some (some 48, false)⟩,
    ⟨some 51, some (.fieldAddr T_plaitlaw10_run (.tmp 50) 0), some (some 48, false)⟩,
    ⟨some 52, some (.load T_p_aig_Graph (.tmp 51)), some (some 48, false)⟩,
    ⟨some 53, some (.call ⟨(.value (.func f_plait_aig_Graph_Nodes)), #[(.tmp 52)], #[T_p_aig_Graph]⟩), some (some 48, false)⟩,
    ⟨some 54, some (.binOp .neq T_int (.tmp 53) (.const (.int .i64 3)) T_int), some (some 48, false)⟩,
    ⟨some 55, some (.pick (.tmp 48) (.const (.bool true)) (.tmp 54)), none⟩])
  (.cond (.tmp 55) (.seq (.reg [] [⟨some 0, some (.assign (.const (.bool false))), none⟩])
  .ret)
  .skip))
  (.seq (.reg [] [⟨some 57, some (.move (.tmp 1)), none⟩,
    ⟨some 58, some (.nilCheck (.tmp 57)), none⟩,
    ⟨some 59, some (.fieldAddr T_plaitlaw10_run (.tmp 58) 1), none⟩,
    ⟨some 60, some (.load T_p_cnf_Encoder (.tmp 59)), none⟩,
    ⟨some 61, some (.call ⟨(.value (.func f_plait_cnf_Encoder_Of)), #[(.tmp 60), (.const (.int .i64 1))], #[T_p_cnf_Encoder, T_int]⟩), none⟩,
    ⟨some 56, some (.move (.tmp 61)), none⟩,
    ⟨some 62, some (.extract (.tmp 56) 0), none⟩,
    ⟨some 63, some (.extract (.tmp 56) 1), none⟩,
    ⟨some 2, some (.assign (.tmp 62)), none⟩,
    ⟨some 3, some (.assign (.tmp 63)), none⟩])
  (.seq (.reg [] [⟨some 65, some (.move (.tmp 1)), none⟩,
    ⟨some 66, some (.nilCheck (.tmp 65)), none⟩,
    ⟨some 67, some (.fieldAddr T_plaitlaw10_run (.tmp 66) 1), none⟩,
    ⟨some 68, some (.load T_p_cnf_Encoder (.tmp 67)), none⟩,
    ⟨some 69, some (.call ⟨(.value (.func f_plait_cnf_Encoder_Root)), #[(.tmp 68), (.const (.int .i64 99))], #[T_p_cnf_Encoder, T_int]⟩), none⟩,
    ⟨some 64, some (.move (.tmp 69)), none⟩,
    ⟨some 70, some (.extract (.tmp 64) 0), none⟩,
    ⟨some 71, some (.extract (.tmp 64) 1), none⟩,
    ⟨some 72, some (.extract (.tmp 64) 2), none⟩,
    ⟨some 4, some (.assign (.tmp 70)), none⟩,
    ⟨some 5, some (.assign (.tmp 71)), none⟩,
    ⟨some 6, some (.assign (.tmp 72)), none⟩])
  (.seq (.reg [] [⟨some 73, some (.move (.tmp 3)), none⟩,
    ⟨some 74, some (.move (.tmp 73)), none⟩,
    ⟨some 75, some (.move (.tmp 2)), some (some 74, true)⟩,
    ⟨some 76, some (.binOp .gtr T_int (.tmp 75) (.const (.int .i64 0)) T_int), some (some 74, true)⟩,
    ⟨some 77, some (.pick (.tmp 74) (.tmp 76) (.const (.bool false))), none⟩,
    ⟨some 78, some (.move (.tmp 77)), none⟩,
    ⟨some 79, some (.move (.tmp 6)), some (some 78, true)⟩,
    ⟨some 80, some (.binOp .eql T_int (.tmp 79) (.const (.int .i64 100)) T_int), some (some 78, true)⟩,
    ⟨some 81, some (.pick (.tmp 78) (.tmp 80) (.const (.bool false))), none⟩,
    ⟨some 82, some (.move (.tmp 81)), none⟩,
    ⟨some 83, some (.move (.tmp 1)), some (some 82, true)⟩,
    ⟨some 84, some (.nilCheck (.tmp 83)), some (some 82, true)⟩,
    ⟨some 85, some (.fieldAddr T_plaitlaw10_run (.tmp 84) 1), some (some 82, true)⟩,
    ⟨some 86, some (.load T_p_cnf_Encoder (.tmp 85)), some (some 82, true)⟩,
    ⟨some 87, some (.call ⟨(.value (.func f_plait_cnf_Encoder_Vars)), #[(.tmp 86)], #[T_p_cnf_Encoder]⟩), some (some 82, true)⟩,
    ⟨some 88, some (.binOp .eql T_int (.tmp 87) (.const (.int .i64 3)) T_int), some (some 82, true)⟩,
    ⟨some 89, some (.pick (.tmp 82) (.tmp 88) (.const (.bool false))), none⟩,
    ⟨some 90, some (.move (.tmp 89)), none⟩,
    ⟨some 91, some (.move (.tmp 1)), some (some 90, true)⟩,
    ⟨some 92, some (.nilCheck (.tmp 91)), some (some 90, true)⟩,
    ⟨some 93, some (.fieldAddr T_plaitlaw10_run (.tmp 92) 2), some (some 90, true)⟩,
    ⟨some 94, some (.load T_s_s_int (.tmp 93)), some (some 90, true)⟩,
    ⟨some 95, some (.move (.tmp 1)), some (some 90, true)⟩,
    ⟨some 96, some (.nilCheck (.tmp 95)), some (some 90, true)⟩,
    ⟨some 97, some (.fieldAddr T_plaitlaw10_run (.tmp 96) 4), some (some 90, true)⟩,
    ⟨some 98, some (.load T_s_int (.tmp 97)), some (some 90, true)⟩,
    ⟨some 99, some (.indexAddr T_s_int (.tmp 98) (.const (.int .i64 0))), some (some 90, true)⟩,
    ⟨some 100, some (.load T_int (.tmp 99)), some (some 90, true)⟩,
    ⟨some 101, some (.buildSlice T_s_int 1 #[(0, (.tmp 100))]), some (some 90, true)⟩,
    ⟨some 102, some (.buildSlice T_s_s_int 1 #[(0, (.tmp 101))]), some (some 90, true)⟩,
    ⟨some 103, some (.call ⟨(.builtin .append), #[(.tmp 94), (.tmp 102)], #[T_s_s_int, T_s_s_int]⟩), some (some 90, true)⟩,
    ⟨some 104, some (.call ⟨(.value (.func f_plaitref12_Can)), #[(.tmp 103), (.const (.int .i64 3))], #[T_s_s_int, T_int]⟩), some (some 90, true)⟩,
    ⟨some 105, some (.pick (.tmp 90) (.tmp 104) (.const (.bool false))), none⟩,
    ⟨some 0, some (.assign (.tmp 105)), none⟩])
  .ret))))))
theorem e_plaitlaw10_known {H : AHeap} : R f_plaitlaw10_known [] H = fnK Go.Proofs.Try.prog [] H [(.tmp 0)] (evalL Go.Proofs.Try.prog KT R c_plaitlaw10_known (Env.args [] 0) H) :=
  runs_body (D := DT) (f := f_plaitlaw10_known) Go.Proofs.Try.func6 (by kernel_rfl) (by kernel_rfl) (by kernel_rfl) (by kernel_rfl) (by kernel_rfl) (Nat.le_of_ble_eq_true rfl)

def c_plaithelp_Place : LCode := (.seq (.reg [] [⟨some 4, some (.assign (.const (.int .i64 0))), none⟩])
  (.seq (.reg [] [⟨some 5, some (.move (.tmp 0)), none⟩,
    ⟨some 6, some (.move (.tmp 1)), none⟩,
    ⟨some 7, some (.binOp .rem T_int (.tmp 5) (.tmp 6) T_int), none⟩,
    ⟨some 0, some (.assign (.tmp 7)), none⟩])
  (.seq (.seq (.reg [] [⟨some 8, some (.move (.tmp 0)), none⟩,
    ⟨some 9, some (.binOp .lss T_int (.tmp 8) (.const (.int .i64 0)) T_int), none⟩])
  (.cond (.tmp 9) (.reg [] [⟨some 10, some (.move (.tmp 0)), none⟩,
    ⟨some 11, some (.move (.tmp 1)), none⟩,
    ⟨some 12, some (.binOp .add T_int (.tmp 10) (.tmp 11) T_int), none⟩,
    ⟨some 0, some (.assign (.tmp 12)), none⟩])
  .skip))
  (.seq (.reg [] [⟨some 13, some (.move (.tmp 0)), none⟩,
    ⟨some 4, some (.assign (.tmp 13)), none⟩])
  .ret))))
theorem e_plaithelp_Place {a0 a1 : AV} {H : AHeap} : R f_plaithelp_Place [a0, a1] H = fnK Go.Proofs.Try.prog [] H [(.tmp 4)] (evalL Go.Proofs.Try.prog KT R c_plaithelp_Place (Env.args [a0, a1] 0) H) :=
  runs_body (D := DT) (f := f_plaithelp_Place) Go.Proofs.Try.func7 (by kernel_rfl) (by kernel_rfl) (by kernel_rfl) (by kernel_rfl) (by kernel_rfl) (Nat.le_of_ble_eq_true rfl)

def l_plaitlaw10_play_0 : LCode := (.seq (.seq (.reg [] [⟨some 24, some (.move (.tmp 6)), none⟩,
    ⟨some 25, some (.move (.tmp 0)), none⟩,
    ⟨some 26, some (.call ⟨(.builtin .len), #[(.tmp 25)], #[T_s_plaitlaw10_Step]⟩), none⟩,
    ⟨some 27, some (.binOp .lss T_int (.tmp 24) (.tmp 26) T_int), none⟩])
  (.cond (.tmp 27) .skip
  (.exit 0)))
  (.seq (.block 1 (.seq (.reg [] [⟨some 30, some (.move (.tmp 5)), none⟩,
    ⟨some 31, some (.nilCheck (.tmp 30)), none⟩,
    ⟨some 32, some (.fieldAddr T_plaitlaw10_run (.tmp 31) 0), none⟩,
    ⟨some 33, some (.load T_p_aig_Graph (.tmp 32)), none⟩,
    ⟨some 34, some (.call ⟨(.value (.func f_plait_aig_Graph_Nodes)), #[(.tmp 33)], #[T_p_aig_Graph]⟩), none⟩,
    ⟨some 35, some (.binOp .mul T_int (.const (.int .i64 2)) (.tmp 34) T_int), none⟩,
    ⟨some 36, some (.binOp .add T_int (.tmp 35) (.const (.int .i64 2)) T_int), none⟩,
    ⟨some 7, some (.assign (.tmp 36)), none⟩])
  (.seq (.reg [6] [⟨some 37, some (.move (.tmp 0)), none⟩,
    ⟨some 38, some (.move (.tmp 6)), none⟩,
    ⟨some 39, some (.indexAddr T_s_plaitlaw10_Step (.tmp 37) (.tmp 38)), none⟩,
    ⟨some 40, some (.fieldAddr T_plaitlaw10_Step (.tmp 39) 1), none⟩,
    ⟨some 41, some (.load T_int (.tmp 40)), none⟩,
    ⟨some 42, some (.move (.tmp 7)), none⟩,
    ⟨some 43, some (.call ⟨(.value (.func f_plaithelp_Place)), #[(.tmp 41), (.tmp 42)], #[T_int, T_int]⟩), none⟩,
    ⟨some 44, some (.move (.tmp 0)), none⟩,
    ⟨some 45, some (.move (.tmp 6)), none⟩,
    ⟨some 46, some (.indexAddr T_s_plaitlaw10_Step (.tmp 44) (.tmp 45)), none⟩,
    ⟨some 47, some (.fieldAddr T_plaitlaw10_Step (.tmp 46) 2), none⟩,
    ⟨some 48, some (.load T_int (.tmp 47)), none⟩,
    ⟨some 49, some (.move (.tmp 7)), none⟩,
    ⟨some 50, some (.call ⟨(.value (.func f_plaithelp_Place)), #[(.tmp 48), (.tmp 49)], #[T_int, T_int]⟩), none⟩,
    ⟨some 8, some (.assign (.tmp 43)), none⟩,
    ⟨some 9, some (.assign (.tmp 50)), none⟩])
  (.seq (.reg [] [⟨some 51, some (.move (.tmp 0)), none⟩,
    ⟨some 52, some (.move (.tmp 6)), none⟩,
    ⟨some 53, some (.indexAddr T_s_plaitlaw10_Step (.tmp 51) (.tmp 52)), none⟩,
    ⟨some 54, some (.fieldAddr T_plaitlaw10_Step (.tmp 53) 0), none⟩,
    ⟨some 55, some (.load T_int (.tmp 54)), none⟩])
  (.block 2 (.seq (.reg [] [⟨some 57, some (.binOp .eql T_int (.tmp 55) (.const (.int .i64 0)) T_int), none⟩,
    ⟨some 56, some (.assign (.tmp 57)), none⟩])
  (.cond (.tmp 56) (.seq (.reg [] [⟨some 58, some (.move (.tmp 5)), none⟩,
    ⟨some 59, some (.nilCheck (.tmp 58)), none⟩,
    ⟨some 60, some (.fieldAddr T_plaitlaw10_run (.tmp 59) 0), none⟩,
    ⟨some 61, some (.load T_p_aig_Graph (.tmp 60)), none⟩,
    ⟨some 62, some (.call ⟨(.value (.func f_plait_aig_Graph_Inputs)), #[(.tmp 61)], #[T_p_aig_Graph]⟩), none⟩,
    ⟨some 63, some (.call ⟨(.builtin .len), #[(.tmp 62)], #[T_s_int]⟩), none⟩,
    ⟨some 64, some (.binOp .lss T_int (.tmp 63) (.const (.int .i64 5)) T_int), none⟩])
  (.cond (.tmp 64) (.reg [] [⟨some 65, some (.move (.tmp 5)), none⟩,
    ⟨some 66, some (.nilCheck (.tmp 65)), none⟩,
    ⟨some 67, some (.fieldAddr T_plaitlaw10_run (.tmp 66) 0), none⟩,
    ⟨some 68, some (.load T_p_aig_Graph (.tmp 67)), none⟩,
    ⟨some 69, some (.call ⟨(.value (.func f_plait_aig_Graph_Input)), #[(.tmp 68)], #[T_p_aig_Graph]⟩), none⟩])
  .skip))
  (.seq (.seq (.reg [] [⟨some 71, some (.binOp .eql T_int (.tmp 55) (.const (.int .i64 1)) T_int), none⟩,
    ⟨some 70, some (.assign (.tmp 71)), none⟩])
  (.cond (.tmp 70) .skip
  (.seq (.reg [] [⟨some 72, some (.binOp .eql T_int (.tmp 55) (.const (.int .i64 2)) T_int), none⟩,
    ⟨some 70, some (.assign (.tmp 72)), none⟩])
  (.cond (.tmp 70) .skip
  (.reg [] [⟨some 73, some (.binOp .eql T_int (.tmp 55) (.const (.int .i64 3)) T_int), none⟩,
    ⟨some 70, some (.assign (.tmp 73)), none⟩])))))
  (.cond (.tmp 70) (.reg [] [⟨some 74, some (.move (.tmp 5)), none⟩,
    ⟨some 75, some (.nilCheck (.tmp 74)), none⟩,
    ⟨some 76, some (.fieldAddr T_plaitlaw10_run (.tmp 75) 0), none⟩,
    ⟨some 77, some (.load T_p_aig_Graph (.tmp 76)), none⟩,
    ⟨some 78, some (.move (.tmp 8)), none⟩,
    ⟨some 79, some (.move (.tmp 9)), none⟩,
    ⟨some 80, some (.call ⟨(.value (.func f_plait_aig_Graph_And)), #[(.tmp 77), (.tmp 78), (.tmp 79)], #[T_p_aig_Graph, T_int, T_int]⟩), none⟩])
  (.seq (.reg [] [⟨some 82, some (.binOp .eql T_int (.tmp 55) (.const (.int .i64 4)) T_int), none⟩,
    ⟨some 81, some (.assign (.tmp 82)), none⟩])
  (.cond (.tmp 81) (.reg [] [⟨some 83, some (.move (.tmp 5)), none⟩,
    ⟨some 84, some (.nilCheck (.tmp 83)), none⟩,
    ⟨some 85, some (.fieldAddr T_plaitlaw10_run (.tmp 84) 0), none⟩,
    ⟨some 86, some (.load T_p_aig_Graph (.tmp 85)), none⟩,
    ⟨some 87, some (.move (.tmp 8)), none⟩,
    ⟨some 88, some (.move (.tmp 9)), none⟩,
    ⟨some 89, some (.call ⟨(.value (.func f_plait_aig_Graph_Xor)), #[(.tmp 86), (.tmp 87), (.tmp 88)], #[T_p_aig_Graph, T_int, T_int]⟩), none⟩])
  (.seq (.seq (.reg [] [⟨some 91, some (.binOp .eql T_int (.tmp 55) (.const (.int .i64 5)) T_int), none⟩,
    ⟨some 90, some (.assign (.tmp 91)), none⟩])
  (.cond (.tmp 90) .skip
  (.seq (.reg [] [⟨some 92, some (.binOp .eql T_int (.tmp 55) (.const (.int .i64 6)) T_int), none⟩,
    ⟨some 90, some (.assign (.tmp 92)), none⟩])
  (.cond (.tmp 90) .skip
  (.reg [] [⟨some 93, some (.binOp .eql T_int (.tmp 55) (.const (.int .i64 7)) T_int), none⟩,
    ⟨some 90, some (.assign (.tmp 93)), none⟩])))))
  (.cond (.tmp 90) (.reg [] [⟨some 94, some (.move (.tmp 5)), none⟩,
    ⟨some 95, some (.move (.tmp 8)), none⟩,
    ⟨some 96, some (.call ⟨(.value (.func f_plait_plaitlaw10_run_root)), #[(.tmp 94), (.tmp 95)], #[T_p_plaitlaw10_run, T_int]⟩), none⟩])
  (.seq (.reg [] [⟨some 98, some (.binOp .eql T_int (.tmp 55) (.const (.int .i64 8)) T_int), none⟩,
    ⟨some 97, some (.assign (.tmp 98)), none⟩])
  (.cond (.tmp 97) (.seq (.reg [] [⟨some 100, some (.move (.tmp 5)), none⟩,
    ⟨some 101, some (.nilCheck (.tmp 100)), none⟩,
    ⟨some 102, some (.fieldAddr T_plaitlaw10_run (.tmp 101) 1), none⟩,
    ⟨some 103, some (.load T_p_cnf_Encoder (.tmp 102)), none⟩,
    ⟨some 104, some (.call ⟨(.value (.func f_plait_cnf_Encoder_Fresh)), #[(.tmp 103)], #[T_p_cnf_Encoder]⟩), none⟩,
    ⟨some 99, some (.move (.tmp 104)), none⟩,
    ⟨some 105, some (.extract (.tmp 99) 0), none⟩,
    ⟨some 106, some (.extract (.tmp 99) 1), none⟩,
    ⟨some 10, some (.assign (.tmp 105)), none⟩,
    ⟨some 11, some (.assign (.tmp 106)), none⟩])
  (.reg [] [⟨some 107, some (.move (.tmp 5)), none⟩,
    ⟨some 108, some (.move (.tmp 5)), none⟩,
    ⟨some 109, some (.nilCheck (.tmp 108)), none⟩,
    ⟨some 110, some (.fieldAddr T_plaitlaw10_run (.tmp 109) 5), none⟩,
    ⟨some 111, some (.load T_bool (.tmp 110)), none⟩,
    ⟨some 112, some (.move (.tmp 111)), none⟩,
    ⟨some 113, some (.move (.tmp 11)), some (some 112, true)⟩,
    ⟨some 114, some (.binOp .eql T_int (.tmp 113) (.const (.int .i64 0)) T_int), some (some 112, true)⟩,
    ⟨some 115, some (.pick (.tmp 112) (.tmp 114) (.const (.bool false))), none⟩,
    ⟨some 116, some (.move (.tmp 115)), none⟩,
    ⟨some 117, some (.move (.tmp 10)), some (some 116, true)⟩,
    ⟨some 118, some (.move (.tmp 5)), some (some 116, true)⟩,
    ⟨some 119, some (.nilCheck (.tmp 118)), some (some 116, true)⟩,
    ⟨some 120, some (.fieldAddr T_plaitlaw10_run (.tmp 119) 1), some (some 116, true)⟩,
    ⟨some 121, some (.load T_p_cnf_Encoder (.tmp 120)), some (some 116, true)⟩,
    ⟨some 122, some (.call ⟨(.value (.func f_plait_cnf_Encoder_Vars)), #[(.tmp 121)], #[T_p_cnf_Encoder]⟩), some (some 116, true)⟩,
    ⟨some 123, some (.binOp .eql T_int (.tmp 117) (.tmp 122) T_int), some (some 116, true)⟩,
    ⟨some 124, some (.pick (.tmp 116) (.tmp 123) (.const (.bool false))), none⟩,
    ⟨some 125, some (.nilCheck (.tmp 107)), none⟩,
    ⟨some 126, some (.fieldAddr T_plaitlaw10_run (.tmp 125) 5), none⟩,
    ⟨none, some (.store T_bool (.tmp 126) (.tmp 124)), none⟩]))
  .skip)))))))))))))))
  (.reg [] [⟨some 28, some (.move (.tmp 6)), none⟩,
    ⟨some 29, some (.binOp .add T_int (.tmp 28) (.const (.int .i64 1)) T_int), none⟩,
    ⟨some 6, some (.assign (.tmp 29)), none⟩])))
@[simp] theorem d_l_plaitlaw10_play_0 : defs l_plaitlaw10_play_0 = [24, 25, 26, 27, 30, 31, 32, 33, 34, 35, 36, 7, 37, 38, 39, 40, 41, 42, 43, 44, 45, 46, 47, 48, 49, 50, 8, 9, 51, 52, 53, 54, 55, 57, 56, 58, 59, 60, 61, 62, 63, 64, 65, 66, 67, 68, 69, 71, 70, 72, 70, 73, 70, 74, 75, 76, 77, 78, 79, 80, 82, 81, 83, 84, 85, 86, 87, 88, 89, 91, 90, 92, 90, 93, 90, 94, 95, 96, 98, 97, 100, 101, 102, 103, 104, 99, 105, 106, 10, 11, 107, 108, 109, 110, 111, 112, 113, 114, 115, 116, 117, 118, 119, 120, 121, 122, 123, 124, 125, 126, 28, 29, 6] := by rfl
def c_plaitlaw10_play : LCode := (.seq (.reg [] [⟨some 4, some (.assign (.const (.pointer none))), none⟩])
  (.seq (.reg [] [⟨some 12, some (.call ⟨(.value (.func f_aig_New)), #[(.const (.int .i64 60))], #[T_int]⟩), none⟩,
    ⟨some 13, some (.build T_plaitlaw10_run #[(0, (.tmp 12)), (5, (.const (.bool true)))]), none⟩,
    ⟨some 14, some (.box T_plaitlaw10_run (.tmp 13)), none⟩,
    ⟨some 5, some (.assign (.tmp 14)), none⟩])
  (.seq (.reg [] [⟨some 15, some (.move (.tmp 5)), none⟩,
    ⟨some 16, some (.move (.tmp 5)), none⟩,
    ⟨some 17, some (.nilCheck (.tmp 16)), none⟩,
    ⟨some 18, some (.fieldAddr T_plaitlaw10_run (.tmp 17) 0), none⟩,
    ⟨some 19, some (.load T_p_aig_Graph (.tmp 18)), none⟩,
    ⟨some 20, some (.move (.tmp 1)), none⟩,
    ⟨some 21, some (.call ⟨(.value (.func f_cnf_New)), #[(.tmp 19), (.tmp 20)], #[T_p_aig_Graph, T_int]⟩), none⟩,
    ⟨some 22, some (.nilCheck (.tmp 15)), none⟩,
    ⟨some 23, some (.fieldAddr T_plaitlaw10_run (.tmp 22) 1), none⟩,
    ⟨none, some (.store T_p_cnf_Encoder (.tmp 23) (.tmp 21)), none⟩])
  (.seq (.seq (.reg [] [⟨some 6, some (.assign (.const (.int .i64 0))), none⟩])
  (.block 0 (.loop l_plaitlaw10_play_0)))
  (.seq (.reg [] [⟨some 127, some (.move (.tmp 5)), none⟩,
    ⟨some 4, some (.assign (.tmp 127)), none⟩])
  .ret)))))
theorem e_plaitlaw10_play {a0 a1 : AV} {H : AHeap} : R f_plaitlaw10_play [a0, a1] H = fnK Go.Proofs.Try.prog [] H [(.tmp 4)] (evalL Go.Proofs.Try.prog KT R c_plaitlaw10_play (Env.args [a0, a1] 0) H) :=
  runs_body (D := DT) (f := f_plaitlaw10_play) Go.Proofs.Try.func8 (by kernel_rfl) (by kernel_rfl) (by kernel_rfl) (by kernel_rfl) (by kernel_rfl) (Nat.le_of_ble_eq_true rfl)

def c_plait_aig_Graph_Nodes : LCode := (.seq (.reg [] [⟨some 2, some (.assign (.const (.int .i64 0))), none⟩])
  (.seq (.reg [] [⟨some 3, some (.move (.tmp 0)), none⟩,
    ⟨some 4, some (.nilCheck (.tmp 3)), none⟩,
    ⟨some 5, some (.fieldAddr T_aig_Graph (.tmp 4) 1), none⟩,
    ⟨some 6, some (.load T_s_a2_int (.tmp 5)), none⟩,
    ⟨some 7, some (.call ⟨(.builtin .len), #[(.tmp 6)], #[T_s_a2_int]⟩), none⟩,
    ⟨some 2, some (.assign (.tmp 7)), none⟩])
  .ret))
theorem e_plait_aig_Graph_Nodes {a0 : AV} {H : AHeap} : R f_plait_aig_Graph_Nodes [a0] H = fnK Go.Proofs.Try.prog [] H [(.tmp 2)] (evalL Go.Proofs.Try.prog KT R c_plait_aig_Graph_Nodes (Env.args [a0] 0) H) :=
  runs_body (D := DT) (f := f_plait_aig_Graph_Nodes) Go.Proofs.Try.func9 (by kernel_rfl) (by kernel_rfl) (by kernel_rfl) (by kernel_rfl) (by kernel_rfl) (Nat.le_of_ble_eq_true rfl)

def l_plaitref12_Set_1 : LCode := (.seq (.seq (.reg [] [⟨some 33, some (.move (.tmp 6)), none⟩,
    ⟨some 34, some (.move (.tmp 4)), none⟩,
    ⟨some 35, some (.call ⟨(.builtin .len), #[(.tmp 34)], #[T_s_int]⟩), none⟩,
    ⟨some 36, some (.binOp .lss T_int (.tmp 33) (.tmp 35) T_int), none⟩,
    ⟨some 37, some (.move (.tmp 36)), none⟩,
    ⟨some 38, some (.move (.tmp 4)), some (some 37, true)⟩,
    ⟨some 39, some (.move (.tmp 6)), some (some 37, true)⟩,
    ⟨some 40, some (.indexAddr T_s_int (.tmp 38) (.tmp 39)), some (some 37, true)⟩,
    ⟨some 41, some (.load T_int (.tmp 40)), some (some 37, true)⟩,
    ⟨some 42, some (.move (.tmp 0)), some (some 37, true)⟩,
    ⟨some 43, some (.move (.tmp 5)), some (some 37, true)⟩,
    ⟨some 44, some (.indexAddr T_s_int (.tmp 42) (.tmp 43)), some (some 37, true)⟩,
    ⟨some 45, some (.load T_int (.tmp 44)), some (some 37, true)⟩,
    ⟨some 46, some (.binOp .lss T_int (.tmp 41) (.tmp 45) T_int), some (some 37, true)⟩,
    ⟨some 47, some (.pick (.tmp 37) (.tmp 46) (.const (.bool false))), none⟩])
  (.cond (.tmp 47) .skip
  (.exit 2)))
  (.block 3 (.reg [] [⟨some 48, some (.move (.tmp 6)), none⟩,
    ⟨some 49, some (.binOp .add T_int (.tmp 48) (.const (.int .i64 1)) T_int), none⟩,
    ⟨some 6, some (.assign (.tmp 49)), none⟩])))
def l_plaitref12_Set_2 : LCode := (.seq (.seq (.reg [] [⟨some 71, some (.move (.tmp 7)), none⟩,
    ⟨some 72, some (.move (.tmp 6)), none⟩,
    ⟨some 73, some (.binOp .gtr T_int (.tmp 71) (.tmp 72) T_int), none⟩])
  (.cond (.tmp 73) .skip
  (.exit 4)))
  (.seq (.block 5 (.reg [] [⟨some 76, some (.move (.tmp 4)), none⟩,
    ⟨some 77, some (.move (.tmp 7)), none⟩,
    ⟨some 78, some (.move (.tmp 4)), none⟩,
    ⟨some 79, some (.move (.tmp 7)), none⟩,
    ⟨some 80, some (.binOp .sub T_int (.tmp 79) (.const (.int .i64 1)) T_int), none⟩,
    ⟨some 81, some (.indexAddr T_s_int (.tmp 78) (.tmp 80)), none⟩,
    ⟨some 82, some (.load T_int (.tmp 81)), none⟩,
    ⟨some 83, some (.indexAddr T_s_int (.tmp 76) (.tmp 77)), none⟩,
    ⟨none, some (.store T_int (.tmp 83) (.tmp 82)), none⟩]))
  (.reg [] [⟨some 74, some (.move (.tmp 7)), none⟩,
    ⟨some 75, some (.binOp .sub T_int (.tmp 74) (.const (.int .i64 1)) T_int), none⟩,
    ⟨some 7, some (.assign (.tmp 75)), none⟩])))
def l_plaitref12_Set_0 : LCode := (.seq (.seq (.reg [] [⟨some 8, some (.move (.tmp 5)), none⟩,
    ⟨some 9, some (.move (.tmp 0)), none⟩,
    ⟨some 10, some (.call ⟨(.builtin .len), #[(.tmp 9)], #[T_s_int]⟩), none⟩,
    ⟨some 11, some (.binOp .lss T_int (.tmp 8) (.tmp 10) T_int), none⟩])
  (.cond (.tmp 11) .skip
  (.exit 0)))
  (.seq (.block 1 (.seq (.seq (.reg [] [⟨some 14, some (.move (.tmp 0)), none⟩,
    ⟨some 15, some (.move (.tmp 5)), none⟩,
    ⟨some 16, some (.indexAddr T_s_int (.tmp 14) (.tmp 15)), none⟩,
    ⟨some 17, some (.load T_int (.tmp 16)), none⟩,
    ⟨some 18, some (.binOp .eql T_int (.tmp 17) (.const (.int .i64 0)) T_int), none⟩,
    ⟨some 19, some (.move (.tmp 18)), none⟩,
    ⟨some 20, some (.move (.tmp 0)), some (some 19, false)⟩,
    ⟨some 21, some (.move (.tmp 5)), some (some 19, false)⟩,
    ⟨some 22, some (.indexAddr T_s_int (.tmp 20) (.tmp 21)), some (some 19, false)⟩,
    ⟨some 23, some (.load T_int (.tmp 22)), some (some 19, false)⟩,
    ⟨some 24, some (.binOp .gtr T_int (.tmp 23) (.const (.int .i64 2147483647)) T_int), some (some 19, false)⟩,
    ⟨some 25, some (.pick (.tmp 19) (.const (.bool true)) (.tmp 24)), none⟩,
    ⟨some 26, some (.move (.tmp 25)), none⟩,
    ⟨some 27, some (.move (.tmp 0)), some (some 26, false)⟩,
    ⟨some 28, some (.move (.tmp 5)), some (some 26, false)⟩,
    ⟨some 29, some (.indexAddr T_s_int (.tmp 27) (.tmp 28)), some (some 26, false)⟩,
    ⟨some 30, some (.load T_int (.tmp 29)), some (some 26, false)⟩,
    ⟨some 31, some (.binOp .lss T_int (.tmp 30) (.const (.int .i64 (-2147483647))) T_int), some (some 26, false)⟩,
    ⟨some 32, some (.pick (.tmp 26) (.const (.bool true)) (.tmp 31)), none⟩])
  (.cond (.tmp 32) (.seq (.reg [] [⟨some 2, some (.assign (.const (.slice none 0 0))), none⟩,
    ⟨some 3, some (.assign (.const (.bool false))), none⟩])
  .ret)
  .skip))
  (.seq (.reg [] [⟨some 6, some (.assign (.const (.int .i64 0))), none⟩])
  (.seq (.block 2 (.loop l_plaitref12_Set_1))
  (.seq (.seq (.reg [] [⟨some 50, some (.move (.tmp 6)), none⟩,
    ⟨some 51, some (.move (.tmp 4)), none⟩,
    ⟨some 52, some (.call ⟨(.builtin .len), #[(.tmp 51)], #[T_s_int]⟩), none⟩,
    ⟨some 53, some (.binOp .lss T_int (.tmp 50) (.tmp 52) T_int), none⟩,
    ⟨some 54, some (.move (.tmp 53)), none⟩,
    ⟨some 55, some (.move (.tmp 4)), some (some 54, true)⟩,
    ⟨some 56, some (.move (.tmp 6)), some (some 54, true)⟩,
    ⟨some 57, some (.indexAddr T_s_int (.tmp 55) (.tmp 56)), some (some 54, true)⟩,
    ⟨some 58, some (.load T_int (.tmp 57)), some (some 54, true)⟩,
    ⟨some 59, some (.move (.tmp 0)), some (some 54, true)⟩,
    ⟨some 60, some (.move (.tmp 5)), some (some 54, true)⟩,
    ⟨some 61, some (.indexAddr T_s_int (.tmp 59) (.tmp 60)), some (some 54, true)⟩,
    ⟨some 62, some (.load T_int (.tmp 61)), some (some 54, true)⟩,
    ⟨some 63, some (.binOp .eql T_int (.tmp 58) (.tmp 62) T_int), some (some 54, true)⟩,
    ⟨some 64, some (.pick (.tmp 54) (.tmp 63) (.const (.bool false))), none⟩])
  (.cond (.tmp 64) (.exit 1)
  .skip))
  (.seq (.reg [] [⟨some 65, some (.move (.tmp 4)), none⟩,
    ⟨some 66, some (.buildSlice T_s_int 1 #[(0, (.const (.int .i64 0)))]), none⟩,
    ⟨some 67, some (.call ⟨(.builtin .append), #[(.tmp 65), (.tmp 66)], #[T_s_int, T_s_int]⟩), none⟩,
    ⟨some 4, some (.assign (.tmp 67)), none⟩])
  (.seq (.seq (.reg [] [⟨some 68, some (.move (.tmp 4)), none⟩,
    ⟨some 69, some (.call ⟨(.builtin .len), #[(.tmp 68)], #[T_s_int]⟩), none⟩,
    ⟨some 70, some (.binOp .sub T_int (.tmp 69) (.const (.int .i64 1)) T_int), none⟩,
    ⟨some 7, some (.assign (.tmp 70)), none⟩])
  (.block 4 (.loop l_plaitref12_Set_2)))
  (.reg [] [⟨some 84, some (.move (.tmp 4)), none⟩,
    ⟨some 85, some (.move (.tmp 6)), none⟩,
    ⟨some 86, some (.move (.tmp 0)), none⟩,
    ⟨some 87, some (.move (.tmp 5)), none⟩,
    ⟨some 88, some (.indexAddr T_s_int (.tmp 86) (.tmp 87)), none⟩,
    ⟨some 89, some (.load T_int (.tmp 88)), none⟩,
    ⟨some 90, some (.indexAddr T_s_int (.tmp 84) (.tmp 85)), none⟩,
    ⟨none, some (.store T_int (.tmp 90) (.tmp 89)), none⟩]))))))))
  (.reg [] [⟨some 12, some (.move (.tmp 5)), none⟩,
    ⟨some 13, some (.binOp .add T_int (.tmp 12) (.const (.int .i64 1)) T_int), none⟩,
    ⟨some 5, some (.assign (.tmp 13)), none⟩])))
@[simp] theorem d_l_plaitref12_Set_1 : defs l_plaitref12_Set_1 = [33, 34, 35, 36, 37, 38, 39, 40, 41, 42, 43, 44, 45, 46, 47, 48, 49, 6] := by rfl
@[simp] theorem d_l_plaitref12_Set_2 : defs l_plaitref12_Set_2 = [71, 72, 73, 76, 77, 78, 79, 80, 81, 82, 83, 74, 75, 7] := by rfl
@[simp] theorem d_l_plaitref12_Set_0 : defs l_plaitref12_Set_0 = [8, 9, 10, 11, 14, 15, 16, 17, 18, 19, 20, 21, 22, 23, 24, 25, 26, 27, 28, 29, 30, 31, 32, 2, 3, 6, 33, 34, 35, 36, 37, 38, 39, 40, 41, 42, 43, 44, 45, 46, 47, 48, 49, 6, 50, 51, 52, 53, 54, 55, 56, 57, 58, 59, 60, 61, 62, 63, 64, 65, 66, 67, 4, 68, 69, 70, 7, 71, 72, 73, 76, 77, 78, 79, 80, 81, 82, 83, 74, 75, 7, 84, 85, 86, 87, 88, 89, 90, 12, 13, 5] := by rfl
def c_plaitref12_Set : LCode := (.seq (.reg [] [⟨some 2, some (.assign (.const (.slice none 0 0))), none⟩,
    ⟨some 3, some (.assign (.const (.bool false))), none⟩])
  (.seq (.reg [] [⟨some 4, some (.assign (.const (.slice none 0 0))), none⟩])
  (.seq (.seq (.reg [] [⟨some 5, some (.assign (.const (.int .i64 0))), none⟩])
  (.block 0 (.loop l_plaitref12_Set_0)))
  (.seq (.reg [] [⟨some 91, some (.move (.tmp 4)), none⟩,
    ⟨some 2, some (.assign (.tmp 91)), none⟩,
    ⟨some 3, some (.assign (.const (.bool true))), none⟩])
  .ret))))
theorem e_plaitref12_Set {a0 : AV} {H : AHeap} : R f_plaitref12_Set [a0] H = fnK Go.Proofs.Try.prog [] H [(.tmp 2), (.tmp 3)] (evalL Go.Proofs.Try.prog KT R c_plaitref12_Set (Env.args [a0] 0) H) :=
  runs_body (D := DT) (f := f_plaitref12_Set) Go.Proofs.Try.func10 (by kernel_rfl) (by kernel_rfl) (by kernel_rfl) (by kernel_rfl) (by kernel_rfl) (Nat.le_of_ble_eq_true rfl)

def l_plaitref12_Has_0 : LCode := (.seq (.seq (.reg [] [⟨some 6, some (.move (.tmp 5)), none⟩,
    ⟨some 7, some (.move (.tmp 0)), none⟩,
    ⟨some 8, some (.call ⟨(.builtin .len), #[(.tmp 7)], #[T_s_int]⟩), none⟩,
    ⟨some 9, some (.binOp .lss T_int (.tmp 6) (.tmp 8) T_int), none⟩])
  (.cond (.tmp 9) .skip
  (.exit 0)))
  (.seq (.block 1 (.seq (.reg [] [⟨some 12, some (.move (.tmp 0)), none⟩,
    ⟨some 13, some (.move (.tmp 5)), none⟩,
    ⟨some 14, some (.indexAddr T_s_int (.tmp 12) (.tmp 13)), none⟩,
    ⟨some 15, some (.load T_int (.tmp 14)), none⟩,
    ⟨some 16, some (.move (.tmp 1)), none⟩,
    ⟨some 17, some (.binOp .eql T_int (.tmp 15) (.tmp 16) T_int), none⟩])
  (.cond (.tmp 17) (.seq (.reg [] [⟨some 4, some (.assign (.const (.bool true))), none⟩])
  .ret)
  .skip)))
  (.reg [] [⟨some 10, some (.move (.tmp 5)), none⟩,
    ⟨some 11, some (.binOp .add T_int (.tmp 10) (.const (.int .i64 1)) T_int), none⟩,
    ⟨some 5, some (.assign (.tmp 11)), none⟩])))
@[simp] theorem d_l_plaitref12_Has_0 : defs l_plaitref12_Has_0 = [6, 7, 8, 9, 12, 13, 14, 15, 16, 17, 4, 10, 11, 5] := by rfl
def c_plaitref12_Has : LCode := (.seq (.reg [] [⟨some 4, some (.assign (.const (.bool false))), none⟩])
  (.seq (.seq (.reg [] [⟨some 5, some (.assign (.const (.int .i64 0))), none⟩])
  (.block 0 (.loop l_plaitref12_Has_0)))
  (.seq (.reg [] [⟨some 4, some (.assign (.const (.bool false))), none⟩])
  .ret)))
theorem e_plaitref12_Has {a0 a1 : AV} {H : AHeap} : R f_plaitref12_Has [a0, a1] H = fnK Go.Proofs.Try.prog [] H [(.tmp 4)] (evalL Go.Proofs.Try.prog KT R c_plaitref12_Has (Env.args [a0, a1] 0) H) :=
  runs_body (D := DT) (f := f_plaitref12_Has) Go.Proofs.Try.func11 (by kernel_rfl) (by kernel_rfl) (by kernel_rfl) (by kernel_rfl) (by kernel_rfl) (Nat.le_of_ble_eq_true rfl)

def c_plait_cnf_Encoder_Vars : LCode := (.seq (.reg [] [⟨some 2, some (.assign (.const (.int .i64 0))), none⟩])
  (.seq (.reg [] [⟨some 3, some (.move (.tmp 0)), none⟩,
    ⟨some 4, some (.nilCheck (.tmp 3)), none⟩,
    ⟨some 5, some (.fieldAddr T_cnf_Encoder (.tmp 4) 1), none⟩,
    ⟨some 6, some (.load T_int (.tmp 5)), none⟩,
    ⟨some 2, some (.assign (.tmp 6)), none⟩])
  .ret))
theorem e_plait_cnf_Encoder_Vars {a0 : AV} {H : AHeap} : R f_plait_cnf_Encoder_Vars [a0] H = fnK Go.Proofs.Try.prog [] H [(.tmp 2)] (evalL Go.Proofs.Try.prog KT R c_plait_cnf_Encoder_Vars (Env.args [a0] 0) H) :=
  runs_body (D := DT) (f := f_plait_cnf_Encoder_Vars) Go.Proofs.Try.func12 (by kernel_rfl) (by kernel_rfl) (by kernel_rfl) (by kernel_rfl) (by kernel_rfl) (Nat.le_of_ble_eq_true rfl)

def l_plaithelp_Ints_0 : LCode := (.seq (.seq (.reg [] [⟨some 11, some (.move (.tmp 5)), none⟩,
    ⟨some 12, some (.move (.tmp 0)), none⟩,
    ⟨some 13, some (.call ⟨(.builtin .len), #[(.tmp 12)], #[T_s_int]⟩), none⟩,
    ⟨some 14, some (.binOp .lss T_int (.tmp 11) (.tmp 13) T_int), none⟩])
  (.cond (.tmp 14) .skip
  (.exit 0)))
  (.seq (.block 1 (.seq (.reg [] [⟨some 17, some (.move (.tmp 0)), none⟩,
    ⟨some 18, some (.move (.tmp 5)), none⟩,
    ⟨some 19, some (.indexAddr T_s_int (.tmp 17) (.tmp 18)), none⟩,
    ⟨some 20, some (.load T_int (.tmp 19)), none⟩,
    ⟨some 21, some (.move (.tmp 1)), none⟩,
    ⟨some 22, some (.move (.tmp 5)), none⟩,
    ⟨some 23, some (.indexAddr T_s_int (.tmp 21) (.tmp 22)), none⟩,
    ⟨some 24, some (.load T_int (.tmp 23)), none⟩,
    ⟨some 25, some (.binOp .neq T_int (.tmp 20) (.tmp 24) T_int), none⟩])
  (.cond (.tmp 25) (.seq (.reg [] [⟨some 4, some (.assign (.const (.bool false))), none⟩])
  .ret)
  .skip)))
  (.reg [] [⟨some 15, some (.move (.tmp 5)), none⟩,
    ⟨some 16, some (.binOp .add T_int (.tmp 15) (.const (.int .i64 1)) T_int), none⟩,
    ⟨some 5, some (.assign (.tmp 16)), none⟩])))
@[simp] theorem d_l_plaithelp_Ints_0 : defs l_plaithelp_Ints_0 = [11, 12, 13, 14, 17, 18, 19, 20, 21, 22, 23, 24, 25, 4, 15, 16, 5] := by rfl
def c_plaithelp_Ints : LCode := (.seq (.reg [] [⟨some 4, some (.assign (.const (.bool false))), none⟩])
  (.seq (.seq (.reg [] [⟨some 6, some (.move (.tmp 0)), none⟩,
    ⟨some 7, some (.call ⟨(.builtin .len), #[(.tmp 6)], #[T_s_int]⟩), none⟩,
    ⟨some 8, some (.move (.tmp 1)), none⟩,
    ⟨some 9, some (.call ⟨(.builtin .len), #[(.tmp 8)], #[T_s_int]⟩), none⟩,
    ⟨some 10, some (.binOp .neq T_int (.tmp 7) (.tmp 9) T_int), none⟩])
  (.cond (.tmp 10) (.seq (.reg [] [⟨some 4, some (.assign (.const (.bool false))), none⟩])
  .ret)
  .skip))
  (.seq (.seq (.reg [] [⟨some 5, some (.assign (.const (.int .i64 0))), none⟩])
  (.block 0 (.loop l_plaithelp_Ints_0)))
  (.seq (.reg [] [⟨some 4, some (.assign (.const (.bool true))), none⟩])
  .ret))))
theorem e_plaithelp_Ints {a0 a1 : AV} {H : AHeap} : R f_plaithelp_Ints [a0, a1] H = fnK Go.Proofs.Try.prog [] H [(.tmp 4)] (evalL Go.Proofs.Try.prog KT R c_plaithelp_Ints (Env.args [a0, a1] 0) H) :=
  runs_body (D := DT) (f := f_plaithelp_Ints) Go.Proofs.Try.func13 (by kernel_rfl) (by kernel_rfl) (by kernel_rfl) (by kernel_rfl) (by kernel_rfl) (Nat.le_of_ble_eq_true rfl)

def c_plait_cnf_Encoder_Of : LCode := (.seq (.reg [] [⟨some 4, some (.assign (.const (.int .i64 0))), none⟩,
    ⟨some 5, some (.assign (.const (.bool false))), none⟩])
  (.seq (.reg [] [⟨some 9, some (.move (.tmp 0)), none⟩,
    ⟨some 10, some (.nilCheck (.tmp 9)), none⟩,
    ⟨some 11, some (.fieldAddr T_cnf_Encoder (.tmp 10) 2), none⟩,
    ⟨some 12, some (.load T_m_int_int (.tmp 11)), none⟩,
    ⟨some 13, some (.move (.tmp 1)), none⟩,
    ⟨some 14, some (.lookup T_m_int_int (.tmp 12) (.tmp 13) true), none⟩,
    ⟨some 8, some (.move (.tmp 14)), none⟩,
    ⟨some 15, some (.extract (.tmp 8) 0), none⟩,
    ⟨some 16, some (.extract (.tmp 8) 1), none⟩,
    ⟨some 6, some (.assign (.tmp 15)), none⟩,
    ⟨some 7, some (.assign (.tmp 16)), none⟩])
  (.seq (.reg [] [⟨some 17, some (.move (.tmp 6)), none⟩,
    ⟨some 18, some (.move (.tmp 7)), none⟩,
    ⟨some 4, some (.assign (.tmp 17)), none⟩,
    ⟨some 5, some (.assign (.tmp 18)), none⟩])
  .ret)))
theorem e_plait_cnf_Encoder_Of {a0 a1 : AV} {H : AHeap} : R f_plait_cnf_Encoder_Of [a0, a1] H = fnK Go.Proofs.Try.prog [] H [(.tmp 4), (.tmp 5)] (evalL Go.Proofs.Try.prog KT R c_plait_cnf_Encoder_Of (Env.args [a0, a1] 0) H) :=
  runs_body (D := DT) (f := f_plait_cnf_Encoder_Of) Go.Proofs.Try.func14 (by kernel_rfl) (by kernel_rfl) (by kernel_rfl) (by kernel_rfl) (by kernel_rfl) (Nat.le_of_ble_eq_true rfl)

def c_plait_aig_Graph_Inputs : LCode := (.seq (.reg [] [⟨some 2, some (.assign (.const (.slice none 0 0))), none⟩])
  (.seq (.reg [] [⟨some 3, some (.move (.tmp 0)), none⟩,
    ⟨some 4, some (.nilCheck (.tmp 3)), none⟩,
    ⟨some 5, some (.fieldAddr T_aig_Graph (.tmp 4) 3), none⟩,
    ⟨some 6, some (.load T_s_int (.tmp 5)), none⟩,
    ⟨some 7, some (.call ⟨(.value (.func f_slices_Clone_int_int)), #[(.tmp 6)], #[T_s_int]⟩), none⟩,
    ⟨some 2, some (.assign (.tmp 7)), none⟩])
  .ret))
theorem e_plait_aig_Graph_Inputs {a0 : AV} {H : AHeap} : R f_plait_aig_Graph_Inputs [a0] H = fnK Go.Proofs.Try.prog [0] H [(.tmp 2)] (evalL Go.Proofs.Try.prog KT R c_plait_aig_Graph_Inputs (Env.args [a0] 0) H) :=
  runs_body (D := DT) (f := f_plait_aig_Graph_Inputs) Go.Proofs.Try.func16 (by kernel_rfl) (by kernel_rfl) (by kernel_rfl) (by kernel_rfl) (by kernel_rfl) (Nat.le_of_ble_eq_true rfl)

def l_plaithelp_CopyLists_0 : LCode := (.seq (.seq (.reg [] [⟨some 5, some (.move (.tmp 4)), none⟩,
    ⟨some 6, some (.move (.tmp 0)), none⟩,
    ⟨some 7, some (.call ⟨(.builtin .len), #[(.tmp 6)], #[T_s_s_int]⟩), none⟩,
    ⟨some 8, some (.binOp .lss T_int (.tmp 5) (.tmp 7) T_int), none⟩])
  (.cond (.tmp 8) .skip
  (.exit 0)))
  (.seq (.block 1 (.reg [] [⟨some 11, some (.move (.tmp 3)), none⟩,
    ⟨some 12, some (.move (.tmp 0)), none⟩,
    ⟨some 13, some (.move (.tmp 4)), none⟩,
    ⟨some 14, some (.indexAddr T_s_s_int (.tmp 12) (.tmp 13)), none⟩,
    ⟨some 15, some (.load T_s_int (.tmp 14)), none⟩,
    ⟨some 16, some (.call ⟨(.value (.func f_plaithelp_CopyInts)), #[(.tmp 15)], #[T_s_int]⟩), none⟩,
    ⟨some 17, some (.buildSlice T_s_s_int 1 #[(0, (.tmp 16))]), none⟩,
    ⟨some 18, some (.call ⟨(.builtin .append), #[(.tmp 11), (.tmp 17)], #[T_s_s_int, T_s_s_int]⟩), none⟩,
    ⟨some 3, some (.assign (.tmp 18)), none⟩]))
  (.reg [] [⟨some 9, some (.move (.tmp 4)), none⟩,
    ⟨some 10, some (.binOp .add T_int (.tmp 9) (.const (.int .i64 1)) T_int), none⟩,
    ⟨some 4, some (.assign (.tmp 10)), none⟩])))
@[simp] theorem d_l_plaithelp_CopyLists_0 : defs l_plaithelp_CopyLists_0 = [5, 6, 7, 8, 11, 12, 13, 14, 15, 16, 17, 18, 3, 9, 10, 4] := by rfl
def c_plaithelp_CopyLists : LCode := (.seq (.reg [] [⟨some 2, some (.assign (.const (.slice none 0 0))), none⟩])
  (.seq (.reg [] [⟨some 3, some (.assign (.const (.slice none 0 0))), none⟩])
  (.seq (.seq (.reg [] [⟨some 4, some (.assign (.const (.int .i64 0))), none⟩])
  (.block 0 (.loop l_plaithelp_CopyLists_0)))
  (.seq (.reg [] [⟨some 19, some (.move (.tmp 3)), none⟩,
    ⟨some 2, some (.assign (.tmp 19)), none⟩])
  .ret))))
theorem e_plaithelp_CopyLists {a0 : AV} {H : AHeap} : R f_plaithelp_CopyLists [a0] H = fnK Go.Proofs.Try.prog [] H [(.tmp 2)] (evalL Go.Proofs.Try.prog KT R c_plaithelp_CopyLists (Env.args [a0] 0) H) :=
  runs_body (D := DT) (f := f_plaithelp_CopyLists) Go.Proofs.Try.func18 (by kernel_rfl) (by kernel_rfl) (by kernel_rfl) (by kernel_rfl) (by kernel_rfl) (Nat.le_of_ble_eq_true rfl)

def l_plaitref12_Can_0 : LCode := (.seq (.seq (.reg [] [⟨some 6, some (.move (.tmp 5)), none⟩,
    ⟨some 7, some (.move (.tmp 1)), none⟩,
    ⟨some 8, some (.binOp .shl T_int (.const (.int .i64 1)) (.tmp 7) T_int), none⟩,
    ⟨some 9, some (.binOp .lss T_int (.tmp 6) (.tmp 8) T_int), none⟩])
  (.cond (.tmp 9) .skip
  (.exit 0)))
  (.seq (.block 1 (.seq (.reg [] [⟨some 12, some (.move (.tmp 0)), none⟩,
    ⟨some 13, some (.move (.tmp 5)), none⟩,
    ⟨some 14, some (.call ⟨(.value (.func f_plaitref12_All)), #[(.tmp 12), (.tmp 13)], #[T_s_s_int, T_int]⟩), none⟩])
  (.cond (.tmp 14) (.seq (.reg [] [⟨some 4, some (.assign (.const (.bool true))), none⟩])
  .ret)
  .skip)))
  (.reg [] [⟨some 10, some (.move (.tmp 5)), none⟩,
    ⟨some 11, some (.binOp .add T_int (.tmp 10) (.const (.int .i64 1)) T_int), none⟩,
    ⟨some 5, some (.assign (.tmp 11)), none⟩])))
@[simp] theorem d_l_plaitref12_Can_0 : defs l_plaitref12_Can_0 = [6, 7, 8, 9, 12, 13, 14, 4, 10, 11, 5] := by rfl
def c_plaitref12_Can : LCode := (.seq (.reg [] [⟨some 4, some (.assign (.const (.bool false))), none⟩])
  (.seq (.seq (.reg [] [⟨some 5, some (.assign (.const (.int .i64 0))), none⟩])
  (.block 0 (.loop l_plaitref12_Can_0)))
  (.seq (.reg [] [⟨some 4, some (.assign (.const (.bool false))), none⟩])
  .ret)))
theorem e_plaitref12_Can {a0 a1 : AV} {H : AHeap} : R f_plaitref12_Can [a0, a1] H = fnK Go.Proofs.Try.prog [] H [(.tmp 4)] (evalL Go.Proofs.Try.prog KT R c_plaitref12_Can (Env.args [a0, a1] 0) H) :=
  runs_body (D := DT) (f := f_plaitref12_Can) Go.Proofs.Try.func19 (by kernel_rfl) (by kernel_rfl) (by kernel_rfl) (by kernel_rfl) (by kernel_rfl) (Nat.le_of_ble_eq_true rfl)

def l_plait_cnf_Encoder_Root_0 : LCode := (.seq (.reg [] [⟨some 41, some (.binOp .lss T_int (.tmp 40) (.tmp 39) T_int), none⟩])
  (.seq (.cond (.tmp 41) .skip
  (.exit 0))
  (.seq (.block 1 (.seq (.reg [] [⟨some 42, some (.indexAddr T_s_int (.tmp 38) (.tmp 40)), none⟩,
    ⟨some 43, some (.load T_int (.tmp 42)), none⟩,
    ⟨some 11, some (.assign (.tmp 43)), none⟩])
  (.seq (.reg [] [⟨some 45, some (.move (.tmp 0)), none⟩,
    ⟨some 46, some (.nilCheck (.tmp 45)), none⟩,
    ⟨some 47, some (.fieldAddr T_cnf_Encoder (.tmp 46) 2), none⟩,
    ⟨some 48, some (.load T_m_int_int (.tmp 47)), none⟩,
    ⟨some 49, some (.move (.tmp 11)), none⟩,
    ⟨some 50, some (.lookup T_m_int_int (.tmp 48) (.tmp 49) true), none⟩,
    ⟨some 44, some (.move (.tmp 50)), none⟩,
    ⟨some 51, some (.extract (.tmp 44) 0), none⟩,
    ⟨some 52, some (.extract (.tmp 44) 1), none⟩,
    ⟨some 12, some (.assign (.tmp 51)), none⟩,
    ⟨some 13, some (.assign (.tmp 52)), none⟩])
  (.seq (.reg [] [⟨some 53, some (.move (.tmp 13)), none⟩,
    ⟨some 54, some (.unOp .not T_bool (.tmp 53)), none⟩,
    ⟨some 55, some (.move (.tmp 54)), none⟩,
    ⟨some 56, some (.move (.tmp 11)), some (some 55, true)⟩,
    ⟨some 57, some (.binOp .gtr T_int (.tmp 56) (.const (.int .i64 0)) T_int), some (some 55, true)⟩,
    ⟨some 58, some (.move (.tmp 57)), some (some 55, true)⟩,
    ⟨some 59, some (.move (.tmp 1)), some (some 58, false)⟩,
    ⟨some 60, some (.binOp .shr T_int (.tmp 59) (.const (.int .u64 1)) T_uint), some (some 58, false)⟩,
    ⟨some 61, some (.binOp .eql T_int (.tmp 60) (.const (.int .i64 0)) T_int), some (some 58, false)⟩,
    ⟨some 62, some (.pick (.tmp 58) (.const (.bool true)) (.tmp 61)), some (some 55, true)⟩,
    ⟨some 63, some (.pick (.tmp 55) (.tmp 62) (.const (.bool false))), none⟩])
  (.cond (.tmp 63) (.reg [] [⟨some 64, some (.move (.tmp 9)), none⟩,
    ⟨some 65, some (.move (.tmp 11)), none⟩,
    ⟨some 66, some (.buildSlice T_s_int 1 #[(0, (.tmp 65))]), none⟩,
    ⟨some 67, some (.call ⟨(.builtin .append), #[(.tmp 64), (.tmp 66)], #[T_s_int, T_s_int]⟩), none⟩,
    ⟨some 9, some (.assign (.tmp 67)), none⟩])
  .skip)))))
  (.reg [] [⟨some 68, some (.binOp .add T_int (.tmp 40) (.const (.int .i64 1)) T_int), none⟩,
    ⟨some 40, some (.move (.tmp 68)), none⟩]))))
def l_plait_cnf_Encoder_Root_1 : LCode := (.seq (.reg [] [⟨some 84, some (.binOp .lss T_int (.tmp 83) (.tmp 82) T_int), none⟩])
  (.seq (.cond (.tmp 84) .skip
  (.exit 2))
  (.seq (.block 3 (.seq (.reg [] [⟨some 85, some (.indexAddr T_s_int (.tmp 81) (.tmp 83)), none⟩,
    ⟨some 86, some (.load T_int (.tmp 85)), none⟩,
    ⟨some 15, some (.assign (.tmp 86)), none⟩])
  (.seq (.reg [3, 6, 802, 997, 1000] [⟨some 88, some (.move (.tmp 0)), none⟩,
    ⟨some 89, some (.nilCheck (.tmp 88)), none⟩,
    ⟨some 90, some (.fieldAddr T_cnf_Encoder (.tmp 89) 2), none⟩,
    ⟨some 91, some (.load T_m_int_int (.tmp 90)), none⟩,
    ⟨some 92, some (.move (.tmp 15)), none⟩,
    ⟨some 93, some (.move (.tmp 0)), none⟩,
    ⟨some 94, some (.call ⟨(.value (.func f_plait_cnf_Encoder_Fresh)), #[(.tmp 93)], #[T_p_cnf_Encoder]⟩), none⟩,
    ⟨some 87, some (.move (.tmp 94)), none⟩,
    ⟨some 95, some (.extract (.tmp 87) 0), none⟩,
    ⟨some 96, some (.extract (.tmp 87) 1), none⟩,
    ⟨none, some (.mapUpdate T_m_int_int (.tmp 91) (.tmp 92) (.tmp 95)), none⟩])
  (.seq (.reg [] [⟨some 97, some (.move (.tmp 15)), none⟩,
    ⟨some 98, some (.binOp .eql T_int (.tmp 97) (.const (.int .i64 0)) T_int), none⟩])
  (.cond (.tmp 98) (.reg [] [⟨some 99, some (.move (.tmp 0)), none⟩,
    ⟨some 100, some (.move (.tmp 0)), none⟩,
    ⟨some 101, some (.nilCheck (.tmp 100)), none⟩,
    ⟨some 102, some (.fieldAddr T_cnf_Encoder (.tmp 101) 2), none⟩,
    ⟨some 103, some (.load T_m_int_int (.tmp 102)), none⟩,
    ⟨some 104, some (.lookup T_m_int_int (.tmp 103) (.const (.int .i64 0)) false), none⟩,
    ⟨some 105, some (.buildSlice T_s_int 1 #[(0, (.tmp 104))]), none⟩,
    ⟨some 106, some (.call ⟨(.value (.func f_plait_cnf_Encoder_lays)), #[(.tmp 99), (.tmp 105)], #[T_p_cnf_Encoder, T_s_int]⟩), none⟩])
  .skip)))))
  (.reg [] [⟨some 107, some (.binOp .add T_int (.tmp 83) (.const (.int .i64 1)) T_int), none⟩,
    ⟨some 83, some (.move (.tmp 107)), none⟩]))))
def l_plait_cnf_Encoder_Root_2 : LCode := (.seq (.seq (.reg [] [⟨some 111, some (.move (.tmp 16)), none⟩,
    ⟨some 112, some (.call ⟨(.builtin .len), #[(.tmp 111)], #[T_s_cnf_todo]⟩), none⟩,
    ⟨some 113, some (.binOp .gtr T_int (.tmp 112) (.const (.int .i64 0)) T_int), none⟩])
  (.cond (.tmp 113) .skip
  (.exit 4)))
  (.block 5 (.seq (.reg [] [⟨some 114, some (.move (.tmp 16)), none⟩,
    ⟨some 115, some (.move (.tmp 16)), none⟩,
    ⟨some 116, some (.call ⟨(.builtin .len), #[(.tmp 115)], #[T_s_cnf_todo]⟩), none⟩,
    ⟨some 117, some (.binOp .sub T_int (.tmp 116) (.const (.int .i64 1)) T_int), none⟩,
    ⟨some 118, some (.indexAddr T_s_cnf_todo (.tmp 114) (.tmp 117)), none⟩,
    ⟨some 119, some (.load T_cnf_todo (.tmp 118)), none⟩,
    ⟨some 17, some (.alloc T_cnf_todo), none⟩,
    ⟨none, some (.store T_cnf_todo (.tmp 17) (.tmp 119)), none⟩])
  (.reg [2, 4, 7, 997] [⟨some 120, some (.move (.tmp 16)), none⟩,
    ⟨some 121, some (.move (.tmp 16)), none⟩,
    ⟨some 122, some (.call ⟨(.builtin .len), #[(.tmp 121)], #[T_s_cnf_todo]⟩), none⟩,
    ⟨some 123, some (.binOp .sub T_int (.tmp 122) (.const (.int .i64 1)) T_int), none⟩,
    ⟨some 124, some (.slice T_s_cnf_todo (.tmp 120) none (some (.tmp 123)) none), none⟩,
    ⟨some 125, some (.move (.tmp 0)), none⟩,
    ⟨some 126, some (.load T_cnf_todo (.tmp 17)), none⟩,
    ⟨some 127, some (.call ⟨(.value (.func f_plait_cnf_Encoder_node)), #[(.tmp 125), (.tmp 126)], #[T_p_cnf_Encoder, T_cnf_todo]⟩), none⟩,
    ⟨some 128, some (.call ⟨(.builtin .append), #[(.tmp 124), (.tmp 127)], #[T_s_cnf_todo, T_s_cnf_todo]⟩), none⟩,
    ⟨some 16, some (.assign (.tmp 128)), none⟩]))))
@[simp] theorem d_l_plait_cnf_Encoder_Root_0 : defs l_plait_cnf_Encoder_Root_0 = [41, 42, 43, 11, 45, 46, 47, 48, 49, 50, 44, 51, 52, 12, 13, 53, 54, 55, 56, 57, 58, 59, 60, 61, 62, 63, 64, 65, 66, 67, 9, 68, 40] := by rfl
@[simp] theorem d_l_plait_cnf_Encoder_Root_1 : defs l_plait_cnf_Encoder_Root_1 = [84, 85, 86, 15, 88, 89, 90, 91, 92, 93, 94, 87, 95, 96, 97, 98, 99, 100, 101, 102, 103, 104, 105, 106, 107, 83] := by rfl
@[simp] theorem d_l_plait_cnf_Encoder_Root_2 : defs l_plait_cnf_Encoder_Root_2 = [111, 112, 113, 114, 115, 116, 117, 118, 119, 17, 120, 121, 122, 123, 124, 125, 126, 127, 128, 16] := by rfl
def c_plait_cnf_Encoder_Root : LCode := (.seq (.reg [] [⟨some 4, some (.assign (.const (.int .i64 0))), none⟩,
    ⟨some 5, some (.assign (.const (.slice none 0 0))), none⟩,
    ⟨some 6, some (.assign (.const (.int .i64 0))), none⟩])
  (.seq (.seq (.reg [] [⟨some 20, some (.move (.tmp 0)), none⟩,
    ⟨some 21, some (.nilCheck (.tmp 20)), none⟩,
    ⟨some 22, some (.fieldAddr T_cnf_Encoder (.tmp 21) 0), none⟩,
    ⟨some 23, some (.load T_p_aig_Graph (.tmp 22)), none⟩,
    ⟨some 24, some (.move (.tmp 1)), none⟩,
    ⟨some 25, some (.move (.tmp 1)), none⟩,
    ⟨some 26, some (.call ⟨(.value (.func f_plait_aig_Graph_And)), #[(.tmp 23), (.tmp 24), (.tmp 25)], #[T_p_aig_Graph, T_int, T_int]⟩), none⟩,
    ⟨some 19, some (.move (.tmp 26)), none⟩,
    ⟨some 27, some (.extract (.tmp 19) 0), none⟩,
    ⟨some 28, some (.extract (.tmp 19) 1), none⟩,
    ⟨some 7, some (.assign (.tmp 27)), none⟩,
    ⟨some 8, some (.assign (.tmp 28)), none⟩])
  (.seq (.reg [] [⟨some 29, some (.move (.tmp 8)), none⟩,
    ⟨some 30, some (.binOp .neq T_api_Errno (.tmp 29) (.const (.int .i64 0)) T_api_Errno), none⟩])
  (.cond (.tmp 30) (.seq (.reg [] [⟨some 4, some (.assign (.const (.int .i64 0))), none⟩,
    ⟨some 5, some (.assign (.const (.slice none 0 0))), none⟩,
    ⟨some 6, some (.assign (.const (.int .i64 100))), none⟩])
  .ret)
  .skip)))
  (.seq (.reg [] [⟨some 9, some (.assign (.const (.slice none 0 0))), none⟩])
  (.seq (.seq (.reg [] [⟨some 31, some (.move (.tmp 0)), none⟩,
    ⟨some 32, some (.nilCheck (.tmp 31)), none⟩,
    ⟨some 33, some (.fieldAddr T_cnf_Encoder (.tmp 32) 0), none⟩,
    ⟨some 34, some (.load T_p_aig_Graph (.tmp 33)), none⟩,
    ⟨some 35, some (.move (.tmp 1)), none⟩,
    ⟨some 36, some (.call ⟨(.value (.func f_plait_aig_Graph_Cone)), #[(.tmp 34), (.tmp 35)], #[T_p_aig_Graph, T_int]⟩), none⟩,
    ⟨some 37, some (.buildSlice T_s_int 1 #[(0, (.const (.int .i64 0)))]), none⟩,
    ⟨some 38, some (.call ⟨(.builtin .append), #[(.tmp 36), (.tmp 37)], #[T_s_int, T_s_int]⟩), none⟩,
    ⟨some 39, some (.call ⟨(.builtin .len), #[(.tmp 38)], #[T_s_int]⟩), none⟩,
    ⟨some 40, some (.move (.const (.int .i64 0))), none⟩])
  (.block 0 (.loop l_plait_cnf_Encoder_Root_0)))
  (.seq (.seq (.reg [] [⟨some 69, some (.move (.tmp 9)), none⟩,
    ⟨some 70, some (.call ⟨(.builtin .len), #[(.tmp 69)], #[T_s_int]⟩), none⟩,
    ⟨some 71, some (.move (.tmp 0)), none⟩,
    ⟨some 72, some (.nilCheck (.tmp 71)), none⟩,
    ⟨some 73, some (.fieldAddr T_cnf_Encoder (.tmp 72) 1), none⟩,
    ⟨some 74, some (.load T_int (.tmp 73)), none⟩,
    ⟨some 75, some (.call ⟨(.builtin .min), #[(.tmp 74), (.const (.int .i64 65536))], #[T_int, T_int]⟩), none⟩,
    ⟨some 76, some (.binOp .sub T_int (.const (.int .i64 65536)) (.tmp 75) T_int), none⟩,
    ⟨some 77, some (.binOp .gtr T_int (.tmp 70) (.tmp 76) T_int), none⟩])
  (.cond (.tmp 77) (.seq (.reg [] [⟨some 4, some (.assign (.const (.int .i64 0))), none⟩,
    ⟨some 5, some (.assign (.const (.slice none 0 0))), none⟩,
    ⟨some 6, some (.assign (.const (.int .i64 101))), none⟩])
  .ret)
  .skip))
  (.seq (.reg [] [⟨some 78, some (.move (.tmp 0)), none⟩,
    ⟨some 79, some (.nilCheck (.tmp 78)), none⟩,
    ⟨some 80, some (.fieldAddr T_cnf_Encoder (.tmp 79) 4), none⟩,
    ⟨none, some (.store T_s_s_int (.tmp 80) (.const (.slice none 0 0))), none⟩])
  (.seq (.seq (.reg [] [⟨some 81, some (.move (.tmp 9)), none⟩,
    ⟨some 82, some (.call ⟨(.builtin .len), #[(.tmp 81)], #[T_s_int]⟩), none⟩,
    ⟨some 83, some (.move (.const (.int .i64 0))), none⟩])
  (.block 2 (.loop l_plait_cnf_Encoder_Root_1)))
  (.seq (.seq (.reg [] [⟨some 108, some (.move (.tmp 1)), none⟩,
    ⟨some 109, some (.call ⟨(.value (.func f_cnf_asks)), #[(.tmp 108)], #[T_int]⟩), none⟩,
    ⟨some 110, some (.buildSlice T_s_cnf_todo 1 #[(0, (.tmp 109))]), none⟩,
    ⟨some 16, some (.assign (.tmp 110)), none⟩])
  (.block 4 (.loop l_plait_cnf_Encoder_Root_2)))
  (.seq (.reg [] [⟨some 129, some (.move (.tmp 0)), none⟩,
    ⟨some 130, some (.nilCheck (.tmp 129)), none⟩,
    ⟨some 131, some (.fieldAddr T_cnf_Encoder (.tmp 130) 4), none⟩,
    ⟨some 132, some (.load T_s_s_int (.tmp 131)), none⟩,
    ⟨some 18, some (.assign (.tmp 132)), none⟩])
  (.seq (.reg [] [⟨some 133, some (.move (.tmp 0)), none⟩,
    ⟨some 134, some (.nilCheck (.tmp 133)), none⟩,
    ⟨some 135, some (.fieldAddr T_cnf_Encoder (.tmp 134) 4), none⟩,
    ⟨none, some (.store T_s_s_int (.tmp 135) (.const (.slice none 0 0))), none⟩])
  (.seq (.reg [] [⟨some 136, some (.move (.tmp 0)), none⟩,
    ⟨some 137, some (.move (.tmp 1)), none⟩,
    ⟨some 138, some (.call ⟨(.value (.func f_plait_cnf_Encoder_lit)), #[(.tmp 136), (.tmp 137)], #[T_p_cnf_Encoder, T_int]⟩), none⟩,
    ⟨some 139, some (.move (.tmp 18)), none⟩,
    ⟨some 4, some (.assign (.tmp 138)), none⟩,
    ⟨some 5, some (.assign (.tmp 139)), none⟩,
    ⟨some 6, some (.assign (.const (.int .i64 0))), none⟩])
  .ret)))))))))))
theorem e_plait_cnf_Encoder_Root {a0 a1 : AV} {H : AHeap} : R f_plait_cnf_Encoder_Root [a0, a1] H = fnK Go.Proofs.Try.prog [] H [(.tmp 4), (.tmp 5), (.tmp 6)] (evalL Go.Proofs.Try.prog KT R c_plait_cnf_Encoder_Root (Env.args [a0, a1] 0) H) :=
  runs_body (D := DT) (f := f_plait_cnf_Encoder_Root) Go.Proofs.Try.func26 (by kernel_rfl) (by kernel_rfl) (by kernel_rfl) (by kernel_rfl) (by kernel_rfl) (Nat.le_of_ble_eq_true rfl)

def c_aig_New : LCode := (.seq (.reg [] [⟨some 2, some (.assign (.const (.pointer none))), none⟩])
  (.seq (.reg [] [⟨some 3, some (.move (.tmp 0)), none⟩,
    ⟨some 4, some (.call ⟨(.builtin .max), #[(.tmp 3), (.const (.int .i64 1))], #[T_int, T_int]⟩), none⟩,
    ⟨some 5, some (.call ⟨(.builtin .min), #[(.tmp 4), (.const (.int .i64 32768))], #[T_int, T_int]⟩), none⟩,
    ⟨some 6, some (.makeMap T_m_a2_int_int none), none⟩,
    ⟨some 7, some (.build T_aig_Graph #[(0, (.tmp 5)), (2, (.tmp 6))]), none⟩,
    ⟨some 8, some (.box T_aig_Graph (.tmp 7)), none⟩,
    ⟨some 2, some (.assign (.tmp 8)), none⟩])
  .ret))
theorem e_aig_New {a0 : AV} {H : AHeap} : R f_aig_New [a0] H = fnK Go.Proofs.Try.prog [] H [(.tmp 2)] (evalL Go.Proofs.Try.prog KT R c_aig_New (Env.args [a0] 0) H) :=
  runs_body (D := DT) (f := f_aig_New) Go.Proofs.Try.func27 (by kernel_rfl) (by kernel_rfl) (by kernel_rfl) (by kernel_rfl) (by kernel_rfl) (Nat.le_of_ble_eq_true rfl)

def c_cnf_New : LCode := (.seq (.reg [] [⟨some 4, some (.assign (.const (.pointer none))), none⟩])
  (.seq (.reg [] [⟨some 5, some (.move (.tmp 0)), none⟩,
    ⟨some 6, some (.move (.tmp 1)), none⟩,
    ⟨some 7, some (.call ⟨(.builtin .max), #[(.tmp 6), (.const (.int .i64 1))], #[T_int, T_int]⟩), none⟩,
    ⟨some 8, some (.binOp .sub T_int (.tmp 7) (.const (.int .i64 1)) T_int), none⟩,
    ⟨some 9, some (.makeMap T_m_int_int none), none⟩,
    ⟨some 10, some (.makeMap T_m_int_int none), none⟩,
    ⟨some 11, some (.build T_cnf_Encoder #[(0, (.tmp 5)), (1, (.tmp 8)), (2, (.tmp 9)), (3, (.tmp 10))]), none⟩,
    ⟨some 12, some (.box T_cnf_Encoder (.tmp 11)), none⟩,
    ⟨some 4, some (.assign (.tmp 12)), none⟩])
  .ret))
theorem e_cnf_New {a0 a1 : AV} {H : AHeap} : R f_cnf_New [a0, a1] H = fnK Go.Proofs.Try.prog [] H [(.tmp 4)] (evalL Go.Proofs.Try.prog KT R c_cnf_New (Env.args [a0, a1] 0) H) :=
  runs_body (D := DT) (f := f_cnf_New) Go.Proofs.Try.func28 (by kernel_rfl) (by kernel_rfl) (by kernel_rfl) (by kernel_rfl) (by kernel_rfl) (Nat.le_of_ble_eq_true rfl)

def c_plait_aig_Graph_Input : LCode := (.seq (.reg [] [⟨some 2, some (.assign (.const (.int .i64 0))), none⟩,
    ⟨some 3, some (.assign (.const (.int .i64 0))), none⟩])
  (.seq (.reg [] [⟨some 7, some (.move (.tmp 0)), none⟩,
    ⟨some 8, some (.build T_a2_int #[]), none⟩,
    ⟨some 9, some (.call ⟨(.value (.func f_plait_aig_Graph_node)), #[(.tmp 7), (.tmp 8)], #[T_p_aig_Graph, T_a2_int]⟩), none⟩,
    ⟨some 6, some (.move (.tmp 9)), none⟩,
    ⟨some 10, some (.extract (.tmp 6) 0), none⟩,
    ⟨some 11, some (.extract (.tmp 6) 1), none⟩,
    ⟨some 4, some (.assign (.tmp 10)), none⟩,
    ⟨some 5, some (.assign (.tmp 11)), none⟩])
  (.seq (.seq (.reg [] [⟨some 12, some (.move (.tmp 5)), none⟩,
    ⟨some 13, some (.binOp .eql T_api_Errno (.tmp 12) (.const (.int .i64 0)) T_api_Errno), none⟩])
  (.cond (.tmp 13) (.reg [] [⟨some 14, some (.move (.tmp 0)), none⟩,
    ⟨some 15, some (.move (.tmp 0)), none⟩,
    ⟨some 16, some (.nilCheck (.tmp 15)), none⟩,
    ⟨some 17, some (.fieldAddr T_aig_Graph (.tmp 16) 3), none⟩,
    ⟨some 18, some (.load T_s_int (.tmp 17)), none⟩,
    ⟨some 19, some (.move (.tmp 4)), none⟩,
    ⟨some 20, some (.buildSlice T_s_int 1 #[(0, (.tmp 19))]), none⟩,
    ⟨some 21, some (.call ⟨(.builtin .append), #[(.tmp 18), (.tmp 20)], #[T_s_int, T_s_int]⟩), none⟩,
    ⟨some 22, some (.nilCheck (.tmp 14)), none⟩,
    ⟨some 23, some (.fieldAddr T_aig_Graph (.tmp 22) 3), none⟩,
    ⟨none, some (.store T_s_int (.tmp 23) (.tmp 21)), none⟩])
  .skip))
  (.seq (.reg [] [⟨some 24, some (.move (.tmp 4)), none⟩,
    ⟨some 25, some (.move (.tmp 5)), none⟩,
    ⟨some 2, some (.assign (.tmp 24)), none⟩,
    ⟨some 3, some (.assign (.tmp 25)), none⟩])
  .ret))))
theorem e_plait_aig_Graph_Input {a0 : AV} {H : AHeap} : R f_plait_aig_Graph_Input [a0] H = fnK Go.Proofs.Try.prog [] H [(.tmp 2), (.tmp 3)] (evalL Go.Proofs.Try.prog KT R c_plait_aig_Graph_Input (Env.args [a0] 0) H) :=
  runs_body (D := DT) (f := f_plait_aig_Graph_Input) Go.Proofs.Try.func29 (by kernel_rfl) (by kernel_rfl) (by kernel_rfl) (by kernel_rfl) (by kernel_rfl) (Nat.le_of_ble_eq_true rfl)

def c_plait_aig_Graph_And : LCode := (.seq (.reg [] [⟨some 6, some (.assign (.const (.int .i64 0))), none⟩,
    ⟨some 7, some (.assign (.const (.int .i64 0))), none⟩])
  (.seq (.seq (.reg [] [⟨some 13, some (.move (.tmp 0)), none⟩,
    ⟨some 14, some (.move (.tmp 1)), none⟩,
    ⟨some 15, some (.call ⟨(.value (.func f_plait_aig_Graph_lit)), #[(.tmp 13), (.tmp 14)], #[T_p_aig_Graph, T_int]⟩), none⟩,
    ⟨some 16, some (.unOp .not T_bool (.tmp 15)), none⟩,
    ⟨some 17, some (.move (.tmp 16)), none⟩,
    ⟨some 18, some (.move (.tmp 0)), some (some 17, false)⟩,
    ⟨some 19, some (.move (.tmp 2)), some (some 17, false)⟩,
    ⟨some 20, some (.call ⟨(.value (.func f_plait_aig_Graph_lit)), #[(.tmp 18), (.tmp 19)], #[T_p_aig_Graph, T_int]⟩), some (some 17, false)⟩,
    ⟨some 21, some (.unOp .not T_bool (.tmp 20)), some (some 17, false)⟩,
    ⟨some 22, some (.pick (.tmp 17) (.const (.bool true)) (.tmp 21)), none⟩])
  (.cond (.tmp 22) (.seq (.reg [] [⟨some 6, some (.assign (.const (.int .i64 0))), none⟩,
    ⟨some 7, some (.assign (.const (.int .i64 80))), none⟩])
  .ret)
  .skip))
  (.seq (.seq (.reg [] [⟨some 23, some (.move (.tmp 1)), none⟩,
    ⟨some 24, some (.move (.tmp 2)), none⟩,
    ⟨some 25, some (.binOp .gtr T_int (.tmp 23) (.tmp 24) T_int), none⟩])
  (.cond (.tmp 25) (.reg [] [⟨some 26, some (.move (.tmp 2)), none⟩,
    ⟨some 27, some (.move (.tmp 1)), none⟩,
    ⟨some 1, some (.assign (.tmp 26)), none⟩,
    ⟨some 2, some (.assign (.tmp 27)), none⟩])
  .skip))
  (.seq (.block 0 (.seq (.reg [] [⟨some 29, some (.move (.tmp 1)), none⟩,
    ⟨some 30, some (.binOp .eql T_int (.tmp 29) (.const (.int .i64 0)) T_int), none⟩,
    ⟨some 31, some (.move (.tmp 30)), none⟩,
    ⟨some 32, some (.move (.tmp 1)), some (some 31, false)⟩,
    ⟨some 33, some (.binOp .xor T_int (.tmp 32) (.const (.int .i64 1)) T_int), some (some 31, false)⟩,
    ⟨some 34, some (.move (.tmp 2)), some (some 31, false)⟩,
    ⟨some 35, some (.binOp .eql T_int (.tmp 33) (.tmp 34) T_int), some (some 31, false)⟩,
    ⟨some 36, some (.pick (.tmp 31) (.const (.bool true)) (.tmp 35)), none⟩,
    ⟨some 28, some (.assign (.tmp 36)), none⟩])
  (.cond (.tmp 28) (.seq (.reg [] [⟨some 6, some (.assign (.const (.int .i64 0))), none⟩,
    ⟨some 7, some (.assign (.const (.int .i64 0))), none⟩])
  .ret)
  (.seq (.reg [] [⟨some 38, some (.move (.tmp 1)), none⟩,
    ⟨some 39, some (.binOp .eql T_int (.tmp 38) (.const (.int .i64 1)) T_int), none⟩,
    ⟨some 40, some (.move (.tmp 39)), none⟩,
    ⟨some 41, some (.move (.tmp 1)), some (some 40, false)⟩,
    ⟨some 42, some (.move (.tmp 2)), some (some 40, false)⟩,
    ⟨some 43, some (.binOp .eql T_int (.tmp 41) (.tmp 42) T_int), some (some 40, false)⟩,
    ⟨some 44, some (.pick (.tmp 40) (.const (.bool true)) (.tmp 43)), none⟩,
    ⟨some 37, some (.assign (.tmp 44)), none⟩])
  (.cond (.tmp 37) (.seq (.reg [] [⟨some 45, some (.move (.tmp 2)), none⟩,
    ⟨some 6, some (.assign (.tmp 45)), none⟩,
    ⟨some 7, some (.assign (.const (.int .i64 0))), none⟩])
  .ret)
  .skip)))))
  (.seq (.reg [] [⟨some 46, some (.move (.tmp 1)), none⟩,
    ⟨some 47, some (.move (.tmp 2)), none⟩,
    ⟨some 48, some (.build T_a2_int #[(0, (.tmp 46)), (1, (.tmp 47))]), none⟩,
    ⟨some 8, some (.alloc T_a2_int), none⟩,
    ⟨none, some (.store T_a2_int (.tmp 8) (.tmp 48)), none⟩])
  (.seq (.seq (.reg [] [⟨some 50, some (.move (.tmp 0)), none⟩,
    ⟨some 51, some (.nilCheck (.tmp 50)), none⟩,
    ⟨some 52, some (.fieldAddr T_aig_Graph (.tmp 51) 2), none⟩,
    ⟨some 53, some (.load T_m_a2_int_int (.tmp 52)), none⟩,
    ⟨some 54, some (.load T_a2_int (.tmp 8)), none⟩,
    ⟨some 55, some (.lookup T_m_a2_int_int (.tmp 53) (.tmp 54) true), none⟩,
    ⟨some 49, some (.move (.tmp 55)), none⟩,
    ⟨some 56, some (.extract (.tmp 49) 0), none⟩,
    ⟨some 57, some (.extract (.tmp 49) 1), none⟩,
    ⟨some 9, some (.assign (.tmp 56)), none⟩,
    ⟨some 10, some (.assign (.tmp 57)), none⟩])
  (.seq (.reg [] [⟨some 58, some (.move (.tmp 10)), none⟩])
  (.cond (.tmp 58) (.seq (.reg [] [⟨some 59, some (.move (.tmp 9)), none⟩,
    ⟨some 6, some (.assign (.tmp 59)), none⟩,
    ⟨some 7, some (.assign (.const (.int .i64 0))), none⟩])
  .ret)
  .skip)))
  (.seq (.reg [] [⟨some 61, some (.move (.tmp 0)), none⟩,
    ⟨some 62, some (.load T_a2_int (.tmp 8)), none⟩,
    ⟨some 63, some (.call ⟨(.value (.func f_plait_aig_Graph_node)), #[(.tmp 61), (.tmp 62)], #[T_p_aig_Graph, T_a2_int]⟩), none⟩,
    ⟨some 60, some (.move (.tmp 63)), none⟩,
    ⟨some 64, some (.extract (.tmp 60) 0), none⟩,
    ⟨some 65, some (.extract (.tmp 60) 1), none⟩,
    ⟨some 11, some (.assign (.tmp 64)), none⟩,
    ⟨some 12, some (.assign (.tmp 65)), none⟩])
  (.seq (.seq (.reg [] [⟨some 66, some (.move (.tmp 12)), none⟩,
    ⟨some 67, some (.binOp .eql T_api_Errno (.tmp 66) (.const (.int .i64 0)) T_api_Errno), none⟩])
  (.cond (.tmp 67) (.reg [] [⟨some 68, some (.move (.tmp 0)), none⟩,
    ⟨some 69, some (.nilCheck (.tmp 68)), none⟩,
    ⟨some 70, some (.fieldAddr T_aig_Graph (.tmp 69) 2), none⟩,
    ⟨some 71, some (.load T_m_a2_int_int (.tmp 70)), none⟩,
    ⟨some 72, some (.load T_a2_int (.tmp 8)), none⟩,
    ⟨some 73, some (.move (.tmp 11)), none⟩,
    ⟨none, some (.mapUpdate T_m_a2_int_int (.tmp 71) (.tmp 72) (.tmp 73)), none⟩])
  .skip))
  (.seq (.reg [] [⟨some 74, some (.move (.tmp 11)), none⟩,
    ⟨some 75, some (.move (.tmp 12)), none⟩,
    ⟨some 6, some (.assign (.tmp 74)), none⟩,
    ⟨some 7, some (.assign (.tmp 75)), none⟩])
  .ret)))))))))
theorem e_plait_aig_Graph_And {a0 a1 a2 : AV} {H : AHeap} : R f_plait_aig_Graph_And [a0, a1, a2] H = fnK Go.Proofs.Try.prog [] H [(.tmp 6), (.tmp 7)] (evalL Go.Proofs.Try.prog KT R c_plait_aig_Graph_And (Env.args [a0, a1, a2] 0) H) :=
  runs_body (D := DT) (f := f_plait_aig_Graph_And) Go.Proofs.Try.func30 (by kernel_rfl) (by kernel_rfl) (by kernel_rfl) (by kernel_rfl) (by kernel_rfl) (Nat.le_of_ble_eq_true rfl)

def c_plait_aig_Graph_Xor : LCode := (.seq (.reg [] [⟨some 6, some (.assign (.const (.int .i64 0))), none⟩,
    ⟨some 7, some (.assign (.const (.int .i64 0))), none⟩])
  (.seq (.seq (.reg [] [⟨some 8, some (.move (.tmp 0)), none⟩,
    ⟨some 9, some (.move (.tmp 1)), none⟩,
    ⟨some 10, some (.call ⟨(.value (.func f_plait_aig_Graph_lit)), #[(.tmp 8), (.tmp 9)], #[T_p_aig_Graph, T_int]⟩), none⟩,
    ⟨some 11, some (.unOp .not T_bool (.tmp 10)), none⟩,
    ⟨some 12, some (.move (.tmp 11)), none⟩,
    ⟨some 13, some (.move (.tmp 0)), some (some 12, false)⟩,
    ⟨some 14, some (.move (.tmp 2)), some (some 12, false)⟩,
    ⟨some 15, some (.call ⟨(.value (.func f_plait_aig_Graph_lit)), #[(.tmp 13), (.tmp 14)], #[T_p_aig_Graph, T_int]⟩), some (some 12, false)⟩,
    ⟨some 16, some (.unOp .not T_bool (.tmp 15)), some (some 12, false)⟩,
    ⟨some 17, some (.pick (.tmp 12) (.const (.bool true)) (.tmp 16)), none⟩])
  (.cond (.tmp 17) (.seq (.reg [] [⟨some 6, some (.assign (.const (.int .i64 0))), none⟩,
    ⟨some 7, some (.assign (.const (.int .i64 80))), none⟩])
  .ret)
  .skip))
  (.seq (.reg [] [⟨some 18, some (.move (.tmp 0)), none⟩,
    ⟨some 19, some (.move (.tmp 1)), none⟩,
    ⟨some 20, some (.move (.tmp 2)), none⟩,
    ⟨some 21, some (.binOp .xor T_int (.tmp 20) (.const (.int .i64 1)) T_int), none⟩,
    ⟨some 22, some (.move (.tmp 1)), none⟩,
    ⟨some 23, some (.binOp .xor T_int (.tmp 22) (.const (.int .i64 1)) T_int), none⟩,
    ⟨some 24, some (.move (.tmp 2)), none⟩,
    ⟨some 25, some (.call ⟨(.value (.func f_plait_aig_Graph_either)), #[(.tmp 18), (.tmp 19), (.tmp 21), (.tmp 23), (.tmp 24)], #[T_p_aig_Graph, T_int, T_int, T_int, T_int]⟩), none⟩,
    ⟨some 26, some (.extract (.tmp 25) 0), none⟩,
    ⟨some 27, some (.extract (.tmp 25) 1), none⟩,
    ⟨some 6, some (.assign (.tmp 26)), none⟩,
    ⟨some 7, some (.assign (.tmp 27)), none⟩])
  .ret)))
theorem e_plait_aig_Graph_Xor {a0 a1 a2 : AV} {H : AHeap} : R f_plait_aig_Graph_Xor [a0, a1, a2] H = fnK Go.Proofs.Try.prog [] H [(.tmp 6), (.tmp 7)] (evalL Go.Proofs.Try.prog KT R c_plait_aig_Graph_Xor (Env.args [a0, a1, a2] 0) H) :=
  runs_body (D := DT) (f := f_plait_aig_Graph_Xor) Go.Proofs.Try.func31 (by kernel_rfl) (by kernel_rfl) (by kernel_rfl) (by kernel_rfl) (by kernel_rfl) (Nat.le_of_ble_eq_true rfl)

def l_plait_plaitlaw10_run_root_0 : LCode := (.seq (.seq (.reg [] [⟨some 88, some (.move (.tmp 10)), none⟩,
    ⟨some 89, some (.move (.tmp 5)), none⟩,
    ⟨some 90, some (.call ⟨(.builtin .len), #[(.tmp 89)], #[T_s_s_int]⟩), none⟩,
    ⟨some 91, some (.binOp .lss T_int (.tmp 88) (.tmp 90) T_int), none⟩])
  (.cond (.tmp 91) .skip
  (.exit 0)))
  (.seq (.block 1 (.reg [] [⟨some 94, some (.move (.tmp 5)), none⟩,
    ⟨some 95, some (.move (.tmp 10)), none⟩,
    ⟨some 96, some (.indexAddr T_s_s_int (.tmp 94) (.tmp 95)), none⟩,
    ⟨some 97, some (.load T_s_int (.tmp 96)), none⟩,
    ⟨some 98, some (.call ⟨(.value (.func f_plaithelp_Spoil)), #[(.tmp 97)], #[T_s_int]⟩), none⟩]))
  (.reg [] [⟨some 92, some (.move (.tmp 10)), none⟩,
    ⟨some 93, some (.binOp .add T_int (.tmp 92) (.const (.int .i64 1)) T_int), none⟩,
    ⟨some 10, some (.assign (.tmp 93)), none⟩])))
@[simp] theorem d_l_plait_plaitlaw10_run_root_0 : defs l_plait_plaitlaw10_run_root_0 = [88, 89, 90, 91, 94, 95, 96, 97, 98, 92, 93, 10] := by rfl
def c_plait_plaitlaw10_run_root : LCode := (.seq (.reg [] [⟨some 12, some (.move (.tmp 0)), none⟩,
    ⟨some 13, some (.nilCheck (.tmp 12)), none⟩,
    ⟨some 14, some (.fieldAddr T_plaitlaw10_run (.tmp 13) 1), none⟩,
    ⟨some 15, some (.load T_p_cnf_Encoder (.tmp 14)), none⟩,
    ⟨some 16, some (.move (.tmp 1)), none⟩,
    ⟨some 17, some (.call ⟨(.value (.func f_plait_cnf_Encoder_Root)), #[(.tmp 15), (.tmp 16)], #[T_p_cnf_Encoder, T_int]⟩), none⟩,
    ⟨some 11, some (.move (.tmp 17)), none⟩,
    ⟨some 18, some (.extract (.tmp 11) 0), none⟩,
    ⟨some 19, some (.extract (.tmp 11) 1), none⟩,
    ⟨some 20, some (.extract (.tmp 11) 2), none⟩,
    ⟨some 4, some (.assign (.tmp 18)), none⟩,
    ⟨some 5, some (.assign (.tmp 19)), none⟩,
    ⟨some 6, some (.assign (.tmp 20)), none⟩])
  (.seq (.reg [6] [⟨some 21, some (.move (.tmp 0)), none⟩,
    ⟨some 22, some (.move (.tmp 0)), none⟩,
    ⟨some 23, some (.nilCheck (.tmp 22)), none⟩,
    ⟨some 24, some (.fieldAddr T_plaitlaw10_run (.tmp 23) 2), none⟩,
    ⟨some 25, some (.load T_s_s_int (.tmp 24)), none⟩,
    ⟨some 26, some (.move (.tmp 5)), none⟩,
    ⟨some 27, some (.call ⟨(.value (.func f_plaithelp_CopyLists)), #[(.tmp 26)], #[T_s_s_int]⟩), none⟩,
    ⟨some 28, some (.call ⟨(.builtin .append), #[(.tmp 25), (.tmp 27)], #[T_s_s_int, T_s_s_int]⟩), none⟩,
    ⟨some 29, some (.nilCheck (.tmp 21)), none⟩,
    ⟨some 30, some (.fieldAddr T_plaitlaw10_run (.tmp 29) 2), none⟩,
    ⟨none, some (.store T_s_s_int (.tmp 30) (.tmp 28)), none⟩])
  (.seq (.reg [8, 12, 14, 998, 1000] [⟨some 31, some (.move (.tmp 0)), none⟩,
    ⟨some 32, some (.move (.tmp 0)), none⟩,
    ⟨some 33, some (.move (.tmp 0)), none⟩,
    ⟨some 34, some (.nilCheck (.tmp 33)), none⟩,
    ⟨some 35, some (.fieldAddr T_plaitlaw10_run (.tmp 34) 3), none⟩,
    ⟨some 36, some (.load T_s_int (.tmp 35)), none⟩,
    ⟨some 37, some (.move (.tmp 1)), none⟩,
    ⟨some 38, some (.buildSlice T_s_int 1 #[(0, (.tmp 37))]), none⟩,
    ⟨some 39, some (.call ⟨(.builtin .append), #[(.tmp 36), (.tmp 38)], #[T_s_int, T_s_int]⟩), none⟩,
    ⟨some 40, some (.move (.tmp 0)), none⟩,
    ⟨some 41, some (.nilCheck (.tmp 40)), none⟩,
    ⟨some 42, some (.fieldAddr T_plaitlaw10_run (.tmp 41) 4), none⟩,
    ⟨some 43, some (.load T_s_int (.tmp 42)), none⟩,
    ⟨some 44, some (.move (.tmp 4)), none⟩,
    ⟨some 45, some (.buildSlice T_s_int 1 #[(0, (.tmp 44))]), none⟩,
    ⟨some 46, some (.call ⟨(.builtin .append), #[(.tmp 43), (.tmp 45)], #[T_s_int, T_s_int]⟩), none⟩,
    ⟨some 47, some (.nilCheck (.tmp 31)), none⟩,
    ⟨some 48, some (.fieldAddr T_plaitlaw10_run (.tmp 47) 3), none⟩,
    ⟨none, some (.store T_s_int (.tmp 48) (.tmp 39)), none⟩,
    ⟨some 49, some (.nilCheck (.tmp 32)), none⟩,
    ⟨some 50, some (.fieldAddr T_plaitlaw10_run (.tmp 49) 4), none⟩,
    ⟨none, some (.store T_s_int (.tmp 50) (.tmp 46)), none⟩])
  (.seq (.reg [] [⟨some 52, some (.move (.tmp 0)), none⟩,
    ⟨some 53, some (.nilCheck (.tmp 52)), none⟩,
    ⟨some 54, some (.fieldAddr T_plaitlaw10_run (.tmp 53) 1), none⟩,
    ⟨some 55, some (.load T_p_cnf_Encoder (.tmp 54)), none⟩,
    ⟨some 56, some (.move (.tmp 1)), none⟩,
    ⟨some 57, some (.call ⟨(.value (.func f_plait_cnf_Encoder_Root)), #[(.tmp 55), (.tmp 56)], #[T_p_cnf_Encoder, T_int]⟩), none⟩,
    ⟨some 51, some (.move (.tmp 57)), none⟩,
    ⟨some 58, some (.extract (.tmp 51) 0), none⟩,
    ⟨some 59, some (.extract (.tmp 51) 1), none⟩,
    ⟨some 60, some (.extract (.tmp 51) 2), none⟩,
    ⟨some 7, some (.assign (.tmp 58)), none⟩,
    ⟨some 8, some (.assign (.tmp 59)), none⟩,
    ⟨some 9, some (.assign (.tmp 60)), none⟩])
  (.seq (.reg [] [⟨some 61, some (.move (.tmp 0)), none⟩,
    ⟨some 62, some (.move (.tmp 0)), none⟩,
    ⟨some 63, some (.nilCheck (.tmp 62)), none⟩,
    ⟨some 64, some (.fieldAddr T_plaitlaw10_run (.tmp 63) 5), none⟩,
    ⟨some 65, some (.load T_bool (.tmp 64)), none⟩,
    ⟨some 66, some (.move (.tmp 65)), none⟩,
    ⟨some 67, some (.move (.tmp 6)), some (some 66, true)⟩,
    ⟨some 68, some (.move (.tmp 9)), some (some 66, true)⟩,
    ⟨some 69, some (.binOp .add T_int (.tmp 67) (.tmp 68) T_int), some (some 66, true)⟩,
    ⟨some 70, some (.binOp .eql T_int (.tmp 69) (.const (.int .i64 0)) T_int), some (some 66, true)⟩,
    ⟨some 71, some (.pick (.tmp 66) (.tmp 70) (.const (.bool false))), none⟩,
    ⟨some 72, some (.move (.tmp 71)), none⟩,
    ⟨some 73, some (.move (.tmp 7)), some (some 72, true)⟩,
    ⟨some 74, some (.move (.tmp 4)), some (some 72, true)⟩,
    ⟨some 75, some (.binOp .eql T_int (.tmp 73) (.tmp 74) T_int), some (some 72, true)⟩,
    ⟨some 76, some (.pick (.tmp 72) (.tmp 75) (.const (.bool false))), none⟩,
    ⟨some 77, some (.move (.tmp 76)), none⟩,
    ⟨some 78, some (.move (.tmp 8)), some (some 77, true)⟩,
    ⟨some 79, some (.call ⟨(.builtin .len), #[(.tmp 78)], #[T_s_s_int]⟩), some (some 77, true)⟩,
    ⟨some 80, some (.binOp .eql T_int (.tmp 79) (.const (.int .i64 0)) T_int), some (some 77, true)⟩,
    ⟨some 81, some (.pick (.tmp 77) (.tmp 80) (.const (.bool false))), none⟩,
    ⟨some 82, some (.move (.tmp 81)), none⟩,
    ⟨some 83, some (.move (.tmp 4)), some (some 82, true)⟩,
    ⟨some 84, some (.binOp .neq T_int (.tmp 83) (.const (.int .i64 0)) T_int), some (some 82, true)⟩,
    ⟨some 85, some (.pick (.tmp 82) (.tmp 84) (.const (.bool false))), none⟩,
    ⟨some 86, some (.nilCheck (.tmp 61)), none⟩,
    ⟨some 87, some (.fieldAddr T_plaitlaw10_run (.tmp 86) 5), none⟩,
    ⟨none, some (.store T_bool (.tmp 87) (.tmp 85)), none⟩])
  (.seq (.reg [] [⟨some 10, some (.assign (.const (.int .i64 0))), none⟩])
  (.block 0 (.loop l_plait_plaitlaw10_run_root_0))))))))
theorem e_plait_plaitlaw10_run_root {a0 a1 : AV} {H : AHeap} : R f_plait_plaitlaw10_run_root [a0, a1] H = fnK Go.Proofs.Try.prog [] H [] (evalL Go.Proofs.Try.prog KT R c_plait_plaitlaw10_run_root (Env.args [a0, a1] 0) H) :=
  runs_body (D := DT) (f := f_plait_plaitlaw10_run_root) Go.Proofs.Try.func32 (by kernel_rfl) (by kernel_rfl) (by kernel_rfl) (by kernel_rfl) (by kernel_rfl) (Nat.le_of_ble_eq_true rfl)

def c_plait_cnf_Encoder_Fresh : LCode := (.seq (.reg [] [⟨some 2, some (.assign (.const (.int .i64 0))), none⟩,
    ⟨some 3, some (.assign (.const (.int .i64 0))), none⟩])
  (.seq (.seq (.reg [] [⟨some 4, some (.move (.tmp 0)), none⟩,
    ⟨some 5, some (.nilCheck (.tmp 4)), none⟩,
    ⟨some 6, some (.fieldAddr T_cnf_Encoder (.tmp 5) 1), none⟩,
    ⟨some 7, some (.load T_int (.tmp 6)), none⟩,
    ⟨some 8, some (.binOp .geq T_int (.tmp 7) (.const (.int .i64 65536)) T_int), none⟩])
  (.cond (.tmp 8) (.seq (.reg [] [⟨some 2, some (.assign (.const (.int .i64 0))), none⟩,
    ⟨some 3, some (.assign (.const (.int .i64 101))), none⟩])
  .ret)
  .skip))
  (.seq (.reg [] [⟨some 9, some (.move (.tmp 0)), none⟩,
    ⟨some 10, some (.nilCheck (.tmp 9)), none⟩,
    ⟨some 11, some (.fieldAddr T_cnf_Encoder (.tmp 10) 1), none⟩,
    ⟨some 12, some (.load T_int (.tmp 11)), none⟩,
    ⟨some 13, some (.binOp .add T_int (.tmp 12) (.const (.int .i64 1)) T_int), none⟩,
    ⟨some 14, some (.nilCheck (.tmp 9)), none⟩,
    ⟨some 15, some (.fieldAddr T_cnf_Encoder (.tmp 14) 1), none⟩,
    ⟨none, some (.store T_int (.tmp 15) (.tmp 13)), none⟩])
  (.seq (.reg [] [⟨some 16, some (.move (.tmp 0)), none⟩,
    ⟨some 17, some (.nilCheck (.tmp 16)), none⟩,
    ⟨some 18, some (.fieldAddr T_cnf_Encoder (.tmp 17) 1), none⟩,
    ⟨some 19, some (.load T_int (.tmp 18)), none⟩,
    ⟨some 2, some (.assign (.tmp 19)), none⟩,
    ⟨some 3, some (.assign (.const (.int .i64 0))), none⟩])
  .ret))))
theorem e_plait_cnf_Encoder_Fresh {a0 : AV} {H : AHeap} : R f_plait_cnf_Encoder_Fresh [a0] H = fnK Go.Proofs.Try.prog [] H [(.tmp 2), (.tmp 3)] (evalL Go.Proofs.Try.prog KT R c_plait_cnf_Encoder_Fresh (Env.args [a0] 0) H) :=
  runs_body (D := DT) (f := f_plait_cnf_Encoder_Fresh) Go.Proofs.Try.func33 (by kernel_rfl) (by kernel_rfl) (by kernel_rfl) (by kernel_rfl) (by kernel_rfl) (Nat.le_of_ble_eq_true rfl)

def c_slices_Clone_int_int : LCode := (.seq (.reg [] [⟨some 2, some (.assign (.const (.slice none 0 0))), none⟩])
  (.seq (.seq (.reg [] [⟨some 3, some (.move (.tmp 0)), none⟩,
    ⟨some 4, some (.binOp .eql T_s_int (.tmp 3) (.const (.slice none 0 0)) T_s_int), none⟩])
  (.cond (.tmp 4) (.seq (.reg [] [⟨some 2, some (.assign (.const (.slice none 0 0))), none⟩])
  .ret)
  .skip))
  (.seq (.reg [] [⟨some 5, some (.buildSlice T_s_int 0 #[]), none⟩,
    ⟨some 6, some (.move (.tmp 0)), none⟩,
    ⟨some 7, some (.call ⟨(.builtin .append), #[(.tmp 5), (.tmp 6)], #[T_s_int, T_s_int]⟩), none⟩,
    ⟨some 2, some (.assign (.tmp 7)), none⟩])
  .ret)))
theorem e_slices_Clone_int_int {a0 : AV} {H : AHeap} : R f_slices_Clone_int_int [a0] H = fnK Go.Proofs.Try.prog [] H [(.tmp 2)] (evalL Go.Proofs.Try.prog KT R c_slices_Clone_int_int (Env.args [a0] 0) H) :=
  runs_body (D := DT) (f := f_slices_Clone_int_int) Go.Proofs.Try.func35 (by kernel_rfl) (by kernel_rfl) (by kernel_rfl) (by kernel_rfl) (by kernel_rfl) (Nat.le_of_ble_eq_true rfl)

def c_plait_aig_Graph_lit : LCode := (.seq (.reg [] [⟨some 4, some (.assign (.const (.bool false))), none⟩])
  (.seq (.reg [] [⟨some 5, some (.move (.tmp 1)), none⟩,
    ⟨some 6, some (.binOp .geq T_int (.tmp 5) (.const (.int .i64 0)) T_int), none⟩,
    ⟨some 7, some (.move (.tmp 6)), none⟩,
    ⟨some 8, some (.move (.tmp 1)), some (some 7, true)⟩,
    ⟨some 9, some (.binOp .shr T_int (.tmp 8) (.const (.int .u64 1)) T_uint), some (some 7, true)⟩,
    ⟨some 10, some (.move (.tmp 0)), some (some 7, true)⟩,
    ⟨some 11, some (.nilCheck (.tmp 10)), some (some 7, true)⟩,
    ⟨some 12, some (.fieldAddr T_aig_Graph (.tmp 11) 1), some (some 7, true)⟩,
    ⟨some 13, some (.load T_s_a2_int (.tmp 12)), some (some 7, true)⟩,
    ⟨some 14, some (.call ⟨(.builtin .len), #[(.tmp 13)], #[T_s_a2_int]⟩), some (some 7, true)⟩,
    ⟨some 15, some (.binOp .leq T_int (.tmp 9) (.tmp 14) T_int), some (some 7, true)⟩,
    ⟨some 16, some (.pick (.tmp 7) (.tmp 15) (.const (.bool false))), none⟩,
    ⟨some 4, some (.assign (.tmp 16)), none⟩])
  .ret))
theorem e_plait_aig_Graph_lit {a0 a1 : AV} {H : AHeap} : R f_plait_aig_Graph_lit [a0, a1] H = fnK Go.Proofs.Try.prog [] H [(.tmp 4)] (evalL Go.Proofs.Try.prog KT R c_plait_aig_Graph_lit (Env.args [a0, a1] 0) H) :=
  runs_body (D := DT) (f := f_plait_aig_Graph_lit) Go.Proofs.Try.func36 (by kernel_rfl) (by kernel_rfl) (by kernel_rfl) (by kernel_rfl) (by kernel_rfl) (Nat.le_of_ble_eq_true rfl)

def c_plaithelp_CopyInts : LCode := (.seq (.reg [] [⟨some 2, some (.assign (.const (.slice none 0 0))), none⟩])
  (.seq (.reg [] [⟨some 3, some (.move (.tmp 0)), none⟩,
    ⟨some 4, some (.call ⟨(.builtin .append), #[(.const (.slice none 0 0)), (.tmp 3)], #[T_s_int, T_s_int]⟩), none⟩,
    ⟨some 2, some (.assign (.tmp 4)), none⟩])
  .ret))
theorem e_plaithelp_CopyInts {a0 : AV} {H : AHeap} : R f_plaithelp_CopyInts [a0] H = fnK Go.Proofs.Try.prog [] H [(.tmp 2)] (evalL Go.Proofs.Try.prog KT R c_plaithelp_CopyInts (Env.args [a0] 0) H) :=
  runs_body (D := DT) (f := f_plaithelp_CopyInts) Go.Proofs.Try.func37 (by kernel_rfl) (by kernel_rfl) (by kernel_rfl) (by kernel_rfl) (by kernel_rfl) (Nat.le_of_ble_eq_true rfl)

def l_plaitref12_All_0 : LCode := (.seq (.seq (.reg [] [⟨some 6, some (.move (.tmp 5)), none⟩,
    ⟨some 7, some (.move (.tmp 0)), none⟩,
    ⟨some 8, some (.call ⟨(.builtin .len), #[(.tmp 7)], #[T_s_s_int]⟩), none⟩,
    ⟨some 9, some (.binOp .lss T_int (.tmp 6) (.tmp 8) T_int), none⟩])
  (.cond (.tmp 9) .skip
  (.exit 0)))
  (.seq (.block 1 (.seq (.reg [] [⟨some 12, some (.move (.tmp 0)), none⟩,
    ⟨some 13, some (.move (.tmp 5)), none⟩,
    ⟨some 14, some (.indexAddr T_s_s_int (.tmp 12) (.tmp 13)), none⟩,
    ⟨some 15, some (.load T_s_int (.tmp 14)), none⟩,
    ⟨some 16, some (.move (.tmp 1)), none⟩,
    ⟨some 17, some (.call ⟨(.value (.func f_plaitref12_True)), #[(.tmp 15), (.tmp 16)], #[T_s_int, T_int]⟩), none⟩,
    ⟨some 18, some (.unOp .not T_bool (.tmp 17)), none⟩])
  (.cond (.tmp 18) (.seq (.reg [] [⟨some 4, some (.assign (.const (.bool false))), none⟩])
  .ret)
  .skip)))
  (.reg [] [⟨some 10, some (.move (.tmp 5)), none⟩,
    ⟨some 11, some (.binOp .add T_int (.tmp 10) (.const (.int .i64 1)) T_int), none⟩,
    ⟨some 5, some (.assign (.tmp 11)), none⟩])))
@[simp] theorem d_l_plaitref12_All_0 : defs l_plaitref12_All_0 = [6, 7, 8, 9, 12, 13, 14, 15, 16, 17, 18, 4, 10, 11, 5] := by rfl
def c_plaitref12_All : LCode := (.seq (.reg [] [⟨some 4, some (.assign (.const (.bool false))), none⟩])
  (.seq (.seq (.reg [] [⟨some 5, some (.assign (.const (.int .i64 0))), none⟩])
  (.block 0 (.loop l_plaitref12_All_0)))
  (.seq (.reg [] [⟨some 4, some (.assign (.const (.bool true))), none⟩])
  .ret)))
theorem e_plaitref12_All {a0 a1 : AV} {H : AHeap} : R f_plaitref12_All [a0, a1] H = fnK Go.Proofs.Try.prog [] H [(.tmp 4)] (evalL Go.Proofs.Try.prog KT R c_plaitref12_All (Env.args [a0, a1] 0) H) :=
  runs_body (D := DT) (f := f_plaitref12_All) Go.Proofs.Try.func38 (by kernel_rfl) (by kernel_rfl) (by kernel_rfl) (by kernel_rfl) (by kernel_rfl) (Nat.le_of_ble_eq_true rfl)

def l_plait_aig_Graph_Cone_0 : LCode := (.seq (.seq (.reg [] [⟨some 24, some (.move (.tmp 6)), none⟩,
    ⟨some 25, some (.binOp .gtr T_int (.tmp 24) (.const (.int .i64 0)) T_int), none⟩])
  (.cond (.tmp 25) .skip
  (.exit 0)))
  (.seq (.block 1 (.seq (.reg [] [⟨some 28, some (.move (.tmp 0)), none⟩,
    ⟨some 29, some (.nilCheck (.tmp 28)), none⟩,
    ⟨some 30, some (.fieldAddr T_aig_Graph (.tmp 29) 1), none⟩,
    ⟨some 31, some (.load T_s_a2_int (.tmp 30)), none⟩,
    ⟨some 32, some (.move (.tmp 6)), none⟩,
    ⟨some 33, some (.binOp .sub T_int (.tmp 32) (.const (.int .i64 1)) T_int), none⟩,
    ⟨some 34, some (.indexAddr T_s_a2_int (.tmp 31) (.tmp 33)), none⟩,
    ⟨some 35, some (.load T_a2_int (.tmp 34)), none⟩,
    ⟨some 7, some (.alloc T_a2_int), none⟩,
    ⟨none, some (.store T_a2_int (.tmp 7) (.tmp 35)), none⟩])
  (.seq (.reg [] [⟨some 36, some (.move (.tmp 5)), none⟩,
    ⟨some 37, some (.move (.tmp 6)), none⟩,
    ⟨some 38, some (.indexAddr T_s_bool (.tmp 36) (.tmp 37)), none⟩,
    ⟨some 39, some (.load T_bool (.tmp 38)), none⟩,
    ⟨some 40, some (.move (.tmp 39)), none⟩,
    ⟨some 41, some (.load T_a2_int (.tmp 7)), some (some 40, true)⟩,
    ⟨some 42, some (.build T_a2_int #[]), some (some 40, true)⟩,
    ⟨some 43, some (.binOp .neq T_a2_int (.tmp 41) (.tmp 42) T_a2_int), some (some 40, true)⟩,
    ⟨some 44, some (.pick (.tmp 40) (.tmp 43) (.const (.bool false))), none⟩])
  (.cond (.tmp 44) (.reg [6, 9] [⟨some 45, some (.move (.tmp 5)), none⟩,
    ⟨some 46, some (.indexAddr T_a2_int (.tmp 7) (.const (.int .i64 0))), none⟩,
    ⟨some 47, some (.load T_int (.tmp 46)), none⟩,
    ⟨some 48, some (.binOp .shr T_int (.tmp 47) (.const (.int .u64 1)) T_uint), none⟩,
    ⟨some 49, some (.move (.tmp 5)), none⟩,
    ⟨some 50, some (.indexAddr T_a2_int (.tmp 7) (.const (.int .i64 1))), none⟩,
    ⟨some 51, some (.load T_int (.tmp 50)), none⟩,
    ⟨some 52, some (.binOp .shr T_int (.tmp 51) (.const (.int .u64 1)) T_uint), none⟩,
    ⟨some 53, some (.indexAddr T_s_bool (.tmp 45) (.tmp 48)), none⟩,
    ⟨none, some (.store T_bool (.tmp 53) (.const (.bool true))), none⟩,
    ⟨some 54, some (.indexAddr T_s_bool (.tmp 49) (.tmp 52)), none⟩,
    ⟨none, some (.store T_bool (.tmp 54) (.const (.bool true))), none⟩])
  .skip))))
  (.reg [] [⟨some 26, some (.move (.tmp 6)), none⟩,
    ⟨some 27, some (.binOp .sub T_int (.tmp 26) (.const (.int .i64 1)) T_int), none⟩,
    ⟨some 6, some (.assign (.tmp 27)), none⟩])))
def l_plait_aig_Graph_Cone_1 : LCode := (.seq (.seq (.reg [] [⟨some 55, some (.move (.tmp 9)), none⟩,
    ⟨some 56, some (.move (.tmp 5)), none⟩,
    ⟨some 57, some (.call ⟨(.builtin .len), #[(.tmp 56)], #[T_s_bool]⟩), none⟩,
    ⟨some 58, some (.binOp .lss T_int (.tmp 55) (.tmp 57) T_int), none⟩])
  (.cond (.tmp 58) .skip
  (.exit 2)))
  (.seq (.block 3 (.seq (.reg [] [⟨some 61, some (.move (.tmp 5)), none⟩,
    ⟨some 62, some (.move (.tmp 9)), none⟩,
    ⟨some 63, some (.indexAddr T_s_bool (.tmp 61) (.tmp 62)), none⟩,
    ⟨some 64, some (.load T_bool (.tmp 63)), none⟩])
  (.cond (.tmp 64) (.reg [] [⟨some 65, some (.move (.tmp 8)), none⟩,
    ⟨some 66, some (.move (.tmp 9)), none⟩,
    ⟨some 67, some (.buildSlice T_s_int 1 #[(0, (.tmp 66))]), none⟩,
    ⟨some 68, some (.call ⟨(.builtin .append), #[(.tmp 65), (.tmp 67)], #[T_s_int, T_s_int]⟩), none⟩,
    ⟨some 8, some (.assign (.tmp 68)), none⟩])
  .skip)))
  (.reg [] [⟨some 59, some (.move (.tmp 9)), none⟩,
    ⟨some 60, some (.binOp .add T_int (.tmp 59) (.const (.int .i64 1)) T_int), none⟩,
    ⟨some 9, some (.assign (.tmp 60)), none⟩])))
@[simp] theorem d_l_plait_aig_Graph_Cone_0 : defs l_plait_aig_Graph_Cone_0 = [24, 25, 28, 29, 30, 31, 32, 33, 34, 35, 7, 36, 37, 38, 39, 40, 41, 42, 43, 44, 45, 46, 47, 48, 49, 50, 51, 52, 53, 54, 26, 27, 6] := by rfl
@[simp] theorem d_l_plait_aig_Graph_Cone_1 : defs l_plait_aig_Graph_Cone_1 = [55, 56, 57, 58, 61, 62, 63, 64, 65, 66, 67, 68, 8, 59, 60, 9] := by rfl
def c_plait_aig_Graph_Cone : LCode := (.seq (.reg [] [⟨some 4, some (.assign (.const (.slice none 0 0))), none⟩])
  (.seq (.seq (.reg [] [⟨some 10, some (.move (.tmp 0)), none⟩,
    ⟨some 11, some (.move (.tmp 1)), none⟩,
    ⟨some 12, some (.call ⟨(.value (.func f_plait_aig_Graph_lit)), #[(.tmp 10), (.tmp 11)], #[T_p_aig_Graph, T_int]⟩), none⟩,
    ⟨some 13, some (.unOp .not T_bool (.tmp 12)), none⟩])
  (.cond (.tmp 13) (.seq (.reg [] [⟨some 4, some (.assign (.const (.slice none 0 0))), none⟩])
  .ret)
  .skip))
  (.seq (.reg [] [⟨some 14, some (.move (.tmp 1)), none⟩,
    ⟨some 15, some (.binOp .shr T_int (.tmp 14) (.const (.int .u64 1)) T_uint), none⟩,
    ⟨some 16, some (.binOp .add T_int (.tmp 15) (.const (.int .i64 1)) T_int), none⟩,
    ⟨some 17, some (.makeSlice T_s_bool (.tmp 16) (.tmp 16)), none⟩,
    ⟨some 5, some (.assign (.tmp 17)), none⟩])
  (.seq (.reg [] [⟨some 18, some (.move (.tmp 5)), none⟩,
    ⟨some 19, some (.move (.tmp 1)), none⟩,
    ⟨some 20, some (.binOp .shr T_int (.tmp 19) (.const (.int .u64 1)) T_uint), none⟩,
    ⟨some 21, some (.indexAddr T_s_bool (.tmp 18) (.tmp 20)), none⟩,
    ⟨none, some (.store T_bool (.tmp 21) (.const (.bool true))), none⟩])
  (.seq (.seq (.reg [] [⟨some 22, some (.move (.tmp 1)), none⟩,
    ⟨some 23, some (.binOp .shr T_int (.tmp 22) (.const (.int .u64 1)) T_uint), none⟩,
    ⟨some 6, some (.assign (.tmp 23)), none⟩])
  (.block 0 (.loop l_plait_aig_Graph_Cone_0)))
  (.seq (.reg [] [⟨some 8, some (.assign (.const (.slice none 0 0))), none⟩])
  (.seq (.seq (.reg [] [⟨some 9, some (.assign (.const (.int .i64 1))), none⟩])
  (.block 2 (.loop l_plait_aig_Graph_Cone_1)))
  (.seq (.reg [] [⟨some 69, some (.move (.tmp 8)), none⟩,
    ⟨some 4, some (.assign (.tmp 69)), none⟩])
  .ret))))))))
theorem e_plait_aig_Graph_Cone {a0 a1 : AV} {H : AHeap} : R f_plait_aig_Graph_Cone [a0, a1] H = fnK Go.Proofs.Try.prog [] H [(.tmp 4)] (evalL Go.Proofs.Try.prog KT R c_plait_aig_Graph_Cone (Env.args [a0, a1] 0) H) :=
  runs_body (D := DT) (f := f_plait_aig_Graph_Cone) Go.Proofs.Try.func51 (by kernel_rfl) (by kernel_rfl) (by kernel_rfl) (by kernel_rfl) (by kernel_rfl) (Nat.le_of_ble_eq_true rfl)

def c_plait_cnf_Encoder_lays : LCode := (.reg [] [⟨some 4, some (.move (.tmp 0)), none⟩,
    ⟨some 5, some (.move (.tmp 0)), none⟩,
    ⟨some 6, some (.nilCheck (.tmp 5)), none⟩,
    ⟨some 7, some (.fieldAddr T_cnf_Encoder (.tmp 6) 4), none⟩,
    ⟨some 8, some (.load T_s_s_int (.tmp 7)), none⟩,
    ⟨some 9, some (.move (.tmp 1)), none⟩,
    ⟨some 10, some (.buildSlice T_s_s_int 1 #[(0, (.tmp 9))]), none⟩,
    ⟨some 11, some (.call ⟨(.builtin .append), #[(.tmp 8), (.tmp 10)], #[T_s_s_int, T_s_s_int]⟩), none⟩,
    ⟨some 12, some (.nilCheck (.tmp 4)), none⟩,
    ⟨some 13, some (.fieldAddr T_cnf_Encoder (.tmp 12) 4), none⟩,
    ⟨none, some (.store T_s_s_int (.tmp 13) (.tmp 11)), none⟩])
theorem e_plait_cnf_Encoder_lays {a0 a1 : AV} {H : AHeap} : R f_plait_cnf_Encoder_lays [a0, a1] H = fnK Go.Proofs.Try.prog [] H [] (evalL Go.Proofs.Try.prog KT R c_plait_cnf_Encoder_lays (Env.args [a0, a1] 0) H) :=
  runs_body (D := DT) (f := f_plait_cnf_Encoder_lays) Go.Proofs.Try.func52 (by kernel_rfl) (by kernel_rfl) (by kernel_rfl) (by kernel_rfl) (by kernel_rfl) (Nat.le_of_ble_eq_true rfl)

def c_cnf_asks : LCode := (.seq (.reg [] [⟨some 2, some (.alloc T_cnf_todo), none⟩])
  (.seq (.seq (.reg [] [⟨some 3, some (.move (.tmp 0)), none⟩,
    ⟨some 4, some (.binOp .and T_int (.tmp 3) (.const (.int .i64 1)) T_int), none⟩,
    ⟨some 5, some (.binOp .eql T_int (.tmp 4) (.const (.int .i64 1)) T_int), none⟩])
  (.cond (.tmp 5) (.seq (.reg [] [⟨some 6, some (.move (.tmp 0)), none⟩,
    ⟨some 7, some (.binOp .shr T_int (.tmp 6) (.const (.int .u64 1)) T_uint), none⟩,
    ⟨some 8, some (.build T_cnf_todo #[(0, (.tmp 7)), (1, (.const (.int .i64 2)))]), none⟩,
    ⟨none, some (.store T_cnf_todo (.tmp 2) (.tmp 8)), none⟩])
  .ret)
  .skip))
  (.seq (.reg [] [⟨some 9, some (.move (.tmp 0)), none⟩,
    ⟨some 10, some (.binOp .shr T_int (.tmp 9) (.const (.int .u64 1)) T_uint), none⟩,
    ⟨some 11, some (.build T_cnf_todo #[(0, (.tmp 10)), (1, (.const (.int .i64 1)))]), none⟩,
    ⟨none, some (.store T_cnf_todo (.tmp 2) (.tmp 11)), none⟩])
  .ret)))
theorem e_cnf_asks {a0 : AV} {H : AHeap} : R f_cnf_asks [a0] H = fnK Go.Proofs.Try.prog [] H [(.cell 2 T_cnf_todo)] (evalL Go.Proofs.Try.prog KT R c_cnf_asks (Env.args [a0] 0) H) :=
  runs_body (D := DT) (f := f_cnf_asks) Go.Proofs.Try.func53 (by kernel_rfl) (by kernel_rfl) (by kernel_rfl) (by kernel_rfl) (by kernel_rfl) (Nat.le_of_ble_eq_true rfl)

def c_plait_cnf_Encoder_node : LCode := (.seq (.reg [] [⟨some 3, some (.box T_cnf_todo (.tmp 1)), none⟩,
    ⟨some 4, some (.assign (.const (.slice none 0 0))), none⟩])
  (.seq (.seq (.reg [] [⟨some 9, some (.move (.tmp 0)), none⟩,
    ⟨some 10, some (.nilCheck (.tmp 9)), none⟩,
    ⟨some 11, some (.fieldAddr T_cnf_Encoder (.tmp 10) 3), none⟩,
    ⟨some 12, some (.load T_m_int_int (.tmp 11)), none⟩,
    ⟨some 13, some (.fieldAddr T_cnf_todo (.tmp 3) 0), none⟩,
    ⟨some 14, some (.load T_int (.tmp 13)), none⟩,
    ⟨some 15, some (.lookup T_m_int_int (.tmp 12) (.tmp 14) false), none⟩,
    ⟨some 16, some (.fieldAddr T_cnf_todo (.tmp 3) 1), none⟩,
    ⟨some 17, some (.load T_int (.tmp 16)), none⟩,
    ⟨some 18, some (.binOp .and T_int (.tmp 15) (.tmp 17) T_int), none⟩,
    ⟨some 19, some (.binOp .neq T_int (.tmp 18) (.const (.int .i64 0)) T_int), none⟩])
  (.cond (.tmp 19) (.seq (.reg [] [⟨some 4, some (.assign (.const (.slice none 0 0))), none⟩])
  .ret)
  .skip))
  (.seq (.reg [] [⟨some 20, some (.move (.tmp 0)), none⟩,
    ⟨some 21, some (.nilCheck (.tmp 20)), none⟩,
    ⟨some 22, some (.fieldAddr T_cnf_Encoder (.tmp 21) 3), none⟩,
    ⟨some 23, some (.load T_m_int_int (.tmp 22)), none⟩,
    ⟨some 24, some (.fieldAddr T_cnf_todo (.tmp 3) 0), none⟩,
    ⟨some 25, some (.load T_int (.tmp 24)), none⟩,
    ⟨some 26, some (.lookup T_m_int_int (.tmp 23) (.tmp 25) false), none⟩,
    ⟨some 27, some (.fieldAddr T_cnf_todo (.tmp 3) 1), none⟩,
    ⟨some 28, some (.load T_int (.tmp 27)), none⟩,
    ⟨some 29, some (.binOp .or T_int (.tmp 26) (.tmp 28) T_int), none⟩,
    ⟨none, some (.mapUpdate T_m_int_int (.tmp 23) (.tmp 25) (.tmp 29)), none⟩])
  (.seq (.reg [] [⟨some 31, some (.move (.tmp 0)), none⟩,
    ⟨some 32, some (.nilCheck (.tmp 31)), none⟩,
    ⟨some 33, some (.fieldAddr T_cnf_Encoder (.tmp 32) 0), none⟩,
    ⟨some 34, some (.load T_p_aig_Graph (.tmp 33)), none⟩,
    ⟨some 35, some (.fieldAddr T_cnf_todo (.tmp 3) 0), none⟩,
    ⟨some 36, some (.load T_int (.tmp 35)), none⟩,
    ⟨some 37, some (.call ⟨(.value (.func f_plait_aig_Graph_Kids)), #[(.tmp 34), (.tmp 36)], #[T_p_aig_Graph, T_int]⟩), none⟩,
    ⟨some 30, some (.move (.tmp 37)), none⟩,
    ⟨some 38, some (.extract (.tmp 30) 0), none⟩,
    ⟨some 39, some (.extract (.tmp 30) 1), none⟩,
    ⟨some 40, some (.extract (.tmp 30) 2), none⟩,
    ⟨some 5, some (.assign (.tmp 38)), none⟩,
    ⟨some 6, some (.assign (.tmp 39)), none⟩,
    ⟨some 7, some (.assign (.tmp 40)), none⟩])
  (.seq (.reg [] [⟨some 41, some (.move (.tmp 0)), none⟩,
    ⟨some 42, some (.nilCheck (.tmp 41)), none⟩,
    ⟨some 43, some (.fieldAddr T_cnf_Encoder (.tmp 42) 2), none⟩,
    ⟨some 44, some (.load T_m_int_int (.tmp 43)), none⟩,
    ⟨some 45, some (.fieldAddr T_cnf_todo (.tmp 3) 0), none⟩,
    ⟨some 46, some (.load T_int (.tmp 45)), none⟩,
    ⟨some 47, some (.lookup T_m_int_int (.tmp 44) (.tmp 46) false), none⟩,
    ⟨some 8, some (.assign (.tmp 47)), none⟩])
  (.seq (.block 0 (.seq (.reg [] [⟨some 49, some (.move (.tmp 7)), none⟩,
    ⟨some 50, some (.unOp .not T_bool (.tmp 49)), none⟩,
    ⟨some 48, some (.assign (.tmp 50)), none⟩])
  (.cond (.tmp 48) (.seq (.reg [] [⟨some 4, some (.assign (.const (.slice none 0 0))), none⟩])
  .ret)
  (.seq (.reg [] [⟨some 52, some (.fieldAddr T_cnf_todo (.tmp 3) 1), none⟩,
    ⟨some 53, some (.load T_int (.tmp 52)), none⟩,
    ⟨some 54, some (.binOp .eql T_int (.tmp 53) (.const (.int .i64 1)) T_int), none⟩,
    ⟨some 51, some (.assign (.tmp 54)), none⟩])
  (.cond (.tmp 51) (.seq (.reg [] [⟨some 55, some (.move (.tmp 0)), none⟩,
    ⟨some 56, some (.move (.tmp 8)), none⟩,
    ⟨some 57, some (.unOp .neg T_int (.tmp 56)), none⟩,
    ⟨some 58, some (.move (.tmp 0)), none⟩,
    ⟨some 59, some (.move (.tmp 5)), none⟩,
    ⟨some 60, some (.call ⟨(.value (.func f_plait_cnf_Encoder_lit)), #[(.tmp 58), (.tmp 59)], #[T_p_cnf_Encoder, T_int]⟩), none⟩,
    ⟨some 61, some (.buildSlice T_s_int 2 #[(0, (.tmp 57)), (1, (.tmp 60))]), none⟩,
    ⟨some 62, some (.call ⟨(.value (.func f_plait_cnf_Encoder_lays)), #[(.tmp 55), (.tmp 61)], #[T_p_cnf_Encoder, T_s_int]⟩), none⟩])
  (.seq (.reg [] [⟨some 63, some (.move (.tmp 0)), none⟩,
    ⟨some 64, some (.move (.tmp 8)), none⟩,
    ⟨some 65, some (.unOp .neg T_int (.tmp 64)), none⟩,
    ⟨some 66, some (.move (.tmp 0)), none⟩,
    ⟨some 67, some (.move (.tmp 6)), none⟩,
    ⟨some 68, some (.call ⟨(.value (.func f_plait_cnf_Encoder_lit)), #[(.tmp 66), (.tmp 67)], #[T_p_cnf_Encoder, T_int]⟩), none⟩,
    ⟨some 69, some (.buildSlice T_s_int 2 #[(0, (.tmp 65)), (1, (.tmp 68))]), none⟩,
    ⟨some 70, some (.call ⟨(.value (.func f_plait_cnf_Encoder_lays)), #[(.tmp 63), (.tmp 69)], #[T_p_cnf_Encoder, T_s_int]⟩), none⟩])
  (.seq (.reg [] [⟨some 71, some (.move (.tmp 5)), none⟩,
    ⟨some 72, some (.call ⟨(.value (.func f_cnf_asks)), #[(.tmp 71)], #[T_int]⟩), none⟩,
    ⟨some 73, some (.move (.tmp 6)), none⟩,
    ⟨some 74, some (.call ⟨(.value (.func f_cnf_asks)), #[(.tmp 73)], #[T_int]⟩), none⟩,
    ⟨some 75, some (.buildSlice T_s_cnf_todo 2 #[(0, (.tmp 72)), (1, (.tmp 74))]), none⟩,
    ⟨some 4, some (.assign (.tmp 75)), none⟩])
  .ret)))
  .skip)))))
  (.seq (.reg [] [⟨some 76, some (.move (.tmp 0)), none⟩,
    ⟨some 77, some (.move (.tmp 8)), none⟩,
    ⟨some 78, some (.move (.tmp 0)), none⟩,
    ⟨some 79, some (.move (.tmp 5)), none⟩,
    ⟨some 80, some (.call ⟨(.value (.func f_plait_cnf_Encoder_lit)), #[(.tmp 78), (.tmp 79)], #[T_p_cnf_Encoder, T_int]⟩), none⟩,
    ⟨some 81, some (.unOp .neg T_int (.tmp 80)), none⟩,
    ⟨some 82, some (.move (.tmp 0)), none⟩,
    ⟨some 83, some (.move (.tmp 6)), none⟩,
    ⟨some 84, some (.call ⟨(.value (.func f_plait_cnf_Encoder_lit)), #[(.tmp 82), (.tmp 83)], #[T_p_cnf_Encoder, T_int]⟩), none⟩,
    ⟨some 85, some (.unOp .neg T_int (.tmp 84)), none⟩,
    ⟨some 86, some (.buildSlice T_s_int 3 #[(0, (.tmp 77)), (1, (.tmp 81)), (2, (.tmp 85))]), none⟩,
    ⟨some 87, some (.call ⟨(.value (.func f_plait_cnf_Encoder_lays)), #[(.tmp 76), (.tmp 86)], #[T_p_cnf_Encoder, T_s_int]⟩), none⟩])
  (.seq (.reg [] [⟨some 88, some (.move (.tmp 5)), none⟩,
    ⟨some 89, some (.binOp .xor T_int (.tmp 88) (.const (.int .i64 1)) T_int), none⟩,
    ⟨some 90, some (.call ⟨(.value (.func f_cnf_asks)), #[(.tmp 89)], #[T_int]⟩), none⟩,
    ⟨some 91, some (.move (.tmp 6)), none⟩,
    ⟨some 92, some (.binOp .xor T_int (.tmp 91) (.const (.int .i64 1)) T_int), none⟩,
    ⟨some 93, some (.call ⟨(.value (.func f_cnf_asks)), #[(.tmp 92)], #[T_int]⟩), none⟩,
    ⟨some 94, some (.buildSlice T_s_cnf_todo 2 #[(0, (.tmp 90)), (1, (.tmp 93))]), none⟩,
    ⟨some 4, some (.assign (.tmp 94)), none⟩])
  .ret))))))))
theorem e_plait_cnf_Encoder_node {a0 a1 : AV} {H : AHeap} : R f_plait_cnf_Encoder_node [a0, a1] H = fnK Go.Proofs.Try.prog [] H [(.tmp 4)] (evalL Go.Proofs.Try.prog KT R c_plait_cnf_Encoder_node (Env.args [a0, a1] 0) H) :=
  runs_body (D := DT) (f := f_plait_cnf_Encoder_node) Go.Proofs.Try.func54 (by kernel_rfl) (by kernel_rfl) (by kernel_rfl) (by kernel_rfl) (by kernel_rfl) (Nat.le_of_ble_eq_true rfl)

def c_plait_cnf_Encoder_lit : LCode := (.seq (.reg [] [⟨some 4, some (.assign (.const (.int .i64 0))), none⟩])
  (.seq (.reg [] [⟨some 6, some (.move (.tmp 0)), none⟩,
    ⟨some 7, some (.nilCheck (.tmp 6)), none⟩,
    ⟨some 8, some (.fieldAddr T_cnf_Encoder (.tmp 7) 2), none⟩,
    ⟨some 9, some (.load T_m_int_int (.tmp 8)), none⟩,
    ⟨some 10, some (.move (.tmp 1)), none⟩,
    ⟨some 11, some (.binOp .shr T_int (.tmp 10) (.const (.int .u64 1)) T_uint), none⟩,
    ⟨some 12, some (.lookup T_m_int_int (.tmp 9) (.tmp 11) false), none⟩,
    ⟨some 5, some (.assign (.tmp 12)), none⟩])
  (.seq (.seq (.reg [] [⟨some 13, some (.move (.tmp 1)), none⟩,
    ⟨some 14, some (.binOp .shr T_int (.tmp 13) (.const (.int .u64 1)) T_uint), none⟩,
    ⟨some 15, some (.binOp .eql T_int (.tmp 14) (.const (.int .i64 0)) T_int), none⟩])
  (.cond (.tmp 15) (.reg [] [⟨some 16, some (.move (.tmp 5)), none⟩,
    ⟨some 17, some (.unOp .neg T_int (.tmp 16)), none⟩,
    ⟨some 5, some (.assign (.tmp 17)), none⟩])
  .skip))
  (.seq (.seq (.reg [] [⟨some 18, some (.move (.tmp 1)), none⟩,
    ⟨some 19, some (.binOp .and T_int (.tmp 18) (.const (.int .i64 1)) T_int), none⟩,
    ⟨some 20, some (.binOp .eql T_int (.tmp 19) (.const (.int .i64 1)) T_int), none⟩])
  (.cond (.tmp 20) (.seq (.reg [] [⟨some 21, some (.move (.tmp 5)), none⟩,
    ⟨some 22, some (.unOp .neg T_int (.tmp 21)), none⟩,
    ⟨some 4, some (.assign (.tmp 22)), none⟩])
  .ret)
  .skip))
  (.seq (.reg [] [⟨some 23, some (.move (.tmp 5)), none⟩,
    ⟨some 4, some (.assign (.tmp 23)), none⟩])
  .ret)))))
theorem e_plait_cnf_Encoder_lit {a0 a1 : AV} {H : AHeap} : R f_plait_cnf_Encoder_lit [a0, a1] H = fnK Go.Proofs.Try.prog [] H [(.tmp 4)] (evalL Go.Proofs.Try.prog KT R c_plait_cnf_Encoder_lit (Env.args [a0, a1] 0) H) :=
  runs_body (D := DT) (f := f_plait_cnf_Encoder_lit) Go.Proofs.Try.func55 (by kernel_rfl) (by kernel_rfl) (by kernel_rfl) (by kernel_rfl) (by kernel_rfl) (Nat.le_of_ble_eq_true rfl)

def c_plait_aig_Graph_node : LCode := (.seq (.reg [] [⟨some 3, some (.box T_a2_int (.tmp 1)), none⟩,
    ⟨some 4, some (.assign (.const (.int .i64 0))), none⟩,
    ⟨some 5, some (.assign (.const (.int .i64 0))), none⟩])
  (.seq (.seq (.reg [] [⟨some 6, some (.move (.tmp 0)), none⟩,
    ⟨some 7, some (.nilCheck (.tmp 6)), none⟩,
    ⟨some 8, some (.fieldAddr T_aig_Graph (.tmp 7) 1), none⟩,
    ⟨some 9, some (.load T_s_a2_int (.tmp 8)), none⟩,
    ⟨some 10, some (.call ⟨(.builtin .len), #[(.tmp 9)], #[T_s_a2_int]⟩), none⟩,
    ⟨some 11, some (.move (.tmp 0)), none⟩,
    ⟨some 12, some (.nilCheck (.tmp 11)), none⟩,
    ⟨some 13, some (.fieldAddr T_aig_Graph (.tmp 12) 0), none⟩,
    ⟨some 14, some (.load T_int (.tmp 13)), none⟩,
    ⟨some 15, some (.binOp .geq T_int (.tmp 10) (.tmp 14) T_int), none⟩])
  (.cond (.tmp 15) (.seq (.reg [] [⟨some 4, some (.assign (.const (.int .i64 0))), none⟩,
    ⟨some 5, some (.assign (.const (.int .i64 81))), none⟩])
  .ret)
  .skip))
  (.seq (.reg [] [⟨some 16, some (.move (.tmp 0)), none⟩,
    ⟨some 17, some (.move (.tmp 0)), none⟩,
    ⟨some 18, some (.nilCheck (.tmp 17)), none⟩,
    ⟨some 19, some (.fieldAddr T_aig_Graph (.tmp 18) 1), none⟩,
    ⟨some 20, some (.load T_s_a2_int (.tmp 19)), none⟩,
    ⟨some 21, some (.load T_a2_int (.tmp 3)), none⟩,
    ⟨some 22, some (.buildSlice T_s_a2_int 1 #[(0, (.tmp 21))]), none⟩,
    ⟨some 23, some (.call ⟨(.builtin .append), #[(.tmp 20), (.tmp 22)], #[T_s_a2_int, T_s_a2_int]⟩), none⟩,
    ⟨some 24, some (.nilCheck (.tmp 16)), none⟩,
    ⟨some 25, some (.fieldAddr T_aig_Graph (.tmp 24) 1), none⟩,
    ⟨none, some (.store T_s_a2_int (.tmp 25) (.tmp 23)), none⟩])
  (.seq (.reg [] [⟨some 26, some (.move (.tmp 0)), none⟩,
    ⟨some 27, some (.nilCheck (.tmp 26)), none⟩,
    ⟨some 28, some (.fieldAddr T_aig_Graph (.tmp 27) 1), none⟩,
    ⟨some 29, some (.load T_s_a2_int (.tmp 28)), none⟩,
    ⟨some 30, some (.call ⟨(.builtin .len), #[(.tmp 29)], #[T_s_a2_int]⟩), none⟩,
    ⟨some 31, some (.binOp .shl T_int (.tmp 30) (.const (.int .u64 1)) T_uint), none⟩,
    ⟨some 4, some (.assign (.tmp 31)), none⟩,
    ⟨some 5, some (.assign (.const (.int .i64 0))), none⟩])
  .ret))))
theorem e_plait_aig_Graph_node {a0 a1 : AV} {H : AHeap} : R f_plait_aig_Graph_node [a0, a1] H = fnK Go.Proofs.Try.prog [] H [(.tmp 4), (.tmp 5)] (evalL Go.Proofs.Try.prog KT R c_plait_aig_Graph_node (Env.args [a0, a1] 0) H) :=
  runs_body (D := DT) (f := f_plait_aig_Graph_node) Go.Proofs.Try.func56 (by kernel_rfl) (by kernel_rfl) (by kernel_rfl) (by kernel_rfl) (by kernel_rfl) (Nat.le_of_ble_eq_true rfl)

def c_plait_aig_Graph_either : LCode := (.seq (.reg [] [⟨some 10, some (.assign (.const (.int .i64 0))), none⟩,
    ⟨some 11, some (.assign (.const (.int .i64 0))), none⟩])
  (.seq (.reg [] [⟨some 16, some (.move (.tmp 0)), none⟩,
    ⟨some 17, some (.move (.tmp 1)), none⟩,
    ⟨some 18, some (.move (.tmp 2)), none⟩,
    ⟨some 19, some (.call ⟨(.value (.func f_plait_aig_Graph_And)), #[(.tmp 16), (.tmp 17), (.tmp 18)], #[T_p_aig_Graph, T_int, T_int]⟩), none⟩,
    ⟨some 15, some (.move (.tmp 19)), none⟩,
    ⟨some 20, some (.extract (.tmp 15) 0), none⟩,
    ⟨some 21, some (.extract (.tmp 15) 1), none⟩,
    ⟨some 12, some (.assign (.tmp 20)), none⟩,
    ⟨some 13, some (.assign (.tmp 21)), none⟩])
  (.seq (.seq (.reg [] [⟨some 22, some (.move (.tmp 13)), none⟩,
    ⟨some 23, some (.binOp .neq T_api_Errno (.tmp 22) (.const (.int .i64 0)) T_api_Errno), none⟩])
  (.cond (.tmp 23) (.seq (.reg [] [⟨some 24, some (.move (.tmp 13)), none⟩,
    ⟨some 10, some (.assign (.const (.int .i64 0))), none⟩,
    ⟨some 11, some (.assign (.tmp 24)), none⟩])
  .ret)
  .skip))
  (.seq (.reg [] [⟨some 26, some (.move (.tmp 0)), none⟩,
    ⟨some 27, some (.move (.tmp 3)), none⟩,
    ⟨some 28, some (.move (.tmp 4)), none⟩,
    ⟨some 29, some (.call ⟨(.value (.func f_plait_aig_Graph_And)), #[(.tmp 26), (.tmp 27), (.tmp 28)], #[T_p_aig_Graph, T_int, T_int]⟩), none⟩,
    ⟨some 25, some (.move (.tmp 29)), none⟩,
    ⟨some 30, some (.extract (.tmp 25) 0), none⟩,
    ⟨some 31, some (.extract (.tmp 25) 1), none⟩,
    ⟨some 14, some (.assign (.tmp 30)), none⟩,
    ⟨some 13, some (.assign (.tmp 31)), none⟩])
  (.seq (.seq (.reg [] [⟨some 32, some (.move (.tmp 13)), none⟩,
    ⟨some 33, some (.binOp .neq T_api_Errno (.tmp 32) (.const (.int .i64 0)) T_api_Errno), none⟩])
  (.cond (.tmp 33) (.seq (.reg [] [⟨some 34, some (.move (.tmp 13)), none⟩,
    ⟨some 10, some (.assign (.const (.int .i64 0))), none⟩,
    ⟨some 11, some (.assign (.tmp 34)), none⟩])
  .ret)
  .skip))
  (.seq (.reg [] [⟨some 35, some (.move (.tmp 0)), none⟩,
    ⟨some 36, some (.move (.tmp 12)), none⟩,
    ⟨some 37, some (.move (.tmp 14)), none⟩,
    ⟨some 38, some (.call ⟨(.value (.func f_plait_aig_Graph_Or)), #[(.tmp 35), (.tmp 36), (.tmp 37)], #[T_p_aig_Graph, T_int, T_int]⟩), none⟩,
    ⟨some 39, some (.extract (.tmp 38) 0), none⟩,
    ⟨some 40, some (.extract (.tmp 38) 1), none⟩,
    ⟨some 10, some (.assign (.tmp 39)), none⟩,
    ⟨some 11, some (.assign (.tmp 40)), none⟩])
  .ret))))))
theorem e_plait_aig_Graph_either {a0 a1 a2 a3 a4 : AV} {H : AHeap} : R f_plait_aig_Graph_either [a0, a1, a2, a3, a4] H = fnK Go.Proofs.Try.prog [] H [(.tmp 10), (.tmp 11)] (evalL Go.Proofs.Try.prog KT R c_plait_aig_Graph_either (Env.args [a0, a1, a2, a3, a4] 0) H) :=
  runs_body (D := DT) (f := f_plait_aig_Graph_either) Go.Proofs.Try.func57 (by kernel_rfl) (by kernel_rfl) (by kernel_rfl) (by kernel_rfl) (by kernel_rfl) (Nat.le_of_ble_eq_true rfl)

def l_plaithelp_Spoil_0 : LCode := (.seq (.seq (.reg [] [⟨some 3, some (.move (.tmp 2)), none⟩,
    ⟨some 4, some (.move (.tmp 0)), none⟩,
    ⟨some 5, some (.call ⟨(.builtin .len), #[(.tmp 4)], #[T_s_int]⟩), none⟩,
    ⟨some 6, some (.binOp .lss T_int (.tmp 3) (.tmp 5) T_int), none⟩])
  (.cond (.tmp 6) .skip
  (.exit 0)))
  (.seq (.block 1 (.reg [] [⟨some 9, some (.move (.tmp 0)), none⟩,
    ⟨some 10, some (.move (.tmp 2)), none⟩,
    ⟨some 11, some (.indexAddr T_s_int (.tmp 9) (.tmp 10)), none⟩,
    ⟨none, some (.store T_int (.tmp 11) (.const (.int .i64 (-7777)))), none⟩]))
  (.reg [] [⟨some 7, some (.move (.tmp 2)), none⟩,
    ⟨some 8, some (.binOp .add T_int (.tmp 7) (.const (.int .i64 1)) T_int), none⟩,
    ⟨some 2, some (.assign (.tmp 8)), none⟩])))
@[simp] theorem d_l_plaithelp_Spoil_0 : defs l_plaithelp_Spoil_0 = [3, 4, 5, 6, 9, 10, 11, 7, 8, 2] := by rfl
def c_plaithelp_Spoil : LCode := (.seq (.reg [] [⟨some 2, some (.assign (.const (.int .i64 0))), none⟩])
  (.block 0 (.loop l_plaithelp_Spoil_0)))
theorem e_plaithelp_Spoil {a0 : AV} {H : AHeap} : R f_plaithelp_Spoil [a0] H = fnK Go.Proofs.Try.prog [] H [] (evalL Go.Proofs.Try.prog KT R c_plaithelp_Spoil (Env.args [a0] 0) H) :=
  runs_body (D := DT) (f := f_plaithelp_Spoil) Go.Proofs.Try.func58 (by kernel_rfl) (by kernel_rfl) (by kernel_rfl) (by kernel_rfl) (by kernel_rfl) (Nat.le_of_ble_eq_true rfl)

def l_plaitref12_True_0 : LCode := (.seq (.seq (.reg [] [⟨some 7, some (.move (.tmp 5)), none⟩,
    ⟨some 8, some (.move (.tmp 0)), none⟩,
    ⟨some 9, some (.call ⟨(.builtin .len), #[(.tmp 8)], #[T_s_int]⟩), none⟩,
    ⟨some 10, some (.binOp .lss T_int (.tmp 7) (.tmp 9) T_int), none⟩])
  (.cond (.tmp 10) .skip
  (.exit 0)))
  (.seq (.block 1 (.seq (.reg [] [⟨some 13, some (.move (.tmp 0)), none⟩,
    ⟨some 14, some (.move (.tmp 5)), none⟩,
    ⟨some 15, some (.indexAddr T_s_int (.tmp 13) (.tmp 14)), none⟩,
    ⟨some 16, some (.load T_int (.tmp 15)), none⟩,
    ⟨some 17, some (.move (.tmp 0)), none⟩,
    ⟨some 18, some (.move (.tmp 5)), none⟩,
    ⟨some 19, some (.indexAddr T_s_int (.tmp 17) (.tmp 18)), none⟩,
    ⟨some 20, some (.load T_int (.tmp 19)), none⟩,
    ⟨some 21, some (.unOp .neg T_int (.tmp 20)), none⟩,
    ⟨some 22, some (.call ⟨(.builtin .max), #[(.tmp 16), (.tmp 21)], #[T_int, T_int]⟩), none⟩,
    ⟨some 6, some (.assign (.tmp 22)), none⟩])
  (.seq (.reg [] [⟨some 23, some (.move (.tmp 1)), none⟩,
    ⟨some 24, some (.move (.tmp 6)), none⟩,
    ⟨some 25, some (.binOp .sub T_int (.tmp 24) (.const (.int .i64 1)) T_int), none⟩,
    ⟨some 26, some (.binOp .shr T_int (.tmp 23) (.tmp 25) T_int), none⟩,
    ⟨some 27, some (.binOp .and T_int (.tmp 26) (.const (.int .i64 1)) T_int), none⟩,
    ⟨some 28, some (.binOp .eql T_int (.tmp 27) (.const (.int .i64 1)) T_int), none⟩,
    ⟨some 29, some (.move (.tmp 0)), none⟩,
    ⟨some 30, some (.move (.tmp 5)), none⟩,
    ⟨some 31, some (.indexAddr T_s_int (.tmp 29) (.tmp 30)), none⟩,
    ⟨some 32, some (.load T_int (.tmp 31)), none⟩,
    ⟨some 33, some (.binOp .gtr T_int (.tmp 32) (.const (.int .i64 0)) T_int), none⟩,
    ⟨some 34, some (.binOp .eql T_bool (.tmp 28) (.tmp 33) T_bool), none⟩])
  (.cond (.tmp 34) (.seq (.reg [] [⟨some 4, some (.assign (.const (.bool true))), none⟩])
  .ret)
  .skip))))
  (.reg [] [⟨some 11, some (.move (.tmp 5)), none⟩,
    ⟨some 12, some (.binOp .add T_int (.tmp 11) (.const (.int .i64 1)) T_int), none⟩,
    ⟨some 5, some (.assign (.tmp 12)), none⟩])))
@[simp] theorem d_l_plaitref12_True_0 : defs l_plaitref12_True_0 = [7, 8, 9, 10, 13, 14, 15, 16, 17, 18, 19, 20, 21, 22, 6, 23, 24, 25, 26, 27, 28, 29, 30, 31, 32, 33, 34, 4, 11, 12, 5] := by rfl
def c_plaitref12_True : LCode := (.seq (.reg [] [⟨some 4, some (.assign (.const (.bool false))), none⟩])
  (.seq (.seq (.reg [] [⟨some 5, some (.assign (.const (.int .i64 0))), none⟩])
  (.block 0 (.loop l_plaitref12_True_0)))
  (.seq (.reg [] [⟨some 4, some (.assign (.const (.bool false))), none⟩])
  .ret)))
theorem e_plaitref12_True {a0 a1 : AV} {H : AHeap} : R f_plaitref12_True [a0, a1] H = fnK Go.Proofs.Try.prog [] H [(.tmp 4)] (evalL Go.Proofs.Try.prog KT R c_plaitref12_True (Env.args [a0, a1] 0) H) :=
  runs_body (D := DT) (f := f_plaitref12_True) Go.Proofs.Try.func59 (by kernel_rfl) (by kernel_rfl) (by kernel_rfl) (by kernel_rfl) (by kernel_rfl) (Nat.le_of_ble_eq_true rfl)

def c_plait_aig_Graph_Kids : LCode := (.seq (.reg [] [⟨some 4, some (.assign (.const (.int .i64 0))), none⟩,
    ⟨some 5, some (.assign (.const (.int .i64 0))), none⟩,
    ⟨some 6, some (.assign (.const (.bool false))), none⟩])
  (.seq (.seq (.reg [] [⟨some 8, some (.move (.tmp 1)), none⟩,
    ⟨some 9, some (.binOp .lss T_int (.tmp 8) (.const (.int .i64 1)) T_int), none⟩,
    ⟨some 10, some (.move (.tmp 9)), none⟩,
    ⟨some 11, some (.move (.tmp 1)), some (some 10, false)⟩,
    ⟨some 12, some (.move (.tmp 0)), some (some 10, false)⟩,
    ⟨some 13, some (.nilCheck (.tmp 12)), some (some 10, false)⟩,
    ⟨some 14, some (.fieldAddr T_aig_Graph (.tmp 13) 1), some (some 10, false)⟩,
    ⟨some 15, some (.load T_s_a2_int (.tmp 14)), some (some 10, false)⟩,
    ⟨some 16, some (.call ⟨(.builtin .len), #[(.tmp 15)], #[T_s_a2_int]⟩), some (some 10, false)⟩,
    ⟨some 17, some (.binOp .gtr T_int (.tmp 11) (.tmp 16) T_int), some (some 10, false)⟩,
    ⟨some 18, some (.pick (.tmp 10) (.const (.bool true)) (.tmp 17)), none⟩,
    ⟨some 19, some (.move (.tmp 18)), none⟩,
    ⟨some 20, some (.move (.tmp 0)), some (some 19, false)⟩,
    ⟨some 21, some (.nilCheck (.tmp 20)), some (some 19, false)⟩,
    ⟨some 22, some (.fieldAddr T_aig_Graph (.tmp 21) 1), some (some 19, false)⟩,
    ⟨some 23, some (.load T_s_a2_int (.tmp 22)), some (some 19, false)⟩,
    ⟨some 24, some (.move (.tmp 1)), some (some 19, false)⟩,
    ⟨some 25, some (.binOp .sub T_int (.tmp 24) (.const (.int .i64 1)) T_int), some (some 19, false)⟩,
    ⟨some 26, some (.indexAddr T_s_a2_int (.tmp 23) (.tmp 25)), some (some 19, false)⟩,
    ⟨some 27, some (.load T_a2_int (.tmp 26)), some (some 19, false)⟩,
    ⟨some 28, some (.build T_a2_int #[]), some (some 19, false)⟩,
    ⟨some 29, some (.binOp .eql T_a2_int (.tmp 27) (.tmp 28) T_a2_int), some (some 19, false)⟩,
    ⟨some 30, some (.pick (.tmp 19) (.const (.bool true)) (.tmp 29)), none⟩])
  (.cond (.tmp 30) (.seq (.reg [] [⟨some 4, some (.assign (.const (.int .i64 0))), none⟩,
    ⟨some 5, some (.assign (.const (.int .i64 0))), none⟩,
    ⟨some 6, some (.assign (.const (.bool false))), none⟩])
  .ret)
  .skip))
  (.seq (.reg [] [⟨some 31, some (.move (.tmp 0)), none⟩,
    ⟨some 32, some (.nilCheck (.tmp 31)), none⟩,
    ⟨some 33, some (.fieldAddr T_aig_Graph (.tmp 32) 1), none⟩,
    ⟨some 34, some (.load T_s_a2_int (.tmp 33)), none⟩,
    ⟨some 35, some (.move (.tmp 1)), none⟩,
    ⟨some 36, some (.binOp .sub T_int (.tmp 35) (.const (.int .i64 1)) T_int), none⟩,
    ⟨some 37, some (.indexAddr T_s_a2_int (.tmp 34) (.tmp 36)), none⟩,
    ⟨some 38, some (.load T_a2_int (.tmp 37)), none⟩,
    ⟨some 7, some (.alloc T_a2_int), none⟩,
    ⟨none, some (.store T_a2_int (.tmp 7) (.tmp 38)), none⟩])
  (.seq (.reg [] [⟨some 39, some (.indexAddr T_a2_int (.tmp 7) (.const (.int .i64 0))), none⟩,
    ⟨some 40, some (.load T_int (.tmp 39)), none⟩,
    ⟨some 41, some (.indexAddr T_a2_int (.tmp 7) (.const (.int .i64 1))), none⟩,
    ⟨some 42, some (.load T_int (.tmp 41)), none⟩,
    ⟨some 4, some (.assign (.tmp 40)), none⟩,
    ⟨some 5, some (.assign (.tmp 42)), none⟩,
    ⟨some 6, some (.assign (.const (.bool true))), none⟩])
  .ret))))
theorem e_plait_aig_Graph_Kids {a0 a1 : AV} {H : AHeap} : R f_plait_aig_Graph_Kids [a0, a1] H = fnK Go.Proofs.Try.prog [] H [(.tmp 4), (.tmp 5), (.tmp 6)] (evalL Go.Proofs.Try.prog KT R c_plait_aig_Graph_Kids (Env.args [a0, a1] 0) H) :=
  runs_body (D := DT) (f := f_plait_aig_Graph_Kids) Go.Proofs.Try.func73 (by kernel_rfl) (by kernel_rfl) (by kernel_rfl) (by kernel_rfl) (by kernel_rfl) (Nat.le_of_ble_eq_true rfl)

def c_plait_aig_Graph_Or : LCode := (.seq (.reg [] [⟨some 6, some (.assign (.const (.int .i64 0))), none⟩,
    ⟨some 7, some (.assign (.const (.int .i64 0))), none⟩])
  (.seq (.seq (.reg [] [⟨some 8, some (.move (.tmp 0)), none⟩,
    ⟨some 9, some (.move (.tmp 1)), none⟩,
    ⟨some 10, some (.call ⟨(.value (.func f_plait_aig_Graph_lit)), #[(.tmp 8), (.tmp 9)], #[T_p_aig_Graph, T_int]⟩), none⟩,
    ⟨some 11, some (.unOp .not T_bool (.tmp 10)), none⟩,
    ⟨some 12, some (.move (.tmp 11)), none⟩,
    ⟨some 13, some (.move (.tmp 0)), some (some 12, false)⟩,
    ⟨some 14, some (.move (.tmp 2)), some (some 12, false)⟩,
    ⟨some 15, some (.call ⟨(.value (.func f_plait_aig_Graph_lit)), #[(.tmp 13), (.tmp 14)], #[T_p_aig_Graph, T_int]⟩), some (some 12, false)⟩,
    ⟨some 16, some (.unOp .not T_bool (.tmp 15)), some (some 12, false)⟩,
    ⟨some 17, some (.pick (.tmp 12) (.const (.bool true)) (.tmp 16)), none⟩])
  (.cond (.tmp 17) (.seq (.reg [] [⟨some 6, some (.assign (.const (.int .i64 0))), none⟩,
    ⟨some 7, some (.assign (.const (.int .i64 80))), none⟩])
  .ret)
  .skip))
  (.seq (.reg [] [⟨some 18, some (.move (.tmp 0)), none⟩,
    ⟨some 19, some (.move (.tmp 1)), none⟩,
    ⟨some 20, some (.binOp .xor T_int (.tmp 19) (.const (.int .i64 1)) T_int), none⟩,
    ⟨some 21, some (.move (.tmp 2)), none⟩,
    ⟨some 22, some (.binOp .xor T_int (.tmp 21) (.const (.int .i64 1)) T_int), none⟩,
    ⟨some 23, some (.call ⟨(.value (.func f_plait_aig_Graph_And)), #[(.tmp 18), (.tmp 20), (.tmp 22)], #[T_p_aig_Graph, T_int, T_int]⟩), none⟩,
    ⟨some 24, some (.extract (.tmp 23) 0), none⟩,
    ⟨some 25, some (.extract (.tmp 23) 1), none⟩,
    ⟨some 26, some (.call ⟨(.value (.func f_aig_turned)), #[(.tmp 24), (.tmp 25)], #[T_int, T_api_Errno]⟩), none⟩,
    ⟨some 27, some (.extract (.tmp 26) 0), none⟩,
    ⟨some 28, some (.extract (.tmp 26) 1), none⟩,
    ⟨some 6, some (.assign (.tmp 27)), none⟩,
    ⟨some 7, some (.assign (.tmp 28)), none⟩])
  .ret)))
theorem e_plait_aig_Graph_Or {a0 a1 a2 : AV} {H : AHeap} : R f_plait_aig_Graph_Or [a0, a1, a2] H = fnK Go.Proofs.Try.prog [] H [(.tmp 6), (.tmp 7)] (evalL Go.Proofs.Try.prog KT R c_plait_aig_Graph_Or (Env.args [a0, a1, a2] 0) H) :=
  runs_body (D := DT) (f := f_plait_aig_Graph_Or) Go.Proofs.Try.func74 (by kernel_rfl) (by kernel_rfl) (by kernel_rfl) (by kernel_rfl) (by kernel_rfl) (Nat.le_of_ble_eq_true rfl)

def c_aig_turned : LCode := (.seq (.reg [] [⟨some 4, some (.assign (.const (.int .i64 0))), none⟩,
    ⟨some 5, some (.assign (.const (.int .i64 0))), none⟩])
  (.seq (.seq (.reg [] [⟨some 6, some (.move (.tmp 1)), none⟩,
    ⟨some 7, some (.binOp .neq T_api_Errno (.tmp 6) (.const (.int .i64 0)) T_api_Errno), none⟩])
  (.cond (.tmp 7) (.seq (.reg [] [⟨some 8, some (.move (.tmp 1)), none⟩,
    ⟨some 4, some (.assign (.const (.int .i64 0))), none⟩,
    ⟨some 5, some (.assign (.tmp 8)), none⟩])
  .ret)
  .skip))
  (.seq (.reg [] [⟨some 9, some (.move (.tmp 0)), none⟩,
    ⟨some 10, some (.binOp .xor T_int (.tmp 9) (.const (.int .i64 1)) T_int), none⟩,
    ⟨some 4, some (.assign (.tmp 10)), none⟩,
    ⟨some 5, some (.assign (.const (.int .i64 0))), none⟩])
  .ret)))
theorem e_aig_turned {a0 a1 : AV} {H : AHeap} : R f_aig_turned [a0, a1] H = fnK Go.Proofs.Try.prog [] H [(.tmp 4), (.tmp 5)] (evalL Go.Proofs.Try.prog KT R c_aig_turned (Env.args [a0, a1] 0) H) :=
  runs_body (D := DT) (f := f_aig_turned) Go.Proofs.Try.func81 (by kernel_rfl) (by kernel_rfl) (by kernel_rfl) (by kernel_rfl) (by kernel_rfl) (Nat.le_of_ble_eq_true rfl)

end Go.Proofs.Ytdbbkhmiflignaa
