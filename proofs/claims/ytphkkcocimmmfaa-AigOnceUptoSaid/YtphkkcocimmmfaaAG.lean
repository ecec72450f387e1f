/- What this seat's program looks like to the rules: names, types, bodies in the short form. Written by seat.py. -/
import Derived.Test.YtphkkcocimmmfaaALC
import Derived.Test.YtphkkcocimmmfaaChecked
namespace Go.Proofs.Ytphkkcocimmmfaa
open Go.RowKit

def T_int : TypeId := 3
def T_bool : TypeId := 4
def T_s_bool : TypeId := 22
def T_api_Errno : TypeId := 27
def T_s_plaitlaw8_Step : TypeId := 37
def T_p_aig_Graph : TypeId := 38
def T_p_plaitref8_Graph : TypeId := 40
def T_plaitlaw8_Step : TypeId := 45
def T_s_plaitref8_Node : TypeId := 46
def T_plaitref8_Graph : TypeId := 48
def T_s_int : TypeId := 56
def T_uint : TypeId := 110
def T_m_a2_int_int : TypeId := 112
def T_s_a2_int : TypeId := 113
def T_aig_Graph : TypeId := 115
def T_a2_int : TypeId := 119
def T_plaitref8_Node : TypeId := 121
def f_plaitlaw8_AigPlays : FuncId := 4
def f_plaitlaw8_AigMeans : FuncId := 5
def f_plaitlaw8_AigOnce : FuncId := 6
def f_plaitlaw8_AigTurns : FuncId := 7
def f_plaitlaw8_known : FuncId := 23
def f_aig_New : FuncId := 24
def f_plaitref8_New : FuncId := 25
def f_plaitlaw8_lits : FuncId := 26
def f_plaitlaw8_does : FuncId := 27
def f_plaitlaw8_doesRef : FuncId := 28
def f_plait_aig_Graph_Nodes : FuncId := 29
def f_plait_aig_Graph_Kids : FuncId := 30
def f_plait_plaitref8_Graph_Kids : FuncId := 31
def f_plaithelp_Ints : FuncId := 32
def f_plait_aig_Graph_Cone : FuncId := 33
def f_plait_plaitref8_Graph_Cone : FuncId := 34
def f_plait_aig_Graph_Eval : FuncId := 35
def f_plait_plaitref8_Graph_Eval : FuncId := 36
def f_plait_aig_Graph_Inputs : FuncId := 37
def f_plait_plaitref8_Graph_Inputs : FuncId := 38
def f_plaithelp_Place : FuncId := 39
def f_plait_aig_Graph_And : FuncId := 40
def f_plait_aig_Graph_Or : FuncId := 41
def f_plait_aig_Graph_Xor : FuncId := 42
def f_plait_aig_Graph_Mux : FuncId := 43
def f_plait_aig_Graph_Input : FuncId := 74
def f_plait_plaitref8_Graph_Input : FuncId := 75
def f_plait_plaitref8_Graph_And : FuncId := 76
def f_plait_plaitref8_Graph_Or : FuncId := 77
def f_plait_plaitref8_Graph_Xor : FuncId := 78
def f_plait_plaitref8_Graph_Mux : FuncId := 79
def f_plait_aig_Graph_lit : FuncId := 80
def f_plait_plaitref8_Graph_is : FuncId := 81
def f_plait_plaitref8_Graph_Values : FuncId := 82
def f_slices_Clone_int_int : FuncId := 83
def f_plait_aig_Graph_node : FuncId := 84
def f_aig_turned : FuncId := 85
def f_plait_aig_Graph_either : FuncId := 86
def f_plait_plaitref8_Graph_put : FuncId := 105
def KT : TypeId → Option (List Sc) := fun t => if t = T_a2_int then some [(.i .i64), (.i .i64)] else none
def DT : Quiets := fun f r => if f = f_plaitlaw8_AigPlays then (if r = 12 then [10] else []) else if f = f_plaitlaw8_AigMeans then (if r = 9 then [5] else []) else if f = f_plaitlaw8_AigOnce then (if r = 9 then [5] else []) else if f = f_plaitlaw8_AigTurns then (if r = 9 then [5] else []) else if f = f_plaitlaw8_lits then (if r = 4 then [3, 7] else []) else if f = f_plait_aig_Graph_Cone then (if r = 10 then [6, 9] else if r = 1000000 then [0] else []) else if f = f_plait_plaitref8_Graph_Cone then (if r = 1000000 then [0] else []) else if f = f_plait_aig_Graph_Inputs then (if r = 1000000 then [0] else []) else if f = f_plait_plaitref8_Graph_Inputs then (if r = 1000000 then [0] else []) else if f = f_plait_plaitref8_Graph_Values then (if r = 1000000 then [0] else []) else []
noncomputable def R : Calling := runs Go.Proofs.Try.prog KT DT
theorem good : Good Go.Proofs.Try.prog KT := by
  refine ⟨fun t sh h => ?_, Go.Proofs.Try.checked.mixed⟩
  unfold KT at h
  split at h
  · rename_i ht; subst ht; cases h; exact keyOK_of (d := 8) (by kernel_rfl) (by omega) (by kernel_rfl) (by kernel_rfl)
  cases h

@[simp] theorem ty0 : lnS Go.Proofs.Try.prog T_s_plaitlaw8_Step = .slice := by kernel_rfl
@[simp] theorem ty1 : lnS Go.Proofs.Try.prog T_s_bool = .slice := by kernel_rfl
@[simp] theorem ty2 : eszS Go.Proofs.Try.prog T_s_plaitlaw8_Step = some 5 := by kernel_rfl
@[simp] theorem ty3 : ldS Go.Proofs.Try.prog T_plaitlaw8_Step = some (some 5) := by kernel_rfl
@[simp] theorem ty4 : faS Go.Proofs.Try.prog T_plaitref8_Graph 0 = some 0 := by kernel_rfl
@[simp] theorem ty5 : ldS Go.Proofs.Try.prog T_s_plaitref8_Node = some none := by kernel_rfl
@[simp] theorem ty6 : lnS Go.Proofs.Try.prog T_s_plaitref8_Node = .slice := by kernel_rfl
@[simp] theorem ty7 : faS Go.Proofs.Try.prog T_plaitlaw8_Step 0 = some 0 := by kernel_rfl
@[simp] theorem ty8 : ldS Go.Proofs.Try.prog T_int = some none := by kernel_rfl
@[simp] theorem ty9 : eqS Go.Proofs.Try.prog T_bool = .bool := by kernel_rfl
@[simp] theorem ty10 : eqS Go.Proofs.Try.prog T_p_aig_Graph = .ptr := by kernel_rfl
@[simp] theorem ty11 : bsS Go.Proofs.Try.prog T_s_bool = some (1, [(.bool false)]) := by kernel_rfl
@[simp] theorem ty12 : bsS Go.Proofs.Try.prog T_s_int = some (1, [(.int .i64 0)]) := by kernel_rfl
@[simp] theorem ty13 : mkeyS Go.Proofs.Try.prog KT T_m_a2_int_int = some (.many [(.i .i64), (.i .i64)]) := by kernel_rfl
@[simp] theorem ty14 : mapS Go.Proofs.Try.prog KT T_m_a2_int_int = some ((.many [(.i .i64), (.i .i64)]), (.int .i64 0)) := by kernel_rfl
@[simp] theorem ty15 : tZ Go.Proofs.Try.prog T_aig_Graph = some [(.int .i64 0), .nils, .nilm, .nils] := by kernel_rfl
@[simp] theorem ty16 : blS Go.Proofs.Try.prog T_aig_Graph = some true := by kernel_rfl
@[simp] theorem ty17 : plS Go.Proofs.Try.prog T_aig_Graph 0 = some (0, 1) := by kernel_rfl
@[simp] theorem ty18 : plS Go.Proofs.Try.prog T_aig_Graph 2 = some (2, 1) := by kernel_rfl
@[simp] theorem ty19 : faS Go.Proofs.Try.prog T_aig_Graph 1 = some 1 := by kernel_rfl
@[simp] theorem ty20 : ldS Go.Proofs.Try.prog T_s_a2_int = some none := by kernel_rfl
@[simp] theorem ty21 : lnS Go.Proofs.Try.prog T_s_a2_int = .slice := by kernel_rfl
@[simp] theorem ty22 : eszS Go.Proofs.Try.prog T_s_a2_int = some 2 := by kernel_rfl
@[simp] theorem ty23 : ldS Go.Proofs.Try.prog T_a2_int = some (some 2) := by kernel_rfl
@[simp] theorem ty24 : tZ Go.Proofs.Try.prog T_a2_int = some [(.int .i64 0), (.int .i64 0)] := by kernel_rfl
@[simp] theorem ty25 : blS Go.Proofs.Try.prog T_a2_int = some true := by kernel_rfl
@[simp] theorem ty26 : KT T_a2_int = some [(.i .i64), (.i .i64)] := by kernel_rfl
@[simp] theorem ty27 : tS Go.Proofs.Try.prog T_a2_int = some 2 := by kernel_rfl
@[simp] theorem ty28 : arrS Go.Proofs.Try.prog T_a2_int = some (2, 1) := by kernel_rfl
@[simp] theorem ty29 : arrL Go.Proofs.Try.prog T_a2_int = some none := by kernel_rfl
@[simp] theorem ty30 : lnS Go.Proofs.Try.prog T_s_int = .slice := by kernel_rfl
@[simp] theorem ty31 : eszS Go.Proofs.Try.prog T_s_int = some 1 := by kernel_rfl
@[simp] theorem ty32 : mkS Go.Proofs.Try.prog T_s_bool = some (1, 1, [(.bool false)]) := by kernel_rfl
@[simp] theorem ty33 : eszS Go.Proofs.Try.prog T_s_bool = some 1 := by kernel_rfl
@[simp] theorem ty34 : tS Go.Proofs.Try.prog T_bool = some 1 := by kernel_rfl
@[simp] theorem ty35 : ldS Go.Proofs.Try.prog T_bool = some none := by kernel_rfl
@[simp] theorem ty36 : mkS Go.Proofs.Try.prog T_s_int = some (1, 8, [(.int .i64 0)]) := by kernel_rfl
@[simp] theorem ty37 : faS Go.Proofs.Try.prog T_aig_Graph 3 = some 3 := by kernel_rfl
@[simp] theorem ty38 : ldS Go.Proofs.Try.prog T_s_int = some none := by kernel_rfl
@[simp] theorem ty39 : eqS Go.Proofs.Try.prog T_s_int = .slice := by kernel_rfl
@[simp] theorem ty40 : plS Go.Proofs.Try.prog T_a2_int 0 = some (0, 1) := by kernel_rfl
@[simp] theorem ty41 : plS Go.Proofs.Try.prog T_a2_int 1 = some (1, 1) := by kernel_rfl
@[simp] theorem ty42 : faS Go.Proofs.Try.prog T_aig_Graph 2 = some 2 := by kernel_rfl
@[simp] theorem ty43 : ldS Go.Proofs.Try.prog T_m_a2_int_int = some none := by kernel_rfl
@[simp] theorem ty44 : faS Go.Proofs.Try.prog T_aig_Graph 0 = some 0 := by kernel_rfl
@[simp] theorem ty45 : bsS Go.Proofs.Try.prog T_s_a2_int = some (2, [(.int .i64 0), (.int .i64 0)]) := by kernel_rfl
@[simp] theorem ty46 : mkS Go.Proofs.Try.prog T_s_a2_int = some (2, 16, [(.int .i64 0), (.int .i64 0)]) := by kernel_rfl
@[simp] theorem ty47 : tS Go.Proofs.Try.prog T_s_a2_int = some 1 := by kernel_rfl
@[simp] theorem ty48 : tS Go.Proofs.Try.prog T_s_int = some 1 := by kernel_rfl
@[simp] theorem ty49 : tZ Go.Proofs.Try.prog T_plaitref8_Graph = some [.nils, (.int .i64 0)] := by kernel_rfl
@[simp] theorem ty50 : blS Go.Proofs.Try.prog T_plaitref8_Graph = some true := by kernel_rfl
@[simp] theorem ty51 : plS Go.Proofs.Try.prog T_plaitref8_Graph 1 = some (1, 1) := by kernel_rfl
@[simp] theorem ty52 : faS Go.Proofs.Try.prog T_plaitlaw8_Step 4 = some 4 := by kernel_rfl
@[simp] theorem ty53 : faS Go.Proofs.Try.prog T_plaitlaw8_Step 1 = some 1 := by kernel_rfl
@[simp] theorem ty54 : faS Go.Proofs.Try.prog T_plaitlaw8_Step 2 = some 2 := by kernel_rfl
@[simp] theorem ty55 : faS Go.Proofs.Try.prog T_plaitlaw8_Step 3 = some 3 := by kernel_rfl
@[simp] theorem ty56 : tZ Go.Proofs.Try.prog T_plaitref8_Node = some [(.int .i64 0), (.int .i64 0), (.bool false)] := by kernel_rfl
@[simp] theorem ty57 : blS Go.Proofs.Try.prog T_plaitref8_Node = some true := by kernel_rfl
@[simp] theorem ty58 : plS Go.Proofs.Try.prog T_plaitref8_Node 2 = some (2, 1) := by kernel_rfl
@[simp] theorem ty59 : faS Go.Proofs.Try.prog T_plaitref8_Graph 1 = some 1 := by kernel_rfl
@[simp] theorem ty60 : ldS Go.Proofs.Try.prog T_plaitref8_Node = some (some 3) := by kernel_rfl
@[simp] theorem ty61 : bsS Go.Proofs.Try.prog T_s_plaitref8_Node = some (3, [(.int .i64 0), (.int .i64 0), (.bool false)]) := by kernel_rfl
@[simp] theorem ty62 : mkS Go.Proofs.Try.prog T_s_plaitref8_Node = some (3, 24, [(.int .i64 0), (.int .i64 0), (.bool false)]) := by kernel_rfl
@[simp] theorem ty63 : tS Go.Proofs.Try.prog T_s_plaitref8_Node = some 1 := by kernel_rfl
@[simp] theorem ty64 : eszS Go.Proofs.Try.prog T_s_plaitref8_Node = some 3 := by kernel_rfl
@[simp] theorem ty65 : faS Go.Proofs.Try.prog T_plaitref8_Node 2 = some 2 := by kernel_rfl
@[simp] theorem ty66 : faS Go.Proofs.Try.prog T_plaitref8_Node 0 = some 0 := by kernel_rfl
@[simp] theorem ty67 : faS Go.Proofs.Try.prog T_plaitref8_Node 1 = some 1 := by kernel_rfl
@[simp] theorem ty68 : plS Go.Proofs.Try.prog T_plaitref8_Node 0 = some (0, 1) := by kernel_rfl
@[simp] theorem ty69 : plS Go.Proofs.Try.prog T_plaitref8_Node 1 = some (1, 1) := by kernel_rfl
@[simp] theorem ty70 : tS Go.Proofs.Try.prog T_plaitref8_Node = some 3 := by kernel_rfl

def l_plaitlaw8_AigPlays_0 : LCode := (.seq (.seq (.reg [] [⟨some 48, some (.move (.tmp 9)), none⟩,
    ⟨some 49, some (.move (.tmp 1)), none⟩,
    ⟨some 50, some (.call ⟨(.builtin .len), #[(.tmp 49)], #[T_s_plaitlaw8_Step]⟩), none⟩,
    ⟨some 51, some (.binOp .lss T_int (.tmp 48) (.tmp 50) T_int), none⟩])
  (.cond (.tmp 51) .skip
  (.exit 0)))
  (.seq (.block 1 (.seq (.reg [] [⟨some 55, some (.move (.tmp 1)), none⟩,
    ⟨some 56, some (.move (.tmp 9)), none⟩,
    ⟨some 57, some (.indexAddr T_s_plaitlaw8_Step (.tmp 55) (.tmp 56)), none⟩,
    ⟨some 58, some (.load T_plaitlaw8_Step (.tmp 57)), none⟩,
    ⟨some 59, some (.move (.tmp 8)), none⟩,
    ⟨some 60, some (.nilCheck (.tmp 59)), none⟩,
    ⟨some 61, some (.fieldAddr T_plaitref8_Graph (.tmp 60) 0), none⟩,
    ⟨some 62, some (.load T_s_plaitref8_Node (.tmp 61)), none⟩,
    ⟨some 63, some (.call ⟨(.builtin .len), #[(.tmp 62)], #[T_s_plaitref8_Node]⟩), none⟩,
    ⟨some 64, some (.call ⟨(.value (.func f_plaitlaw8_lits)), #[(.tmp 58), (.tmp 63)], #[T_plaitlaw8_Step, T_int]⟩), none⟩,
    ⟨some 54, some (.move (.tmp 64)), none⟩,
    ⟨some 65, some (.extract (.tmp 54) 0), none⟩,
    ⟨some 66, some (.extract (.tmp 54) 1), none⟩,
    ⟨some 67, some (.extract (.tmp 54) 2), none⟩,
    ⟨some 10, some (.assign (.tmp 65)), none⟩,
    ⟨some 11, some (.assign (.tmp 66)), none⟩,
    ⟨some 12, some (.assign (.tmp 67)), none⟩])
  (.seq (.reg [] [⟨some 69, some (.move (.tmp 7)), none⟩,
    ⟨some 70, some (.move (.tmp 1)), none⟩,
    ⟨some 71, some (.move (.tmp 9)), none⟩,
    ⟨some 72, some (.indexAddr T_s_plaitlaw8_Step (.tmp 70) (.tmp 71)), none⟩,
    ⟨some 73, some (.fieldAddr T_plaitlaw8_Step (.tmp 72) 0), none⟩,
    ⟨some 74, some (.load T_int (.tmp 73)), none⟩,
    ⟨some 75, some (.move (.tmp 10)), none⟩,
    ⟨some 76, some (.move (.tmp 11)), none⟩,
    ⟨some 77, some (.move (.tmp 12)), none⟩,
    ⟨some 78, some (.call ⟨(.value (.func f_plaitlaw8_does)), #[(.tmp 69), (.tmp 74), (.tmp 75), (.tmp 76), (.tmp 77)], #[T_p_aig_Graph, T_int, T_int, T_int, T_int]⟩), none⟩,
    ⟨some 68, some (.move (.tmp 78)), none⟩,
    ⟨some 79, some (.extract (.tmp 68) 0), none⟩,
    ⟨some 80, some (.extract (.tmp 68) 1), none⟩,
    ⟨some 13, some (.assign (.tmp 79)), none⟩,
    ⟨some 14, some (.assign (.tmp 80)), none⟩])
  (.seq (.reg [] [⟨some 82, some (.move (.tmp 8)), none⟩,
    ⟨some 83, some (.move (.tmp 1)), none⟩,
    ⟨some 84, some (.move (.tmp 9)), none⟩,
    ⟨some 85, some (.indexAddr T_s_plaitlaw8_Step (.tmp 83) (.tmp 84)), none⟩,
    ⟨some 86, some (.fieldAddr T_plaitlaw8_Step (.tmp 85) 0), none⟩,
    ⟨some 87, some (.load T_int (.tmp 86)), none⟩,
    ⟨some 88, some (.move (.tmp 10)), none⟩,
    ⟨some 89, some (.move (.tmp 11)), none⟩,
    ⟨some 90, some (.move (.tmp 12)), none⟩,
    ⟨some 91, some (.call ⟨(.value (.func f_plaitlaw8_doesRef)), #[(.tmp 82), (.tmp 87), (.tmp 88), (.tmp 89), (.tmp 90)], #[T_p_plaitref8_Graph, T_int, T_int, T_int, T_int]⟩), none⟩,
    ⟨some 81, some (.move (.tmp 91)), none⟩,
    ⟨some 92, some (.extract (.tmp 81) 0), none⟩,
    ⟨some 93, some (.extract (.tmp 81) 1), none⟩,
    ⟨some 15, some (.assign (.tmp 92)), none⟩,
    ⟨some 16, some (.assign (.tmp 93)), none⟩])
  (.seq (.seq (.reg [10] [⟨some 94, some (.move (.tmp 13)), none⟩,
    ⟨some 95, some (.move (.tmp 15)), none⟩,
    ⟨some 96, some (.binOp .neq T_int (.tmp 94) (.tmp 95) T_int), none⟩,
    ⟨some 97, some (.move (.tmp 96)), none⟩,
    ⟨some 98, some (.move (.tmp 14)), some (some 97, false)⟩,
    ⟨some 99, some (.move (.tmp 16)), some (some 97, false)⟩,
    ⟨some 100, some (.binOp .neq T_int (.tmp 98) (.tmp 99) T_int), some (some 97, false)⟩,
    ⟨some 101, some (.pick (.tmp 97) (.const (.bool true)) (.tmp 100)), none⟩,
    ⟨some 102, some (.move (.tmp 101)), none⟩,
    ⟨some 103, some (.move (.tmp 7)), some (some 102, false)⟩,
    ⟨some 104, some (.call ⟨(.value (.func f_plait_aig_Graph_Nodes)), #[(.tmp 103)], #[T_p_aig_Graph]⟩), some (some 102, false)⟩,
    ⟨some 105, some (.move (.tmp 8)), some (some 102, false)⟩,
    ⟨some 106, some (.nilCheck (.tmp 105)), some (some 102, false)⟩,
    ⟨some 107, some (.fieldAddr T_plaitref8_Graph (.tmp 106) 0), some (some 102, false)⟩,
    ⟨some 108, some (.load T_s_plaitref8_Node (.tmp 107)), some (some 102, false)⟩,
    ⟨some 109, some (.call ⟨(.builtin .len), #[(.tmp 108)], #[T_s_plaitref8_Node]⟩), some (some 102, false)⟩,
    ⟨some 110, some (.binOp .neq T_int (.tmp 104) (.tmp 109) T_int), some (some 102, false)⟩,
    ⟨some 111, some (.pick (.tmp 102) (.const (.bool true)) (.tmp 110)), none⟩])
  (.cond (.tmp 111) (.seq (.reg [] [⟨some 6, some (.assign (.const (.bool false))), none⟩])
  .ret)
  .skip))
  (.seq (.reg [] [⟨some 113, some (.move (.tmp 7)), none⟩,
    ⟨some 114, some (.move (.tmp 10)), none⟩,
    ⟨some 115, some (.call ⟨(.value (.func f_plait_aig_Graph_Kids)), #[(.tmp 113), (.tmp 114)], #[T_p_aig_Graph, T_int]⟩), none⟩,
    ⟨some 112, some (.move (.tmp 115)), none⟩,
    ⟨some 116, some (.extract (.tmp 112) 0), none⟩,
    ⟨some 117, some (.extract (.tmp 112) 1), none⟩,
    ⟨some 118, some (.extract (.tmp 112) 2), none⟩,
    ⟨some 17, some (.assign (.tmp 116)), none⟩,
    ⟨some 18, some (.assign (.tmp 117)), none⟩,
    ⟨some 19, some (.assign (.tmp 118)), none⟩])
  (.seq (.reg [] [⟨some 120, some (.move (.tmp 8)), none⟩,
    ⟨some 121, some (.move (.tmp 10)), none⟩,
    ⟨some 122, some (.call ⟨(.value (.func f_plait_plaitref8_Graph_Kids)), #[(.tmp 120), (.tmp 121)], #[T_p_plaitref8_Graph, T_int]⟩), none⟩,
    ⟨some 119, some (.move (.tmp 122)), none⟩,
    ⟨some 123, some (.extract (.tmp 119) 0), none⟩,
    ⟨some 124, some (.extract (.tmp 119) 1), none⟩,
    ⟨some 125, some (.extract (.tmp 119) 2), none⟩,
    ⟨some 20, some (.assign (.tmp 123)), none⟩,
    ⟨some 21, some (.assign (.tmp 124)), none⟩,
    ⟨some 22, some (.assign (.tmp 125)), none⟩])
  (.seq (.reg [] [⟨some 126, some (.move (.tmp 17)), none⟩,
    ⟨some 127, some (.move (.tmp 20)), none⟩,
    ⟨some 128, some (.binOp .neq T_int (.tmp 126) (.tmp 127) T_int), none⟩,
    ⟨some 129, some (.move (.tmp 128)), none⟩,
    ⟨some 130, some (.move (.tmp 18)), some (some 129, false)⟩,
    ⟨some 131, some (.move (.tmp 21)), some (some 129, false)⟩,
    ⟨some 132, some (.binOp .neq T_int (.tmp 130) (.tmp 131) T_int), some (some 129, false)⟩,
    ⟨some 133, some (.pick (.tmp 129) (.const (.bool true)) (.tmp 132)), none⟩,
    ⟨some 134, some (.move (.tmp 133)), none⟩,
    ⟨some 135, some (.move (.tmp 19)), some (some 134, false)⟩,
    ⟨some 136, some (.move (.tmp 22)), some (some 134, false)⟩,
    ⟨some 137, some (.binOp .neq T_bool (.tmp 135) (.tmp 136) T_bool), some (some 134, false)⟩,
    ⟨some 138, some (.pick (.tmp 134) (.const (.bool true)) (.tmp 137)), none⟩,
    ⟨some 139, some (.move (.tmp 138)), none⟩,
    ⟨some 140, some (.move (.tmp 7)), some (some 139, false)⟩,
    ⟨some 141, some (.move (.tmp 11)), some (some 139, false)⟩,
    ⟨some 142, some (.call ⟨(.value (.func f_plait_aig_Graph_Cone)), #[(.tmp 140), (.tmp 141)], #[T_p_aig_Graph, T_int]⟩), some (some 139, false)⟩,
    ⟨some 143, some (.move (.tmp 8)), some (some 139, false)⟩,
    ⟨some 144, some (.move (.tmp 11)), some (some 139, false)⟩,
    ⟨some 145, some (.call ⟨(.value (.func f_plait_plaitref8_Graph_Cone)), #[(.tmp 143), (.tmp 144)], #[T_p_plaitref8_Graph, T_int]⟩), some (some 139, false)⟩,
    ⟨some 146, some (.call ⟨(.value (.func f_plaithelp_Ints)), #[(.tmp 142), (.tmp 145)], #[T_s_int, T_s_int]⟩), some (some 139, false)⟩,
    ⟨some 147, some (.unOp .not T_bool (.tmp 146)), some (some 139, false)⟩,
    ⟨some 148, some (.pick (.tmp 139) (.const (.bool true)) (.tmp 147)), none⟩])
  (.cond (.tmp 148) (.seq (.reg [] [⟨some 6, some (.assign (.const (.bool false))), none⟩])
  .ret)
  .skip)))))))))
  (.reg [] [⟨some 52, some (.move (.tmp 9)), none⟩,
    ⟨some 53, some (.binOp .add T_int (.tmp 52) (.const (.int .i64 1)) T_int), none⟩,
    ⟨some 9, some (.assign (.tmp 53)), none⟩])))
def l_plaitlaw8_AigPlays_1 : LCode := (.seq (.seq (.reg [] [⟨some 149, some (.move (.tmp 23)), none⟩,
    ⟨some 150, some (.move (.tmp 8)), none⟩,
    ⟨some 151, some (.nilCheck (.tmp 150)), none⟩,
    ⟨some 152, some (.fieldAddr T_plaitref8_Graph (.tmp 151) 0), none⟩,
    ⟨some 153, some (.load T_s_plaitref8_Node (.tmp 152)), none⟩,
    ⟨some 154, some (.call ⟨(.builtin .len), #[(.tmp 153)], #[T_s_plaitref8_Node]⟩), none⟩,
    ⟨some 155, some (.binOp .add T_int (.tmp 154) (.const (.int .i64 1)) T_int), none⟩,
    ⟨some 156, some (.binOp .leq T_int (.tmp 149) (.tmp 155) T_int), none⟩])
  (.cond (.tmp 156) .skip
  (.exit 2)))
  (.seq (.block 3 (.seq (.reg [] [⟨some 160, some (.move (.tmp 7)), none⟩,
    ⟨some 161, some (.move (.tmp 23)), none⟩,
    ⟨some 162, some (.call ⟨(.value (.func f_plait_aig_Graph_Kids)), #[(.tmp 160), (.tmp 161)], #[T_p_aig_Graph, T_int]⟩), none⟩,
    ⟨some 159, some (.move (.tmp 162)), none⟩,
    ⟨some 163, some (.extract (.tmp 159) 0), none⟩,
    ⟨some 164, some (.extract (.tmp 159) 1), none⟩,
    ⟨some 165, some (.extract (.tmp 159) 2), none⟩,
    ⟨some 24, some (.assign (.tmp 163)), none⟩,
    ⟨some 25, some (.assign (.tmp 164)), none⟩,
    ⟨some 26, some (.assign (.tmp 165)), none⟩])
  (.seq (.reg [] [⟨some 167, some (.move (.tmp 8)), none⟩,
    ⟨some 168, some (.move (.tmp 23)), none⟩,
    ⟨some 169, some (.call ⟨(.value (.func f_plait_plaitref8_Graph_Kids)), #[(.tmp 167), (.tmp 168)], #[T_p_plaitref8_Graph, T_int]⟩), none⟩,
    ⟨some 166, some (.move (.tmp 169)), none⟩,
    ⟨some 170, some (.extract (.tmp 166) 0), none⟩,
    ⟨some 171, some (.extract (.tmp 166) 1), none⟩,
    ⟨some 172, some (.extract (.tmp 166) 2), none⟩,
    ⟨some 27, some (.assign (.tmp 170)), none⟩,
    ⟨some 28, some (.assign (.tmp 171)), none⟩,
    ⟨some 29, some (.assign (.tmp 172)), none⟩])
  (.seq (.reg [] [⟨some 174, some (.move (.tmp 7)), none⟩,
    ⟨some 175, some (.move (.tmp 23)), none⟩,
    ⟨some 176, some (.binOp .mul T_int (.const (.int .i64 2)) (.tmp 175) T_int), none⟩,
    ⟨some 177, some (.move (.tmp 2)), none⟩,
    ⟨some 178, some (.call ⟨(.value (.func f_plait_aig_Graph_Eval)), #[(.tmp 174), (.tmp 176), (.tmp 177)], #[T_p_aig_Graph, T_int, T_s_bool]⟩), none⟩,
    ⟨some 173, some (.move (.tmp 178)), none⟩,
    ⟨some 179, some (.extract (.tmp 173) 0), none⟩,
    ⟨some 180, some (.extract (.tmp 173) 1), none⟩,
    ⟨some 30, some (.assign (.tmp 179)), none⟩,
    ⟨some 31, some (.assign (.tmp 180)), none⟩])
  (.seq (.reg [] [⟨some 182, some (.move (.tmp 8)), none⟩,
    ⟨some 183, some (.move (.tmp 23)), none⟩,
    ⟨some 184, some (.binOp .mul T_int (.const (.int .i64 2)) (.tmp 183) T_int), none⟩,
    ⟨some 185, some (.move (.tmp 2)), none⟩,
    ⟨some 186, some (.call ⟨(.value (.func f_plait_plaitref8_Graph_Eval)), #[(.tmp 182), (.tmp 184), (.tmp 185)], #[T_p_plaitref8_Graph, T_int, T_s_bool]⟩), none⟩,
    ⟨some 181, some (.move (.tmp 186)), none⟩,
    ⟨some 187, some (.extract (.tmp 181) 0), none⟩,
    ⟨some 188, some (.extract (.tmp 181) 1), none⟩,
    ⟨some 32, some (.assign (.tmp 187)), none⟩,
    ⟨some 33, some (.assign (.tmp 188)), none⟩])
  (.seq (.reg [] [⟨some 189, some (.move (.tmp 24)), none⟩,
    ⟨some 190, some (.move (.tmp 27)), none⟩,
    ⟨some 191, some (.binOp .neq T_int (.tmp 189) (.tmp 190) T_int), none⟩,
    ⟨some 192, some (.move (.tmp 191)), none⟩,
    ⟨some 193, some (.move (.tmp 25)), some (some 192, false)⟩,
    ⟨some 194, some (.move (.tmp 28)), some (some 192, false)⟩,
    ⟨some 195, some (.binOp .neq T_int (.tmp 193) (.tmp 194) T_int), some (some 192, false)⟩,
    ⟨some 196, some (.pick (.tmp 192) (.const (.bool true)) (.tmp 195)), none⟩,
    ⟨some 197, some (.move (.tmp 196)), none⟩,
    ⟨some 198, some (.move (.tmp 26)), some (some 197, false)⟩,
    ⟨some 199, some (.move (.tmp 29)), some (some 197, false)⟩,
    ⟨some 200, some (.binOp .neq T_bool (.tmp 198) (.tmp 199) T_bool), some (some 197, false)⟩,
    ⟨some 201, some (.pick (.tmp 197) (.const (.bool true)) (.tmp 200)), none⟩,
    ⟨some 202, some (.move (.tmp 201)), none⟩,
    ⟨some 203, some (.move (.tmp 30)), some (some 202, false)⟩,
    ⟨some 204, some (.move (.tmp 32)), some (some 202, false)⟩,
    ⟨some 205, some (.binOp .neq T_bool (.tmp 203) (.tmp 204) T_bool), some (some 202, false)⟩,
    ⟨some 206, some (.pick (.tmp 202) (.const (.bool true)) (.tmp 205)), none⟩,
    ⟨some 207, some (.move (.tmp 206)), none⟩,
    ⟨some 208, some (.move (.tmp 31)), some (some 207, false)⟩,
    ⟨some 209, some (.move (.tmp 33)), some (some 207, false)⟩,
    ⟨some 210, some (.binOp .neq T_int (.tmp 208) (.tmp 209) T_int), some (some 207, false)⟩,
    ⟨some 211, some (.pick (.tmp 207) (.const (.bool true)) (.tmp 210)), none⟩])
  (.cond (.tmp 211) (.seq (.reg [] [⟨some 6, some (.assign (.const (.bool false))), none⟩])
  .ret)
  .skip)))))))
  (.reg [] [⟨some 157, some (.move (.tmp 23)), none⟩,
    ⟨some 158, some (.binOp .add T_int (.tmp 157) (.const (.int .i64 1)) T_int), none⟩,
    ⟨some 23, some (.assign (.tmp 158)), none⟩])))
@[simp] theorem d_l_plaitlaw8_AigPlays_0 : defs l_plaitlaw8_AigPlays_0 = [48, 49, 50, 51, 55, 56, 57, 58, 59, 60, 61, 62, 63, 64, 54, 65, 66, 67, 10, 11, 12, 69, 70, 71, 72, 73, 74, 75, 76, 77, 78, 68, 79, 80, 13, 14, 82, 83, 84, 85, 86, 87, 88, 89, 90, 91, 81, 92, 93, 15, 16, 94, 95, 96, 97, 98, 99, 100, 101, 102, 103, 104, 105, 106, 107, 108, 109, 110, 111, 6, 113, 114, 115, 112, 116, 117, 118, 17, 18, 19, 120, 121, 122, 119, 123, 124, 125, 20, 21, 22, 126, 127, 128, 129, 130, 131, 132, 133, 134, 135, 136, 137, 138, 139, 140, 141, 142, 143, 144, 145, 146, 147, 148, 6, 52, 53, 9] := by rfl
@[simp] theorem d_l_plaitlaw8_AigPlays_1 : defs l_plaitlaw8_AigPlays_1 = [149, 150, 151, 152, 153, 154, 155, 156, 160, 161, 162, 159, 163, 164, 165, 24, 25, 26, 167, 168, 169, 166, 170, 171, 172, 27, 28, 29, 174, 175, 176, 177, 178, 173, 179, 180, 30, 31, 182, 183, 184, 185, 186, 181, 187, 188, 32, 33, 189, 190, 191, 192, 193, 194, 195, 196, 197, 198, 199, 200, 201, 202, 203, 204, 205, 206, 207, 208, 209, 210, 211, 6, 157, 158, 23] := by rfl
def c_plaitlaw8_AigPlays : LCode := (.seq (.reg [] [⟨some 6, some (.assign (.const (.bool false))), none⟩])
  (.seq (.seq (.reg [] [⟨some 34, some (.call ⟨(.value (.func f_plaitlaw8_known)), #[], #[]⟩), none⟩,
    ⟨some 35, some (.unOp .not T_bool (.tmp 34)), none⟩])
  (.cond (.tmp 35) (.seq (.reg [] [⟨some 6, some (.assign (.const (.bool false))), none⟩])
  .ret)
  .skip))
  (.seq (.seq (.reg [] [⟨some 36, some (.move (.tmp 1)), none⟩,
    ⟨some 37, some (.call ⟨(.builtin .len), #[(.tmp 36)], #[T_s_plaitlaw8_Step]⟩), none⟩,
    ⟨some 38, some (.binOp .gtr T_int (.tmp 37) (.const (.int .i64 200)) T_int), none⟩,
    ⟨some 39, some (.move (.tmp 38)), none⟩,
    ⟨some 40, some (.move (.tmp 2)), some (some 39, false)⟩,
    ⟨some 41, some (.call ⟨(.builtin .len), #[(.tmp 40)], #[T_s_bool]⟩), some (some 39, false)⟩,
    ⟨some 42, some (.binOp .gtr T_int (.tmp 41) (.const (.int .i64 300)) T_int), some (some 39, false)⟩,
    ⟨some 43, some (.pick (.tmp 39) (.const (.bool true)) (.tmp 42)), none⟩])
  (.cond (.tmp 43) (.seq (.reg [] [⟨some 6, some (.assign (.const (.bool true))), none⟩])
  .ret)
  .skip))
  (.seq (.reg [] [⟨some 44, some (.move (.tmp 0)), none⟩,
    ⟨some 45, some (.call ⟨(.value (.func f_aig_New)), #[(.tmp 44)], #[T_int]⟩), none⟩,
    ⟨some 46, some (.move (.tmp 0)), none⟩,
    ⟨some 47, some (.call ⟨(.value (.func f_plaitref8_New)), #[(.tmp 46)], #[T_int]⟩), none⟩,
    ⟨some 7, some (.assign (.tmp 45)), none⟩,
    ⟨some 8, some (.assign (.tmp 47)), none⟩])
  (.seq (.seq (.reg [] [⟨some 9, some (.assign (.const (.int .i64 0))), none⟩])
  (.block 0 (.loop l_plaitlaw8_AigPlays_0)))
  (.seq (.seq (.reg [] [⟨some 23, some (.assign (.const (.int .i64 (-1)))), none⟩])
  (.block 2 (.loop l_plaitlaw8_AigPlays_1)))
  (.seq (.reg [] [⟨some 212, some (.move (.tmp 7)), none⟩,
    ⟨some 213, some (.call ⟨(.value (.func f_plait_aig_Graph_Inputs)), #[(.tmp 212)], #[T_p_aig_Graph]⟩), none⟩,
    ⟨some 214, some (.move (.tmp 8)), none⟩,
    ⟨some 215, some (.call ⟨(.value (.func f_plait_plaitref8_Graph_Inputs)), #[(.tmp 214)], #[T_p_plaitref8_Graph]⟩), none⟩,
    ⟨some 216, some (.call ⟨(.value (.func f_plaithelp_Ints)), #[(.tmp 213), (.tmp 215)], #[T_s_int, T_s_int]⟩), none⟩,
    ⟨some 6, some (.assign (.tmp 216)), none⟩])
  .ret)))))))
theorem e_plaitlaw8_AigPlays {a0 a1 a2 : AV} {H : AHeap} : R f_plaitlaw8_AigPlays [a0, a1, a2] H = fnK Go.Proofs.Try.prog [] H [(.tmp 6)] (evalL Go.Proofs.Try.prog KT R c_plaitlaw8_AigPlays (Env.args [a0, a1, a2] 0) H) :=
  runs_body (D := DT) (f := f_plaitlaw8_AigPlays) Go.Proofs.Try.func4 (by kernel_rfl) (by kernel_rfl) (by kernel_rfl) (by kernel_rfl) (by kernel_rfl) (Nat.le_of_ble_eq_true rfl)

def l_plaitlaw8_AigMeans_2 : LCode := (.seq (.seq (.reg [] [⟨some 96, some (.move (.tmp 13)), none⟩,
    ⟨some 97, some (.move (.tmp 8)), none⟩,
    ⟨some 98, some (.binOp .lss T_int (.tmp 96) (.tmp 97) T_int), none⟩])
  (.cond (.tmp 98) .skip
  (.exit 4)))
  (.seq (.block 5 (.reg [] [⟨some 101, some (.move (.tmp 12)), none⟩,
    ⟨some 102, some (.move (.tmp 11)), none⟩,
    ⟨some 103, some (.move (.tmp 13)), none⟩,
    ⟨some 104, some (.binOp .shr T_int (.tmp 102) (.tmp 103) T_int), none⟩,
    ⟨some 105, some (.binOp .and T_int (.tmp 104) (.const (.int .i64 1)) T_int), none⟩,
    ⟨some 106, some (.binOp .eql T_int (.tmp 105) (.const (.int .i64 1)) T_int), none⟩,
    ⟨some 107, some (.buildSlice T_s_bool 1 #[(0, (.tmp 106))]), none⟩,
    ⟨some 108, some (.call ⟨(.builtin .append), #[(.tmp 101), (.tmp 107)], #[T_s_bool, T_s_bool]⟩), none⟩,
    ⟨some 12, some (.assign (.tmp 108)), none⟩]))
  (.reg [] [⟨some 99, some (.move (.tmp 13)), none⟩,
    ⟨some 100, some (.binOp .add T_int (.tmp 99) (.const (.int .i64 1)) T_int), none⟩,
    ⟨some 13, some (.assign (.tmp 100)), none⟩])))
def l_plaitlaw8_AigMeans_1 : LCode := (.seq (.seq (.reg [] [⟨some 90, some (.move (.tmp 11)), none⟩,
    ⟨some 91, some (.move (.tmp 8)), none⟩,
    ⟨some 92, some (.binOp .shl T_int (.const (.int .i64 1)) (.tmp 91) T_int), none⟩,
    ⟨some 93, some (.binOp .lss T_int (.tmp 90) (.tmp 92) T_int), none⟩])
  (.cond (.tmp 93) .skip
  (.exit 2)))
  (.seq (.block 3 (.seq (.reg [] [⟨some 12, some (.assign (.const (.slice none 0 0))), none⟩])
  (.seq (.seq (.reg [] [⟨some 13, some (.assign (.const (.int .i64 0))), none⟩])
  (.block 4 (.loop l_plaitlaw8_AigMeans_2)))
  (.seq (.reg [] [⟨some 110, some (.move (.tmp 3)), none⟩,
    ⟨some 111, some (.move (.tmp 5)), none⟩,
    ⟨some 112, some (.move (.tmp 12)), none⟩,
    ⟨some 113, some (.call ⟨(.value (.func f_plait_aig_Graph_Eval)), #[(.tmp 110), (.tmp 111), (.tmp 112)], #[T_p_aig_Graph, T_int, T_s_bool]⟩), none⟩,
    ⟨some 109, some (.move (.tmp 113)), none⟩,
    ⟨some 114, some (.extract (.tmp 109) 0), none⟩,
    ⟨some 115, some (.extract (.tmp 109) 1), none⟩,
    ⟨some 14, some (.assign (.tmp 114)), none⟩,
    ⟨some 15, some (.assign (.tmp 115)), none⟩])
  (.seq (.reg [] [⟨some 117, some (.move (.tmp 3)), none⟩,
    ⟨some 118, some (.move (.tmp 6)), none⟩,
    ⟨some 119, some (.move (.tmp 12)), none⟩,
    ⟨some 120, some (.call ⟨(.value (.func f_plait_aig_Graph_Eval)), #[(.tmp 117), (.tmp 118), (.tmp 119)], #[T_p_aig_Graph, T_int, T_s_bool]⟩), none⟩,
    ⟨some 116, some (.move (.tmp 120)), none⟩,
    ⟨some 121, some (.extract (.tmp 116) 0), none⟩,
    ⟨some 122, some (.extract (.tmp 116) 1), none⟩,
    ⟨some 16, some (.assign (.tmp 121)), none⟩,
    ⟨some 17, some (.assign (.tmp 122)), none⟩])
  (.seq (.reg [] [⟨some 123, some (.move (.tmp 14)), none⟩,
    ⟨some 124, some (.move (.tmp 123)), none⟩,
    ⟨some 125, some (.move (.tmp 16)), some (some 124, true)⟩,
    ⟨some 126, some (.pick (.tmp 124) (.tmp 125) (.const (.bool false))), none⟩,
    ⟨some 18, some (.assign (.tmp 126)), none⟩])
  (.seq (.seq (.reg [] [⟨some 127, some (.move (.tmp 0)), none⟩,
    ⟨some 128, some (.move (.tmp 4)), none⟩,
    ⟨some 129, some (.indexAddr T_s_plaitlaw8_Step (.tmp 127) (.tmp 128)), none⟩,
    ⟨some 130, some (.fieldAddr T_plaitlaw8_Step (.tmp 129) 0), none⟩,
    ⟨some 131, some (.load T_int (.tmp 130)), none⟩])
  (.block 6 (.seq (.reg [] [⟨some 133, some (.binOp .eql T_int (.tmp 131) (.const (.int .i64 4)) T_int), none⟩,
    ⟨some 132, some (.assign (.tmp 133)), none⟩])
  (.cond (.tmp 132) (.reg [] [⟨some 134, some (.move (.tmp 14)), none⟩,
    ⟨some 135, some (.move (.tmp 134)), none⟩,
    ⟨some 136, some (.move (.tmp 16)), some (some 135, false)⟩,
    ⟨some 137, some (.pick (.tmp 135) (.const (.bool true)) (.tmp 136)), none⟩,
    ⟨some 18, some (.assign (.tmp 137)), none⟩])
  (.seq (.reg [] [⟨some 139, some (.binOp .eql T_int (.tmp 131) (.const (.int .i64 5)) T_int), none⟩,
    ⟨some 138, some (.assign (.tmp 139)), none⟩])
  (.cond (.tmp 138) (.reg [] [⟨some 140, some (.move (.tmp 14)), none⟩,
    ⟨some 141, some (.move (.tmp 16)), none⟩,
    ⟨some 142, some (.binOp .neq T_bool (.tmp 140) (.tmp 141) T_bool), none⟩,
    ⟨some 18, some (.assign (.tmp 142)), none⟩])
  (.seq (.reg [] [⟨some 144, some (.binOp .eql T_int (.tmp 131) (.const (.int .i64 6)) T_int), none⟩,
    ⟨some 143, some (.assign (.tmp 144)), none⟩])
  (.cond (.tmp 143) (.seq (.reg [] [⟨some 146, some (.move (.tmp 3)), none⟩,
    ⟨some 147, some (.move (.tmp 7)), none⟩,
    ⟨some 148, some (.move (.tmp 12)), none⟩,
    ⟨some 149, some (.call ⟨(.value (.func f_plait_aig_Graph_Eval)), #[(.tmp 146), (.tmp 147), (.tmp 148)], #[T_p_aig_Graph, T_int, T_s_bool]⟩), none⟩,
    ⟨some 145, some (.move (.tmp 149)), none⟩,
    ⟨some 150, some (.extract (.tmp 145) 0), none⟩,
    ⟨some 151, some (.extract (.tmp 145) 1), none⟩,
    ⟨some 19, some (.assign (.tmp 150)), none⟩,
    ⟨some 20, some (.assign (.tmp 151)), none⟩])
  (.reg [] [⟨some 152, some (.move (.tmp 19)), none⟩,
    ⟨some 153, some (.move (.tmp 152)), none⟩,
    ⟨some 154, some (.move (.tmp 14)), some (some 153, true)⟩,
    ⟨some 155, some (.pick (.tmp 153) (.tmp 154) (.const (.bool false))), none⟩,
    ⟨some 156, some (.move (.tmp 155)), none⟩,
    ⟨some 157, some (.move (.tmp 19)), some (some 156, false)⟩,
    ⟨some 158, some (.unOp .not T_bool (.tmp 157)), some (some 156, false)⟩,
    ⟨some 159, some (.move (.tmp 158)), some (some 156, false)⟩,
    ⟨some 160, some (.move (.tmp 16)), some (some 159, true)⟩,
    ⟨some 161, some (.pick (.tmp 159) (.tmp 160) (.const (.bool false))), some (some 156, false)⟩,
    ⟨some 162, some (.pick (.tmp 156) (.const (.bool true)) (.tmp 161)), none⟩,
    ⟨some 18, some (.assign (.tmp 162)), none⟩]))
  .skip))))))))
  (.seq (.reg [] [⟨some 164, some (.move (.tmp 3)), none⟩,
    ⟨some 165, some (.move (.tmp 9)), none⟩,
    ⟨some 166, some (.move (.tmp 12)), none⟩,
    ⟨some 167, some (.call ⟨(.value (.func f_plait_aig_Graph_Eval)), #[(.tmp 164), (.tmp 165), (.tmp 166)], #[T_p_aig_Graph, T_int, T_s_bool]⟩), none⟩,
    ⟨some 163, some (.move (.tmp 167)), none⟩,
    ⟨some 168, some (.extract (.tmp 163) 0), none⟩,
    ⟨some 169, some (.extract (.tmp 163) 1), none⟩,
    ⟨some 21, some (.assign (.tmp 168)), none⟩,
    ⟨some 22, some (.assign (.tmp 169)), none⟩])
  (.seq (.reg [] [⟨some 170, some (.move (.tmp 22)), none⟩,
    ⟨some 171, some (.binOp .neq T_int (.tmp 170) (.const (.int .i64 0)) T_int), none⟩,
    ⟨some 172, some (.move (.tmp 171)), none⟩,
    ⟨some 173, some (.move (.tmp 21)), some (some 172, false)⟩,
    ⟨some 174, some (.move (.tmp 18)), some (some 172, false)⟩,
    ⟨some 175, some (.binOp .neq T_bool (.tmp 173) (.tmp 174) T_bool), some (some 172, false)⟩,
    ⟨some 176, some (.pick (.tmp 172) (.const (.bool true)) (.tmp 175)), none⟩])
  (.cond (.tmp 176) (.seq (.reg [] [⟨some 2, some (.assign (.const (.bool false))), none⟩])
  .ret)
  .skip))))))))))
  (.reg [] [⟨some 94, some (.move (.tmp 11)), none⟩,
    ⟨some 95, some (.binOp .add T_int (.tmp 94) (.const (.int .i64 1)) T_int), none⟩,
    ⟨some 11, some (.assign (.tmp 95)), none⟩])))
def l_plaitlaw8_AigMeans_0 : LCode := (.seq (.seq (.reg [] [⟨some 29, some (.move (.tmp 4)), none⟩,
    ⟨some 30, some (.move (.tmp 0)), none⟩,
    ⟨some 31, some (.call ⟨(.builtin .len), #[(.tmp 30)], #[T_s_plaitlaw8_Step]⟩), none⟩,
    ⟨some 32, some (.binOp .lss T_int (.tmp 29) (.tmp 31) T_int), none⟩])
  (.cond (.tmp 32) .skip
  (.exit 0)))
  (.seq (.block 1 (.seq (.reg [5] [⟨some 36, some (.move (.tmp 0)), none⟩,
    ⟨some 37, some (.move (.tmp 4)), none⟩,
    ⟨some 38, some (.indexAddr T_s_plaitlaw8_Step (.tmp 36) (.tmp 37)), none⟩,
    ⟨some 39, some (.load T_plaitlaw8_Step (.tmp 38)), none⟩,
    ⟨some 40, some (.move (.tmp 3)), none⟩,
    ⟨some 41, some (.call ⟨(.value (.func f_plait_aig_Graph_Nodes)), #[(.tmp 40)], #[T_p_aig_Graph]⟩), none⟩,
    ⟨some 42, some (.call ⟨(.value (.func f_plaitlaw8_lits)), #[(.tmp 39), (.tmp 41)], #[T_plaitlaw8_Step, T_int]⟩), none⟩,
    ⟨some 35, some (.move (.tmp 42)), none⟩,
    ⟨some 43, some (.extract (.tmp 35) 0), none⟩,
    ⟨some 44, some (.extract (.tmp 35) 1), none⟩,
    ⟨some 45, some (.extract (.tmp 35) 2), none⟩,
    ⟨some 5, some (.assign (.tmp 43)), none⟩,
    ⟨some 6, some (.assign (.tmp 44)), none⟩,
    ⟨some 7, some (.assign (.tmp 45)), none⟩])
  (.seq (.reg [] [⟨some 46, some (.move (.tmp 3)), none⟩,
    ⟨some 47, some (.call ⟨(.value (.func f_plait_aig_Graph_Inputs)), #[(.tmp 46)], #[T_p_aig_Graph]⟩), none⟩,
    ⟨some 48, some (.call ⟨(.builtin .len), #[(.tmp 47)], #[T_s_int]⟩), none⟩,
    ⟨some 8, some (.assign (.tmp 48)), none⟩])
  (.seq (.seq (.reg [] [⟨some 49, some (.move (.tmp 0)), none⟩,
    ⟨some 50, some (.move (.tmp 4)), none⟩,
    ⟨some 51, some (.indexAddr T_s_plaitlaw8_Step (.tmp 49) (.tmp 50)), none⟩,
    ⟨some 52, some (.fieldAddr T_plaitlaw8_Step (.tmp 51) 0), none⟩,
    ⟨some 53, some (.load T_int (.tmp 52)), none⟩,
    ⟨some 54, some (.binOp .eql T_int (.tmp 53) (.const (.int .i64 0)) T_int), none⟩,
    ⟨some 55, some (.move (.tmp 54)), none⟩,
    ⟨some 56, some (.move (.tmp 8)), some (some 55, true)⟩,
    ⟨some 57, some (.binOp .geq T_int (.tmp 56) (.const (.int .i64 6)) T_int), some (some 55, true)⟩,
    ⟨some 58, some (.pick (.tmp 55) (.tmp 57) (.const (.bool false))), none⟩])
  (.cond (.tmp 58) (.exit 1)
  .skip))
  (.seq (.reg [] [⟨some 60, some (.move (.tmp 3)), none⟩,
    ⟨some 61, some (.move (.tmp 0)), none⟩,
    ⟨some 62, some (.move (.tmp 4)), none⟩,
    ⟨some 63, some (.indexAddr T_s_plaitlaw8_Step (.tmp 61) (.tmp 62)), none⟩,
    ⟨some 64, some (.fieldAddr T_plaitlaw8_Step (.tmp 63) 0), none⟩,
    ⟨some 65, some (.load T_int (.tmp 64)), none⟩,
    ⟨some 66, some (.move (.tmp 5)), none⟩,
    ⟨some 67, some (.move (.tmp 6)), none⟩,
    ⟨some 68, some (.move (.tmp 7)), none⟩,
    ⟨some 69, some (.call ⟨(.value (.func f_plaitlaw8_does)), #[(.tmp 60), (.tmp 65), (.tmp 66), (.tmp 67), (.tmp 68)], #[T_p_aig_Graph, T_int, T_int, T_int, T_int]⟩), none⟩,
    ⟨some 59, some (.move (.tmp 69)), none⟩,
    ⟨some 70, some (.extract (.tmp 59) 0), none⟩,
    ⟨some 71, some (.extract (.tmp 59) 1), none⟩,
    ⟨some 9, some (.assign (.tmp 70)), none⟩,
    ⟨some 10, some (.assign (.tmp 71)), none⟩])
  (.seq (.seq (.reg [] [⟨some 72, some (.move (.tmp 10)), none⟩,
    ⟨some 73, some (.binOp .neq T_int (.tmp 72) (.const (.int .i64 0)) T_int), none⟩,
    ⟨some 74, some (.move (.tmp 73)), none⟩,
    ⟨some 75, some (.move (.tmp 0)), some (some 74, false)⟩,
    ⟨some 76, some (.move (.tmp 4)), some (some 74, false)⟩,
    ⟨some 77, some (.indexAddr T_s_plaitlaw8_Step (.tmp 75) (.tmp 76)), some (some 74, false)⟩,
    ⟨some 78, some (.fieldAddr T_plaitlaw8_Step (.tmp 77) 0), some (some 74, false)⟩,
    ⟨some 79, some (.load T_int (.tmp 78)), some (some 74, false)⟩,
    ⟨some 80, some (.binOp .lss T_int (.tmp 79) (.const (.int .i64 1)) T_int), some (some 74, false)⟩,
    ⟨some 81, some (.pick (.tmp 74) (.const (.bool true)) (.tmp 80)), none⟩,
    ⟨some 82, some (.move (.tmp 81)), none⟩,
    ⟨some 83, some (.move (.tmp 0)), some (some 82, false)⟩,
    ⟨some 84, some (.move (.tmp 4)), some (some 82, false)⟩,
    ⟨some 85, some (.indexAddr T_s_plaitlaw8_Step (.tmp 83) (.tmp 84)), some (some 82, false)⟩,
    ⟨some 86, some (.fieldAddr T_plaitlaw8_Step (.tmp 85) 0), some (some 82, false)⟩,
    ⟨some 87, some (.load T_int (.tmp 86)), some (some 82, false)⟩,
    ⟨some 88, some (.binOp .gtr T_int (.tmp 87) (.const (.int .i64 6)) T_int), some (some 82, false)⟩,
    ⟨some 89, some (.pick (.tmp 82) (.const (.bool true)) (.tmp 88)), none⟩])
  (.cond (.tmp 89) (.exit 1)
  .skip))
  (.seq (.reg [] [⟨some 11, some (.assign (.const (.int .i64 0))), none⟩])
  (.block 2 (.loop l_plaitlaw8_AigMeans_1)))))))))
  (.reg [] [⟨some 33, some (.move (.tmp 4)), none⟩,
    ⟨some 34, some (.binOp .add T_int (.tmp 33) (.const (.int .i64 1)) T_int), none⟩,
    ⟨some 4, some (.assign (.tmp 34)), none⟩])))
@[simp] theorem d_l_plaitlaw8_AigMeans_2 : defs l_plaitlaw8_AigMeans_2 = [96, 97, 98, 101, 102, 103, 104, 105, 106, 107, 108, 12, 99, 100, 13] := by rfl
@[simp] theorem d_l_plaitlaw8_AigMeans_1 : defs l_plaitlaw8_AigMeans_1 = [90, 91, 92, 93, 12, 13, 96, 97, 98, 101, 102, 103, 104, 105, 106, 107, 108, 12, 99, 100, 13, 110, 111, 112, 113, 109, 114, 115, 14, 15, 117, 118, 119, 120, 116, 121, 122, 16, 17, 123, 124, 125, 126, 18, 127, 128, 129, 130, 131, 133, 132, 134, 135, 136, 137, 18, 139, 138, 140, 141, 142, 18, 144, 143, 146, 147, 148, 149, 145, 150, 151, 19, 20, 152, 153, 154, 155, 156, 157, 158, 159, 160, 161, 162, 18, 164, 165, 166, 167, 163, 168, 169, 21, 22, 170, 171, 172, 173, 174, 175, 176, 2, 94, 95, 11] := by rfl
@[simp] theorem d_l_plaitlaw8_AigMeans_0 : defs l_plaitlaw8_AigMeans_0 = [29, 30, 31, 32, 36, 37, 38, 39, 40, 41, 42, 35, 43, 44, 45, 5, 6, 7, 46, 47, 48, 8, 49, 50, 51, 52, 53, 54, 55, 56, 57, 58, 60, 61, 62, 63, 64, 65, 66, 67, 68, 69, 59, 70, 71, 9, 10, 72, 73, 74, 75, 76, 77, 78, 79, 80, 81, 82, 83, 84, 85, 86, 87, 88, 89, 11, 90, 91, 92, 93, 12, 13, 96, 97, 98, 101, 102, 103, 104, 105, 106, 107, 108, 12, 99, 100, 13, 110, 111, 112, 113, 109, 114, 115, 14, 15, 117, 118, 119, 120, 116, 121, 122, 16, 17, 123, 124, 125, 126, 18, 127, 128, 129, 130, 131, 133, 132, 134, 135, 136, 137, 18, 139, 138, 140, 141, 142, 18, 144, 143, 146, 147, 148, 149, 145, 150, 151, 19, 20, 152, 153, 154, 155, 156, 157, 158, 159, 160, 161, 162, 18, 164, 165, 166, 167, 163, 168, 169, 21, 22, 170, 171, 172, 173, 174, 175, 176, 2, 94, 95, 11, 33, 34, 4] := by rfl
def c_plaitlaw8_AigMeans : LCode := (.seq (.reg [] [⟨some 2, some (.assign (.const (.bool false))), none⟩])
  (.seq (.seq (.reg [] [⟨some 23, some (.call ⟨(.value (.func f_plaitlaw8_known)), #[], #[]⟩), none⟩,
    ⟨some 24, some (.unOp .not T_bool (.tmp 23)), none⟩])
  (.cond (.tmp 24) (.seq (.reg [] [⟨some 2, some (.assign (.const (.bool false))), none⟩])
  .ret)
  .skip))
  (.seq (.seq (.reg [] [⟨some 25, some (.move (.tmp 0)), none⟩,
    ⟨some 26, some (.call ⟨(.builtin .len), #[(.tmp 25)], #[T_s_plaitlaw8_Step]⟩), none⟩,
    ⟨some 27, some (.binOp .gtr T_int (.tmp 26) (.const (.int .i64 120)) T_int), none⟩])
  (.cond (.tmp 27) (.seq (.reg [] [⟨some 2, some (.assign (.const (.bool true))), none⟩])
  .ret)
  .skip))
  (.seq (.reg [] [⟨some 28, some (.call ⟨(.value (.func f_aig_New)), #[(.const (.int .i64 4000))], #[T_int]⟩), none⟩,
    ⟨some 3, some (.assign (.tmp 28)), none⟩])
  (.seq (.seq (.reg [] [⟨some 4, some (.assign (.const (.int .i64 0))), none⟩])
  (.block 0 (.loop l_plaitlaw8_AigMeans_0)))
  (.seq (.reg [] [⟨some 2, some (.assign (.const (.bool true))), none⟩])
  .ret))))))
theorem e_plaitlaw8_AigMeans {a0 : AV} {H : AHeap} : R f_plaitlaw8_AigMeans [a0] H = fnK Go.Proofs.Try.prog [] H [(.tmp 2)] (evalL Go.Proofs.Try.prog KT R c_plaitlaw8_AigMeans (Env.args [a0] 0) H) :=
  runs_body (D := DT) (f := f_plaitlaw8_AigMeans) Go.Proofs.Try.func5 (by kernel_rfl) (by kernel_rfl) (by kernel_rfl) (by kernel_rfl) (by kernel_rfl) (Nat.le_of_ble_eq_true rfl)

def l_plaitlaw8_AigOnce_0 : LCode := (.seq (.seq (.reg [] [⟨some 34, some (.move (.tmp 8)), none⟩,
    ⟨some 35, some (.move (.tmp 1)), none⟩,
    ⟨some 36, some (.call ⟨(.builtin .len), #[(.tmp 35)], #[T_s_plaitlaw8_Step]⟩), none⟩,
    ⟨some 37, some (.binOp .lss T_int (.tmp 34) (.tmp 36) T_int), none⟩])
  (.cond (.tmp 37) .skip
  (.exit 0)))
  (.seq (.block 1 (.seq (.reg [5] [⟨some 41, some (.move (.tmp 1)), none⟩,
    ⟨some 42, some (.move (.tmp 8)), none⟩,
    ⟨some 43, some (.indexAddr T_s_plaitlaw8_Step (.tmp 41) (.tmp 42)), none⟩,
    ⟨some 44, some (.load T_plaitlaw8_Step (.tmp 43)), none⟩,
    ⟨some 45, some (.move (.tmp 7)), none⟩,
    ⟨some 46, some (.call ⟨(.value (.func f_plait_aig_Graph_Nodes)), #[(.tmp 45)], #[T_p_aig_Graph]⟩), none⟩,
    ⟨some 47, some (.call ⟨(.value (.func f_plaitlaw8_lits)), #[(.tmp 44), (.tmp 46)], #[T_plaitlaw8_Step, T_int]⟩), none⟩,
    ⟨some 40, some (.move (.tmp 47)), none⟩,
    ⟨some 48, some (.extract (.tmp 40) 0), none⟩,
    ⟨some 49, some (.extract (.tmp 40) 1), none⟩,
    ⟨some 50, some (.extract (.tmp 40) 2), none⟩,
    ⟨some 9, some (.assign (.tmp 48)), none⟩,
    ⟨some 10, some (.assign (.tmp 49)), none⟩,
    ⟨some 11, some (.assign (.tmp 50)), none⟩])
  (.seq (.reg [] [⟨some 51, some (.move (.tmp 7)), none⟩,
    ⟨some 52, some (.call ⟨(.value (.func f_plait_aig_Graph_Nodes)), #[(.tmp 51)], #[T_p_aig_Graph]⟩), none⟩,
    ⟨some 12, some (.assign (.tmp 52)), none⟩])
  (.seq (.reg [] [⟨some 54, some (.move (.tmp 7)), none⟩,
    ⟨some 55, some (.move (.tmp 1)), none⟩,
    ⟨some 56, some (.move (.tmp 8)), none⟩,
    ⟨some 57, some (.indexAddr T_s_plaitlaw8_Step (.tmp 55) (.tmp 56)), none⟩,
    ⟨some 58, some (.fieldAddr T_plaitlaw8_Step (.tmp 57) 0), none⟩,
    ⟨some 59, some (.load T_int (.tmp 58)), none⟩,
    ⟨some 60, some (.move (.tmp 9)), none⟩,
    ⟨some 61, some (.move (.tmp 10)), none⟩,
    ⟨some 62, some (.move (.tmp 11)), none⟩,
    ⟨some 63, some (.call ⟨(.value (.func f_plaitlaw8_does)), #[(.tmp 54), (.tmp 59), (.tmp 60), (.tmp 61), (.tmp 62)], #[T_p_aig_Graph, T_int, T_int, T_int, T_int]⟩), none⟩,
    ⟨some 53, some (.move (.tmp 63)), none⟩,
    ⟨some 64, some (.extract (.tmp 53) 0), none⟩,
    ⟨some 65, some (.extract (.tmp 53) 1), none⟩,
    ⟨some 13, some (.assign (.tmp 64)), none⟩,
    ⟨some 14, some (.assign (.tmp 65)), none⟩])
  (.seq (.reg [] [⟨some 66, some (.move (.tmp 14)), none⟩,
    ⟨some 67, some (.binOp .neq T_int (.tmp 66) (.const (.int .i64 0)) T_int), none⟩,
    ⟨some 68, some (.move (.tmp 67)), none⟩,
    ⟨some 69, some (.move (.tmp 1)), some (some 68, true)⟩,
    ⟨some 70, some (.move (.tmp 8)), some (some 68, true)⟩,
    ⟨some 71, some (.indexAddr T_s_plaitlaw8_Step (.tmp 69) (.tmp 70)), some (some 68, true)⟩,
    ⟨some 72, some (.fieldAddr T_plaitlaw8_Step (.tmp 71) 0), some (some 68, true)⟩,
    ⟨some 73, some (.load T_int (.tmp 72)), some (some 68, true)⟩,
    ⟨some 74, some (.binOp .lss T_int (.tmp 73) (.const (.int .i64 4)) T_int), some (some 68, true)⟩,
    ⟨some 75, some (.pick (.tmp 68) (.tmp 74) (.const (.bool false))), none⟩,
    ⟨some 76, some (.move (.tmp 75)), none⟩,
    ⟨some 77, some (.move (.tmp 7)), some (some 76, true)⟩,
    ⟨some 78, some (.call ⟨(.value (.func f_plait_aig_Graph_Nodes)), #[(.tmp 77)], #[T_p_aig_Graph]⟩), some (some 76, true)⟩,
    ⟨some 79, some (.move (.tmp 12)), some (some 76, true)⟩,
    ⟨some 80, some (.binOp .neq T_int (.tmp 78) (.tmp 79) T_int), some (some 76, true)⟩,
    ⟨some 81, some (.pick (.tmp 76) (.tmp 80) (.const (.bool false))), none⟩,
    ⟨some 82, some (.move (.tmp 81)), none⟩,
    ⟨some 83, some (.move (.tmp 7)), some (some 82, false)⟩,
    ⟨some 84, some (.call ⟨(.value (.func f_plait_aig_Graph_Nodes)), #[(.tmp 83)], #[T_p_aig_Graph]⟩), some (some 82, false)⟩,
    ⟨some 85, some (.move (.tmp 0)), some (some 82, false)⟩,
    ⟨some 86, some (.call ⟨(.builtin .max), #[(.tmp 85), (.const (.int .i64 1))], #[T_int, T_int]⟩), some (some 82, false)⟩,
    ⟨some 87, some (.binOp .gtr T_int (.tmp 84) (.tmp 86) T_int), some (some 82, false)⟩,
    ⟨some 88, some (.pick (.tmp 82) (.const (.bool true)) (.tmp 87)), none⟩])
  (.cond (.tmp 88) (.seq (.reg [] [⟨some 6, some (.assign (.const (.bool false))), none⟩])
  .ret)
  .skip))))))
  (.reg [] [⟨some 38, some (.move (.tmp 8)), none⟩,
    ⟨some 39, some (.binOp .add T_int (.tmp 38) (.const (.int .i64 1)) T_int), none⟩,
    ⟨some 8, some (.assign (.tmp 39)), none⟩])))
def l_plaitlaw8_AigOnce_2 : LCode := (.seq (.seq (.reg [] [⟨some 133, some (.move (.tmp 19)), none⟩,
    ⟨some 134, some (.move (.tmp 15)), none⟩,
    ⟨some 135, some (.binOp .lss T_int (.tmp 133) (.tmp 134) T_int), none⟩,
    ⟨some 136, some (.move (.tmp 135)), none⟩,
    ⟨some 137, some (.move (.tmp 18)), some (some 136, true)⟩,
    ⟨some 138, some (.pick (.tmp 136) (.tmp 137) (.const (.bool false))), none⟩])
  (.cond (.tmp 138) .skip
  (.exit 4)))
  (.seq (.block 5 (.seq (.reg [] [⟨some 142, some (.move (.tmp 7)), none⟩,
    ⟨some 143, some (.move (.tmp 19)), none⟩,
    ⟨some 144, some (.call ⟨(.value (.func f_plait_aig_Graph_Kids)), #[(.tmp 142), (.tmp 143)], #[T_p_aig_Graph, T_int]⟩), none⟩,
    ⟨some 141, some (.move (.tmp 144)), none⟩,
    ⟨some 145, some (.extract (.tmp 141) 0), none⟩,
    ⟨some 146, some (.extract (.tmp 141) 1), none⟩,
    ⟨some 147, some (.extract (.tmp 141) 2), none⟩,
    ⟨some 20, some (.assign (.tmp 145)), none⟩,
    ⟨some 21, some (.assign (.tmp 146)), none⟩,
    ⟨some 22, some (.assign (.tmp 147)), none⟩])
  (.seq (.reg [] [⟨some 148, some (.move (.tmp 22)), none⟩,
    ⟨some 149, some (.move (.tmp 148)), none⟩,
    ⟨some 150, some (.move (.tmp 20)), some (some 149, true)⟩,
    ⟨some 151, some (.move (.tmp 16)), some (some 149, true)⟩,
    ⟨some 152, some (.binOp .eql T_int (.tmp 150) (.tmp 151) T_int), some (some 149, true)⟩,
    ⟨some 153, some (.pick (.tmp 149) (.tmp 152) (.const (.bool false))), none⟩,
    ⟨some 154, some (.move (.tmp 153)), none⟩,
    ⟨some 155, some (.move (.tmp 21)), some (some 154, true)⟩,
    ⟨some 156, some (.move (.tmp 17)), some (some 154, true)⟩,
    ⟨some 157, some (.binOp .eql T_int (.tmp 155) (.tmp 156) T_int), some (some 154, true)⟩,
    ⟨some 158, some (.pick (.tmp 154) (.tmp 157) (.const (.bool false))), none⟩])
  (.cond (.tmp 158) (.seq (.reg [] [⟨some 6, some (.assign (.const (.bool false))), none⟩])
  .ret)
  .skip))))
  (.reg [] [⟨some 139, some (.move (.tmp 19)), none⟩,
    ⟨some 140, some (.binOp .add T_int (.tmp 139) (.const (.int .i64 1)) T_int), none⟩,
    ⟨some 19, some (.assign (.tmp 140)), none⟩])))
def l_plaitlaw8_AigOnce_1 : LCode := (.seq (.seq (.reg [] [⟨some 98, some (.move (.tmp 15)), none⟩,
    ⟨some 99, some (.move (.tmp 7)), none⟩,
    ⟨some 100, some (.call ⟨(.value (.func f_plait_aig_Graph_Nodes)), #[(.tmp 99)], #[T_p_aig_Graph]⟩), none⟩,
    ⟨some 101, some (.binOp .leq T_int (.tmp 98) (.tmp 100) T_int), none⟩])
  (.cond (.tmp 101) .skip
  (.exit 2)))
  (.seq (.block 3 (.seq (.reg [] [⟨some 105, some (.move (.tmp 7)), none⟩,
    ⟨some 106, some (.move (.tmp 15)), none⟩,
    ⟨some 107, some (.call ⟨(.value (.func f_plait_aig_Graph_Kids)), #[(.tmp 105), (.tmp 106)], #[T_p_aig_Graph, T_int]⟩), none⟩,
    ⟨some 104, some (.move (.tmp 107)), none⟩,
    ⟨some 108, some (.extract (.tmp 104) 0), none⟩,
    ⟨some 109, some (.extract (.tmp 104) 1), none⟩,
    ⟨some 110, some (.extract (.tmp 104) 2), none⟩,
    ⟨some 16, some (.assign (.tmp 108)), none⟩,
    ⟨some 17, some (.assign (.tmp 109)), none⟩,
    ⟨some 18, some (.assign (.tmp 110)), none⟩])
  (.seq (.seq (.reg [] [⟨some 111, some (.move (.tmp 18)), none⟩,
    ⟨some 112, some (.move (.tmp 111)), none⟩,
    ⟨some 113, some (.move (.tmp 16)), some (some 112, true)⟩,
    ⟨some 114, some (.binOp .lss T_int (.tmp 113) (.const (.int .i64 2)) T_int), some (some 112, true)⟩,
    ⟨some 115, some (.move (.tmp 114)), some (some 112, true)⟩,
    ⟨some 116, some (.move (.tmp 16)), some (some 115, false)⟩,
    ⟨some 117, some (.move (.tmp 17)), some (some 115, false)⟩,
    ⟨some 118, some (.binOp .geq T_int (.tmp 116) (.tmp 117) T_int), some (some 115, false)⟩,
    ⟨some 119, some (.pick (.tmp 115) (.const (.bool true)) (.tmp 118)), some (some 112, true)⟩,
    ⟨some 120, some (.move (.tmp 119)), some (some 112, true)⟩,
    ⟨some 121, some (.move (.tmp 17)), some (some 120, false)⟩,
    ⟨some 122, some (.move (.tmp 15)), some (some 120, false)⟩,
    ⟨some 123, some (.binOp .mul T_int (.const (.int .i64 2)) (.tmp 122) T_int), some (some 120, false)⟩,
    ⟨some 124, some (.binOp .geq T_int (.tmp 121) (.tmp 123) T_int), some (some 120, false)⟩,
    ⟨some 125, some (.pick (.tmp 120) (.const (.bool true)) (.tmp 124)), some (some 112, true)⟩,
    ⟨some 126, some (.move (.tmp 125)), some (some 112, true)⟩,
    ⟨some 127, some (.move (.tmp 16)), some (some 126, false)⟩,
    ⟨some 128, some (.binOp .xor T_int (.tmp 127) (.const (.int .i64 1)) T_int), some (some 126, false)⟩,
    ⟨some 129, some (.move (.tmp 17)), some (some 126, false)⟩,
    ⟨some 130, some (.binOp .eql T_int (.tmp 128) (.tmp 129) T_int), some (some 126, false)⟩,
    ⟨some 131, some (.pick (.tmp 126) (.const (.bool true)) (.tmp 130)), some (some 112, true)⟩,
    ⟨some 132, some (.pick (.tmp 112) (.tmp 131) (.const (.bool false))), none⟩])
  (.cond (.tmp 132) (.seq (.reg [] [⟨some 6, some (.assign (.const (.bool false))), none⟩])
  .ret)
  .skip))
  (.seq (.seq (.reg [] [⟨some 19, some (.assign (.const (.int .i64 1))), none⟩])
  (.block 4 (.loop l_plaitlaw8_AigOnce_2)))
  (.seq (.reg [] [⟨some 160, some (.move (.tmp 7)), none⟩,
    ⟨some 161, some (.move (.tmp 15)), none⟩,
    ⟨some 162, some (.binOp .mul T_int (.const (.int .i64 2)) (.tmp 161) T_int), none⟩,
    ⟨some 163, some (.move (.tmp 2)), none⟩,
    ⟨some 164, some (.call ⟨(.value (.func f_plait_aig_Graph_Eval)), #[(.tmp 160), (.tmp 162), (.tmp 163)], #[T_p_aig_Graph, T_int, T_s_bool]⟩), none⟩,
    ⟨some 159, some (.move (.tmp 164)), none⟩,
    ⟨some 165, some (.extract (.tmp 159) 0), none⟩,
    ⟨some 166, some (.extract (.tmp 159) 1), none⟩,
    ⟨some 23, some (.assign (.tmp 165)), none⟩,
    ⟨some 24, some (.assign (.tmp 166)), none⟩])
  (.seq (.reg [] [⟨some 168, some (.move (.tmp 7)), none⟩,
    ⟨some 169, some (.move (.tmp 15)), none⟩,
    ⟨some 170, some (.binOp .mul T_int (.const (.int .i64 2)) (.tmp 169) T_int), none⟩,
    ⟨some 171, some (.binOp .add T_int (.tmp 170) (.const (.int .i64 1)) T_int), none⟩,
    ⟨some 172, some (.move (.tmp 2)), none⟩,
    ⟨some 173, some (.call ⟨(.value (.func f_plait_aig_Graph_Eval)), #[(.tmp 168), (.tmp 171), (.tmp 172)], #[T_p_aig_Graph, T_int, T_s_bool]⟩), none⟩,
    ⟨some 167, some (.move (.tmp 173)), none⟩,
    ⟨some 174, some (.extract (.tmp 167) 0), none⟩,
    ⟨some 175, some (.extract (.tmp 167) 1), none⟩,
    ⟨some 25, some (.assign (.tmp 174)), none⟩,
    ⟨some 26, some (.assign (.tmp 175)), none⟩])
  (.seq (.reg [] [⟨some 176, some (.move (.tmp 24)), none⟩,
    ⟨some 177, some (.move (.tmp 26)), none⟩,
    ⟨some 178, some (.binOp .add T_int (.tmp 176) (.tmp 177) T_int), none⟩,
    ⟨some 179, some (.binOp .neq T_int (.tmp 178) (.const (.int .i64 0)) T_int), none⟩,
    ⟨some 180, some (.move (.tmp 179)), none⟩,
    ⟨some 181, some (.move (.tmp 23)), some (some 180, false)⟩,
    ⟨some 182, some (.move (.tmp 25)), some (some 180, false)⟩,
    ⟨some 183, some (.binOp .eql T_bool (.tmp 181) (.tmp 182) T_bool), some (some 180, false)⟩,
    ⟨some 184, some (.pick (.tmp 180) (.const (.bool true)) (.tmp 183)), none⟩])
  (.cond (.tmp 184) (.seq (.reg [] [⟨some 6, some (.assign (.const (.bool false))), none⟩])
  .ret)
  .skip))))))))
  (.reg [] [⟨some 102, some (.move (.tmp 15)), none⟩,
    ⟨some 103, some (.binOp .add T_int (.tmp 102) (.const (.int .i64 1)) T_int), none⟩,
    ⟨some 15, some (.assign (.tmp 103)), none⟩])))
@[simp] theorem d_l_plaitlaw8_AigOnce_0 : defs l_plaitlaw8_AigOnce_0 = [34, 35, 36, 37, 41, 42, 43, 44, 45, 46, 47, 40, 48, 49, 50, 9, 10, 11, 51, 52, 12, 54, 55, 56, 57, 58, 59, 60, 61, 62, 63, 53, 64, 65, 13, 14, 66, 67, 68, 69, 70, 71, 72, 73, 74, 75, 76, 77, 78, 79, 80, 81, 82, 83, 84, 85, 86, 87, 88, 6, 38, 39, 8] := by rfl
@[simp] theorem d_l_plaitlaw8_AigOnce_2 : defs l_plaitlaw8_AigOnce_2 = [133, 134, 135, 136, 137, 138, 142, 143, 144, 141, 145, 146, 147, 20, 21, 22, 148, 149, 150, 151, 152, 153, 154, 155, 156, 157, 158, 6, 139, 140, 19] := by rfl
@[simp] theorem d_l_plaitlaw8_AigOnce_1 : defs l_plaitlaw8_AigOnce_1 = [98, 99, 100, 101, 105, 106, 107, 104, 108, 109, 110, 16, 17, 18, 111, 112, 113, 114, 115, 116, 117, 118, 119, 120, 121, 122, 123, 124, 125, 126, 127, 128, 129, 130, 131, 132, 6, 19, 133, 134, 135, 136, 137, 138, 142, 143, 144, 141, 145, 146, 147, 20, 21, 22, 148, 149, 150, 151, 152, 153, 154, 155, 156, 157, 158, 6, 139, 140, 19, 160, 161, 162, 163, 164, 159, 165, 166, 23, 24, 168, 169, 170, 171, 172, 173, 167, 174, 175, 25, 26, 176, 177, 178, 179, 180, 181, 182, 183, 184, 6, 102, 103, 15] := by rfl
def c_plaitlaw8_AigOnce : LCode := (.seq (.reg [] [⟨some 6, some (.assign (.const (.bool false))), none⟩])
  (.seq (.seq (.reg [] [⟨some 27, some (.call ⟨(.value (.func f_plaitlaw8_known)), #[], #[]⟩), none⟩,
    ⟨some 28, some (.unOp .not T_bool (.tmp 27)), none⟩])
  (.cond (.tmp 28) (.seq (.reg [] [⟨some 6, some (.assign (.const (.bool false))), none⟩])
  .ret)
  .skip))
  (.seq (.seq (.reg [] [⟨some 29, some (.move (.tmp 1)), none⟩,
    ⟨some 30, some (.call ⟨(.builtin .len), #[(.tmp 29)], #[T_s_plaitlaw8_Step]⟩), none⟩,
    ⟨some 31, some (.binOp .gtr T_int (.tmp 30) (.const (.int .i64 200)) T_int), none⟩])
  (.cond (.tmp 31) (.seq (.reg [] [⟨some 6, some (.assign (.const (.bool true))), none⟩])
  .ret)
  .skip))
  (.seq (.reg [] [⟨some 32, some (.move (.tmp 0)), none⟩,
    ⟨some 33, some (.call ⟨(.value (.func f_aig_New)), #[(.tmp 32)], #[T_int]⟩), none⟩,
    ⟨some 7, some (.assign (.tmp 33)), none⟩])
  (.seq (.seq (.reg [] [⟨some 8, some (.assign (.const (.int .i64 0))), none⟩])
  (.block 0 (.loop l_plaitlaw8_AigOnce_0)))
  (.seq (.reg [] [⟨some 89, some (.move (.tmp 2)), none⟩,
    ⟨some 90, some (.call ⟨(.builtin .append), #[(.const (.slice none 0 0)), (.tmp 89)], #[T_s_bool, T_s_bool]⟩), none⟩,
    ⟨some 91, some (.move (.tmp 7)), none⟩,
    ⟨some 92, some (.call ⟨(.value (.func f_plait_aig_Graph_Nodes)), #[(.tmp 91)], #[T_p_aig_Graph]⟩), none⟩,
    ⟨some 93, some (.call ⟨(.builtin .append), #[(.tmp 90), (.tmp 92)], #[T_s_bool, T_int]⟩), none⟩,
    ⟨some 94, some (.move (.tmp 7)), none⟩,
    ⟨some 95, some (.call ⟨(.value (.func f_plait_aig_Graph_Inputs)), #[(.tmp 94)], #[T_p_aig_Graph]⟩), none⟩,
    ⟨some 96, some (.call ⟨(.builtin .len), #[(.tmp 95)], #[T_s_int]⟩), none⟩,
    ⟨some 97, some (.slice T_s_bool (.tmp 93) none (some (.tmp 96)) none), none⟩,
    ⟨some 2, some (.assign (.tmp 97)), none⟩])
  (.seq (.seq (.reg [] [⟨some 15, some (.assign (.const (.int .i64 1))), none⟩])
  (.block 2 (.loop l_plaitlaw8_AigOnce_1)))
  (.seq (.reg [] [⟨some 6, some (.assign (.const (.bool true))), none⟩])
  .ret))))))))
theorem e_plaitlaw8_AigOnce {a0 a1 a2 : AV} {H : AHeap} : R f_plaitlaw8_AigOnce [a0, a1, a2] H = fnK Go.Proofs.Try.prog [] H [(.tmp 6)] (evalL Go.Proofs.Try.prog KT R c_plaitlaw8_AigOnce (Env.args [a0, a1, a2] 0) H) :=
  runs_body (D := DT) (f := f_plaitlaw8_AigOnce) Go.Proofs.Try.func6 (by kernel_rfl) (by kernel_rfl) (by kernel_rfl) (by kernel_rfl) (by kernel_rfl) (Nat.le_of_ble_eq_true rfl)

def l_plaitlaw8_AigTurns_0 : LCode := (.seq (.seq (.reg [] [⟨some 43, some (.move (.tmp 10)), none⟩,
    ⟨some 44, some (.move (.tmp 0)), none⟩,
    ⟨some 45, some (.call ⟨(.builtin .len), #[(.tmp 44)], #[T_s_plaitlaw8_Step]⟩), none⟩,
    ⟨some 46, some (.binOp .lss T_int (.tmp 43) (.tmp 45) T_int), none⟩])
  (.cond (.tmp 46) .skip
  (.exit 0)))
  (.seq (.block 1 (.seq (.reg [5] [⟨some 50, some (.move (.tmp 0)), none⟩,
    ⟨some 51, some (.move (.tmp 10)), none⟩,
    ⟨some 52, some (.indexAddr T_s_plaitlaw8_Step (.tmp 50) (.tmp 51)), none⟩,
    ⟨some 53, some (.load T_plaitlaw8_Step (.tmp 52)), none⟩,
    ⟨some 54, some (.move (.tmp 9)), none⟩,
    ⟨some 55, some (.call ⟨(.value (.func f_plait_aig_Graph_Nodes)), #[(.tmp 54)], #[T_p_aig_Graph]⟩), none⟩,
    ⟨some 56, some (.call ⟨(.value (.func f_plaitlaw8_lits)), #[(.tmp 53), (.tmp 55)], #[T_plaitlaw8_Step, T_int]⟩), none⟩,
    ⟨some 49, some (.move (.tmp 56)), none⟩,
    ⟨some 57, some (.extract (.tmp 49) 0), none⟩,
    ⟨some 58, some (.extract (.tmp 49) 1), none⟩,
    ⟨some 59, some (.extract (.tmp 49) 2), none⟩,
    ⟨some 11, some (.assign (.tmp 57)), none⟩,
    ⟨some 12, some (.assign (.tmp 58)), none⟩,
    ⟨some 13, some (.assign (.tmp 59)), none⟩])
  (.reg [] [⟨some 60, some (.move (.tmp 9)), none⟩,
    ⟨some 61, some (.move (.tmp 0)), none⟩,
    ⟨some 62, some (.move (.tmp 10)), none⟩,
    ⟨some 63, some (.indexAddr T_s_plaitlaw8_Step (.tmp 61) (.tmp 62)), none⟩,
    ⟨some 64, some (.fieldAddr T_plaitlaw8_Step (.tmp 63) 0), none⟩,
    ⟨some 65, some (.load T_int (.tmp 64)), none⟩,
    ⟨some 66, some (.move (.tmp 11)), none⟩,
    ⟨some 67, some (.move (.tmp 12)), none⟩,
    ⟨some 68, some (.move (.tmp 13)), none⟩,
    ⟨some 69, some (.call ⟨(.value (.func f_plaitlaw8_does)), #[(.tmp 60), (.tmp 65), (.tmp 66), (.tmp 67), (.tmp 68)], #[T_p_aig_Graph, T_int, T_int, T_int, T_int]⟩), none⟩])))
  (.reg [] [⟨some 47, some (.move (.tmp 10)), none⟩,
    ⟨some 48, some (.binOp .add T_int (.tmp 47) (.const (.int .i64 1)) T_int), none⟩,
    ⟨some 10, some (.assign (.tmp 48)), none⟩])))
@[simp] theorem d_l_plaitlaw8_AigTurns_0 : defs l_plaitlaw8_AigTurns_0 = [43, 44, 45, 46, 50, 51, 52, 53, 54, 55, 56, 49, 57, 58, 59, 11, 12, 13, 60, 61, 62, 63, 64, 65, 66, 67, 68, 69, 47, 48, 10] := by rfl
def c_plaitlaw8_AigTurns : LCode := (.seq (.reg [] [⟨some 8, some (.assign (.const (.bool false))), none⟩])
  (.seq (.seq (.reg [] [⟨some 37, some (.call ⟨(.value (.func f_plaitlaw8_known)), #[], #[]⟩), none⟩,
    ⟨some 38, some (.unOp .not T_bool (.tmp 37)), none⟩])
  (.cond (.tmp 38) (.seq (.reg [] [⟨some 8, some (.assign (.const (.bool false))), none⟩])
  .ret)
  .skip))
  (.seq (.seq (.reg [] [⟨some 39, some (.move (.tmp 0)), none⟩,
    ⟨some 40, some (.call ⟨(.builtin .len), #[(.tmp 39)], #[T_s_plaitlaw8_Step]⟩), none⟩,
    ⟨some 41, some (.binOp .gtr T_int (.tmp 40) (.const (.int .i64 120)) T_int), none⟩])
  (.cond (.tmp 41) (.seq (.reg [] [⟨some 8, some (.assign (.const (.bool true))), none⟩])
  .ret)
  .skip))
  (.seq (.reg [] [⟨some 42, some (.call ⟨(.value (.func f_aig_New)), #[(.const (.int .i64 4000))], #[T_int]⟩), none⟩,
    ⟨some 9, some (.assign (.tmp 42)), none⟩])
  (.seq (.seq (.reg [] [⟨some 10, some (.assign (.const (.int .i64 0))), none⟩])
  (.block 0 (.loop l_plaitlaw8_AigTurns_0)))
  (.seq (.reg [] [⟨some 70, some (.move (.tmp 9)), none⟩,
    ⟨some 71, some (.call ⟨(.value (.func f_plait_aig_Graph_Nodes)), #[(.tmp 70)], #[T_p_aig_Graph]⟩), none⟩,
    ⟨some 72, some (.binOp .mul T_int (.const (.int .i64 2)) (.tmp 71) T_int), none⟩,
    ⟨some 73, some (.binOp .add T_int (.tmp 72) (.const (.int .i64 2)) T_int), none⟩,
    ⟨some 14, some (.assign (.tmp 73)), none⟩])
  (.seq (.reg [] [⟨some 74, some (.move (.tmp 1)), none⟩,
    ⟨some 75, some (.move (.tmp 14)), none⟩,
    ⟨some 76, some (.call ⟨(.value (.func f_plaithelp_Place)), #[(.tmp 74), (.tmp 75)], #[T_int, T_int]⟩), none⟩,
    ⟨some 77, some (.move (.tmp 2)), none⟩,
    ⟨some 78, some (.move (.tmp 14)), none⟩,
    ⟨some 79, some (.call ⟨(.value (.func f_plaithelp_Place)), #[(.tmp 77), (.tmp 78)], #[T_int, T_int]⟩), none⟩,
    ⟨some 80, some (.move (.tmp 3)), none⟩,
    ⟨some 81, some (.move (.tmp 14)), none⟩,
    ⟨some 82, some (.call ⟨(.value (.func f_plaithelp_Place)), #[(.tmp 80), (.tmp 81)], #[T_int, T_int]⟩), none⟩,
    ⟨some 15, some (.assign (.tmp 76)), none⟩,
    ⟨some 16, some (.assign (.tmp 79)), none⟩,
    ⟨some 17, some (.assign (.tmp 82)), none⟩])
  (.seq (.reg [] [⟨some 84, some (.move (.tmp 9)), none⟩,
    ⟨some 85, some (.move (.tmp 15)), none⟩,
    ⟨some 86, some (.move (.tmp 16)), none⟩,
    ⟨some 87, some (.call ⟨(.value (.func f_plait_aig_Graph_And)), #[(.tmp 84), (.tmp 85), (.tmp 86)], #[T_p_aig_Graph, T_int, T_int]⟩), none⟩,
    ⟨some 83, some (.move (.tmp 87)), none⟩,
    ⟨some 88, some (.extract (.tmp 83) 0), none⟩,
    ⟨some 89, some (.extract (.tmp 83) 1), none⟩,
    ⟨some 18, some (.assign (.tmp 88)), none⟩,
    ⟨some 19, some (.assign (.tmp 89)), none⟩])
  (.seq (.reg [] [⟨some 91, some (.move (.tmp 9)), none⟩,
    ⟨some 92, some (.move (.tmp 15)), none⟩,
    ⟨some 93, some (.move (.tmp 16)), none⟩,
    ⟨some 94, some (.call ⟨(.value (.func f_plait_aig_Graph_Or)), #[(.tmp 91), (.tmp 92), (.tmp 93)], #[T_p_aig_Graph, T_int, T_int]⟩), none⟩,
    ⟨some 90, some (.move (.tmp 94)), none⟩,
    ⟨some 95, some (.extract (.tmp 90) 0), none⟩,
    ⟨some 96, some (.extract (.tmp 90) 1), none⟩,
    ⟨some 20, some (.assign (.tmp 95)), none⟩,
    ⟨some 21, some (.assign (.tmp 96)), none⟩])
  (.seq (.reg [] [⟨some 98, some (.move (.tmp 9)), none⟩,
    ⟨some 99, some (.move (.tmp 15)), none⟩,
    ⟨some 100, some (.move (.tmp 16)), none⟩,
    ⟨some 101, some (.call ⟨(.value (.func f_plait_aig_Graph_Xor)), #[(.tmp 98), (.tmp 99), (.tmp 100)], #[T_p_aig_Graph, T_int, T_int]⟩), none⟩,
    ⟨some 97, some (.move (.tmp 101)), none⟩,
    ⟨some 102, some (.extract (.tmp 97) 0), none⟩,
    ⟨some 103, some (.extract (.tmp 97) 1), none⟩,
    ⟨some 22, some (.assign (.tmp 102)), none⟩,
    ⟨some 23, some (.assign (.tmp 103)), none⟩])
  (.seq (.reg [] [⟨some 105, some (.move (.tmp 9)), none⟩,
    ⟨some 106, some (.move (.tmp 17)), none⟩,
    ⟨some 107, some (.move (.tmp 15)), none⟩,
    ⟨some 108, some (.move (.tmp 16)), none⟩,
    ⟨some 109, some (.call ⟨(.value (.func f_plait_aig_Graph_Mux)), #[(.tmp 105), (.tmp 106), (.tmp 107), (.tmp 108)], #[T_p_aig_Graph, T_int, T_int, T_int]⟩), none⟩,
    ⟨some 104, some (.move (.tmp 109)), none⟩,
    ⟨some 110, some (.extract (.tmp 104) 0), none⟩,
    ⟨some 111, some (.extract (.tmp 104) 1), none⟩,
    ⟨some 24, some (.assign (.tmp 110)), none⟩,
    ⟨some 25, some (.assign (.tmp 111)), none⟩])
  (.seq (.seq (.reg [] [⟨some 112, some (.move (.tmp 19)), none⟩,
    ⟨some 113, some (.move (.tmp 21)), none⟩,
    ⟨some 114, some (.binOp .add T_int (.tmp 112) (.tmp 113) T_int), none⟩,
    ⟨some 115, some (.move (.tmp 23)), none⟩,
    ⟨some 116, some (.binOp .add T_int (.tmp 114) (.tmp 115) T_int), none⟩,
    ⟨some 117, some (.move (.tmp 25)), none⟩,
    ⟨some 118, some (.binOp .add T_int (.tmp 116) (.tmp 117) T_int), none⟩,
    ⟨some 119, some (.binOp .neq T_int (.tmp 118) (.const (.int .i64 0)) T_int), none⟩])
  (.cond (.tmp 119) (.seq (.reg [] [⟨some 8, some (.assign (.const (.bool false))), none⟩])
  .ret)
  .skip))
  (.seq (.reg [] [⟨some 120, some (.move (.tmp 9)), none⟩,
    ⟨some 121, some (.call ⟨(.value (.func f_plait_aig_Graph_Nodes)), #[(.tmp 120)], #[T_p_aig_Graph]⟩), none⟩,
    ⟨some 26, some (.assign (.tmp 121)), none⟩])
  (.seq (.reg [] [⟨some 123, some (.move (.tmp 9)), none⟩,
    ⟨some 124, some (.move (.tmp 16)), none⟩,
    ⟨some 125, some (.move (.tmp 15)), none⟩,
    ⟨some 126, some (.call ⟨(.value (.func f_plait_aig_Graph_And)), #[(.tmp 123), (.tmp 124), (.tmp 125)], #[T_p_aig_Graph, T_int, T_int]⟩), none⟩,
    ⟨some 122, some (.move (.tmp 126)), none⟩,
    ⟨some 127, some (.extract (.tmp 122) 0), none⟩,
    ⟨some 128, some (.extract (.tmp 122) 1), none⟩,
    ⟨some 27, some (.assign (.tmp 127)), none⟩,
    ⟨some 28, some (.assign (.tmp 128)), none⟩])
  (.seq (.reg [] [⟨some 130, some (.move (.tmp 9)), none⟩,
    ⟨some 131, some (.move (.tmp 16)), none⟩,
    ⟨some 132, some (.move (.tmp 15)), none⟩,
    ⟨some 133, some (.call ⟨(.value (.func f_plait_aig_Graph_Or)), #[(.tmp 130), (.tmp 131), (.tmp 132)], #[T_p_aig_Graph, T_int, T_int]⟩), none⟩,
    ⟨some 129, some (.move (.tmp 133)), none⟩,
    ⟨some 134, some (.extract (.tmp 129) 0), none⟩,
    ⟨some 135, some (.extract (.tmp 129) 1), none⟩,
    ⟨some 29, some (.assign (.tmp 134)), none⟩,
    ⟨some 30, some (.assign (.tmp 135)), none⟩])
  (.seq (.reg [] [⟨some 137, some (.move (.tmp 9)), none⟩,
    ⟨some 138, some (.move (.tmp 16)), none⟩,
    ⟨some 139, some (.move (.tmp 15)), none⟩,
    ⟨some 140, some (.call ⟨(.value (.func f_plait_aig_Graph_Xor)), #[(.tmp 137), (.tmp 138), (.tmp 139)], #[T_p_aig_Graph, T_int, T_int]⟩), none⟩,
    ⟨some 136, some (.move (.tmp 140)), none⟩,
    ⟨some 141, some (.extract (.tmp 136) 0), none⟩,
    ⟨some 142, some (.extract (.tmp 136) 1), none⟩,
    ⟨some 31, some (.assign (.tmp 141)), none⟩,
    ⟨some 32, some (.assign (.tmp 142)), none⟩])
  (.seq (.reg [] [⟨some 144, some (.move (.tmp 9)), none⟩,
    ⟨some 145, some (.move (.tmp 17)), none⟩,
    ⟨some 146, some (.binOp .xor T_int (.tmp 145) (.const (.int .i64 1)) T_int), none⟩,
    ⟨some 147, some (.move (.tmp 16)), none⟩,
    ⟨some 148, some (.move (.tmp 15)), none⟩,
    ⟨some 149, some (.call ⟨(.value (.func f_plait_aig_Graph_Mux)), #[(.tmp 144), (.tmp 146), (.tmp 147), (.tmp 148)], #[T_p_aig_Graph, T_int, T_int, T_int]⟩), none⟩,
    ⟨some 143, some (.move (.tmp 149)), none⟩,
    ⟨some 150, some (.extract (.tmp 143) 0), none⟩,
    ⟨some 151, some (.extract (.tmp 143) 1), none⟩,
    ⟨some 33, some (.assign (.tmp 150)), none⟩,
    ⟨some 34, some (.assign (.tmp 151)), none⟩])
  (.seq (.reg [] [⟨some 153, some (.move (.tmp 9)), none⟩,
    ⟨some 154, some (.move (.tmp 15)), none⟩,
    ⟨some 155, some (.binOp .xor T_int (.tmp 154) (.const (.int .i64 1)) T_int), none⟩,
    ⟨some 156, some (.move (.tmp 16)), none⟩,
    ⟨some 157, some (.binOp .xor T_int (.tmp 156) (.const (.int .i64 1)) T_int), none⟩,
    ⟨some 158, some (.call ⟨(.value (.func f_plait_aig_Graph_And)), #[(.tmp 153), (.tmp 155), (.tmp 157)], #[T_p_aig_Graph, T_int, T_int]⟩), none⟩,
    ⟨some 152, some (.move (.tmp 158)), none⟩,
    ⟨some 159, some (.extract (.tmp 152) 0), none⟩,
    ⟨some 160, some (.extract (.tmp 152) 1), none⟩,
    ⟨some 35, some (.assign (.tmp 159)), none⟩,
    ⟨some 36, some (.assign (.tmp 160)), none⟩])
  (.seq (.reg [] [⟨some 161, some (.move (.tmp 27)), none⟩,
    ⟨some 162, some (.move (.tmp 18)), none⟩,
    ⟨some 163, some (.binOp .eql T_int (.tmp 161) (.tmp 162) T_int), none⟩,
    ⟨some 164, some (.move (.tmp 163)), none⟩,
    ⟨some 165, some (.move (.tmp 29)), some (some 164, true)⟩,
    ⟨some 166, some (.move (.tmp 20)), some (some 164, true)⟩,
    ⟨some 167, some (.binOp .eql T_int (.tmp 165) (.tmp 166) T_int), some (some 164, true)⟩,
    ⟨some 168, some (.pick (.tmp 164) (.tmp 167) (.const (.bool false))), none⟩,
    ⟨some 169, some (.move (.tmp 168)), none⟩,
    ⟨some 170, some (.move (.tmp 31)), some (some 169, true)⟩,
    ⟨some 171, some (.move (.tmp 22)), some (some 169, true)⟩,
    ⟨some 172, some (.binOp .eql T_int (.tmp 170) (.tmp 171) T_int), some (some 169, true)⟩,
    ⟨some 173, some (.pick (.tmp 169) (.tmp 172) (.const (.bool false))), none⟩,
    ⟨some 174, some (.move (.tmp 173)), none⟩,
    ⟨some 175, some (.move (.tmp 33)), some (some 174, true)⟩,
    ⟨some 176, some (.move (.tmp 24)), some (some 174, true)⟩,
    ⟨some 177, some (.binOp .eql T_int (.tmp 175) (.tmp 176) T_int), some (some 174, true)⟩,
    ⟨some 178, some (.pick (.tmp 174) (.tmp 177) (.const (.bool false))), none⟩,
    ⟨some 179, some (.move (.tmp 178)), none⟩,
    ⟨some 180, some (.move (.tmp 35)), some (some 179, true)⟩,
    ⟨some 181, some (.binOp .xor T_int (.tmp 180) (.const (.int .i64 1)) T_int), some (some 179, true)⟩,
    ⟨some 182, some (.move (.tmp 20)), some (some 179, true)⟩,
    ⟨some 183, some (.binOp .eql T_int (.tmp 181) (.tmp 182) T_int), some (some 179, true)⟩,
    ⟨some 184, some (.pick (.tmp 179) (.tmp 183) (.const (.bool false))), none⟩,
    ⟨some 185, some (.move (.tmp 184)), none⟩,
    ⟨some 186, some (.move (.tmp 9)), some (some 185, true)⟩,
    ⟨some 187, some (.call ⟨(.value (.func f_plait_aig_Graph_Nodes)), #[(.tmp 186)], #[T_p_aig_Graph]⟩), some (some 185, true)⟩,
    ⟨some 188, some (.move (.tmp 26)), some (some 185, true)⟩,
    ⟨some 189, some (.binOp .eql T_int (.tmp 187) (.tmp 188) T_int), some (some 185, true)⟩,
    ⟨some 190, some (.pick (.tmp 185) (.tmp 189) (.const (.bool false))), none⟩,
    ⟨some 8, some (.assign (.tmp 190)), none⟩])
  .ret)))))))))))))))))))
theorem e_plaitlaw8_AigTurns {a0 a1 a2 a3 : AV} {H : AHeap} : R f_plaitlaw8_AigTurns [a0, a1, a2, a3] H = fnK Go.Proofs.Try.prog [] H [(.tmp 8)] (evalL Go.Proofs.Try.prog KT R c_plaitlaw8_AigTurns (Env.args [a0, a1, a2, a3] 0) H) :=
  runs_body (D := DT) (f := f_plaitlaw8_AigTurns) Go.Proofs.Try.func7 (by kernel_rfl) (by kernel_rfl) (by kernel_rfl) (by kernel_rfl) (by kernel_rfl) (Nat.le_of_ble_eq_true rfl)

def c_plaitlaw8_known : LCode := (.seq (.reg [] [⟨some 0, some (.assign (.const (.bool false))), none⟩])
  (.seq (.reg [] [⟨some 21, some (.call ⟨(.value (.func f_aig_New)), #[(.const (.int .i64 50))], #[T_int]⟩), none⟩,
    ⟨some 1, some (.assign (.tmp 21)), none⟩])
  (.seq (.seq (.reg [] [⟨some 22, some (.move (.tmp 1)), none⟩,
    ⟨some 23, some (.binOp .eql T_p_aig_Graph (.tmp 22) (.const (.pointer none)) T_p_aig_Graph), none⟩])
  (.cond (.tmp 23) (.seq (.reg [] [⟨some 0, some (.assign (.const (.bool false))), none⟩])
  .ret)
  .skip))
  (.seq (.reg [] [⟨some 25, some (.move (.tmp 1)), none⟩,
    ⟨some 26, some (.call ⟨(.value (.func f_plait_aig_Graph_Input)), #[(.tmp 25)], #[T_p_aig_Graph]⟩), none⟩,
    ⟨some 24, some (.move (.tmp 26)), none⟩,
    ⟨some 27, some (.extract (.tmp 24) 0), none⟩,
    ⟨some 28, some (.extract (.tmp 24) 1), none⟩,
    ⟨some 2, some (.assign (.tmp 27)), none⟩,
    ⟨some 3, some (.assign (.tmp 28)), none⟩])
  (.seq (.reg [] [⟨some 30, some (.move (.tmp 1)), none⟩,
    ⟨some 31, some (.call ⟨(.value (.func f_plait_aig_Graph_Input)), #[(.tmp 30)], #[T_p_aig_Graph]⟩), none⟩,
    ⟨some 29, some (.move (.tmp 31)), none⟩,
    ⟨some 32, some (.extract (.tmp 29) 0), none⟩,
    ⟨some 33, some (.extract (.tmp 29) 1), none⟩,
    ⟨some 4, some (.assign (.tmp 32)), none⟩,
    ⟨some 5, some (.assign (.tmp 33)), none⟩])
  (.seq (.reg [] [⟨some 35, some (.move (.tmp 1)), none⟩,
    ⟨some 36, some (.move (.tmp 4)), none⟩,
    ⟨some 37, some (.move (.tmp 2)), none⟩,
    ⟨some 38, some (.call ⟨(.value (.func f_plait_aig_Graph_And)), #[(.tmp 35), (.tmp 36), (.tmp 37)], #[T_p_aig_Graph, T_int, T_int]⟩), none⟩,
    ⟨some 34, some (.move (.tmp 38)), none⟩,
    ⟨some 39, some (.extract (.tmp 34) 0), none⟩,
    ⟨some 40, some (.extract (.tmp 34) 1), none⟩,
    ⟨some 6, some (.assign (.tmp 39)), none⟩,
    ⟨some 7, some (.assign (.tmp 40)), none⟩])
  (.seq (.reg [] [⟨some 42, some (.move (.tmp 1)), none⟩,
    ⟨some 43, some (.call ⟨(.value (.func f_plait_aig_Graph_And)), #[(.tmp 42), (.const (.int .i64 2)), (.const (.int .i64 3))], #[T_p_aig_Graph, T_int, T_int]⟩), none⟩,
    ⟨some 41, some (.move (.tmp 43)), none⟩,
    ⟨some 44, some (.extract (.tmp 41) 0), none⟩,
    ⟨some 45, some (.extract (.tmp 41) 1), none⟩,
    ⟨some 8, some (.assign (.tmp 44)), none⟩,
    ⟨some 9, some (.assign (.tmp 45)), none⟩])
  (.seq (.reg [] [⟨some 47, some (.move (.tmp 1)), none⟩,
    ⟨some 48, some (.call ⟨(.value (.func f_plait_aig_Graph_Or)), #[(.tmp 47), (.const (.int .i64 2)), (.const (.int .i64 4))], #[T_p_aig_Graph, T_int, T_int]⟩), none⟩,
    ⟨some 46, some (.move (.tmp 48)), none⟩,
    ⟨some 49, some (.extract (.tmp 46) 0), none⟩,
    ⟨some 50, some (.extract (.tmp 46) 1), none⟩,
    ⟨some 10, some (.assign (.tmp 49)), none⟩,
    ⟨some 11, some (.assign (.tmp 50)), none⟩])
  (.seq (.reg [] [⟨some 52, some (.move (.tmp 1)), none⟩,
    ⟨some 53, some (.call ⟨(.value (.func f_plait_aig_Graph_Xor)), #[(.tmp 52), (.const (.int .i64 2)), (.const (.int .i64 4))], #[T_p_aig_Graph, T_int, T_int]⟩), none⟩,
    ⟨some 51, some (.move (.tmp 53)), none⟩,
    ⟨some 54, some (.extract (.tmp 51) 0), none⟩,
    ⟨some 55, some (.extract (.tmp 51) 1), none⟩,
    ⟨some 12, some (.assign (.tmp 54)), none⟩,
    ⟨some 13, some (.assign (.tmp 55)), none⟩])
  (.seq (.reg [] [⟨some 57, some (.move (.tmp 1)), none⟩,
    ⟨some 58, some (.call ⟨(.value (.func f_plait_aig_Graph_And)), #[(.tmp 57), (.const (.int .i64 2)), (.const (.int .i64 99))], #[T_p_aig_Graph, T_int, T_int]⟩), none⟩,
    ⟨some 56, some (.move (.tmp 58)), none⟩,
    ⟨some 59, some (.extract (.tmp 56) 0), none⟩,
    ⟨some 60, some (.extract (.tmp 56) 1), none⟩,
    ⟨some 14, some (.assign (.tmp 59)), none⟩,
    ⟨some 15, some (.assign (.tmp 60)), none⟩])
  (.seq (.reg [] [⟨some 62, some (.move (.tmp 1)), none⟩,
    ⟨some 63, some (.move (.tmp 12)), none⟩,
    ⟨some 64, some (.buildSlice T_s_bool 2 #[(0, (.const (.bool true))), (1, (.const (.bool false)))]), none⟩,
    ⟨some 65, some (.call ⟨(.value (.func f_plait_aig_Graph_Eval)), #[(.tmp 62), (.tmp 63), (.tmp 64)], #[T_p_aig_Graph, T_int, T_s_bool]⟩), none⟩,
    ⟨some 61, some (.move (.tmp 65)), none⟩,
    ⟨some 66, some (.extract (.tmp 61) 0), none⟩,
    ⟨some 67, some (.extract (.tmp 61) 1), none⟩,
    ⟨some 16, some (.assign (.tmp 66)), none⟩,
    ⟨some 17, some (.assign (.tmp 67)), none⟩])
  (.seq (.reg [] [⟨some 69, some (.move (.tmp 1)), none⟩,
    ⟨some 70, some (.call ⟨(.value (.func f_plait_aig_Graph_Kids)), #[(.tmp 69), (.const (.int .i64 3))], #[T_p_aig_Graph, T_int]⟩), none⟩,
    ⟨some 68, some (.move (.tmp 70)), none⟩,
    ⟨some 71, some (.extract (.tmp 68) 0), none⟩,
    ⟨some 72, some (.extract (.tmp 68) 1), none⟩,
    ⟨some 73, some (.extract (.tmp 68) 2), none⟩,
    ⟨some 18, some (.assign (.tmp 71)), none⟩,
    ⟨some 19, some (.assign (.tmp 72)), none⟩,
    ⟨some 20, some (.assign (.tmp 73)), none⟩])
  (.seq (.reg [] [⟨some 74, some (.move (.tmp 2)), none⟩,
    ⟨some 75, some (.binOp .eql T_int (.tmp 74) (.const (.int .i64 2)) T_int), none⟩,
    ⟨some 76, some (.move (.tmp 75)), none⟩,
    ⟨some 77, some (.move (.tmp 4)), some (some 76, true)⟩,
    ⟨some 78, some (.binOp .eql T_int (.tmp 77) (.const (.int .i64 4)) T_int), some (some 76, true)⟩,
    ⟨some 79, some (.pick (.tmp 76) (.tmp 78) (.const (.bool false))), none⟩,
    ⟨some 80, some (.move (.tmp 79)), none⟩,
    ⟨some 81, some (.move (.tmp 6)), some (some 80, true)⟩,
    ⟨some 82, some (.binOp .eql T_int (.tmp 81) (.const (.int .i64 6)) T_int), some (some 80, true)⟩,
    ⟨some 83, some (.pick (.tmp 80) (.tmp 82) (.const (.bool false))), none⟩,
    ⟨some 84, some (.move (.tmp 83)), none⟩,
    ⟨some 85, some (.move (.tmp 8)), some (some 84, true)⟩,
    ⟨some 86, some (.binOp .eql T_int (.tmp 85) (.const (.int .i64 0)) T_int), some (some 84, true)⟩,
    ⟨some 87, some (.pick (.tmp 84) (.tmp 86) (.const (.bool false))), none⟩,
    ⟨some 88, some (.move (.tmp 87)), none⟩,
    ⟨some 89, some (.move (.tmp 10)), some (some 88, true)⟩,
    ⟨some 90, some (.binOp .eql T_int (.tmp 89) (.const (.int .i64 9)) T_int), some (some 88, true)⟩,
    ⟨some 91, some (.pick (.tmp 88) (.tmp 90) (.const (.bool false))), none⟩,
    ⟨some 92, some (.move (.tmp 91)), none⟩,
    ⟨some 93, some (.move (.tmp 12)), some (some 92, true)⟩,
    ⟨some 94, some (.binOp .eql T_int (.tmp 93) (.const (.int .i64 15)) T_int), some (some 92, true)⟩,
    ⟨some 95, some (.pick (.tmp 92) (.tmp 94) (.const (.bool false))), none⟩,
    ⟨some 96, some (.move (.tmp 95)), none⟩,
    ⟨some 97, some (.move (.tmp 7)), some (some 96, true)⟩,
    ⟨some 98, some (.move (.tmp 9)), some (some 96, true)⟩,
    ⟨some 99, some (.binOp .add T_int (.tmp 97) (.tmp 98) T_int), some (some 96, true)⟩,
    ⟨some 100, some (.move (.tmp 11)), some (some 96, true)⟩,
    ⟨some 101, some (.binOp .add T_int (.tmp 99) (.tmp 100) T_int), some (some 96, true)⟩,
    ⟨some 102, some (.move (.tmp 13)), some (some 96, true)⟩,
    ⟨some 103, some (.binOp .add T_int (.tmp 101) (.tmp 102) T_int), some (some 96, true)⟩,
    ⟨some 104, some (.move (.tmp 17)), some (some 96, true)⟩,
    ⟨some 105, some (.binOp .add T_int (.tmp 103) (.tmp 104) T_int), some (some 96, true)⟩,
    ⟨some 106, some (.binOp .eql T_int (.tmp 105) (.const (.int .i64 0)) T_int), some (some 96, true)⟩,
    ⟨some 107, some (.pick (.tmp 96) (.tmp 106) (.const (.bool false))), none⟩,
    ⟨some 108, some (.move (.tmp 107)), none⟩,
    ⟨some 109, some (.move (.tmp 15)), some (some 108, true)⟩,
    ⟨some 110, some (.binOp .eql T_int (.tmp 109) (.const (.int .i64 80)) T_int), some (some 108, true)⟩,
    ⟨some 111, some (.pick (.tmp 108) (.tmp 110) (.const (.bool false))), none⟩,
    ⟨some 112, some (.move (.tmp 111)), none⟩,
    ⟨some 113, some (.move (.tmp 16)), some (some 112, true)⟩,
    ⟨some 114, some (.pick (.tmp 112) (.tmp 113) (.const (.bool false))), none⟩,
    ⟨some 115, some (.move (.tmp 114)), none⟩,
    ⟨some 116, some (.move (.tmp 20)), some (some 115, true)⟩,
    ⟨some 117, some (.pick (.tmp 115) (.tmp 116) (.const (.bool false))), none⟩,
    ⟨some 118, some (.move (.tmp 117)), none⟩,
    ⟨some 119, some (.move (.tmp 18)), some (some 118, true)⟩,
    ⟨some 120, some (.binOp .eql T_int (.tmp 119) (.const (.int .i64 2)) T_int), some (some 118, true)⟩,
    ⟨some 121, some (.pick (.tmp 118) (.tmp 120) (.const (.bool false))), none⟩,
    ⟨some 122, some (.move (.tmp 121)), none⟩,
    ⟨some 123, some (.move (.tmp 19)), some (some 122, true)⟩,
    ⟨some 124, some (.binOp .eql T_int (.tmp 123) (.const (.int .i64 4)) T_int), some (some 122, true)⟩,
    ⟨some 125, some (.pick (.tmp 122) (.tmp 124) (.const (.bool false))), none⟩,
    ⟨some 126, some (.move (.tmp 125)), none⟩,
    ⟨some 127, some (.move (.tmp 1)), some (some 126, true)⟩,
    ⟨some 128, some (.call ⟨(.value (.func f_plait_aig_Graph_Nodes)), #[(.tmp 127)], #[T_p_aig_Graph]⟩), some (some 126, true)⟩,
    ⟨some 129, some (.binOp .eql T_int (.tmp 128) (.const (.int .i64 7)) T_int), some (some 126, true)⟩,
    ⟨some 130, some (.pick (.tmp 126) (.tmp 129) (.const (.bool false))), none⟩,
    ⟨some 131, some (.move (.tmp 130)), none⟩,
    ⟨some 132, some (.move (.tmp 1)), some (some 131, true)⟩,
    ⟨some 133, some (.call ⟨(.value (.func f_plait_aig_Graph_Inputs)), #[(.tmp 132)], #[T_p_aig_Graph]⟩), some (some 131, true)⟩,
    ⟨some 134, some (.buildSlice T_s_int 2 #[(0, (.const (.int .i64 2))), (1, (.const (.int .i64 4)))]), some (some 131, true)⟩,
    ⟨some 135, some (.call ⟨(.value (.func f_plaithelp_Ints)), #[(.tmp 133), (.tmp 134)], #[T_s_int, T_s_int]⟩), some (some 131, true)⟩,
    ⟨some 136, some (.pick (.tmp 131) (.tmp 135) (.const (.bool false))), none⟩,
    ⟨some 137, some (.move (.tmp 136)), none⟩,
    ⟨some 138, some (.move (.tmp 1)), some (some 137, true)⟩,
    ⟨some 139, some (.call ⟨(.value (.func f_plait_aig_Graph_Cone)), #[(.tmp 138), (.const (.int .i64 9))], #[T_p_aig_Graph, T_int]⟩), some (some 137, true)⟩,
    ⟨some 140, some (.buildSlice T_s_int 3 #[(0, (.const (.int .i64 1))), (1, (.const (.int .i64 2))), (2, (.const (.int .i64 4)))]), some (some 137, true)⟩,
    ⟨some 141, some (.call ⟨(.value (.func f_plaithelp_Ints)), #[(.tmp 139), (.tmp 140)], #[T_s_int, T_s_int]⟩), some (some 137, true)⟩,
    ⟨some 142, some (.pick (.tmp 137) (.tmp 141) (.const (.bool false))), none⟩,
    ⟨some 0, some (.assign (.tmp 142)), none⟩])
  .ret)))))))))))))
theorem e_plaitlaw8_known {H : AHeap} : R f_plaitlaw8_known [] H = fnK Go.Proofs.Try.prog [] H [(.tmp 0)] (evalL Go.Proofs.Try.prog KT R c_plaitlaw8_known (Env.args [] 0) H) :=
  runs_body (D := DT) (f := f_plaitlaw8_known) Go.Proofs.Try.func23 (by kernel_rfl) (by kernel_rfl) (by kernel_rfl) (by kernel_rfl) (by kernel_rfl) (Nat.le_of_ble_eq_true rfl)

def c_aig_New : LCode := (.seq (.reg [] [⟨some 2, some (.assign (.const (.pointer none))), none⟩])
  (.seq (.reg [] [⟨some 3, some (.move (.tmp 0)), none⟩,
    ⟨some 4, some (.call ⟨(.builtin .max), #[(.tmp 3), (.const (.int .i64 1))], #[T_int, T_int]⟩), none⟩,
    ⟨some 5, some (.call ⟨(.builtin .min), #[(.tmp 4), (.const (.int .i64 32768))], #[T_int, T_int]⟩), none⟩,
    ⟨some 6, some (.makeMap T_m_a2_int_int none), none⟩,
    ⟨some 7, some (.build T_aig_Graph #[(0, (.tmp 5)), (2, (.tmp 6))]), none⟩,
    ⟨some 8, some (.box T_aig_Graph (.tmp 7)), none⟩,
    ⟨some 2, some (.assign (.tmp 8)), none⟩])
  .ret))
theorem e_aig_New {a0 : AV} {H : AHeap} : R f_aig_New [a0] H = fnK Go.Proofs.Try.prog [] H [(.tmp 2)] (evalL Go.Proofs.Try.prog KT R c_aig_New (Env.args [a0] 0) H) :=
  runs_body (D := DT) (f := f_aig_New) Go.Proofs.Try.func24 (by kernel_rfl) (by kernel_rfl) (by kernel_rfl) (by kernel_rfl) (by kernel_rfl) (Nat.le_of_ble_eq_true rfl)

def c_plaitref8_New : LCode := (.seq (.reg [] [⟨some 2, some (.assign (.const (.pointer none))), none⟩])
  (.seq (.seq (.reg [] [⟨some 3, some (.move (.tmp 0)), none⟩,
    ⟨some 4, some (.binOp .lss T_int (.tmp 3) (.const (.int .i64 1)) T_int), none⟩])
  (.cond (.tmp 4) (.reg [] [⟨some 0, some (.assign (.const (.int .i64 1))), none⟩])
  .skip))
  (.seq (.reg [] [⟨some 5, some (.move (.tmp 0)), none⟩,
    ⟨some 6, some (.call ⟨(.builtin .min), #[(.tmp 5), (.const (.int .i64 32768))], #[T_int, T_int]⟩), none⟩,
    ⟨some 7, some (.build T_plaitref8_Graph #[(1, (.tmp 6))]), none⟩,
    ⟨some 8, some (.box T_plaitref8_Graph (.tmp 7)), none⟩,
    ⟨some 2, some (.assign (.tmp 8)), none⟩])
  .ret)))
theorem e_plaitref8_New {a0 : AV} {H : AHeap} : R f_plaitref8_New [a0] H = fnK Go.Proofs.Try.prog [] H [(.tmp 2)] (evalL Go.Proofs.Try.prog KT R c_plaitref8_New (Env.args [a0] 0) H) :=
  runs_body (D := DT) (f := f_plaitref8_New) Go.Proofs.Try.func25 (by kernel_rfl) (by kernel_rfl) (by kernel_rfl) (by kernel_rfl) (by kernel_rfl) (Nat.le_of_ble_eq_true rfl)

def c_plaitlaw8_lits : LCode := (.seq (.reg [] [⟨some 2, some (.box T_plaitlaw8_Step (.tmp 0)), none⟩,
    ⟨some 4, some (.assign (.const (.int .i64 0))), none⟩,
    ⟨some 5, some (.assign (.const (.int .i64 0))), none⟩,
    ⟨some 6, some (.assign (.const (.int .i64 0))), none⟩])
  (.seq (.seq (.reg [] [⟨some 8, some (.fieldAddr T_plaitlaw8_Step (.tmp 2) 4), none⟩,
    ⟨some 9, some (.load T_bool (.tmp 8)), none⟩,
    ⟨some 10, some (.unOp .not T_bool (.tmp 9)), none⟩])
  (.cond (.tmp 10) (.seq (.reg [] [⟨some 11, some (.fieldAddr T_plaitlaw8_Step (.tmp 2) 1), none⟩,
    ⟨some 12, some (.load T_int (.tmp 11)), none⟩,
    ⟨some 13, some (.fieldAddr T_plaitlaw8_Step (.tmp 2) 2), none⟩,
    ⟨some 14, some (.load T_int (.tmp 13)), none⟩,
    ⟨some 15, some (.fieldAddr T_plaitlaw8_Step (.tmp 2) 3), none⟩,
    ⟨some 16, some (.load T_int (.tmp 15)), none⟩,
    ⟨some 4, some (.assign (.tmp 12)), none⟩,
    ⟨some 5, some (.assign (.tmp 14)), none⟩,
    ⟨some 6, some (.assign (.tmp 16)), none⟩])
  .ret)
  .skip))
  (.seq (.reg [] [⟨some 17, some (.move (.tmp 1)), none⟩,
    ⟨some 18, some (.binOp .mul T_int (.const (.int .i64 2)) (.tmp 17) T_int), none⟩,
    ⟨some 19, some (.binOp .add T_int (.tmp 18) (.const (.int .i64 2)) T_int), none⟩,
    ⟨some 7, some (.assign (.tmp 19)), none⟩])
  (.seq (.reg [3, 7] [⟨some 20, some (.fieldAddr T_plaitlaw8_Step (.tmp 2) 1), none⟩,
    ⟨some 21, some (.load T_int (.tmp 20)), none⟩,
    ⟨some 22, some (.move (.tmp 7)), none⟩,
    ⟨some 23, some (.call ⟨(.value (.func f_plaithelp_Place)), #[(.tmp 21), (.tmp 22)], #[T_int, T_int]⟩), none⟩,
    ⟨some 24, some (.fieldAddr T_plaitlaw8_Step (.tmp 2) 2), none⟩,
    ⟨some 25, some (.load T_int (.tmp 24)), none⟩,
    ⟨some 26, some (.move (.tmp 7)), none⟩,
    ⟨some 27, some (.call ⟨(.value (.func f_plaithelp_Place)), #[(.tmp 25), (.tmp 26)], #[T_int, T_int]⟩), none⟩,
    ⟨some 28, some (.fieldAddr T_plaitlaw8_Step (.tmp 2) 3), none⟩,
    ⟨some 29, some (.load T_int (.tmp 28)), none⟩,
    ⟨some 30, some (.move (.tmp 7)), none⟩,
    ⟨some 31, some (.call ⟨(.value (.func f_plaithelp_Place)), #[(.tmp 29), (.tmp 30)], #[T_int, T_int]⟩), none⟩,
    ⟨some 4, some (.assign (.tmp 23)), none⟩,
    ⟨some 5, some (.assign (.tmp 27)), none⟩,
    ⟨some 6, some (.assign (.tmp 31)), none⟩])
  .ret))))
theorem e_plaitlaw8_lits {a0 a1 : AV} {H : AHeap} : R f_plaitlaw8_lits [a0, a1] H = fnK Go.Proofs.Try.prog [] H [(.tmp 4), (.tmp 5), (.tmp 6)] (evalL Go.Proofs.Try.prog KT R c_plaitlaw8_lits (Env.args [a0, a1] 0) H) :=
  runs_body (D := DT) (f := f_plaitlaw8_lits) Go.Proofs.Try.func26 (by kernel_rfl) (by kernel_rfl) (by kernel_rfl) (by kernel_rfl) (by kernel_rfl) (Nat.le_of_ble_eq_true rfl)

def c_plaitlaw8_does : LCode := (.seq (.reg [] [⟨some 10, some (.assign (.const (.int .i64 0))), none⟩,
    ⟨some 11, some (.assign (.const (.int .i64 0))), none⟩])
  (.seq (.seq (.reg [] [⟨some 22, some (.move (.tmp 1)), none⟩])
  (.block 0 (.seq (.reg [] [⟨some 24, some (.binOp .eql T_int (.tmp 22) (.const (.int .i64 0)) T_int), none⟩,
    ⟨some 23, some (.assign (.tmp 24)), none⟩])
  (.cond (.tmp 23) (.seq (.reg [] [⟨some 26, some (.move (.tmp 0)), none⟩,
    ⟨some 27, some (.call ⟨(.value (.func f_plait_aig_Graph_Input)), #[(.tmp 26)], #[T_p_aig_Graph]⟩), none⟩,
    ⟨some 25, some (.move (.tmp 27)), none⟩,
    ⟨some 28, some (.extract (.tmp 25) 0), none⟩,
    ⟨some 29, some (.extract (.tmp 25) 1), none⟩,
    ⟨some 12, some (.assign (.tmp 28)), none⟩,
    ⟨some 13, some (.assign (.tmp 29)), none⟩])
  (.seq (.reg [] [⟨some 30, some (.move (.tmp 12)), none⟩,
    ⟨some 31, some (.move (.tmp 13)), none⟩,
    ⟨some 10, some (.assign (.tmp 30)), none⟩,
    ⟨some 11, some (.assign (.tmp 31)), none⟩])
  .ret))
  (.seq (.seq (.reg [] [⟨some 33, some (.binOp .eql T_int (.tmp 22) (.const (.int .i64 1)) T_int), none⟩,
    ⟨some 32, some (.assign (.tmp 33)), none⟩])
  (.cond (.tmp 32) .skip
  (.seq (.reg [] [⟨some 34, some (.binOp .eql T_int (.tmp 22) (.const (.int .i64 2)) T_int), none⟩,
    ⟨some 32, some (.assign (.tmp 34)), none⟩])
  (.cond (.tmp 32) .skip
  (.reg [] [⟨some 35, some (.binOp .eql T_int (.tmp 22) (.const (.int .i64 3)) T_int), none⟩,
    ⟨some 32, some (.assign (.tmp 35)), none⟩])))))
  (.cond (.tmp 32) (.seq (.reg [] [⟨some 37, some (.move (.tmp 0)), none⟩,
    ⟨some 38, some (.move (.tmp 2)), none⟩,
    ⟨some 39, some (.move (.tmp 3)), none⟩,
    ⟨some 40, some (.call ⟨(.value (.func f_plait_aig_Graph_And)), #[(.tmp 37), (.tmp 38), (.tmp 39)], #[T_p_aig_Graph, T_int, T_int]⟩), none⟩,
    ⟨some 36, some (.move (.tmp 40)), none⟩,
    ⟨some 41, some (.extract (.tmp 36) 0), none⟩,
    ⟨some 42, some (.extract (.tmp 36) 1), none⟩,
    ⟨some 14, some (.assign (.tmp 41)), none⟩,
    ⟨some 15, some (.assign (.tmp 42)), none⟩])
  (.seq (.reg [] [⟨some 43, some (.move (.tmp 14)), none⟩,
    ⟨some 44, some (.move (.tmp 15)), none⟩,
    ⟨some 10, some (.assign (.tmp 43)), none⟩,
    ⟨some 11, some (.assign (.tmp 44)), none⟩])
  .ret))
  (.seq (.reg [] [⟨some 46, some (.binOp .eql T_int (.tmp 22) (.const (.int .i64 4)) T_int), none⟩,
    ⟨some 45, some (.assign (.tmp 46)), none⟩])
  (.cond (.tmp 45) (.seq (.reg [] [⟨some 48, some (.move (.tmp 0)), none⟩,
    ⟨some 49, some (.move (.tmp 2)), none⟩,
    ⟨some 50, some (.move (.tmp 3)), none⟩,
    ⟨some 51, some (.call ⟨(.value (.func f_plait_aig_Graph_Or)), #[(.tmp 48), (.tmp 49), (.tmp 50)], #[T_p_aig_Graph, T_int, T_int]⟩), none⟩,
    ⟨some 47, some (.move (.tmp 51)), none⟩,
    ⟨some 52, some (.extract (.tmp 47) 0), none⟩,
    ⟨some 53, some (.extract (.tmp 47) 1), none⟩,
    ⟨some 16, some (.assign (.tmp 52)), none⟩,
    ⟨some 17, some (.assign (.tmp 53)), none⟩])
  (.seq (.reg [] [⟨some 54, some (.move (.tmp 16)), none⟩,
    ⟨some 55, some (.move (.tmp 17)), none⟩,
    ⟨some 10, some (.assign (.tmp 54)), none⟩,
    ⟨some 11, some (.assign (.tmp 55)), none⟩])
  .ret))
  (.seq (.reg [] [⟨some 57, some (.binOp .eql T_int (.tmp 22) (.const (.int .i64 5)) T_int), none⟩,
    ⟨some 56, some (.assign (.tmp 57)), none⟩])
  (.cond (.tmp 56) (.seq (.reg [] [⟨some 59, some (.move (.tmp 0)), none⟩,
    ⟨some 60, some (.move (.tmp 2)), none⟩,
    ⟨some 61, some (.move (.tmp 3)), none⟩,
    ⟨some 62, some (.call ⟨(.value (.func f_plait_aig_Graph_Xor)), #[(.tmp 59), (.tmp 60), (.tmp 61)], #[T_p_aig_Graph, T_int, T_int]⟩), none⟩,
    ⟨some 58, some (.move (.tmp 62)), none⟩,
    ⟨some 63, some (.extract (.tmp 58) 0), none⟩,
    ⟨some 64, some (.extract (.tmp 58) 1), none⟩,
    ⟨some 18, some (.assign (.tmp 63)), none⟩,
    ⟨some 19, some (.assign (.tmp 64)), none⟩])
  (.seq (.reg [] [⟨some 65, some (.move (.tmp 18)), none⟩,
    ⟨some 66, some (.move (.tmp 19)), none⟩,
    ⟨some 10, some (.assign (.tmp 65)), none⟩,
    ⟨some 11, some (.assign (.tmp 66)), none⟩])
  .ret))
  (.seq (.reg [] [⟨some 68, some (.binOp .eql T_int (.tmp 22) (.const (.int .i64 6)) T_int), none⟩,
    ⟨some 67, some (.assign (.tmp 68)), none⟩])
  (.cond (.tmp 67) (.seq (.reg [] [⟨some 70, some (.move (.tmp 0)), none⟩,
    ⟨some 71, some (.move (.tmp 4)), none⟩,
    ⟨some 72, some (.move (.tmp 2)), none⟩,
    ⟨some 73, some (.move (.tmp 3)), none⟩,
    ⟨some 74, some (.call ⟨(.value (.func f_plait_aig_Graph_Mux)), #[(.tmp 70), (.tmp 71), (.tmp 72), (.tmp 73)], #[T_p_aig_Graph, T_int, T_int, T_int]⟩), none⟩,
    ⟨some 69, some (.move (.tmp 74)), none⟩,
    ⟨some 75, some (.extract (.tmp 69) 0), none⟩,
    ⟨some 76, some (.extract (.tmp 69) 1), none⟩,
    ⟨some 20, some (.assign (.tmp 75)), none⟩,
    ⟨some 21, some (.assign (.tmp 76)), none⟩])
  (.seq (.reg [] [⟨some 77, some (.move (.tmp 20)), none⟩,
    ⟨some 78, some (.move (.tmp 21)), none⟩,
    ⟨some 10, some (.assign (.tmp 77)), none⟩,
    ⟨some 11, some (.assign (.tmp 78)), none⟩])
  .ret))
  .skip))))))))))))
  (.seq (.reg [] [⟨some 10, some (.assign (.const (.int .i64 0))), none⟩,
    ⟨some 11, some (.assign (.const (.int .i64 0))), none⟩])
  .ret)))
theorem e_plaitlaw8_does {a0 a1 a2 a3 a4 : AV} {H : AHeap} : R f_plaitlaw8_does [a0, a1, a2, a3, a4] H = fnK Go.Proofs.Try.prog [] H [(.tmp 10), (.tmp 11)] (evalL Go.Proofs.Try.prog KT R c_plaitlaw8_does (Env.args [a0, a1, a2, a3, a4] 0) H) :=
  runs_body (D := DT) (f := f_plaitlaw8_does) Go.Proofs.Try.func27 (by kernel_rfl) (by kernel_rfl) (by kernel_rfl) (by kernel_rfl) (by kernel_rfl) (Nat.le_of_ble_eq_true rfl)

def c_plaitlaw8_doesRef : LCode := (.seq (.reg [] [⟨some 10, some (.assign (.const (.int .i64 0))), none⟩,
    ⟨some 11, some (.assign (.const (.int .i64 0))), none⟩])
  (.seq (.seq (.reg [] [⟨some 12, some (.move (.tmp 1)), none⟩])
  (.block 0 (.seq (.reg [] [⟨some 14, some (.binOp .eql T_int (.tmp 12) (.const (.int .i64 0)) T_int), none⟩,
    ⟨some 13, some (.assign (.tmp 14)), none⟩])
  (.cond (.tmp 13) (.seq (.reg [] [⟨some 15, some (.move (.tmp 0)), none⟩,
    ⟨some 16, some (.call ⟨(.value (.func f_plait_plaitref8_Graph_Input)), #[(.tmp 15)], #[T_p_plaitref8_Graph]⟩), none⟩,
    ⟨some 17, some (.extract (.tmp 16) 0), none⟩,
    ⟨some 18, some (.extract (.tmp 16) 1), none⟩,
    ⟨some 10, some (.assign (.tmp 17)), none⟩,
    ⟨some 11, some (.assign (.tmp 18)), none⟩])
  .ret)
  (.seq (.seq (.reg [] [⟨some 20, some (.binOp .eql T_int (.tmp 12) (.const (.int .i64 1)) T_int), none⟩,
    ⟨some 19, some (.assign (.tmp 20)), none⟩])
  (.cond (.tmp 19) .skip
  (.seq (.reg [] [⟨some 21, some (.binOp .eql T_int (.tmp 12) (.const (.int .i64 2)) T_int), none⟩,
    ⟨some 19, some (.assign (.tmp 21)), none⟩])
  (.cond (.tmp 19) .skip
  (.reg [] [⟨some 22, some (.binOp .eql T_int (.tmp 12) (.const (.int .i64 3)) T_int), none⟩,
    ⟨some 19, some (.assign (.tmp 22)), none⟩])))))
  (.cond (.tmp 19) (.seq (.reg [] [⟨some 23, some (.move (.tmp 0)), none⟩,
    ⟨some 24, some (.move (.tmp 2)), none⟩,
    ⟨some 25, some (.move (.tmp 3)), none⟩,
    ⟨some 26, some (.call ⟨(.value (.func f_plait_plaitref8_Graph_And)), #[(.tmp 23), (.tmp 24), (.tmp 25)], #[T_p_plaitref8_Graph, T_int, T_int]⟩), none⟩,
    ⟨some 27, some (.extract (.tmp 26) 0), none⟩,
    ⟨some 28, some (.extract (.tmp 26) 1), none⟩,
    ⟨some 10, some (.assign (.tmp 27)), none⟩,
    ⟨some 11, some (.assign (.tmp 28)), none⟩])
  .ret)
  (.seq (.reg [] [⟨some 30, some (.binOp .eql T_int (.tmp 12) (.const (.int .i64 4)) T_int), none⟩,
    ⟨some 29, some (.assign (.tmp 30)), none⟩])
  (.cond (.tmp 29) (.seq (.reg [] [⟨some 31, some (.move (.tmp 0)), none⟩,
    ⟨some 32, some (.move (.tmp 2)), none⟩,
    ⟨some 33, some (.move (.tmp 3)), none⟩,
    ⟨some 34, some (.call ⟨(.value (.func f_plait_plaitref8_Graph_Or)), #[(.tmp 31), (.tmp 32), (.tmp 33)], #[T_p_plaitref8_Graph, T_int, T_int]⟩), none⟩,
    ⟨some 35, some (.extract (.tmp 34) 0), none⟩,
    ⟨some 36, some (.extract (.tmp 34) 1), none⟩,
    ⟨some 10, some (.assign (.tmp 35)), none⟩,
    ⟨some 11, some (.assign (.tmp 36)), none⟩])
  .ret)
  (.seq (.reg [] [⟨some 38, some (.binOp .eql T_int (.tmp 12) (.const (.int .i64 5)) T_int), none⟩,
    ⟨some 37, some (.assign (.tmp 38)), none⟩])
  (.cond (.tmp 37) (.seq (.reg [] [⟨some 39, some (.move (.tmp 0)), none⟩,
    ⟨some 40, some (.move (.tmp 2)), none⟩,
    ⟨some 41, some (.move (.tmp 3)), none⟩,
    ⟨some 42, some (.call ⟨(.value (.func f_plait_plaitref8_Graph_Xor)), #[(.tmp 39), (.tmp 40), (.tmp 41)], #[T_p_plaitref8_Graph, T_int, T_int]⟩), none⟩,
    ⟨some 43, some (.extract (.tmp 42) 0), none⟩,
    ⟨some 44, some (.extract (.tmp 42) 1), none⟩,
    ⟨some 10, some (.assign (.tmp 43)), none⟩,
    ⟨some 11, some (.assign (.tmp 44)), none⟩])
  .ret)
  (.seq (.reg [] [⟨some 46, some (.binOp .eql T_int (.tmp 12) (.const (.int .i64 6)) T_int), none⟩,
    ⟨some 45, some (.assign (.tmp 46)), none⟩])
  (.cond (.tmp 45) (.seq (.reg [] [⟨some 47, some (.move (.tmp 0)), none⟩,
    ⟨some 48, some (.move (.tmp 4)), none⟩,
    ⟨some 49, some (.move (.tmp 2)), none⟩,
    ⟨some 50, some (.move (.tmp 3)), none⟩,
    ⟨some 51, some (.call ⟨(.value (.func f_plait_plaitref8_Graph_Mux)), #[(.tmp 47), (.tmp 48), (.tmp 49), (.tmp 50)], #[T_p_plaitref8_Graph, T_int, T_int, T_int]⟩), none⟩,
    ⟨some 52, some (.extract (.tmp 51) 0), none⟩,
    ⟨some 53, some (.extract (.tmp 51) 1), none⟩,
    ⟨some 10, some (.assign (.tmp 52)), none⟩,
    ⟨some 11, some (.assign (.tmp 53)), none⟩])
  .ret)
  .skip))))))))))))
  (.seq (.reg [] [⟨some 10, some (.assign (.const (.int .i64 0))), none⟩,
    ⟨some 11, some (.assign (.const (.int .i64 0))), none⟩])
  .ret)))
theorem e_plaitlaw8_doesRef {a0 a1 a2 a3 a4 : AV} {H : AHeap} : R f_plaitlaw8_doesRef [a0, a1, a2, a3, a4] H = fnK Go.Proofs.Try.prog [] H [(.tmp 10), (.tmp 11)] (evalL Go.Proofs.Try.prog KT R c_plaitlaw8_doesRef (Env.args [a0, a1, a2, a3, a4] 0) H) :=
  runs_body (D := DT) (f := f_plaitlaw8_doesRef) Go.Proofs.Try.func28 (by kernel_rfl) (by kernel_rfl) (by kernel_rfl) (by kernel_rfl) (by kernel_rfl) (Nat.le_of_ble_eq_true rfl)

def c_plait_aig_Graph_Nodes : LCode := (.seq (.reg [] [⟨some 2, some (.assign (.const (.int .i64 0))), none⟩])
  (.seq (.reg [] [⟨some 3, some (.move (.tmp 0)), none⟩,
    ⟨some 4, some (.nilCheck (.tmp 3)), none⟩,
    ⟨some 5, some (.fieldAddr T_aig_Graph (.tmp 4) 1), none⟩,
    ⟨some 6, some (.load T_s_a2_int (.tmp 5)), none⟩,
    ⟨some 7, some (.call ⟨(.builtin .len), #[(.tmp 6)], #[T_s_a2_int]⟩), none⟩,
    ⟨some 2, some (.assign (.tmp 7)), none⟩])
  .ret))
theorem e_plait_aig_Graph_Nodes {a0 : AV} {H : AHeap} : R f_plait_aig_Graph_Nodes [a0] H = fnK Go.Proofs.Try.prog [] H [(.tmp 2)] (evalL Go.Proofs.Try.prog KT R c_plait_aig_Graph_Nodes (Env.args [a0] 0) H) :=
  runs_body (D := DT) (f := f_plait_aig_Graph_Nodes) Go.Proofs.Try.func29 (by kernel_rfl) (by kernel_rfl) (by kernel_rfl) (by kernel_rfl) (by kernel_rfl) (Nat.le_of_ble_eq_true rfl)

def c_plait_aig_Graph_Kids : LCode := (.seq (.reg [] [⟨some 4, some (.assign (.const (.int .i64 0))), none⟩,
    ⟨some 5, some (.assign (.const (.int .i64 0))), none⟩,
    ⟨some 6, some (.assign (.const (.bool false))), none⟩])
  (.seq (.seq (.reg [] [⟨some 8, some (.move (.tmp 1)), none⟩,
    ⟨some 9, some (.binOp .lss T_int (.tmp 8) (.const (.int .i64 1)) T_int), none⟩,
    ⟨some 10, some (.move (.tmp 9)), none⟩,
    ⟨some 11, some (.move (.tmp 1)), some (some 10, false)⟩,
    ⟨some 12, some (.move (.tmp 0)), some (some 10, false)⟩,
    ⟨some 13, some (.nilCheck (.tmp 12)), some (some 10, false)⟩,
    ⟨some 14, some (.fieldAddr T_aig_Graph (.tmp 13) 1), some (some 10, false)⟩,
    ⟨some 15, some (.load T_s_a2_int (.tmp 14)), some (some 10, false)⟩,
    ⟨some 16, some (.call ⟨(.builtin .len), #[(.tmp 15)], #[T_s_a2_int]⟩), some (some 10, false)⟩,
    ⟨some 17, some (.binOp .gtr T_int (.tmp 11) (.tmp 16) T_int), some (some 10, false)⟩,
    ⟨some 18, some (.pick (.tmp 10) (.const (.bool true)) (.tmp 17)), none⟩,
    ⟨some 19, some (.move (.tmp 18)), none⟩,
    ⟨some 20, some (.move (.tmp 0)), some (some 19, false)⟩,
    ⟨some 21, some (.nilCheck (.tmp 20)), some (some 19, false)⟩,
    ⟨some 22, some (.fieldAddr T_aig_Graph (.tmp 21) 1), some (some 19, false)⟩,
    ⟨some 23, some (.load T_s_a2_int (.tmp 22)), some (some 19, false)⟩,
    ⟨some 24, some (.move (.tmp 1)), some (some 19, false)⟩,
    ⟨some 25, some (.binOp .sub T_int (.tmp 24) (.const (.int .i64 1)) T_int), some (some 19, false)⟩,
    ⟨some 26, some (.indexAddr T_s_a2_int (.tmp 23) (.tmp 25)), some (some 19, false)⟩,
    ⟨some 27, some (.load T_a2_int (.tmp 26)), some (some 19, false)⟩,
    ⟨some 28, some (.build T_a2_int #[]), some (some 19, false)⟩,
    ⟨some 29, some (.binOp .eql T_a2_int (.tmp 27) (.tmp 28) T_a2_int), some (some 19, false)⟩,
    ⟨some 30, some (.pick (.tmp 19) (.const (.bool true)) (.tmp 29)), none⟩])
  (.cond (.tmp 30) (.seq (.reg [] [⟨some 4, some (.assign (.const (.int .i64 0))), none⟩,
    ⟨some 5, some (.assign (.const (.int .i64 0))), none⟩,
    ⟨some 6, some (.assign (.const (.bool false))), none⟩])
  .ret)
  .skip))
  (.seq (.reg [] [⟨some 31, some (.move (.tmp 0)), none⟩,
    ⟨some 32, some (.nilCheck (.tmp 31)), none⟩,
    ⟨some 33, some (.fieldAddr T_aig_Graph (.tmp 32) 1), none⟩,
    ⟨some 34, some (.load T_s_a2_int (.tmp 33)), none⟩,
    ⟨some 35, some (.move (.tmp 1)), none⟩,
    ⟨some 36, some (.binOp .sub T_int (.tmp 35) (.const (.int .i64 1)) T_int), none⟩,
    ⟨some 37, some (.indexAddr T_s_a2_int (.tmp 34) (.tmp 36)), none⟩,
    ⟨some 38, some (.load T_a2_int (.tmp 37)), none⟩,
    ⟨some 7, some (.alloc T_a2_int), none⟩,
    ⟨none, some (.store T_a2_int (.tmp 7) (.tmp 38)), none⟩])
  (.seq (.reg [] [⟨some 39, some (.indexAddr T_a2_int (.tmp 7) (.const (.int .i64 0))), none⟩,
    ⟨some 40, some (.load T_int (.tmp 39)), none⟩,
    ⟨some 41, some (.indexAddr T_a2_int (.tmp 7) (.const (.int .i64 1))), none⟩,
    ⟨some 42, some (.load T_int (.tmp 41)), none⟩,
    ⟨some 4, some (.assign (.tmp 40)), none⟩,
    ⟨some 5, some (.assign (.tmp 42)), none⟩,
    ⟨some 6, some (.assign (.const (.bool true))), none⟩])
  .ret))))
theorem e_plait_aig_Graph_Kids {a0 a1 : AV} {H : AHeap} : R f_plait_aig_Graph_Kids [a0, a1] H = fnK Go.Proofs.Try.prog [] H [(.tmp 4), (.tmp 5), (.tmp 6)] (evalL Go.Proofs.Try.prog KT R c_plait_aig_Graph_Kids (Env.args [a0, a1] 0) H) :=
  runs_body (D := DT) (f := f_plait_aig_Graph_Kids) Go.Proofs.Try.func30 (by kernel_rfl) (by kernel_rfl) (by kernel_rfl) (by kernel_rfl) (by kernel_rfl) (Nat.le_of_ble_eq_true rfl)

def c_plait_plaitref8_Graph_Kids : LCode := (.seq (.reg [] [⟨some 4, some (.assign (.const (.int .i64 0))), none⟩,
    ⟨some 5, some (.assign (.const (.int .i64 0))), none⟩,
    ⟨some 6, some (.assign (.const (.bool false))), none⟩])
  (.seq (.seq (.reg [] [⟨some 7, some (.move (.tmp 1)), none⟩,
    ⟨some 8, some (.binOp .lss T_int (.tmp 7) (.const (.int .i64 1)) T_int), none⟩,
    ⟨some 9, some (.move (.tmp 8)), none⟩,
    ⟨some 10, some (.move (.tmp 1)), some (some 9, false)⟩,
    ⟨some 11, some (.move (.tmp 0)), some (some 9, false)⟩,
    ⟨some 12, some (.nilCheck (.tmp 11)), some (some 9, false)⟩,
    ⟨some 13, some (.fieldAddr T_plaitref8_Graph (.tmp 12) 0), some (some 9, false)⟩,
    ⟨some 14, some (.load T_s_plaitref8_Node (.tmp 13)), some (some 9, false)⟩,
    ⟨some 15, some (.call ⟨(.builtin .len), #[(.tmp 14)], #[T_s_plaitref8_Node]⟩), some (some 9, false)⟩,
    ⟨some 16, some (.binOp .gtr T_int (.tmp 10) (.tmp 15) T_int), some (some 9, false)⟩,
    ⟨some 17, some (.pick (.tmp 9) (.const (.bool true)) (.tmp 16)), none⟩,
    ⟨some 18, some (.move (.tmp 17)), none⟩,
    ⟨some 19, some (.move (.tmp 0)), some (some 18, false)⟩,
    ⟨some 20, some (.nilCheck (.tmp 19)), some (some 18, false)⟩,
    ⟨some 21, some (.fieldAddr T_plaitref8_Graph (.tmp 20) 0), some (some 18, false)⟩,
    ⟨some 22, some (.load T_s_plaitref8_Node (.tmp 21)), some (some 18, false)⟩,
    ⟨some 23, some (.move (.tmp 1)), some (some 18, false)⟩,
    ⟨some 24, some (.binOp .sub T_int (.tmp 23) (.const (.int .i64 1)) T_int), some (some 18, false)⟩,
    ⟨some 25, some (.indexAddr T_s_plaitref8_Node (.tmp 22) (.tmp 24)), some (some 18, false)⟩,
    ⟨some 26, some (.fieldAddr T_plaitref8_Node (.tmp 25) 2), some (some 18, false)⟩,
    ⟨some 27, some (.load T_bool (.tmp 26)), some (some 18, false)⟩,
    ⟨some 28, some (.pick (.tmp 18) (.const (.bool true)) (.tmp 27)), none⟩])
  (.cond (.tmp 28) (.seq (.reg [] [⟨some 4, some (.assign (.const (.int .i64 0))), none⟩,
    ⟨some 5, some (.assign (.const (.int .i64 0))), none⟩,
    ⟨some 6, some (.assign (.const (.bool false))), none⟩])
  .ret)
  .skip))
  (.seq (.reg [] [⟨some 29, some (.move (.tmp 0)), none⟩,
    ⟨some 30, some (.nilCheck (.tmp 29)), none⟩,
    ⟨some 31, some (.fieldAddr T_plaitref8_Graph (.tmp 30) 0), none⟩,
    ⟨some 32, some (.load T_s_plaitref8_Node (.tmp 31)), none⟩,
    ⟨some 33, some (.move (.tmp 1)), none⟩,
    ⟨some 34, some (.binOp .sub T_int (.tmp 33) (.const (.int .i64 1)) T_int), none⟩,
    ⟨some 35, some (.indexAddr T_s_plaitref8_Node (.tmp 32) (.tmp 34)), none⟩,
    ⟨some 36, some (.fieldAddr T_plaitref8_Node (.tmp 35) 0), none⟩,
    ⟨some 37, some (.load T_int (.tmp 36)), none⟩,
    ⟨some 38, some (.move (.tmp 0)), none⟩,
    ⟨some 39, some (.nilCheck (.tmp 38)), none⟩,
    ⟨some 40, some (.fieldAddr T_plaitref8_Graph (.tmp 39) 0), none⟩,
    ⟨some 41, some (.load T_s_plaitref8_Node (.tmp 40)), none⟩,
    ⟨some 42, some (.move (.tmp 1)), none⟩,
    ⟨some 43, some (.binOp .sub T_int (.tmp 42) (.const (.int .i64 1)) T_int), none⟩,
    ⟨some 44, some (.indexAddr T_s_plaitref8_Node (.tmp 41) (.tmp 43)), none⟩,
    ⟨some 45, some (.fieldAddr T_plaitref8_Node (.tmp 44) 1), none⟩,
    ⟨some 46, some (.load T_int (.tmp 45)), none⟩,
    ⟨some 4, some (.assign (.tmp 37)), none⟩,
    ⟨some 5, some (.assign (.tmp 46)), none⟩,
    ⟨some 6, some (.assign (.const (.bool true))), none⟩])
  .ret)))
theorem e_plait_plaitref8_Graph_Kids {a0 a1 : AV} {H : AHeap} : R f_plait_plaitref8_Graph_Kids [a0, a1] H = fnK Go.Proofs.Try.prog [] H [(.tmp 4), (.tmp 5), (.tmp 6)] (evalL Go.Proofs.Try.prog KT R c_plait_plaitref8_Graph_Kids (Env.args [a0, a1] 0) H) :=
  runs_body (D := DT) (f := f_plait_plaitref8_Graph_Kids) Go.Proofs.Try.func31 (by kernel_rfl) (by kernel_rfl) (by kernel_rfl) (by kernel_rfl) (by kernel_rfl) (Nat.le_of_ble_eq_true rfl)

def l_plaithelp_Ints_0 : LCode := (.seq (.seq (.reg [] [⟨some 11, some (.move (.tmp 5)), none⟩,
    ⟨some 12, some (.move (.tmp 0)), none⟩,
    ⟨some 13, some (.call ⟨(.builtin .len), #[(.tmp 12)], #[T_s_int]⟩), none⟩,
    ⟨some 14, some (.binOp .lss T_int (.tmp 11) (.tmp 13) T_int), none⟩])
  (.cond (.tmp 14) .skip
  (.exit 0)))
  (.seq (.block 1 (.seq (.reg [] [⟨some 17, some (.move (.tmp 0)), none⟩,
    ⟨some 18, some (.move (.tmp 5)), none⟩,
    ⟨some 19, some (.indexAddr T_s_int (.tmp 17) (.tmp 18)), none⟩,
    ⟨some 20, some (.load T_int (.tmp 19)), none⟩,
    ⟨some 21, some (.move (.tmp 1)), none⟩,
    ⟨some 22, some (.move (.tmp 5)), none⟩,
    ⟨some 23, some (.indexAddr T_s_int (.tmp 21) (.tmp 22)), none⟩,
    ⟨some 24, some (.load T_int (.tmp 23)), none⟩,
    ⟨some 25, some (.binOp .neq T_int (.tmp 20) (.tmp 24) T_int), none⟩])
  (.cond (.tmp 25) (.seq (.reg [] [⟨some 4, some (.assign (.const (.bool false))), none⟩])
  .ret)
  .skip)))
  (.reg [] [⟨some 15, some (.move (.tmp 5)), none⟩,
    ⟨some 16, some (.binOp .add T_int (.tmp 15) (.const (.int .i64 1)) T_int), none⟩,
    ⟨some 5, some (.assign (.tmp 16)), none⟩])))
@[simp] theorem d_l_plaithelp_Ints_0 : defs l_plaithelp_Ints_0 = [11, 12, 13, 14, 17, 18, 19, 20, 21, 22, 23, 24, 25, 4, 15, 16, 5] := by rfl
def c_plaithelp_Ints : LCode := (.seq (.reg [] [⟨some 4, some (.assign (.const (.bool false))), none⟩])
  (.seq (.seq (.reg [] [⟨some 6, some (.move (.tmp 0)), none⟩,
    ⟨some 7, some (.call ⟨(.builtin .len), #[(.tmp 6)], #[T_s_int]⟩), none⟩,
    ⟨some 8, some (.move (.tmp 1)), none⟩,
    ⟨some 9, some (.call ⟨(.builtin .len), #[(.tmp 8)], #[T_s_int]⟩), none⟩,
    ⟨some 10, some (.binOp .neq T_int (.tmp 7) (.tmp 9) T_int), none⟩])
  (.cond (.tmp 10) (.seq (.reg [] [⟨some 4, some (.assign (.const (.bool false))), none⟩])
  .ret)
  .skip))
  (.seq (.seq (.reg [] [⟨some 5, some (.assign (.const (.int .i64 0))), none⟩])
  (.block 0 (.loop l_plaithelp_Ints_0)))
  (.seq (.reg [] [⟨some 4, some (.assign (.const (.bool true))), none⟩])
  .ret))))
theorem e_plaithelp_Ints {a0 a1 : AV} {H : AHeap} : R f_plaithelp_Ints [a0, a1] H = fnK Go.Proofs.Try.prog [] H [(.tmp 4)] (evalL Go.Proofs.Try.prog KT R c_plaithelp_Ints (Env.args [a0, a1] 0) H) :=
  runs_body (D := DT) (f := f_plaithelp_Ints) Go.Proofs.Try.func32 (by kernel_rfl) (by kernel_rfl) (by kernel_rfl) (by kernel_rfl) (by kernel_rfl) (Nat.le_of_ble_eq_true rfl)

def l_plait_aig_Graph_Cone_0 : LCode := (.seq (.seq (.reg [] [⟨some 24, some (.move (.tmp 6)), none⟩,
    ⟨some 25, some (.binOp .gtr T_int (.tmp 24) (.const (.int .i64 0)) T_int), none⟩])
  (.cond (.tmp 25) .skip
  (.exit 0)))
  (.seq (.block 1 (.seq (.reg [] [⟨some 28, some (.move (.tmp 0)), none⟩,
    ⟨some 29, some (.nilCheck (.tmp 28)), none⟩,
    ⟨some 30, some (.fieldAddr T_aig_Graph (.tmp 29) 1), none⟩,
    ⟨some 31, some (.load T_s_a2_int (.tmp 30)), none⟩,
    ⟨some 32, some (.move (.tmp 6)), none⟩,
    ⟨some 33, some (.binOp .sub T_int (.tmp 32) (.const (.int .i64 1)) T_int), none⟩,
    ⟨some 34, some (.indexAddr T_s_a2_int (.tmp 31) (.tmp 33)), none⟩,
    ⟨some 35, some (.load T_a2_int (.tmp 34)), none⟩,
    ⟨some 7, some (.alloc T_a2_int), none⟩,
    ⟨none, some (.store T_a2_int (.tmp 7) (.tmp 35)), none⟩])
  (.seq (.reg [] [⟨some 36, some (.move (.tmp 5)), none⟩,
    ⟨some 37, some (.move (.tmp 6)), none⟩,
    ⟨some 38, some (.indexAddr T_s_bool (.tmp 36) (.tmp 37)), none⟩,
    ⟨some 39, some (.load T_bool (.tmp 38)), none⟩,
    ⟨some 40, some (.move (.tmp 39)), none⟩,
    ⟨some 41, some (.load T_a2_int (.tmp 7)), some (some 40, true)⟩,
    ⟨some 42, some (.build T_a2_int #[]), some (some 40, true)⟩,
    ⟨some 43, some (.binOp .neq T_a2_int (.tmp 41) (.tmp 42) T_a2_int), some (some 40, true)⟩,
    ⟨some 44, some (.pick (.tmp 40) (.tmp 43) (.const (.bool false))), none⟩])
  (.cond (.tmp 44) (.reg [6, 9] [⟨some 45, some (.move (.tmp 5)), none⟩,
    ⟨some 46, some (.indexAddr T_a2_int (.tmp 7) (.const (.int .i64 0))), none⟩,
    ⟨some 47, some (.load T_int (.tmp 46)), none⟩,
    ⟨some 48, some (.binOp .shr T_int (.tmp 47) (.const (.int .u64 1)) T_uint), none⟩,
    ⟨some 49, some (.move (.tmp 5)), none⟩,
    ⟨some 50, some (.indexAddr T_a2_int (.tmp 7) (.const (.int .i64 1))), none⟩,
    ⟨some 51, some (.load T_int (.tmp 50)), none⟩,
    ⟨some 52, some (.binOp .shr T_int (.tmp 51) (.const (.int .u64 1)) T_uint), none⟩,
    ⟨some 53, some (.indexAddr T_s_bool (.tmp 45) (.tmp 48)), none⟩,
    ⟨none, some (.store T_bool (.tmp 53) (.const (.bool true))), none⟩,
    ⟨some 54, some (.indexAddr T_s_bool (.tmp 49) (.tmp 52)), none⟩,
    ⟨none, some (.store T_bool (.tmp 54) (.const (.bool true))), none⟩])
  .skip))))
  (.reg [] [⟨some 26, some (.move (.tmp 6)), none⟩,
    ⟨some 27, some (.binOp .sub T_int (.tmp 26) (.const (.int .i64 1)) T_int), none⟩,
    ⟨some 6, some (.assign (.tmp 27)), none⟩])))
def l_plait_aig_Graph_Cone_1 : LCode := (.seq (.seq (.reg [] [⟨some 55, some (.move (.tmp 9)), none⟩,
    ⟨some 56, some (.move (.tmp 5)), none⟩,
    ⟨some 57, some (.call ⟨(.builtin .len), #[(.tmp 56)], #[T_s_bool]⟩), none⟩,
    ⟨some 58, some (.binOp .lss T_int (.tmp 55) (.tmp 57) T_int), none⟩])
  (.cond (.tmp 58) .skip
  (.exit 2)))
  (.seq (.block 3 (.seq (.reg [] [⟨some 61, some (.move (.tmp 5)), none⟩,
    ⟨some 62, some (.move (.tmp 9)), none⟩,
    ⟨some 63, some (.indexAddr T_s_bool (.tmp 61) (.tmp 62)), none⟩,
    ⟨some 64, some (.load T_bool (.tmp 63)), none⟩])
  (.cond (.tmp 64) (.reg [] [⟨some 65, some (.move (.tmp 8)), none⟩,
    ⟨some 66, some (.move (.tmp 9)), none⟩,
    ⟨some 67, some (.buildSlice T_s_int 1 #[(0, (.tmp 66))]), none⟩,
    ⟨some 68, some (.call ⟨(.builtin .append), #[(.tmp 65), (.tmp 67)], #[T_s_int, T_s_int]⟩), none⟩,
    ⟨some 8, some (.assign (.tmp 68)), none⟩])
  .skip)))
  (.reg [] [⟨some 59, some (.move (.tmp 9)), none⟩,
    ⟨some 60, some (.binOp .add T_int (.tmp 59) (.const (.int .i64 1)) T_int), none⟩,
    ⟨some 9, some (.assign (.tmp 60)), none⟩])))
@[simp] theorem d_l_plait_aig_Graph_Cone_0 : defs l_plait_aig_Graph_Cone_0 = [24, 25, 28, 29, 30, 31, 32, 33, 34, 35, 7, 36, 37, 38, 39, 40, 41, 42, 43, 44, 45, 46, 47, 48, 49, 50, 51, 52, 53, 54, 26, 27, 6] := by rfl
@[simp] theorem d_l_plait_aig_Graph_Cone_1 : defs l_plait_aig_Graph_Cone_1 = [55, 56, 57, 58, 61, 62, 63, 64, 65, 66, 67, 68, 8, 59, 60, 9] := by rfl
def c_plait_aig_Graph_Cone : LCode := (.seq (.reg [] [⟨some 4, some (.assign (.const (.slice none 0 0))), none⟩])
  (.seq (.seq (.reg [] [⟨some 10, some (.move (.tmp 0)), none⟩,
    ⟨some 11, some (.move (.tmp 1)), none⟩,
    ⟨some 12, some (.call ⟨(.value (.func f_plait_aig_Graph_lit)), #[(.tmp 10), (.tmp 11)], #[T_p_aig_Graph, T_int]⟩), none⟩,
    ⟨some 13, some (.unOp .not T_bool (.tmp 12)), none⟩])
  (.cond (.tmp 13) (.seq (.reg [] [⟨some 4, some (.assign (.const (.slice none 0 0))), none⟩])
  .ret)
  .skip))
  (.seq (.reg [] [⟨some 14, some (.move (.tmp 1)), none⟩,
    ⟨some 15, some (.binOp .shr T_int (.tmp 14) (.const (.int .u64 1)) T_uint), none⟩,
    ⟨some 16, some (.binOp .add T_int (.tmp 15) (.const (.int .i64 1)) T_int), none⟩,
    ⟨some 17, some (.makeSlice T_s_bool (.tmp 16) (.tmp 16)), none⟩,
    ⟨some 5, some (.assign (.tmp 17)), none⟩])
  (.seq (.reg [] [⟨some 18, some (.move (.tmp 5)), none⟩,
    ⟨some 19, some (.move (.tmp 1)), none⟩,
    ⟨some 20, some (.binOp .shr T_int (.tmp 19) (.const (.int .u64 1)) T_uint), none⟩,
    ⟨some 21, some (.indexAddr T_s_bool (.tmp 18) (.tmp 20)), none⟩,
    ⟨none, some (.store T_bool (.tmp 21) (.const (.bool true))), none⟩])
  (.seq (.seq (.reg [] [⟨some 22, some (.move (.tmp 1)), none⟩,
    ⟨some 23, some (.binOp .shr T_int (.tmp 22) (.const (.int .u64 1)) T_uint), none⟩,
    ⟨some 6, some (.assign (.tmp 23)), none⟩])
  (.block 0 (.loop l_plait_aig_Graph_Cone_0)))
  (.seq (.reg [] [⟨some 8, some (.assign (.const (.slice none 0 0))), none⟩])
  (.seq (.seq (.reg [] [⟨some 9, some (.assign (.const (.int .i64 1))), none⟩])
  (.block 2 (.loop l_plait_aig_Graph_Cone_1)))
  (.seq (.reg [] [⟨some 69, some (.move (.tmp 8)), none⟩,
    ⟨some 4, some (.assign (.tmp 69)), none⟩])
  .ret))))))))
theorem e_plait_aig_Graph_Cone {a0 a1 : AV} {H : AHeap} : R f_plait_aig_Graph_Cone [a0, a1] H = fnK Go.Proofs.Try.prog [0] H [(.tmp 4)] (evalL Go.Proofs.Try.prog KT R c_plait_aig_Graph_Cone (Env.args [a0, a1] 0) H) :=
  runs_body (D := DT) (f := f_plait_aig_Graph_Cone) Go.Proofs.Try.func33 (by kernel_rfl) (by kernel_rfl) (by kernel_rfl) (by kernel_rfl) (by kernel_rfl) (Nat.le_of_ble_eq_true rfl)

def l_plait_plaitref8_Graph_Cone_0 : LCode := (.seq (.seq (.reg [] [⟨some 26, some (.move (.tmp 6)), none⟩,
    ⟨some 27, some (.binOp .gtr T_int (.tmp 26) (.const (.int .i64 0)) T_int), none⟩])
  (.cond (.tmp 27) .skip
  (.exit 0)))
  (.seq (.block 1 (.seq (.reg [] [⟨some 30, some (.move (.tmp 5)), none⟩,
    ⟨some 31, some (.move (.tmp 6)), none⟩,
    ⟨some 32, some (.indexAddr T_s_bool (.tmp 30) (.tmp 31)), none⟩,
    ⟨some 33, some (.load T_bool (.tmp 32)), none⟩,
    ⟨some 34, some (.move (.tmp 33)), none⟩,
    ⟨some 35, some (.move (.tmp 0)), some (some 34, true)⟩,
    ⟨some 36, some (.nilCheck (.tmp 35)), some (some 34, true)⟩,
    ⟨some 37, some (.fieldAddr T_plaitref8_Graph (.tmp 36) 0), some (some 34, true)⟩,
    ⟨some 38, some (.load T_s_plaitref8_Node (.tmp 37)), some (some 34, true)⟩,
    ⟨some 39, some (.move (.tmp 6)), some (some 34, true)⟩,
    ⟨some 40, some (.binOp .sub T_int (.tmp 39) (.const (.int .i64 1)) T_int), some (some 34, true)⟩,
    ⟨some 41, some (.indexAddr T_s_plaitref8_Node (.tmp 38) (.tmp 40)), some (some 34, true)⟩,
    ⟨some 42, some (.fieldAddr T_plaitref8_Node (.tmp 41) 2), some (some 34, true)⟩,
    ⟨some 43, some (.load T_bool (.tmp 42)), some (some 34, true)⟩,
    ⟨some 44, some (.unOp .not T_bool (.tmp 43)), some (some 34, true)⟩,
    ⟨some 45, some (.pick (.tmp 34) (.tmp 44) (.const (.bool false))), none⟩])
  (.cond (.tmp 45) (.reg [] [⟨some 46, some (.move (.tmp 5)), none⟩,
    ⟨some 47, some (.move (.tmp 0)), none⟩,
    ⟨some 48, some (.nilCheck (.tmp 47)), none⟩,
    ⟨some 49, some (.fieldAddr T_plaitref8_Graph (.tmp 48) 0), none⟩,
    ⟨some 50, some (.load T_s_plaitref8_Node (.tmp 49)), none⟩,
    ⟨some 51, some (.move (.tmp 6)), none⟩,
    ⟨some 52, some (.binOp .sub T_int (.tmp 51) (.const (.int .i64 1)) T_int), none⟩,
    ⟨some 53, some (.indexAddr T_s_plaitref8_Node (.tmp 50) (.tmp 52)), none⟩,
    ⟨some 54, some (.fieldAddr T_plaitref8_Node (.tmp 53) 0), none⟩,
    ⟨some 55, some (.load T_int (.tmp 54)), none⟩,
    ⟨some 56, some (.binOp .quo T_int (.tmp 55) (.const (.int .i64 2)) T_int), none⟩,
    ⟨some 57, some (.move (.tmp 5)), none⟩,
    ⟨some 58, some (.move (.tmp 0)), none⟩,
    ⟨some 59, some (.nilCheck (.tmp 58)), none⟩,
    ⟨some 60, some (.fieldAddr T_plaitref8_Graph (.tmp 59) 0), none⟩,
    ⟨some 61, some (.load T_s_plaitref8_Node (.tmp 60)), none⟩,
    ⟨some 62, some (.move (.tmp 6)), none⟩,
    ⟨some 63, some (.binOp .sub T_int (.tmp 62) (.const (.int .i64 1)) T_int), none⟩,
    ⟨some 64, some (.indexAddr T_s_plaitref8_Node (.tmp 61) (.tmp 63)), none⟩,
    ⟨some 65, some (.fieldAddr T_plaitref8_Node (.tmp 64) 1), none⟩,
    ⟨some 66, some (.load T_int (.tmp 65)), none⟩,
    ⟨some 67, some (.binOp .quo T_int (.tmp 66) (.const (.int .i64 2)) T_int), none⟩,
    ⟨some 68, some (.indexAddr T_s_bool (.tmp 46) (.tmp 56)), none⟩,
    ⟨none, some (.store T_bool (.tmp 68) (.const (.bool true))), none⟩,
    ⟨some 69, some (.indexAddr T_s_bool (.tmp 57) (.tmp 67)), none⟩,
    ⟨none, some (.store T_bool (.tmp 69) (.const (.bool true))), none⟩])
  .skip)))
  (.reg [] [⟨some 28, some (.move (.tmp 6)), none⟩,
    ⟨some 29, some (.binOp .sub T_int (.tmp 28) (.const (.int .i64 1)) T_int), none⟩,
    ⟨some 6, some (.assign (.tmp 29)), none⟩])))
def l_plait_plaitref8_Graph_Cone_1 : LCode := (.seq (.seq (.reg [] [⟨some 70, some (.move (.tmp 8)), none⟩,
    ⟨some 71, some (.move (.tmp 1)), none⟩,
    ⟨some 72, some (.binOp .quo T_int (.tmp 71) (.const (.int .i64 2)) T_int), none⟩,
    ⟨some 73, some (.binOp .leq T_int (.tmp 70) (.tmp 72) T_int), none⟩])
  (.cond (.tmp 73) .skip
  (.exit 2)))
  (.seq (.block 3 (.seq (.reg [] [⟨some 76, some (.move (.tmp 5)), none⟩,
    ⟨some 77, some (.move (.tmp 8)), none⟩,
    ⟨some 78, some (.indexAddr T_s_bool (.tmp 76) (.tmp 77)), none⟩,
    ⟨some 79, some (.load T_bool (.tmp 78)), none⟩])
  (.cond (.tmp 79) (.reg [] [⟨some 80, some (.move (.tmp 7)), none⟩,
    ⟨some 81, some (.move (.tmp 8)), none⟩,
    ⟨some 82, some (.buildSlice T_s_int 1 #[(0, (.tmp 81))]), none⟩,
    ⟨some 83, some (.call ⟨(.builtin .append), #[(.tmp 80), (.tmp 82)], #[T_s_int, T_s_int]⟩), none⟩,
    ⟨some 7, some (.assign (.tmp 83)), none⟩])
  .skip)))
  (.reg [] [⟨some 74, some (.move (.tmp 8)), none⟩,
    ⟨some 75, some (.binOp .add T_int (.tmp 74) (.const (.int .i64 1)) T_int), none⟩,
    ⟨some 8, some (.assign (.tmp 75)), none⟩])))
@[simp] theorem d_l_plait_plaitref8_Graph_Cone_0 : defs l_plait_plaitref8_Graph_Cone_0 = [26, 27, 30, 31, 32, 33, 34, 35, 36, 37, 38, 39, 40, 41, 42, 43, 44, 45, 46, 47, 48, 49, 50, 51, 52, 53, 54, 55, 56, 57, 58, 59, 60, 61, 62, 63, 64, 65, 66, 67, 68, 69, 28, 29, 6] := by rfl
@[simp] theorem d_l_plait_plaitref8_Graph_Cone_1 : defs l_plait_plaitref8_Graph_Cone_1 = [70, 71, 72, 73, 76, 77, 78, 79, 80, 81, 82, 83, 7, 74, 75, 8] := by rfl
def c_plait_plaitref8_Graph_Cone : LCode := (.seq (.reg [] [⟨some 4, some (.assign (.const (.slice none 0 0))), none⟩])
  (.seq (.seq (.reg [] [⟨some 9, some (.move (.tmp 0)), none⟩,
    ⟨some 10, some (.move (.tmp 1)), none⟩,
    ⟨some 11, some (.call ⟨(.value (.func f_plait_plaitref8_Graph_is)), #[(.tmp 9), (.tmp 10)], #[T_p_plaitref8_Graph, T_int]⟩), none⟩,
    ⟨some 12, some (.unOp .not T_bool (.tmp 11)), none⟩])
  (.cond (.tmp 12) (.seq (.reg [] [⟨some 4, some (.assign (.const (.slice none 0 0))), none⟩])
  .ret)
  .skip))
  (.seq (.reg [] [⟨some 13, some (.move (.tmp 0)), none⟩,
    ⟨some 14, some (.nilCheck (.tmp 13)), none⟩,
    ⟨some 15, some (.fieldAddr T_plaitref8_Graph (.tmp 14) 0), none⟩,
    ⟨some 16, some (.load T_s_plaitref8_Node (.tmp 15)), none⟩,
    ⟨some 17, some (.call ⟨(.builtin .len), #[(.tmp 16)], #[T_s_plaitref8_Node]⟩), none⟩,
    ⟨some 18, some (.binOp .add T_int (.tmp 17) (.const (.int .i64 1)) T_int), none⟩,
    ⟨some 19, some (.makeSlice T_s_bool (.tmp 18) (.tmp 18)), none⟩,
    ⟨some 5, some (.assign (.tmp 19)), none⟩])
  (.seq (.reg [] [⟨some 20, some (.move (.tmp 5)), none⟩,
    ⟨some 21, some (.move (.tmp 1)), none⟩,
    ⟨some 22, some (.binOp .quo T_int (.tmp 21) (.const (.int .i64 2)) T_int), none⟩,
    ⟨some 23, some (.indexAddr T_s_bool (.tmp 20) (.tmp 22)), none⟩,
    ⟨none, some (.store T_bool (.tmp 23) (.const (.bool true))), none⟩])
  (.seq (.seq (.reg [] [⟨some 24, some (.move (.tmp 1)), none⟩,
    ⟨some 25, some (.binOp .quo T_int (.tmp 24) (.const (.int .i64 2)) T_int), none⟩,
    ⟨some 6, some (.assign (.tmp 25)), none⟩])
  (.block 0 (.loop l_plait_plaitref8_Graph_Cone_0)))
  (.seq (.reg [] [⟨some 7, some (.assign (.const (.slice none 0 0))), none⟩])
  (.seq (.seq (.reg [] [⟨some 8, some (.assign (.const (.int .i64 1))), none⟩])
  (.block 2 (.loop l_plait_plaitref8_Graph_Cone_1)))
  (.seq (.reg [] [⟨some 84, some (.move (.tmp 7)), none⟩,
    ⟨some 4, some (.assign (.tmp 84)), none⟩])
  .ret))))))))
theorem e_plait_plaitref8_Graph_Cone {a0 a1 : AV} {H : AHeap} : R f_plait_plaitref8_Graph_Cone [a0, a1] H = fnK Go.Proofs.Try.prog [0] H [(.tmp 4)] (evalL Go.Proofs.Try.prog KT R c_plait_plaitref8_Graph_Cone (Env.args [a0, a1] 0) H) :=
  runs_body (D := DT) (f := f_plait_plaitref8_Graph_Cone) Go.Proofs.Try.func34 (by kernel_rfl) (by kernel_rfl) (by kernel_rfl) (by kernel_rfl) (by kernel_rfl) (Nat.le_of_ble_eq_true rfl)

def l_plait_aig_Graph_Eval_0 : LCode := (.seq (.reg [] [⟨some 39, some (.binOp .lss T_int (.tmp 38) (.tmp 37) T_int), none⟩])
  (.seq (.cond (.tmp 39) .skip
  (.exit 1))
  (.seq (.block 2 (.seq (.reg [] [⟨some 40, some (.move (.tmp 38)), none⟩,
    ⟨some 41, some (.indexAddr T_s_a2_int (.tmp 36) (.tmp 38)), none⟩,
    ⟨some 42, some (.load T_a2_int (.tmp 41)), none⟩,
    ⟨some 11, some (.alloc T_a2_int), none⟩,
    ⟨some 10, some (.assign (.tmp 40)), none⟩,
    ⟨none, some (.store T_a2_int (.tmp 11) (.tmp 42)), none⟩])
  (.seq (.seq (.reg [] [⟨some 43, some (.load T_a2_int (.tmp 11)), none⟩,
    ⟨some 44, some (.build T_a2_int #[]), none⟩,
    ⟨some 45, some (.binOp .eql T_a2_int (.tmp 43) (.tmp 44) T_a2_int), none⟩])
  (.cond (.tmp 45) (.seq (.reg [] [⟨some 46, some (.move (.tmp 8)), none⟩,
    ⟨some 47, some (.move (.tmp 10)), none⟩,
    ⟨some 48, some (.binOp .add T_int (.tmp 47) (.const (.int .i64 1)) T_int), none⟩,
    ⟨some 49, some (.move (.tmp 2)), none⟩,
    ⟨some 50, some (.move (.tmp 9)), none⟩,
    ⟨some 51, some (.indexAddr T_s_bool (.tmp 49) (.tmp 50)), none⟩,
    ⟨some 52, some (.load T_bool (.tmp 51)), none⟩,
    ⟨some 53, some (.indexAddr T_s_bool (.tmp 46) (.tmp 48)), none⟩,
    ⟨none, some (.store T_bool (.tmp 53) (.tmp 52)), none⟩])
  (.seq (.reg [] [⟨some 54, some (.move (.tmp 9)), none⟩,
    ⟨some 55, some (.binOp .add T_int (.tmp 54) (.const (.int .i64 1)) T_int), none⟩,
    ⟨some 9, some (.assign (.tmp 55)), none⟩])
  (.exit 2)))
  .skip))
  (.reg [] [⟨some 56, some (.move (.tmp 8)), none⟩,
    ⟨some 57, some (.move (.tmp 10)), none⟩,
    ⟨some 58, some (.binOp .add T_int (.tmp 57) (.const (.int .i64 1)) T_int), none⟩,
    ⟨some 59, some (.move (.tmp 8)), none⟩,
    ⟨some 60, some (.indexAddr T_a2_int (.tmp 11) (.const (.int .i64 0))), none⟩,
    ⟨some 61, some (.load T_int (.tmp 60)), none⟩,
    ⟨some 62, some (.binOp .shr T_int (.tmp 61) (.const (.int .u64 1)) T_uint), none⟩,
    ⟨some 63, some (.indexAddr T_s_bool (.tmp 59) (.tmp 62)), none⟩,
    ⟨some 64, some (.load T_bool (.tmp 63)), none⟩,
    ⟨some 65, some (.indexAddr T_a2_int (.tmp 11) (.const (.int .i64 0))), none⟩,
    ⟨some 66, some (.load T_int (.tmp 65)), none⟩,
    ⟨some 67, some (.binOp .and T_int (.tmp 66) (.const (.int .i64 1)) T_int), none⟩,
    ⟨some 68, some (.binOp .eql T_int (.tmp 67) (.const (.int .i64 1)) T_int), none⟩,
    ⟨some 69, some (.binOp .neq T_bool (.tmp 64) (.tmp 68) T_bool), none⟩,
    ⟨some 70, some (.move (.tmp 69)), none⟩,
    ⟨some 71, some (.move (.tmp 8)), some (some 70, true)⟩,
    ⟨some 72, some (.indexAddr T_a2_int (.tmp 11) (.const (.int .i64 1))), some (some 70, true)⟩,
    ⟨some 73, some (.load T_int (.tmp 72)), some (some 70, true)⟩,
    ⟨some 74, some (.binOp .shr T_int (.tmp 73) (.const (.int .u64 1)) T_uint), some (some 70, true)⟩,
    ⟨some 75, some (.indexAddr T_s_bool (.tmp 71) (.tmp 74)), some (some 70, true)⟩,
    ⟨some 76, some (.load T_bool (.tmp 75)), some (some 70, true)⟩,
    ⟨some 77, some (.indexAddr T_a2_int (.tmp 11) (.const (.int .i64 1))), some (some 70, true)⟩,
    ⟨some 78, some (.load T_int (.tmp 77)), some (some 70, true)⟩,
    ⟨some 79, some (.binOp .and T_int (.tmp 78) (.const (.int .i64 1)) T_int), some (some 70, true)⟩,
    ⟨some 80, some (.binOp .eql T_int (.tmp 79) (.const (.int .i64 1)) T_int), some (some 70, true)⟩,
    ⟨some 81, some (.binOp .neq T_bool (.tmp 76) (.tmp 80) T_bool), some (some 70, true)⟩,
    ⟨some 82, some (.pick (.tmp 70) (.tmp 81) (.const (.bool false))), none⟩,
    ⟨some 83, some (.indexAddr T_s_bool (.tmp 56) (.tmp 58)), none⟩,
    ⟨none, some (.store T_bool (.tmp 83) (.tmp 82)), none⟩]))))
  (.reg [] [⟨some 84, some (.binOp .add T_int (.tmp 38) (.const (.int .i64 1)) T_int), none⟩,
    ⟨some 38, some (.move (.tmp 84)), none⟩]))))
@[simp] theorem d_l_plait_aig_Graph_Eval_0 : defs l_plait_aig_Graph_Eval_0 = [39, 40, 41, 42, 11, 10, 43, 44, 45, 46, 47, 48, 49, 50, 51, 52, 53, 54, 55, 9, 56, 57, 58, 59, 60, 61, 62, 63, 64, 65, 66, 67, 68, 69, 70, 71, 72, 73, 74, 75, 76, 77, 78, 79, 80, 81, 82, 83, 84, 38] := by rfl
def c_plait_aig_Graph_Eval : LCode := (.seq (.reg [] [⟨some 6, some (.assign (.const (.bool false))), none⟩,
    ⟨some 7, some (.assign (.const (.int .i64 0))), none⟩])
  (.seq (.block 0 (.seq (.reg [] [⟨some 13, some (.move (.tmp 0)), none⟩,
    ⟨some 14, some (.move (.tmp 1)), none⟩,
    ⟨some 15, some (.call ⟨(.value (.func f_plait_aig_Graph_lit)), #[(.tmp 13), (.tmp 14)], #[T_p_aig_Graph, T_int]⟩), none⟩,
    ⟨some 16, some (.unOp .not T_bool (.tmp 15)), none⟩,
    ⟨some 12, some (.assign (.tmp 16)), none⟩])
  (.cond (.tmp 12) (.seq (.reg [] [⟨some 6, some (.assign (.const (.bool false))), none⟩,
    ⟨some 7, some (.assign (.const (.int .i64 80))), none⟩])
  .ret)
  (.seq (.reg [] [⟨some 18, some (.move (.tmp 2)), none⟩,
    ⟨some 19, some (.call ⟨(.builtin .len), #[(.tmp 18)], #[T_s_bool]⟩), none⟩,
    ⟨some 20, some (.move (.tmp 0)), none⟩,
    ⟨some 21, some (.nilCheck (.tmp 20)), none⟩,
    ⟨some 22, some (.fieldAddr T_aig_Graph (.tmp 21) 3), none⟩,
    ⟨some 23, some (.load T_s_int (.tmp 22)), none⟩,
    ⟨some 24, some (.call ⟨(.builtin .len), #[(.tmp 23)], #[T_s_int]⟩), none⟩,
    ⟨some 25, some (.binOp .neq T_int (.tmp 19) (.tmp 24) T_int), none⟩,
    ⟨some 17, some (.assign (.tmp 25)), none⟩])
  (.cond (.tmp 17) (.seq (.reg [] [⟨some 6, some (.assign (.const (.bool false))), none⟩,
    ⟨some 7, some (.assign (.const (.int .i64 82))), none⟩])
  .ret)
  .skip)))))
  (.seq (.reg [] [⟨some 26, some (.move (.tmp 0)), none⟩,
    ⟨some 27, some (.nilCheck (.tmp 26)), none⟩,
    ⟨some 28, some (.fieldAddr T_aig_Graph (.tmp 27) 1), none⟩,
    ⟨some 29, some (.load T_s_a2_int (.tmp 28)), none⟩,
    ⟨some 30, some (.call ⟨(.builtin .len), #[(.tmp 29)], #[T_s_a2_int]⟩), none⟩,
    ⟨some 31, some (.binOp .add T_int (.tmp 30) (.const (.int .i64 1)) T_int), none⟩,
    ⟨some 32, some (.makeSlice T_s_bool (.tmp 31) (.tmp 31)), none⟩,
    ⟨some 8, some (.assign (.tmp 32)), none⟩])
  (.seq (.reg [] [⟨some 9, some (.assign (.const (.int .i64 0))), none⟩])
  (.seq (.seq (.reg [] [⟨some 33, some (.move (.tmp 0)), none⟩,
    ⟨some 34, some (.nilCheck (.tmp 33)), none⟩,
    ⟨some 35, some (.fieldAddr T_aig_Graph (.tmp 34) 1), none⟩,
    ⟨some 36, some (.load T_s_a2_int (.tmp 35)), none⟩,
    ⟨some 37, some (.call ⟨(.builtin .len), #[(.tmp 36)], #[T_s_a2_int]⟩), none⟩,
    ⟨some 38, some (.move (.const (.int .i64 0))), none⟩])
  (.block 1 (.loop l_plait_aig_Graph_Eval_0)))
  (.seq (.reg [] [⟨some 85, some (.move (.tmp 8)), none⟩,
    ⟨some 86, some (.move (.tmp 1)), none⟩,
    ⟨some 87, some (.binOp .shr T_int (.tmp 86) (.const (.int .u64 1)) T_uint), none⟩,
    ⟨some 88, some (.indexAddr T_s_bool (.tmp 85) (.tmp 87)), none⟩,
    ⟨some 89, some (.load T_bool (.tmp 88)), none⟩,
    ⟨some 90, some (.move (.tmp 1)), none⟩,
    ⟨some 91, some (.binOp .and T_int (.tmp 90) (.const (.int .i64 1)) T_int), none⟩,
    ⟨some 92, some (.binOp .eql T_int (.tmp 91) (.const (.int .i64 1)) T_int), none⟩,
    ⟨some 93, some (.binOp .neq T_bool (.tmp 89) (.tmp 92) T_bool), none⟩,
    ⟨some 6, some (.assign (.tmp 93)), none⟩,
    ⟨some 7, some (.assign (.const (.int .i64 0))), none⟩])
  .ret))))))
theorem e_plait_aig_Graph_Eval {a0 a1 a2 : AV} {H : AHeap} : R f_plait_aig_Graph_Eval [a0, a1, a2] H = fnK Go.Proofs.Try.prog [] H [(.tmp 6), (.tmp 7)] (evalL Go.Proofs.Try.prog KT R c_plait_aig_Graph_Eval (Env.args [a0, a1, a2] 0) H) :=
  runs_body (D := DT) (f := f_plait_aig_Graph_Eval) Go.Proofs.Try.func35 (by kernel_rfl) (by kernel_rfl) (by kernel_rfl) (by kernel_rfl) (by kernel_rfl) (Nat.le_of_ble_eq_true rfl)

def c_plait_plaitref8_Graph_Eval : LCode := (.seq (.reg [] [⟨some 6, some (.assign (.const (.bool false))), none⟩,
    ⟨some 7, some (.assign (.const (.int .i64 0))), none⟩])
  (.seq (.seq (.reg [] [⟨some 8, some (.move (.tmp 0)), none⟩,
    ⟨some 9, some (.move (.tmp 1)), none⟩,
    ⟨some 10, some (.call ⟨(.value (.func f_plait_plaitref8_Graph_is)), #[(.tmp 8), (.tmp 9)], #[T_p_plaitref8_Graph, T_int]⟩), none⟩,
    ⟨some 11, some (.unOp .not T_bool (.tmp 10)), none⟩])
  (.cond (.tmp 11) (.seq (.reg [] [⟨some 6, some (.assign (.const (.bool false))), none⟩,
    ⟨some 7, some (.assign (.const (.int .i64 80))), none⟩])
  .ret)
  .skip))
  (.seq (.seq (.reg [] [⟨some 12, some (.move (.tmp 2)), none⟩,
    ⟨some 13, some (.call ⟨(.builtin .len), #[(.tmp 12)], #[T_s_bool]⟩), none⟩,
    ⟨some 14, some (.move (.tmp 0)), none⟩,
    ⟨some 15, some (.call ⟨(.value (.func f_plait_plaitref8_Graph_Inputs)), #[(.tmp 14)], #[T_p_plaitref8_Graph]⟩), none⟩,
    ⟨some 16, some (.call ⟨(.builtin .len), #[(.tmp 15)], #[T_s_int]⟩), none⟩,
    ⟨some 17, some (.binOp .neq T_int (.tmp 13) (.tmp 16) T_int), none⟩])
  (.cond (.tmp 17) (.seq (.reg [] [⟨some 6, some (.assign (.const (.bool false))), none⟩,
    ⟨some 7, some (.assign (.const (.int .i64 82))), none⟩])
  .ret)
  .skip))
  (.seq (.reg [] [⟨some 18, some (.move (.tmp 0)), none⟩,
    ⟨some 19, some (.move (.tmp 2)), none⟩,
    ⟨some 20, some (.call ⟨(.value (.func f_plait_plaitref8_Graph_Values)), #[(.tmp 18), (.tmp 19)], #[T_p_plaitref8_Graph, T_s_bool]⟩), none⟩,
    ⟨some 21, some (.move (.tmp 1)), none⟩,
    ⟨some 22, some (.binOp .quo T_int (.tmp 21) (.const (.int .i64 2)) T_int), none⟩,
    ⟨some 23, some (.indexAddr T_s_bool (.tmp 20) (.tmp 22)), none⟩,
    ⟨some 24, some (.load T_bool (.tmp 23)), none⟩,
    ⟨some 25, some (.move (.tmp 1)), none⟩,
    ⟨some 26, some (.binOp .rem T_int (.tmp 25) (.const (.int .i64 2)) T_int), none⟩,
    ⟨some 27, some (.binOp .eql T_int (.tmp 26) (.const (.int .i64 1)) T_int), none⟩,
    ⟨some 28, some (.binOp .neq T_bool (.tmp 24) (.tmp 27) T_bool), none⟩,
    ⟨some 6, some (.assign (.tmp 28)), none⟩,
    ⟨some 7, some (.assign (.const (.int .i64 0))), none⟩])
  .ret))))
theorem e_plait_plaitref8_Graph_Eval {a0 a1 a2 : AV} {H : AHeap} : R f_plait_plaitref8_Graph_Eval [a0, a1, a2] H = fnK Go.Proofs.Try.prog [] H [(.tmp 6), (.tmp 7)] (evalL Go.Proofs.Try.prog KT R c_plait_plaitref8_Graph_Eval (Env.args [a0, a1, a2] 0) H) :=
  runs_body (D := DT) (f := f_plait_plaitref8_Graph_Eval) Go.Proofs.Try.func36 (by kernel_rfl) (by kernel_rfl) (by kernel_rfl) (by kernel_rfl) (by kernel_rfl) (Nat.le_of_ble_eq_true rfl)

def c_plait_aig_Graph_Inputs : LCode := (.seq (.reg [] [⟨some 2, some (.assign (.const (.slice none 0 0))), none⟩])
  (.seq (.reg [] [⟨some 3, some (.move (.tmp 0)), none⟩,
    ⟨some 4, some (.nilCheck (.tmp 3)), none⟩,
    ⟨some 5, some (.fieldAddr T_aig_Graph (.tmp 4) 3), none⟩,
    ⟨some 6, some (.load T_s_int (.tmp 5)), none⟩,
    ⟨some 7, some (.call ⟨(.value (.func f_slices_Clone_int_int)), #[(.tmp 6)], #[T_s_int]⟩), none⟩,
    ⟨some 2, some (.assign (.tmp 7)), none⟩])
  .ret))
theorem e_plait_aig_Graph_Inputs {a0 : AV} {H : AHeap} : R f_plait_aig_Graph_Inputs [a0] H = fnK Go.Proofs.Try.prog [0] H [(.tmp 2)] (evalL Go.Proofs.Try.prog KT R c_plait_aig_Graph_Inputs (Env.args [a0] 0) H) :=
  runs_body (D := DT) (f := f_plait_aig_Graph_Inputs) Go.Proofs.Try.func37 (by kernel_rfl) (by kernel_rfl) (by kernel_rfl) (by kernel_rfl) (by kernel_rfl) (Nat.le_of_ble_eq_true rfl)

def l_plait_plaitref8_Graph_Inputs_0 : LCode := (.seq (.seq (.reg [] [⟨some 5, some (.move (.tmp 4)), none⟩,
    ⟨some 6, some (.move (.tmp 0)), none⟩,
    ⟨some 7, some (.nilCheck (.tmp 6)), none⟩,
    ⟨some 8, some (.fieldAddr T_plaitref8_Graph (.tmp 7) 0), none⟩,
    ⟨some 9, some (.load T_s_plaitref8_Node (.tmp 8)), none⟩,
    ⟨some 10, some (.call ⟨(.builtin .len), #[(.tmp 9)], #[T_s_plaitref8_Node]⟩), none⟩,
    ⟨some 11, some (.binOp .lss T_int (.tmp 5) (.tmp 10) T_int), none⟩])
  (.cond (.tmp 11) .skip
  (.exit 0)))
  (.seq (.block 1 (.seq (.reg [] [⟨some 14, some (.move (.tmp 0)), none⟩,
    ⟨some 15, some (.nilCheck (.tmp 14)), none⟩,
    ⟨some 16, some (.fieldAddr T_plaitref8_Graph (.tmp 15) 0), none⟩,
    ⟨some 17, some (.load T_s_plaitref8_Node (.tmp 16)), none⟩,
    ⟨some 18, some (.move (.tmp 4)), none⟩,
    ⟨some 19, some (.indexAddr T_s_plaitref8_Node (.tmp 17) (.tmp 18)), none⟩,
    ⟨some 20, some (.fieldAddr T_plaitref8_Node (.tmp 19) 2), none⟩,
    ⟨some 21, some (.load T_bool (.tmp 20)), none⟩])
  (.cond (.tmp 21) (.reg [] [⟨some 22, some (.move (.tmp 3)), none⟩,
    ⟨some 23, some (.move (.tmp 4)), none⟩,
    ⟨some 24, some (.binOp .add T_int (.tmp 23) (.const (.int .i64 1)) T_int), none⟩,
    ⟨some 25, some (.binOp .mul T_int (.const (.int .i64 2)) (.tmp 24) T_int), none⟩,
    ⟨some 26, some (.buildSlice T_s_int 1 #[(0, (.tmp 25))]), none⟩,
    ⟨some 27, some (.call ⟨(.builtin .append), #[(.tmp 22), (.tmp 26)], #[T_s_int, T_s_int]⟩), none⟩,
    ⟨some 3, some (.assign (.tmp 27)), none⟩])
  .skip)))
  (.reg [] [⟨some 12, some (.move (.tmp 4)), none⟩,
    ⟨some 13, some (.binOp .add T_int (.tmp 12) (.const (.int .i64 1)) T_int), none⟩,
    ⟨some 4, some (.assign (.tmp 13)), none⟩])))
@[simp] theorem d_l_plait_plaitref8_Graph_Inputs_0 : defs l_plait_plaitref8_Graph_Inputs_0 = [5, 6, 7, 8, 9, 10, 11, 14, 15, 16, 17, 18, 19, 20, 21, 22, 23, 24, 25, 26, 27, 3, 12, 13, 4] := by rfl
def c_plait_plaitref8_Graph_Inputs : LCode := (.seq (.reg [] [⟨some 2, some (.assign (.const (.slice none 0 0))), none⟩])
  (.seq (.reg [] [⟨some 3, some (.assign (.const (.slice none 0 0))), none⟩])
  (.seq (.seq (.reg [] [⟨some 4, some (.assign (.const (.int .i64 0))), none⟩])
  (.block 0 (.loop l_plait_plaitref8_Graph_Inputs_0)))
  (.seq (.reg [] [⟨some 28, some (.move (.tmp 3)), none⟩,
    ⟨some 2, some (.assign (.tmp 28)), none⟩])
  .ret))))
theorem e_plait_plaitref8_Graph_Inputs {a0 : AV} {H : AHeap} : R f_plait_plaitref8_Graph_Inputs [a0] H = fnK Go.Proofs.Try.prog [0] H [(.tmp 2)] (evalL Go.Proofs.Try.prog KT R c_plait_plaitref8_Graph_Inputs (Env.args [a0] 0) H) :=
  runs_body (D := DT) (f := f_plait_plaitref8_Graph_Inputs) Go.Proofs.Try.func38 (by kernel_rfl) (by kernel_rfl) (by kernel_rfl) (by kernel_rfl) (by kernel_rfl) (Nat.le_of_ble_eq_true rfl)

def c_plaithelp_Place : LCode := (.seq (.reg [] [⟨some 4, some (.assign (.const (.int .i64 0))), none⟩])
  (.seq (.reg [] [⟨some 5, some (.move (.tmp 0)), none⟩,
    ⟨some 6, some (.move (.tmp 1)), none⟩,
    ⟨some 7, some (.binOp .rem T_int (.tmp 5) (.tmp 6) T_int), none⟩,
    ⟨some 0, some (.assign (.tmp 7)), none⟩])
  (.seq (.seq (.reg [] [⟨some 8, some (.move (.tmp 0)), none⟩,
    ⟨some 9, some (.binOp .lss T_int (.tmp 8) (.const (.int .i64 0)) T_int), none⟩])
  (.cond (.tmp 9) (.reg [] [⟨some 10, some (.move (.tmp 0)), none⟩,
    ⟨some 11, some (.move (.tmp 1)), none⟩,
    ⟨some 12, some (.binOp .add T_int (.tmp 10) (.tmp 11) T_int), none⟩,
    ⟨some 0, some (.assign (.tmp 12)), none⟩])
  .skip))
  (.seq (.reg [] [⟨some 13, some (.move (.tmp 0)), none⟩,
    ⟨some 4, some (.assign (.tmp 13)), none⟩])
  .ret))))
theorem e_plaithelp_Place {a0 a1 : AV} {H : AHeap} : R f_plaithelp_Place [a0, a1] H = fnK Go.Proofs.Try.prog [] H [(.tmp 4)] (evalL Go.Proofs.Try.prog KT R c_plaithelp_Place (Env.args [a0, a1] 0) H) :=
  runs_body (D := DT) (f := f_plaithelp_Place) Go.Proofs.Try.func39 (by kernel_rfl) (by kernel_rfl) (by kernel_rfl) (by kernel_rfl) (by kernel_rfl) (Nat.le_of_ble_eq_true rfl)

def c_plait_aig_Graph_And : LCode := (.seq (.reg [] [⟨some 6, some (.assign (.const (.int .i64 0))), none⟩,
    ⟨some 7, some (.assign (.const (.int .i64 0))), none⟩])
  (.seq (.seq (.reg [] [⟨some 13, some (.move (.tmp 0)), none⟩,
    ⟨some 14, some (.move (.tmp 1)), none⟩,
    ⟨some 15, some (.call ⟨(.value (.func f_plait_aig_Graph_lit)), #[(.tmp 13), (.tmp 14)], #[T_p_aig_Graph, T_int]⟩), none⟩,
    ⟨some 16, some (.unOp .not T_bool (.tmp 15)), none⟩,
    ⟨some 17, some (.move (.tmp 16)), none⟩,
    ⟨some 18, some (.move (.tmp 0)), some (some 17, false)⟩,
    ⟨some 19, some (.move (.tmp 2)), some (some 17, false)⟩,
    ⟨some 20, some (.call ⟨(.value (.func f_plait_aig_Graph_lit)), #[(.tmp 18), (.tmp 19)], #[T_p_aig_Graph, T_int]⟩), some (some 17, false)⟩,
    ⟨some 21, some (.unOp .not T_bool (.tmp 20)), some (some 17, false)⟩,
    ⟨some 22, some (.pick (.tmp 17) (.const (.bool true)) (.tmp 21)), none⟩])
  (.cond (.tmp 22) (.seq (.reg [] [⟨some 6, some (.assign (.const (.int .i64 0))), none⟩,
    ⟨some 7, some (.assign (.const (.int .i64 80))), none⟩])
  .ret)
  .skip))
  (.seq (.seq (.reg [] [⟨some 23, some (.move (.tmp 1)), none⟩,
    ⟨some 24, some (.move (.tmp 2)), none⟩,
    ⟨some 25, some (.binOp .gtr T_int (.tmp 23) (.tmp 24) T_int), none⟩])
  (.cond (.tmp 25) (.reg [] [⟨some 26, some (.move (.tmp 2)), none⟩,
    ⟨some 27, some (.move (.tmp 1)), none⟩,
    ⟨some 1, some (.assign (.tmp 26)), none⟩,
    ⟨some 2, some (.assign (.tmp 27)), none⟩])
  .skip))
  (.seq (.block 0 (.seq (.reg [] [⟨some 29, some (.move (.tmp 1)), none⟩,
    ⟨some 30, some (.binOp .eql T_int (.tmp 29) (.const (.int .i64 0)) T_int), none⟩,
    ⟨some 31, some (.move (.tmp 30)), none⟩,
    ⟨some 32, some (.move (.tmp 1)), some (some 31, false)⟩,
    ⟨some 33, some (.binOp .xor T_int (.tmp 32) (.const (.int .i64 1)) T_int), some (some 31, false)⟩,
    ⟨some 34, some (.move (.tmp 2)), some (some 31, false)⟩,
    ⟨some 35, some (.binOp .eql T_int (.tmp 33) (.tmp 34) T_int), some (some 31, false)⟩,
    ⟨some 36, some (.pick (.tmp 31) (.const (.bool true)) (.tmp 35)), none⟩,
    ⟨some 28, some (.assign (.tmp 36)), none⟩])
  (.cond (.tmp 28) (.seq (.reg [] [⟨some 6, some (.assign (.const (.int .i64 0))), none⟩,
    ⟨some 7, some (.assign (.const (.int .i64 0))), none⟩])
  .ret)
  (.seq (.reg [] [⟨some 38, some (.move (.tmp 1)), none⟩,
    ⟨some 39, some (.binOp .eql T_int (.tmp 38) (.const (.int .i64 1)) T_int), none⟩,
    ⟨some 40, some (.move (.tmp 39)), none⟩,
    ⟨some 41, some (.move (.tmp 1)), some (some 40, false)⟩,
    ⟨some 42, some (.move (.tmp 2)), some (some 40, false)⟩,
    ⟨some 43, some (.binOp .eql T_int (.tmp 41) (.tmp 42) T_int), some (some 40, false)⟩,
    ⟨some 44, some (.pick (.tmp 40) (.const (.bool true)) (.tmp 43)), none⟩,
    ⟨some 37, some (.assign (.tmp 44)), none⟩])
  (.cond (.tmp 37) (.seq (.reg [] [⟨some 45, some (.move (.tmp 2)), none⟩,
    ⟨some 6, some (.assign (.tmp 45)), none⟩,
    ⟨some 7, some (.assign (.const (.int .i64 0))), none⟩])
  .ret)
  .skip)))))
  (.seq (.reg [] [⟨some 46, some (.move (.tmp 1)), none⟩,
    ⟨some 47, some (.move (.tmp 2)), none⟩,
    ⟨some 48, some (.build T_a2_int #[(0, (.tmp 46)), (1, (.tmp 47))]), none⟩,
    ⟨some 8, some (.alloc T_a2_int), none⟩,
    ⟨none, some (.store T_a2_int (.tmp 8) (.tmp 48)), none⟩])
  (.seq (.seq (.reg [] [⟨some 50, some (.move (.tmp 0)), none⟩,
    ⟨some 51, some (.nilCheck (.tmp 50)), none⟩,
    ⟨some 52, some (.fieldAddr T_aig_Graph (.tmp 51) 2), none⟩,
    ⟨some 53, some (.load T_m_a2_int_int (.tmp 52)), none⟩,
    ⟨some 54, some (.load T_a2_int (.tmp 8)), none⟩,
    ⟨some 55, some (.lookup T_m_a2_int_int (.tmp 53) (.tmp 54) true), none⟩,
    ⟨some 49, some (.move (.tmp 55)), none⟩,
    ⟨some 56, some (.extract (.tmp 49) 0), none⟩,
    ⟨some 57, some (.extract (.tmp 49) 1), none⟩,
    ⟨some 9, some (.assign (.tmp 56)), none⟩,
    ⟨some 10, some (.assign (.tmp 57)), none⟩])
  (.seq (.reg [] [⟨some 58, some (.move (.tmp 10)), none⟩])
  (.cond (.tmp 58) (.seq (.reg [] [⟨some 59, some (.move (.tmp 9)), none⟩,
    ⟨some 6, some (.assign (.tmp 59)), none⟩,
    ⟨some 7, some (.assign (.const (.int .i64 0))), none⟩])
  .ret)
  .skip)))
  (.seq (.reg [] [⟨some 61, some (.move (.tmp 0)), none⟩,
    ⟨some 62, some (.load T_a2_int (.tmp 8)), none⟩,
    ⟨some 63, some (.call ⟨(.value (.func f_plait_aig_Graph_node)), #[(.tmp 61), (.tmp 62)], #[T_p_aig_Graph, T_a2_int]⟩), none⟩,
    ⟨some 60, some (.move (.tmp 63)), none⟩,
    ⟨some 64, some (.extract (.tmp 60) 0), none⟩,
    ⟨some 65, some (.extract (.tmp 60) 1), none⟩,
    ⟨some 11, some (.assign (.tmp 64)), none⟩,
    ⟨some 12, some (.assign (.tmp 65)), none⟩])
  (.seq (.seq (.reg [] [⟨some 66, some (.move (.tmp 12)), none⟩,
    ⟨some 67, some (.binOp .eql T_api_Errno (.tmp 66) (.const (.int .i64 0)) T_api_Errno), none⟩])
  (.cond (.tmp 67) (.reg [] [⟨some 68, some (.move (.tmp 0)), none⟩,
    ⟨some 69, some (.nilCheck (.tmp 68)), none⟩,
    ⟨some 70, some (.fieldAddr T_aig_Graph (.tmp 69) 2), none⟩,
    ⟨some 71, some (.load T_m_a2_int_int (.tmp 70)), none⟩,
    ⟨some 72, some (.load T_a2_int (.tmp 8)), none⟩,
    ⟨some 73, some (.move (.tmp 11)), none⟩,
    ⟨none, some (.mapUpdate T_m_a2_int_int (.tmp 71) (.tmp 72) (.tmp 73)), none⟩])
  .skip))
  (.seq (.reg [] [⟨some 74, some (.move (.tmp 11)), none⟩,
    ⟨some 75, some (.move (.tmp 12)), none⟩,
    ⟨some 6, some (.assign (.tmp 74)), none⟩,
    ⟨some 7, some (.assign (.tmp 75)), none⟩])
  .ret)))))))))
theorem e_plait_aig_Graph_And {a0 a1 a2 : AV} {H : AHeap} : R f_plait_aig_Graph_And [a0, a1, a2] H = fnK Go.Proofs.Try.prog [] H [(.tmp 6), (.tmp 7)] (evalL Go.Proofs.Try.prog KT R c_plait_aig_Graph_And (Env.args [a0, a1, a2] 0) H) :=
  runs_body (D := DT) (f := f_plait_aig_Graph_And) Go.Proofs.Try.func40 (by kernel_rfl) (by kernel_rfl) (by kernel_rfl) (by kernel_rfl) (by kernel_rfl) (Nat.le_of_ble_eq_true rfl)

def c_plait_aig_Graph_Or : LCode := (.seq (.reg [] [⟨some 6, some (.assign (.const (.int .i64 0))), none⟩,
    ⟨some 7, some (.assign (.const (.int .i64 0))), none⟩])
  (.seq (.seq (.reg [] [⟨some 8, some (.move (.tmp 0)), none⟩,
    ⟨some 9, some (.move (.tmp 1)), none⟩,
    ⟨some 10, some (.call ⟨(.value (.func f_plait_aig_Graph_lit)), #[(.tmp 8), (.tmp 9)], #[T_p_aig_Graph, T_int]⟩), none⟩,
    ⟨some 11, some (.unOp .not T_bool (.tmp 10)), none⟩,
    ⟨some 12, some (.move (.tmp 11)), none⟩,
    ⟨some 13, some (.move (.tmp 0)), some (some 12, false)⟩,
    ⟨some 14, some (.move (.tmp 2)), some (some 12, false)⟩,
    ⟨some 15, some (.call ⟨(.value (.func f_plait_aig_Graph_lit)), #[(.tmp 13), (.tmp 14)], #[T_p_aig_Graph, T_int]⟩), some (some 12, false)⟩,
    ⟨some 16, some (.unOp .not T_bool (.tmp 15)), some (some 12, false)⟩,
    ⟨some 17, some (.pick (.tmp 12) (.const (.bool true)) (.tmp 16)), none⟩])
  (.cond (.tmp 17) (.seq (.reg [] [⟨some 6, some (.assign (.const (.int .i64 0))), none⟩,
    ⟨some 7, some (.assign (.const (.int .i64 80))), none⟩])
  .ret)
  .skip))
  (.seq (.reg [] [⟨some 18, some (.move (.tmp 0)), none⟩,
    ⟨some 19, some (.move (.tmp 1)), none⟩,
    ⟨some 20, some (.binOp .xor T_int (.tmp 19) (.const (.int .i64 1)) T_int), none⟩,
    ⟨some 21, some (.move (.tmp 2)), none⟩,
    ⟨some 22, some (.binOp .xor T_int (.tmp 21) (.const (.int .i64 1)) T_int), none⟩,
    ⟨some 23, some (.call ⟨(.value (.func f_plait_aig_Graph_And)), #[(.tmp 18), (.tmp 20), (.tmp 22)], #[T_p_aig_Graph, T_int, T_int]⟩), none⟩,
    ⟨some 24, some (.extract (.tmp 23) 0), none⟩,
    ⟨some 25, some (.extract (.tmp 23) 1), none⟩,
    ⟨some 26, some (.call ⟨(.value (.func f_aig_turned)), #[(.tmp 24), (.tmp 25)], #[T_int, T_api_Errno]⟩), none⟩,
    ⟨some 27, some (.extract (.tmp 26) 0), none⟩,
    ⟨some 28, some (.extract (.tmp 26) 1), none⟩,
    ⟨some 6, some (.assign (.tmp 27)), none⟩,
    ⟨some 7, some (.assign (.tmp 28)), none⟩])
  .ret)))
theorem e_plait_aig_Graph_Or {a0 a1 a2 : AV} {H : AHeap} : R f_plait_aig_Graph_Or [a0, a1, a2] H = fnK Go.Proofs.Try.prog [] H [(.tmp 6), (.tmp 7)] (evalL Go.Proofs.Try.prog KT R c_plait_aig_Graph_Or (Env.args [a0, a1, a2] 0) H) :=
  runs_body (D := DT) (f := f_plait_aig_Graph_Or) Go.Proofs.Try.func41 (by kernel_rfl) (by kernel_rfl) (by kernel_rfl) (by kernel_rfl) (by kernel_rfl) (Nat.le_of_ble_eq_true rfl)

def c_plait_aig_Graph_Xor : LCode := (.seq (.reg [] [⟨some 6, some (.assign (.const (.int .i64 0))), none⟩,
    ⟨some 7, some (.assign (.const (.int .i64 0))), none⟩])
  (.seq (.seq (.reg [] [⟨some 8, some (.move (.tmp 0)), none⟩,
    ⟨some 9, some (.move (.tmp 1)), none⟩,
    ⟨some 10, some (.call ⟨(.value (.func f_plait_aig_Graph_lit)), #[(.tmp 8), (.tmp 9)], #[T_p_aig_Graph, T_int]⟩), none⟩,
    ⟨some 11, some (.unOp .not T_bool (.tmp 10)), none⟩,
    ⟨some 12, some (.move (.tmp 11)), none⟩,
    ⟨some 13, some (.move (.tmp 0)), some (some 12, false)⟩,
    ⟨some 14, some (.move (.tmp 2)), some (some 12, false)⟩,
    ⟨some 15, some (.call ⟨(.value (.func f_plait_aig_Graph_lit)), #[(.tmp 13), (.tmp 14)], #[T_p_aig_Graph, T_int]⟩), some (some 12, false)⟩,
    ⟨some 16, some (.unOp .not T_bool (.tmp 15)), some (some 12, false)⟩,
    ⟨some 17, some (.pick (.tmp 12) (.const (.bool true)) (.tmp 16)), none⟩])
  (.cond (.tmp 17) (.seq (.reg [] [⟨some 6, some (.assign (.const (.int .i64 0))), none⟩,
    ⟨some 7, some (.assign (.const (.int .i64 80))), none⟩])
  .ret)
  .skip))
  (.seq (.reg [] [⟨some 18, some (.move (.tmp 0)), none⟩,
    ⟨some 19, some (.move (.tmp 1)), none⟩,
    ⟨some 20, some (.move (.tmp 2)), none⟩,
    ⟨some 21, some (.binOp .xor T_int (.tmp 20) (.const (.int .i64 1)) T_int), none⟩,
    ⟨some 22, some (.move (.tmp 1)), none⟩,
    ⟨some 23, some (.binOp .xor T_int (.tmp 22) (.const (.int .i64 1)) T_int), none⟩,
    ⟨some 24, some (.move (.tmp 2)), none⟩,
    ⟨some 25, some (.call ⟨(.value (.func f_plait_aig_Graph_either)), #[(.tmp 18), (.tmp 19), (.tmp 21), (.tmp 23), (.tmp 24)], #[T_p_aig_Graph, T_int, T_int, T_int, T_int]⟩), none⟩,
    ⟨some 26, some (.extract (.tmp 25) 0), none⟩,
    ⟨some 27, some (.extract (.tmp 25) 1), none⟩,
    ⟨some 6, some (.assign (.tmp 26)), none⟩,
    ⟨some 7, some (.assign (.tmp 27)), none⟩])
  .ret)))
theorem e_plait_aig_Graph_Xor {a0 a1 a2 : AV} {H : AHeap} : R f_plait_aig_Graph_Xor [a0, a1, a2] H = fnK Go.Proofs.Try.prog [] H [(.tmp 6), (.tmp 7)] (evalL Go.Proofs.Try.prog KT R c_plait_aig_Graph_Xor (Env.args [a0, a1, a2] 0) H) :=
  runs_body (D := DT) (f := f_plait_aig_Graph_Xor) Go.Proofs.Try.func42 (by kernel_rfl) (by kernel_rfl) (by kernel_rfl) (by kernel_rfl) (by kernel_rfl) (Nat.le_of_ble_eq_true rfl)

def c_plait_aig_Graph_Mux : LCode := (.seq (.reg [] [⟨some 8, some (.assign (.const (.int .i64 0))), none⟩,
    ⟨some 9, some (.assign (.const (.int .i64 0))), none⟩])
  (.seq (.seq (.reg [] [⟨some 10, some (.move (.tmp 0)), none⟩,
    ⟨some 11, some (.move (.tmp 1)), none⟩,
    ⟨some 12, some (.call ⟨(.value (.func f_plait_aig_Graph_lit)), #[(.tmp 10), (.tmp 11)], #[T_p_aig_Graph, T_int]⟩), none⟩,
    ⟨some 13, some (.unOp .not T_bool (.tmp 12)), none⟩,
    ⟨some 14, some (.move (.tmp 13)), none⟩,
    ⟨some 15, some (.move (.tmp 0)), some (some 14, false)⟩,
    ⟨some 16, some (.move (.tmp 2)), some (some 14, false)⟩,
    ⟨some 17, some (.call ⟨(.value (.func f_plait_aig_Graph_lit)), #[(.tmp 15), (.tmp 16)], #[T_p_aig_Graph, T_int]⟩), some (some 14, false)⟩,
    ⟨some 18, some (.unOp .not T_bool (.tmp 17)), some (some 14, false)⟩,
    ⟨some 19, some (.pick (.tmp 14) (.const (.bool true)) (.tmp 18)), none⟩,
    ⟨some 20, some (.move (.tmp 19)), none⟩,
    ⟨some 21, some (.move (.tmp 0)), some (some 20, false)⟩,
    ⟨some 22, some (.move (.tmp 3)), some (some 20, false)⟩,
    ⟨some 23, some (.call ⟨(.value (.func f_plait_aig_Graph_lit)), #[(.tmp 21), (.tmp 22)], #[T_p_aig_Graph, T_int]⟩), some (some 20, false)⟩,
    ⟨some 24, some (.unOp .not T_bool (.tmp 23)), some (some 20, false)⟩,
    ⟨some 25, some (.pick (.tmp 20) (.const (.bool true)) (.tmp 24)), none⟩])
  (.cond (.tmp 25) (.seq (.reg [] [⟨some 8, some (.assign (.const (.int .i64 0))), none⟩,
    ⟨some 9, some (.assign (.const (.int .i64 80))), none⟩])
  .ret)
  .skip))
  (.seq (.reg [] [⟨some 26, some (.move (.tmp 0)), none⟩,
    ⟨some 27, some (.move (.tmp 1)), none⟩,
    ⟨some 28, some (.move (.tmp 2)), none⟩,
    ⟨some 29, some (.move (.tmp 1)), none⟩,
    ⟨some 30, some (.binOp .xor T_int (.tmp 29) (.const (.int .i64 1)) T_int), none⟩,
    ⟨some 31, some (.move (.tmp 3)), none⟩,
    ⟨some 32, some (.call ⟨(.value (.func f_plait_aig_Graph_either)), #[(.tmp 26), (.tmp 27), (.tmp 28), (.tmp 30), (.tmp 31)], #[T_p_aig_Graph, T_int, T_int, T_int, T_int]⟩), none⟩,
    ⟨some 33, some (.extract (.tmp 32) 0), none⟩,
    ⟨some 34, some (.extract (.tmp 32) 1), none⟩,
    ⟨some 8, some (.assign (.tmp 33)), none⟩,
    ⟨some 9, some (.assign (.tmp 34)), none⟩])
  .ret)))
theorem e_plait_aig_Graph_Mux {a0 a1 a2 a3 : AV} {H : AHeap} : R f_plait_aig_Graph_Mux [a0, a1, a2, a3] H = fnK Go.Proofs.Try.prog [] H [(.tmp 8), (.tmp 9)] (evalL Go.Proofs.Try.prog KT R c_plait_aig_Graph_Mux (Env.args [a0, a1, a2, a3] 0) H) :=
  runs_body (D := DT) (f := f_plait_aig_Graph_Mux) Go.Proofs.Try.func43 (by kernel_rfl) (by kernel_rfl) (by kernel_rfl) (by kernel_rfl) (by kernel_rfl) (Nat.le_of_ble_eq_true rfl)

def c_plait_aig_Graph_Input : LCode := (.seq (.reg [] [⟨some 2, some (.assign (.const (.int .i64 0))), none⟩,
    ⟨some 3, some (.assign (.const (.int .i64 0))), none⟩])
  (.seq (.reg [] [⟨some 7, some (.move (.tmp 0)), none⟩,
    ⟨some 8, some (.build T_a2_int #[]), none⟩,
    ⟨some 9, some (.call ⟨(.value (.func f_plait_aig_Graph_node)), #[(.tmp 7), (.tmp 8)], #[T_p_aig_Graph, T_a2_int]⟩), none⟩,
    ⟨some 6, some (.move (.tmp 9)), none⟩,
    ⟨some 10, some (.extract (.tmp 6) 0), none⟩,
    ⟨some 11, some (.extract (.tmp 6) 1), none⟩,
    ⟨some 4, some (.assign (.tmp 10)), none⟩,
    ⟨some 5, some (.assign (.tmp 11)), none⟩])
  (.seq (.seq (.reg [] [⟨some 12, some (.move (.tmp 5)), none⟩,
    ⟨some 13, some (.binOp .eql T_api_Errno (.tmp 12) (.const (.int .i64 0)) T_api_Errno), none⟩])
  (.cond (.tmp 13) (.reg [] [⟨some 14, some (.move (.tmp 0)), none⟩,
    ⟨some 15, some (.move (.tmp 0)), none⟩,
    ⟨some 16, some (.nilCheck (.tmp 15)), none⟩,
    ⟨some 17, some (.fieldAddr T_aig_Graph (.tmp 16) 3), none⟩,
    ⟨some 18, some (.load T_s_int (.tmp 17)), none⟩,
    ⟨some 19, some (.move (.tmp 4)), none⟩,
    ⟨some 20, some (.buildSlice T_s_int 1 #[(0, (.tmp 19))]), none⟩,
    ⟨some 21, some (.call ⟨(.builtin .append), #[(.tmp 18), (.tmp 20)], #[T_s_int, T_s_int]⟩), none⟩,
    ⟨some 22, some (.nilCheck (.tmp 14)), none⟩,
    ⟨some 23, some (.fieldAddr T_aig_Graph (.tmp 22) 3), none⟩,
    ⟨none, some (.store T_s_int (.tmp 23) (.tmp 21)), none⟩])
  .skip))
  (.seq (.reg [] [⟨some 24, some (.move (.tmp 4)), none⟩,
    ⟨some 25, some (.move (.tmp 5)), none⟩,
    ⟨some 2, some (.assign (.tmp 24)), none⟩,
    ⟨some 3, some (.assign (.tmp 25)), none⟩])
  .ret))))
theorem e_plait_aig_Graph_Input {a0 : AV} {H : AHeap} : R f_plait_aig_Graph_Input [a0] H = fnK Go.Proofs.Try.prog [] H [(.tmp 2), (.tmp 3)] (evalL Go.Proofs.Try.prog KT R c_plait_aig_Graph_Input (Env.args [a0] 0) H) :=
  runs_body (D := DT) (f := f_plait_aig_Graph_Input) Go.Proofs.Try.func74 (by kernel_rfl) (by kernel_rfl) (by kernel_rfl) (by kernel_rfl) (by kernel_rfl) (Nat.le_of_ble_eq_true rfl)

def c_plait_plaitref8_Graph_Input : LCode := (.seq (.reg [] [⟨some 2, some (.assign (.const (.int .i64 0))), none⟩,
    ⟨some 3, some (.assign (.const (.int .i64 0))), none⟩])
  (.seq (.reg [] [⟨some 4, some (.move (.tmp 0)), none⟩,
    ⟨some 5, some (.build T_plaitref8_Node #[(2, (.const (.bool true)))]), none⟩,
    ⟨some 6, some (.call ⟨(.value (.func f_plait_plaitref8_Graph_put)), #[(.tmp 4), (.tmp 5)], #[T_p_plaitref8_Graph, T_plaitref8_Node]⟩), none⟩,
    ⟨some 7, some (.extract (.tmp 6) 0), none⟩,
    ⟨some 8, some (.extract (.tmp 6) 1), none⟩,
    ⟨some 2, some (.assign (.tmp 7)), none⟩,
    ⟨some 3, some (.assign (.tmp 8)), none⟩])
  .ret))
theorem e_plait_plaitref8_Graph_Input {a0 : AV} {H : AHeap} : R f_plait_plaitref8_Graph_Input [a0] H = fnK Go.Proofs.Try.prog [] H [(.tmp 2), (.tmp 3)] (evalL Go.Proofs.Try.prog KT R c_plait_plaitref8_Graph_Input (Env.args [a0] 0) H) :=
  runs_body (D := DT) (f := f_plait_plaitref8_Graph_Input) Go.Proofs.Try.func75 (by kernel_rfl) (by kernel_rfl) (by kernel_rfl) (by kernel_rfl) (by kernel_rfl) (Nat.le_of_ble_eq_true rfl)

def l_plait_plaitref8_Graph_And_0 : LCode := (.seq (.seq (.reg [] [⟨some 40, some (.move (.tmp 8)), none⟩,
    ⟨some 41, some (.move (.tmp 0)), none⟩,
    ⟨some 42, some (.nilCheck (.tmp 41)), none⟩,
    ⟨some 43, some (.fieldAddr T_plaitref8_Graph (.tmp 42) 0), none⟩,
    ⟨some 44, some (.load T_s_plaitref8_Node (.tmp 43)), none⟩,
    ⟨some 45, some (.call ⟨(.builtin .len), #[(.tmp 44)], #[T_s_plaitref8_Node]⟩), none⟩,
    ⟨some 46, some (.binOp .lss T_int (.tmp 40) (.tmp 45) T_int), none⟩])
  (.cond (.tmp 46) .skip
  (.exit 0)))
  (.seq (.block 1 (.seq (.reg [] [⟨some 49, some (.move (.tmp 0)), none⟩,
    ⟨some 50, some (.nilCheck (.tmp 49)), none⟩,
    ⟨some 51, some (.fieldAddr T_plaitref8_Graph (.tmp 50) 0), none⟩,
    ⟨some 52, some (.load T_s_plaitref8_Node (.tmp 51)), none⟩,
    ⟨some 53, some (.move (.tmp 8)), none⟩,
    ⟨some 54, some (.indexAddr T_s_plaitref8_Node (.tmp 52) (.tmp 53)), none⟩,
    ⟨some 55, some (.fieldAddr T_plaitref8_Node (.tmp 54) 2), none⟩,
    ⟨some 56, some (.load T_bool (.tmp 55)), none⟩,
    ⟨some 57, some (.unOp .not T_bool (.tmp 56)), none⟩,
    ⟨some 58, some (.move (.tmp 57)), none⟩,
    ⟨some 59, some (.move (.tmp 0)), some (some 58, true)⟩,
    ⟨some 60, some (.nilCheck (.tmp 59)), some (some 58, true)⟩,
    ⟨some 61, some (.fieldAddr T_plaitref8_Graph (.tmp 60) 0), some (some 58, true)⟩,
    ⟨some 62, some (.load T_s_plaitref8_Node (.tmp 61)), some (some 58, true)⟩,
    ⟨some 63, some (.move (.tmp 8)), some (some 58, true)⟩,
    ⟨some 64, some (.indexAddr T_s_plaitref8_Node (.tmp 62) (.tmp 63)), some (some 58, true)⟩,
    ⟨some 65, some (.fieldAddr T_plaitref8_Node (.tmp 64) 0), some (some 58, true)⟩,
    ⟨some 66, some (.load T_int (.tmp 65)), some (some 58, true)⟩,
    ⟨some 67, some (.move (.tmp 1)), some (some 58, true)⟩,
    ⟨some 68, some (.binOp .eql T_int (.tmp 66) (.tmp 67) T_int), some (some 58, true)⟩,
    ⟨some 69, some (.pick (.tmp 58) (.tmp 68) (.const (.bool false))), none⟩,
    ⟨some 70, some (.move (.tmp 69)), none⟩,
    ⟨some 71, some (.move (.tmp 0)), some (some 70, true)⟩,
    ⟨some 72, some (.nilCheck (.tmp 71)), some (some 70, true)⟩,
    ⟨some 73, some (.fieldAddr T_plaitref8_Graph (.tmp 72) 0), some (some 70, true)⟩,
    ⟨some 74, some (.load T_s_plaitref8_Node (.tmp 73)), some (some 70, true)⟩,
    ⟨some 75, some (.move (.tmp 8)), some (some 70, true)⟩,
    ⟨some 76, some (.indexAddr T_s_plaitref8_Node (.tmp 74) (.tmp 75)), some (some 70, true)⟩,
    ⟨some 77, some (.fieldAddr T_plaitref8_Node (.tmp 76) 1), some (some 70, true)⟩,
    ⟨some 78, some (.load T_int (.tmp 77)), some (some 70, true)⟩,
    ⟨some 79, some (.move (.tmp 2)), some (some 70, true)⟩,
    ⟨some 80, some (.binOp .eql T_int (.tmp 78) (.tmp 79) T_int), some (some 70, true)⟩,
    ⟨some 81, some (.pick (.tmp 70) (.tmp 80) (.const (.bool false))), none⟩])
  (.cond (.tmp 81) (.seq (.reg [] [⟨some 82, some (.move (.tmp 8)), none⟩,
    ⟨some 83, some (.binOp .add T_int (.tmp 82) (.const (.int .i64 1)) T_int), none⟩,
    ⟨some 84, some (.binOp .mul T_int (.const (.int .i64 2)) (.tmp 83) T_int), none⟩,
    ⟨some 6, some (.assign (.tmp 84)), none⟩,
    ⟨some 7, some (.assign (.const (.int .i64 0))), none⟩])
  .ret)
  .skip)))
  (.reg [] [⟨some 47, some (.move (.tmp 8)), none⟩,
    ⟨some 48, some (.binOp .add T_int (.tmp 47) (.const (.int .i64 1)) T_int), none⟩,
    ⟨some 8, some (.assign (.tmp 48)), none⟩])))
@[simp] theorem d_l_plait_plaitref8_Graph_And_0 : defs l_plait_plaitref8_Graph_And_0 = [40, 41, 42, 43, 44, 45, 46, 49, 50, 51, 52, 53, 54, 55, 56, 57, 58, 59, 60, 61, 62, 63, 64, 65, 66, 67, 68, 69, 70, 71, 72, 73, 74, 75, 76, 77, 78, 79, 80, 81, 82, 83, 84, 6, 7, 47, 48, 8] := by rfl
def c_plait_plaitref8_Graph_And : LCode := (.seq (.reg [] [⟨some 6, some (.assign (.const (.int .i64 0))), none⟩,
    ⟨some 7, some (.assign (.const (.int .i64 0))), none⟩])
  (.seq (.seq (.reg [] [⟨some 9, some (.move (.tmp 0)), none⟩,
    ⟨some 10, some (.move (.tmp 1)), none⟩,
    ⟨some 11, some (.call ⟨(.value (.func f_plait_plaitref8_Graph_is)), #[(.tmp 9), (.tmp 10)], #[T_p_plaitref8_Graph, T_int]⟩), none⟩,
    ⟨some 12, some (.unOp .not T_bool (.tmp 11)), none⟩,
    ⟨some 13, some (.move (.tmp 12)), none⟩,
    ⟨some 14, some (.move (.tmp 0)), some (some 13, false)⟩,
    ⟨some 15, some (.move (.tmp 2)), some (some 13, false)⟩,
    ⟨some 16, some (.call ⟨(.value (.func f_plait_plaitref8_Graph_is)), #[(.tmp 14), (.tmp 15)], #[T_p_plaitref8_Graph, T_int]⟩), some (some 13, false)⟩,
    ⟨some 17, some (.unOp .not T_bool (.tmp 16)), some (some 13, false)⟩,
    ⟨some 18, some (.pick (.tmp 13) (.const (.bool true)) (.tmp 17)), none⟩])
  (.cond (.tmp 18) (.seq (.reg [] [⟨some 6, some (.assign (.const (.int .i64 0))), none⟩,
    ⟨some 7, some (.assign (.const (.int .i64 80))), none⟩])
  .ret)
  .skip))
  (.seq (.seq (.reg [] [⟨some 19, some (.move (.tmp 1)), none⟩,
    ⟨some 20, some (.move (.tmp 2)), none⟩,
    ⟨some 21, some (.binOp .gtr T_int (.tmp 19) (.tmp 20) T_int), none⟩])
  (.cond (.tmp 21) (.reg [] [⟨some 22, some (.move (.tmp 2)), none⟩,
    ⟨some 23, some (.move (.tmp 1)), none⟩,
    ⟨some 1, some (.assign (.tmp 22)), none⟩,
    ⟨some 2, some (.assign (.tmp 23)), none⟩])
  .skip))
  (.seq (.seq (.reg [] [⟨some 24, some (.move (.tmp 1)), none⟩,
    ⟨some 25, some (.binOp .eql T_int (.tmp 24) (.const (.int .i64 0)) T_int), none⟩,
    ⟨some 26, some (.move (.tmp 25)), none⟩,
    ⟨some 27, some (.move (.tmp 1)), some (some 26, false)⟩,
    ⟨some 28, some (.binOp .xor T_int (.tmp 27) (.const (.int .i64 1)) T_int), some (some 26, false)⟩,
    ⟨some 29, some (.move (.tmp 2)), some (some 26, false)⟩,
    ⟨some 30, some (.binOp .eql T_int (.tmp 28) (.tmp 29) T_int), some (some 26, false)⟩,
    ⟨some 31, some (.pick (.tmp 26) (.const (.bool true)) (.tmp 30)), none⟩])
  (.cond (.tmp 31) (.seq (.reg [] [⟨some 6, some (.assign (.const (.int .i64 0))), none⟩,
    ⟨some 7, some (.assign (.const (.int .i64 0))), none⟩])
  .ret)
  .skip))
  (.seq (.seq (.reg [] [⟨some 32, some (.move (.tmp 1)), none⟩,
    ⟨some 33, some (.binOp .eql T_int (.tmp 32) (.const (.int .i64 1)) T_int), none⟩,
    ⟨some 34, some (.move (.tmp 33)), none⟩,
    ⟨some 35, some (.move (.tmp 1)), some (some 34, false)⟩,
    ⟨some 36, some (.move (.tmp 2)), some (some 34, false)⟩,
    ⟨some 37, some (.binOp .eql T_int (.tmp 35) (.tmp 36) T_int), some (some 34, false)⟩,
    ⟨some 38, some (.pick (.tmp 34) (.const (.bool true)) (.tmp 37)), none⟩])
  (.cond (.tmp 38) (.seq (.reg [] [⟨some 39, some (.move (.tmp 2)), none⟩,
    ⟨some 6, some (.assign (.tmp 39)), none⟩,
    ⟨some 7, some (.assign (.const (.int .i64 0))), none⟩])
  .ret)
  .skip))
  (.seq (.seq (.reg [] [⟨some 8, some (.assign (.const (.int .i64 0))), none⟩])
  (.block 0 (.loop l_plait_plaitref8_Graph_And_0)))
  (.seq (.reg [] [⟨some 85, some (.move (.tmp 0)), none⟩,
    ⟨some 86, some (.move (.tmp 1)), none⟩,
    ⟨some 87, some (.move (.tmp 2)), none⟩,
    ⟨some 88, some (.build T_plaitref8_Node #[(0, (.tmp 86)), (1, (.tmp 87))]), none⟩,
    ⟨some 89, some (.call ⟨(.value (.func f_plait_plaitref8_Graph_put)), #[(.tmp 85), (.tmp 88)], #[T_p_plaitref8_Graph, T_plaitref8_Node]⟩), none⟩,
    ⟨some 90, some (.extract (.tmp 89) 0), none⟩,
    ⟨some 91, some (.extract (.tmp 89) 1), none⟩,
    ⟨some 6, some (.assign (.tmp 90)), none⟩,
    ⟨some 7, some (.assign (.tmp 91)), none⟩])
  .ret)))))))
theorem e_plait_plaitref8_Graph_And {a0 a1 a2 : AV} {H : AHeap} : R f_plait_plaitref8_Graph_And [a0, a1, a2] H = fnK Go.Proofs.Try.prog [] H [(.tmp 6), (.tmp 7)] (evalL Go.Proofs.Try.prog KT R c_plait_plaitref8_Graph_And (Env.args [a0, a1, a2] 0) H) :=
  runs_body (D := DT) (f := f_plait_plaitref8_Graph_And) Go.Proofs.Try.func76 (by kernel_rfl) (by kernel_rfl) (by kernel_rfl) (by kernel_rfl) (by kernel_rfl) (Nat.le_of_ble_eq_true rfl)

def c_plait_plaitref8_Graph_Or : LCode := (.seq (.reg [] [⟨some 6, some (.assign (.const (.int .i64 0))), none⟩,
    ⟨some 7, some (.assign (.const (.int .i64 0))), none⟩])
  (.seq (.seq (.reg [] [⟨some 10, some (.move (.tmp 0)), none⟩,
    ⟨some 11, some (.move (.tmp 1)), none⟩,
    ⟨some 12, some (.call ⟨(.value (.func f_plait_plaitref8_Graph_is)), #[(.tmp 10), (.tmp 11)], #[T_p_plaitref8_Graph, T_int]⟩), none⟩,
    ⟨some 13, some (.unOp .not T_bool (.tmp 12)), none⟩,
    ⟨some 14, some (.move (.tmp 13)), none⟩,
    ⟨some 15, some (.move (.tmp 0)), some (some 14, false)⟩,
    ⟨some 16, some (.move (.tmp 2)), some (some 14, false)⟩,
    ⟨some 17, some (.call ⟨(.value (.func f_plait_plaitref8_Graph_is)), #[(.tmp 15), (.tmp 16)], #[T_p_plaitref8_Graph, T_int]⟩), some (some 14, false)⟩,
    ⟨some 18, some (.unOp .not T_bool (.tmp 17)), some (some 14, false)⟩,
    ⟨some 19, some (.pick (.tmp 14) (.const (.bool true)) (.tmp 18)), none⟩])
  (.cond (.tmp 19) (.seq (.reg [] [⟨some 6, some (.assign (.const (.int .i64 0))), none⟩,
    ⟨some 7, some (.assign (.const (.int .i64 80))), none⟩])
  .ret)
  .skip))
  (.seq (.reg [] [⟨some 21, some (.move (.tmp 0)), none⟩,
    ⟨some 22, some (.move (.tmp 1)), none⟩,
    ⟨some 23, some (.binOp .xor T_int (.tmp 22) (.const (.int .i64 1)) T_int), none⟩,
    ⟨some 24, some (.move (.tmp 2)), none⟩,
    ⟨some 25, some (.binOp .xor T_int (.tmp 24) (.const (.int .i64 1)) T_int), none⟩,
    ⟨some 26, some (.call ⟨(.value (.func f_plait_plaitref8_Graph_And)), #[(.tmp 21), (.tmp 23), (.tmp 25)], #[T_p_plaitref8_Graph, T_int, T_int]⟩), none⟩,
    ⟨some 20, some (.move (.tmp 26)), none⟩,
    ⟨some 27, some (.extract (.tmp 20) 0), none⟩,
    ⟨some 28, some (.extract (.tmp 20) 1), none⟩,
    ⟨some 8, some (.assign (.tmp 27)), none⟩,
    ⟨some 9, some (.assign (.tmp 28)), none⟩])
  (.seq (.seq (.reg [] [⟨some 29, some (.move (.tmp 9)), none⟩,
    ⟨some 30, some (.binOp .neq T_int (.tmp 29) (.const (.int .i64 0)) T_int), none⟩])
  (.cond (.tmp 30) (.seq (.reg [] [⟨some 31, some (.move (.tmp 9)), none⟩,
    ⟨some 6, some (.assign (.const (.int .i64 0))), none⟩,
    ⟨some 7, some (.assign (.tmp 31)), none⟩])
  .ret)
  .skip))
  (.seq (.reg [] [⟨some 32, some (.move (.tmp 8)), none⟩,
    ⟨some 33, some (.binOp .xor T_int (.tmp 32) (.const (.int .i64 1)) T_int), none⟩,
    ⟨some 6, some (.assign (.tmp 33)), none⟩,
    ⟨some 7, some (.assign (.const (.int .i64 0))), none⟩])
  .ret)))))
theorem e_plait_plaitref8_Graph_Or {a0 a1 a2 : AV} {H : AHeap} : R f_plait_plaitref8_Graph_Or [a0, a1, a2] H = fnK Go.Proofs.Try.prog [] H [(.tmp 6), (.tmp 7)] (evalL Go.Proofs.Try.prog KT R c_plait_plaitref8_Graph_Or (Env.args [a0, a1, a2] 0) H) :=
  runs_body (D := DT) (f := f_plait_plaitref8_Graph_Or) Go.Proofs.Try.func77 (by kernel_rfl) (by kernel_rfl) (by kernel_rfl) (by kernel_rfl) (by kernel_rfl) (Nat.le_of_ble_eq_true rfl)

def c_plait_plaitref8_Graph_Xor : LCode := (.seq (.reg [] [⟨some 6, some (.assign (.const (.int .i64 0))), none⟩,
    ⟨some 7, some (.assign (.const (.int .i64 0))), none⟩])
  (.seq (.seq (.reg [] [⟨some 11, some (.move (.tmp 0)), none⟩,
    ⟨some 12, some (.move (.tmp 1)), none⟩,
    ⟨some 13, some (.call ⟨(.value (.func f_plait_plaitref8_Graph_is)), #[(.tmp 11), (.tmp 12)], #[T_p_plaitref8_Graph, T_int]⟩), none⟩,
    ⟨some 14, some (.unOp .not T_bool (.tmp 13)), none⟩,
    ⟨some 15, some (.move (.tmp 14)), none⟩,
    ⟨some 16, some (.move (.tmp 0)), some (some 15, false)⟩,
    ⟨some 17, some (.move (.tmp 2)), some (some 15, false)⟩,
    ⟨some 18, some (.call ⟨(.value (.func f_plait_plaitref8_Graph_is)), #[(.tmp 16), (.tmp 17)], #[T_p_plaitref8_Graph, T_int]⟩), some (some 15, false)⟩,
    ⟨some 19, some (.unOp .not T_bool (.tmp 18)), some (some 15, false)⟩,
    ⟨some 20, some (.pick (.tmp 15) (.const (.bool true)) (.tmp 19)), none⟩])
  (.cond (.tmp 20) (.seq (.reg [] [⟨some 6, some (.assign (.const (.int .i64 0))), none⟩,
    ⟨some 7, some (.assign (.const (.int .i64 80))), none⟩])
  .ret)
  .skip))
  (.seq (.reg [] [⟨some 22, some (.move (.tmp 0)), none⟩,
    ⟨some 23, some (.move (.tmp 1)), none⟩,
    ⟨some 24, some (.move (.tmp 2)), none⟩,
    ⟨some 25, some (.binOp .xor T_int (.tmp 24) (.const (.int .i64 1)) T_int), none⟩,
    ⟨some 26, some (.call ⟨(.value (.func f_plait_plaitref8_Graph_And)), #[(.tmp 22), (.tmp 23), (.tmp 25)], #[T_p_plaitref8_Graph, T_int, T_int]⟩), none⟩,
    ⟨some 21, some (.move (.tmp 26)), none⟩,
    ⟨some 27, some (.extract (.tmp 21) 0), none⟩,
    ⟨some 28, some (.extract (.tmp 21) 1), none⟩,
    ⟨some 8, some (.assign (.tmp 27)), none⟩,
    ⟨some 9, some (.assign (.tmp 28)), none⟩])
  (.seq (.seq (.reg [] [⟨some 29, some (.move (.tmp 9)), none⟩,
    ⟨some 30, some (.binOp .neq T_int (.tmp 29) (.const (.int .i64 0)) T_int), none⟩])
  (.cond (.tmp 30) (.seq (.reg [] [⟨some 31, some (.move (.tmp 9)), none⟩,
    ⟨some 6, some (.assign (.const (.int .i64 0))), none⟩,
    ⟨some 7, some (.assign (.tmp 31)), none⟩])
  .ret)
  .skip))
  (.seq (.reg [] [⟨some 33, some (.move (.tmp 0)), none⟩,
    ⟨some 34, some (.move (.tmp 1)), none⟩,
    ⟨some 35, some (.binOp .xor T_int (.tmp 34) (.const (.int .i64 1)) T_int), none⟩,
    ⟨some 36, some (.move (.tmp 2)), none⟩,
    ⟨some 37, some (.call ⟨(.value (.func f_plait_plaitref8_Graph_And)), #[(.tmp 33), (.tmp 35), (.tmp 36)], #[T_p_plaitref8_Graph, T_int, T_int]⟩), none⟩,
    ⟨some 32, some (.move (.tmp 37)), none⟩,
    ⟨some 38, some (.extract (.tmp 32) 0), none⟩,
    ⟨some 39, some (.extract (.tmp 32) 1), none⟩,
    ⟨some 10, some (.assign (.tmp 38)), none⟩,
    ⟨some 9, some (.assign (.tmp 39)), none⟩])
  (.seq (.seq (.reg [] [⟨some 40, some (.move (.tmp 9)), none⟩,
    ⟨some 41, some (.binOp .neq T_int (.tmp 40) (.const (.int .i64 0)) T_int), none⟩])
  (.cond (.tmp 41) (.seq (.reg [] [⟨some 42, some (.move (.tmp 9)), none⟩,
    ⟨some 6, some (.assign (.const (.int .i64 0))), none⟩,
    ⟨some 7, some (.assign (.tmp 42)), none⟩])
  .ret)
  .skip))
  (.seq (.reg [] [⟨some 43, some (.move (.tmp 0)), none⟩,
    ⟨some 44, some (.move (.tmp 8)), none⟩,
    ⟨some 45, some (.move (.tmp 10)), none⟩,
    ⟨some 46, some (.call ⟨(.value (.func f_plait_plaitref8_Graph_Or)), #[(.tmp 43), (.tmp 44), (.tmp 45)], #[T_p_plaitref8_Graph, T_int, T_int]⟩), none⟩,
    ⟨some 47, some (.extract (.tmp 46) 0), none⟩,
    ⟨some 48, some (.extract (.tmp 46) 1), none⟩,
    ⟨some 6, some (.assign (.tmp 47)), none⟩,
    ⟨some 7, some (.assign (.tmp 48)), none⟩])
  .ret)))))))
theorem e_plait_plaitref8_Graph_Xor {a0 a1 a2 : AV} {H : AHeap} : R f_plait_plaitref8_Graph_Xor [a0, a1, a2] H = fnK Go.Proofs.Try.prog [] H [(.tmp 6), (.tmp 7)] (evalL Go.Proofs.Try.prog KT R c_plait_plaitref8_Graph_Xor (Env.args [a0, a1, a2] 0) H) :=
  runs_body (D := DT) (f := f_plait_plaitref8_Graph_Xor) Go.Proofs.Try.func78 (by kernel_rfl) (by kernel_rfl) (by kernel_rfl) (by kernel_rfl) (by kernel_rfl) (Nat.le_of_ble_eq_true rfl)

def c_plait_plaitref8_Graph_Mux : LCode := (.seq (.reg [] [⟨some 8, some (.assign (.const (.int .i64 0))), none⟩,
    ⟨some 9, some (.assign (.const (.int .i64 0))), none⟩])
  (.seq (.seq (.reg [] [⟨some 13, some (.move (.tmp 0)), none⟩,
    ⟨some 14, some (.move (.tmp 2)), none⟩,
    ⟨some 15, some (.call ⟨(.value (.func f_plait_plaitref8_Graph_is)), #[(.tmp 13), (.tmp 14)], #[T_p_plaitref8_Graph, T_int]⟩), none⟩,
    ⟨some 16, some (.unOp .not T_bool (.tmp 15)), none⟩,
    ⟨some 17, some (.move (.tmp 16)), none⟩,
    ⟨some 18, some (.move (.tmp 0)), some (some 17, false)⟩,
    ⟨some 19, some (.move (.tmp 3)), some (some 17, false)⟩,
    ⟨some 20, some (.call ⟨(.value (.func f_plait_plaitref8_Graph_is)), #[(.tmp 18), (.tmp 19)], #[T_p_plaitref8_Graph, T_int]⟩), some (some 17, false)⟩,
    ⟨some 21, some (.unOp .not T_bool (.tmp 20)), some (some 17, false)⟩,
    ⟨some 22, some (.pick (.tmp 17) (.const (.bool true)) (.tmp 21)), none⟩,
    ⟨some 23, some (.move (.tmp 22)), none⟩,
    ⟨some 24, some (.move (.tmp 0)), some (some 23, false)⟩,
    ⟨some 25, some (.move (.tmp 1)), some (some 23, false)⟩,
    ⟨some 26, some (.call ⟨(.value (.func f_plait_plaitref8_Graph_is)), #[(.tmp 24), (.tmp 25)], #[T_p_plaitref8_Graph, T_int]⟩), some (some 23, false)⟩,
    ⟨some 27, some (.unOp .not T_bool (.tmp 26)), some (some 23, false)⟩,
    ⟨some 28, some (.pick (.tmp 23) (.const (.bool true)) (.tmp 27)), none⟩])
  (.cond (.tmp 28) (.seq (.reg [] [⟨some 8, some (.assign (.const (.int .i64 0))), none⟩,
    ⟨some 9, some (.assign (.const (.int .i64 80))), none⟩])
  .ret)
  .skip))
  (.seq (.reg [] [⟨some 30, some (.move (.tmp 0)), none⟩,
    ⟨some 31, some (.move (.tmp 1)), none⟩,
    ⟨some 32, some (.move (.tmp 2)), none⟩,
    ⟨some 33, some (.call ⟨(.value (.func f_plait_plaitref8_Graph_And)), #[(.tmp 30), (.tmp 31), (.tmp 32)], #[T_p_plaitref8_Graph, T_int, T_int]⟩), none⟩,
    ⟨some 29, some (.move (.tmp 33)), none⟩,
    ⟨some 34, some (.extract (.tmp 29) 0), none⟩,
    ⟨some 35, some (.extract (.tmp 29) 1), none⟩,
    ⟨some 10, some (.assign (.tmp 34)), none⟩,
    ⟨some 11, some (.assign (.tmp 35)), none⟩])
  (.seq (.seq (.reg [] [⟨some 36, some (.move (.tmp 11)), none⟩,
    ⟨some 37, some (.binOp .neq T_int (.tmp 36) (.const (.int .i64 0)) T_int), none⟩])
  (.cond (.tmp 37) (.seq (.reg [] [⟨some 38, some (.move (.tmp 11)), none⟩,
    ⟨some 8, some (.assign (.const (.int .i64 0))), none⟩,
    ⟨some 9, some (.assign (.tmp 38)), none⟩])
  .ret)
  .skip))
  (.seq (.reg [] [⟨some 40, some (.move (.tmp 0)), none⟩,
    ⟨some 41, some (.move (.tmp 1)), none⟩,
    ⟨some 42, some (.binOp .xor T_int (.tmp 41) (.const (.int .i64 1)) T_int), none⟩,
    ⟨some 43, some (.move (.tmp 3)), none⟩,
    ⟨some 44, some (.call ⟨(.value (.func f_plait_plaitref8_Graph_And)), #[(.tmp 40), (.tmp 42), (.tmp 43)], #[T_p_plaitref8_Graph, T_int, T_int]⟩), none⟩,
    ⟨some 39, some (.move (.tmp 44)), none⟩,
    ⟨some 45, some (.extract (.tmp 39) 0), none⟩,
    ⟨some 46, some (.extract (.tmp 39) 1), none⟩,
    ⟨some 12, some (.assign (.tmp 45)), none⟩,
    ⟨some 11, some (.assign (.tmp 46)), none⟩])
  (.seq (.seq (.reg [] [⟨some 47, some (.move (.tmp 11)), none⟩,
    ⟨some 48, some (.binOp .neq T_int (.tmp 47) (.const (.int .i64 0)) T_int), none⟩])
  (.cond (.tmp 48) (.seq (.reg [] [⟨some 49, some (.move (.tmp 11)), none⟩,
    ⟨some 8, some (.assign (.const (.int .i64 0))), none⟩,
    ⟨some 9, some (.assign (.tmp 49)), none⟩])
  .ret)
  .skip))
  (.seq (.reg [] [⟨some 50, some (.move (.tmp 0)), none⟩,
    ⟨some 51, some (.move (.tmp 10)), none⟩,
    ⟨some 52, some (.move (.tmp 12)), none⟩,
    ⟨some 53, some (.call ⟨(.value (.func f_plait_plaitref8_Graph_Or)), #[(.tmp 50), (.tmp 51), (.tmp 52)], #[T_p_plaitref8_Graph, T_int, T_int]⟩), none⟩,
    ⟨some 54, some (.extract (.tmp 53) 0), none⟩,
    ⟨some 55, some (.extract (.tmp 53) 1), none⟩,
    ⟨some 8, some (.assign (.tmp 54)), none⟩,
    ⟨some 9, some (.assign (.tmp 55)), none⟩])
  .ret)))))))
theorem e_plait_plaitref8_Graph_Mux {a0 a1 a2 a3 : AV} {H : AHeap} : R f_plait_plaitref8_Graph_Mux [a0, a1, a2, a3] H = fnK Go.Proofs.Try.prog [] H [(.tmp 8), (.tmp 9)] (evalL Go.Proofs.Try.prog KT R c_plait_plaitref8_Graph_Mux (Env.args [a0, a1, a2, a3] 0) H) :=
  runs_body (D := DT) (f := f_plait_plaitref8_Graph_Mux) Go.Proofs.Try.func79 (by kernel_rfl) (by kernel_rfl) (by kernel_rfl) (by kernel_rfl) (by kernel_rfl) (Nat.le_of_ble_eq_true rfl)

def c_plait_aig_Graph_lit : LCode := (.seq (.reg [] [⟨some 4, some (.assign (.const (.bool false))), none⟩])
  (.seq (.reg [] [⟨some 5, some (.move (.tmp 1)), none⟩,
    ⟨some 6, some (.binOp .geq T_int (.tmp 5) (.const (.int .i64 0)) T_int), none⟩,
    ⟨some 7, some (.move (.tmp 6)), none⟩,
    ⟨some 8, some (.move (.tmp 1)), some (some 7, true)⟩,
    ⟨some 9, some (.binOp .shr T_int (.tmp 8) (.const (.int .u64 1)) T_uint), some (some 7, true)⟩,
    ⟨some 10, some (.move (.tmp 0)), some (some 7, true)⟩,
    ⟨some 11, some (.nilCheck (.tmp 10)), some (some 7, true)⟩,
    ⟨some 12, some (.fieldAddr T_aig_Graph (.tmp 11) 1), some (some 7, true)⟩,
    ⟨some 13, some (.load T_s_a2_int (.tmp 12)), some (some 7, true)⟩,
    ⟨some 14, some (.call ⟨(.builtin .len), #[(.tmp 13)], #[T_s_a2_int]⟩), some (some 7, true)⟩,
    ⟨some 15, some (.binOp .leq T_int (.tmp 9) (.tmp 14) T_int), some (some 7, true)⟩,
    ⟨some 16, some (.pick (.tmp 7) (.tmp 15) (.const (.bool false))), none⟩,
    ⟨some 4, some (.assign (.tmp 16)), none⟩])
  .ret))
theorem e_plait_aig_Graph_lit {a0 a1 : AV} {H : AHeap} : R f_plait_aig_Graph_lit [a0, a1] H = fnK Go.Proofs.Try.prog [] H [(.tmp 4)] (evalL Go.Proofs.Try.prog KT R c_plait_aig_Graph_lit (Env.args [a0, a1] 0) H) :=
  runs_body (D := DT) (f := f_plait_aig_Graph_lit) Go.Proofs.Try.func80 (by kernel_rfl) (by kernel_rfl) (by kernel_rfl) (by kernel_rfl) (by kernel_rfl) (Nat.le_of_ble_eq_true rfl)

def c_plait_plaitref8_Graph_is : LCode := (.seq (.reg [] [⟨some 4, some (.assign (.const (.bool false))), none⟩])
  (.seq (.reg [] [⟨some 5, some (.move (.tmp 1)), none⟩,
    ⟨some 6, some (.binOp .geq T_int (.tmp 5) (.const (.int .i64 0)) T_int), none⟩,
    ⟨some 7, some (.move (.tmp 6)), none⟩,
    ⟨some 8, some (.move (.tmp 1)), some (some 7, true)⟩,
    ⟨some 9, some (.binOp .quo T_int (.tmp 8) (.const (.int .i64 2)) T_int), some (some 7, true)⟩,
    ⟨some 10, some (.move (.tmp 0)), some (some 7, true)⟩,
    ⟨some 11, some (.nilCheck (.tmp 10)), some (some 7, true)⟩,
    ⟨some 12, some (.fieldAddr T_plaitref8_Graph (.tmp 11) 0), some (some 7, true)⟩,
    ⟨some 13, some (.load T_s_plaitref8_Node (.tmp 12)), some (some 7, true)⟩,
    ⟨some 14, some (.call ⟨(.builtin .len), #[(.tmp 13)], #[T_s_plaitref8_Node]⟩), some (some 7, true)⟩,
    ⟨some 15, some (.binOp .leq T_int (.tmp 9) (.tmp 14) T_int), some (some 7, true)⟩,
    ⟨some 16, some (.pick (.tmp 7) (.tmp 15) (.const (.bool false))), none⟩,
    ⟨some 4, some (.assign (.tmp 16)), none⟩])
  .ret))
theorem e_plait_plaitref8_Graph_is {a0 a1 : AV} {H : AHeap} : R f_plait_plaitref8_Graph_is [a0, a1] H = fnK Go.Proofs.Try.prog [] H [(.tmp 4)] (evalL Go.Proofs.Try.prog KT R c_plait_plaitref8_Graph_is (Env.args [a0, a1] 0) H) :=
  runs_body (D := DT) (f := f_plait_plaitref8_Graph_is) Go.Proofs.Try.func81 (by kernel_rfl) (by kernel_rfl) (by kernel_rfl) (by kernel_rfl) (by kernel_rfl) (Nat.le_of_ble_eq_true rfl)

def l_plait_plaitref8_Graph_Values_0 : LCode := (.seq (.seq (.reg [] [⟨some 16, some (.move (.tmp 7)), none⟩,
    ⟨some 17, some (.move (.tmp 0)), none⟩,
    ⟨some 18, some (.nilCheck (.tmp 17)), none⟩,
    ⟨some 19, some (.fieldAddr T_plaitref8_Graph (.tmp 18) 0), none⟩,
    ⟨some 20, some (.load T_s_plaitref8_Node (.tmp 19)), none⟩,
    ⟨some 21, some (.call ⟨(.builtin .len), #[(.tmp 20)], #[T_s_plaitref8_Node]⟩), none⟩,
    ⟨some 22, some (.binOp .lss T_int (.tmp 16) (.tmp 21) T_int), none⟩])
  (.cond (.tmp 22) .skip
  (.exit 0)))
  (.seq (.block 1 (.seq (.reg [] [⟨some 25, some (.move (.tmp 0)), none⟩,
    ⟨some 26, some (.nilCheck (.tmp 25)), none⟩,
    ⟨some 27, some (.fieldAddr T_plaitref8_Graph (.tmp 26) 0), none⟩,
    ⟨some 28, some (.load T_s_plaitref8_Node (.tmp 27)), none⟩,
    ⟨some 29, some (.move (.tmp 7)), none⟩,
    ⟨some 30, some (.indexAddr T_s_plaitref8_Node (.tmp 28) (.tmp 29)), none⟩,
    ⟨some 31, some (.load T_plaitref8_Node (.tmp 30)), none⟩,
    ⟨some 8, some (.alloc T_plaitref8_Node), none⟩,
    ⟨none, some (.store T_plaitref8_Node (.tmp 8) (.tmp 31)), none⟩])
  (.seq (.reg [] [⟨some 32, some (.fieldAddr T_plaitref8_Node (.tmp 8) 2), none⟩,
    ⟨some 33, some (.load T_bool (.tmp 32)), none⟩])
  (.cond (.tmp 33) (.seq (.reg [] [⟨some 34, some (.move (.tmp 5)), none⟩,
    ⟨some 35, some (.move (.tmp 7)), none⟩,
    ⟨some 36, some (.binOp .add T_int (.tmp 35) (.const (.int .i64 1)) T_int), none⟩,
    ⟨some 37, some (.move (.tmp 1)), none⟩,
    ⟨some 38, some (.move (.tmp 6)), none⟩,
    ⟨some 39, some (.indexAddr T_s_bool (.tmp 37) (.tmp 38)), none⟩,
    ⟨some 40, some (.load T_bool (.tmp 39)), none⟩,
    ⟨some 41, some (.indexAddr T_s_bool (.tmp 34) (.tmp 36)), none⟩,
    ⟨none, some (.store T_bool (.tmp 41) (.tmp 40)), none⟩])
  (.reg [] [⟨some 42, some (.move (.tmp 6)), none⟩,
    ⟨some 43, some (.binOp .add T_int (.tmp 42) (.const (.int .i64 1)) T_int), none⟩,
    ⟨some 6, some (.assign (.tmp 43)), none⟩]))
  (.reg [] [⟨some 44, some (.move (.tmp 5)), none⟩,
    ⟨some 45, some (.move (.tmp 7)), none⟩,
    ⟨some 46, some (.binOp .add T_int (.tmp 45) (.const (.int .i64 1)) T_int), none⟩,
    ⟨some 47, some (.move (.tmp 5)), none⟩,
    ⟨some 48, some (.fieldAddr T_plaitref8_Node (.tmp 8) 0), none⟩,
    ⟨some 49, some (.load T_int (.tmp 48)), none⟩,
    ⟨some 50, some (.binOp .quo T_int (.tmp 49) (.const (.int .i64 2)) T_int), none⟩,
    ⟨some 51, some (.indexAddr T_s_bool (.tmp 47) (.tmp 50)), none⟩,
    ⟨some 52, some (.load T_bool (.tmp 51)), none⟩,
    ⟨some 53, some (.fieldAddr T_plaitref8_Node (.tmp 8) 0), none⟩,
    ⟨some 54, some (.load T_int (.tmp 53)), none⟩,
    ⟨some 55, some (.binOp .rem T_int (.tmp 54) (.const (.int .i64 2)) T_int), none⟩,
    ⟨some 56, some (.binOp .eql T_int (.tmp 55) (.const (.int .i64 1)) T_int), none⟩,
    ⟨some 57, some (.binOp .neq T_bool (.tmp 52) (.tmp 56) T_bool), none⟩,
    ⟨some 58, some (.move (.tmp 57)), none⟩,
    ⟨some 59, some (.move (.tmp 5)), some (some 58, true)⟩,
    ⟨some 60, some (.fieldAddr T_plaitref8_Node (.tmp 8) 1), some (some 58, true)⟩,
    ⟨some 61, some (.load T_int (.tmp 60)), some (some 58, true)⟩,
    ⟨some 62, some (.binOp .quo T_int (.tmp 61) (.const (.int .i64 2)) T_int), some (some 58, true)⟩,
    ⟨some 63, some (.indexAddr T_s_bool (.tmp 59) (.tmp 62)), some (some 58, true)⟩,
    ⟨some 64, some (.load T_bool (.tmp 63)), some (some 58, true)⟩,
    ⟨some 65, some (.fieldAddr T_plaitref8_Node (.tmp 8) 1), some (some 58, true)⟩,
    ⟨some 66, some (.load T_int (.tmp 65)), some (some 58, true)⟩,
    ⟨some 67, some (.binOp .rem T_int (.tmp 66) (.const (.int .i64 2)) T_int), some (some 58, true)⟩,
    ⟨some 68, some (.binOp .eql T_int (.tmp 67) (.const (.int .i64 1)) T_int), some (some 58, true)⟩,
    ⟨some 69, some (.binOp .neq T_bool (.tmp 64) (.tmp 68) T_bool), some (some 58, true)⟩,
    ⟨some 70, some (.pick (.tmp 58) (.tmp 69) (.const (.bool false))), none⟩,
    ⟨some 71, some (.indexAddr T_s_bool (.tmp 44) (.tmp 46)), none⟩,
    ⟨none, some (.store T_bool (.tmp 71) (.tmp 70)), none⟩])))))
  (.reg [] [⟨some 23, some (.move (.tmp 7)), none⟩,
    ⟨some 24, some (.binOp .add T_int (.tmp 23) (.const (.int .i64 1)) T_int), none⟩,
    ⟨some 7, some (.assign (.tmp 24)), none⟩])))
@[simp] theorem d_l_plait_plaitref8_Graph_Values_0 : defs l_plait_plaitref8_Graph_Values_0 = [16, 17, 18, 19, 20, 21, 22, 25, 26, 27, 28, 29, 30, 31, 8, 32, 33, 34, 35, 36, 37, 38, 39, 40, 41, 42, 43, 6, 44, 45, 46, 47, 48, 49, 50, 51, 52, 53, 54, 55, 56, 57, 58, 59, 60, 61, 62, 63, 64, 65, 66, 67, 68, 69, 70, 71, 23, 24, 7] := by rfl
def c_plait_plaitref8_Graph_Values : LCode := (.seq (.reg [] [⟨some 4, some (.assign (.const (.slice none 0 0))), none⟩])
  (.seq (.reg [] [⟨some 9, some (.move (.tmp 0)), none⟩,
    ⟨some 10, some (.nilCheck (.tmp 9)), none⟩,
    ⟨some 11, some (.fieldAddr T_plaitref8_Graph (.tmp 10) 0), none⟩,
    ⟨some 12, some (.load T_s_plaitref8_Node (.tmp 11)), none⟩,
    ⟨some 13, some (.call ⟨(.builtin .len), #[(.tmp 12)], #[T_s_plaitref8_Node]⟩), none⟩,
    ⟨some 14, some (.binOp .add T_int (.tmp 13) (.const (.int .i64 1)) T_int), none⟩,
    ⟨some 15, some (.makeSlice T_s_bool (.tmp 14) (.tmp 14)), none⟩,
    ⟨some 5, some (.assign (.tmp 15)), none⟩])
  (.seq (.reg [] [⟨some 6, some (.assign (.const (.int .i64 0))), none⟩])
  (.seq (.seq (.reg [] [⟨some 7, some (.assign (.const (.int .i64 0))), none⟩])
  (.block 0 (.loop l_plait_plaitref8_Graph_Values_0)))
  (.seq (.reg [] [⟨some 72, some (.move (.tmp 5)), none⟩,
    ⟨some 4, some (.assign (.tmp 72)), none⟩])
  .ret)))))
theorem e_plait_plaitref8_Graph_Values {a0 a1 : AV} {H : AHeap} : R f_plait_plaitref8_Graph_Values [a0, a1] H = fnK Go.Proofs.Try.prog [0] H [(.tmp 4)] (evalL Go.Proofs.Try.prog KT R c_plait_plaitref8_Graph_Values (Env.args [a0, a1] 0) H) :=
  runs_body (D := DT) (f := f_plait_plaitref8_Graph_Values) Go.Proofs.Try.func82 (by kernel_rfl) (by kernel_rfl) (by kernel_rfl) (by kernel_rfl) (by kernel_rfl) (Nat.le_of_ble_eq_true rfl)

def c_slices_Clone_int_int : LCode := (.seq (.reg [] [⟨some 2, some (.assign (.const (.slice none 0 0))), none⟩])
  (.seq (.seq (.reg [] [⟨some 3, some (.move (.tmp 0)), none⟩,
    ⟨some 4, some (.binOp .eql T_s_int (.tmp 3) (.const (.slice none 0 0)) T_s_int), none⟩])
  (.cond (.tmp 4) (.seq (.reg [] [⟨some 2, some (.assign (.const (.slice none 0 0))), none⟩])
  .ret)
  .skip))
  (.seq (.reg [] [⟨some 5, some (.buildSlice T_s_int 0 #[]), none⟩,
    ⟨some 6, some (.move (.tmp 0)), none⟩,
    ⟨some 7, some (.call ⟨(.builtin .append), #[(.tmp 5), (.tmp 6)], #[T_s_int, T_s_int]⟩), none⟩,
    ⟨some 2, some (.assign (.tmp 7)), none⟩])
  .ret)))
theorem e_slices_Clone_int_int {a0 : AV} {H : AHeap} : R f_slices_Clone_int_int [a0] H = fnK Go.Proofs.Try.prog [] H [(.tmp 2)] (evalL Go.Proofs.Try.prog KT R c_slices_Clone_int_int (Env.args [a0] 0) H) :=
  runs_body (D := DT) (f := f_slices_Clone_int_int) Go.Proofs.Try.func83 (by kernel_rfl) (by kernel_rfl) (by kernel_rfl) (by kernel_rfl) (by kernel_rfl) (Nat.le_of_ble_eq_true rfl)

def c_plait_aig_Graph_node : LCode := (.seq (.reg [] [⟨some 3, some (.box T_a2_int (.tmp 1)), none⟩,
    ⟨some 4, some (.assign (.const (.int .i64 0))), none⟩,
    ⟨some 5, some (.assign (.const (.int .i64 0))), none⟩])
  (.seq (.seq (.reg [] [⟨some 6, some (.move (.tmp 0)), none⟩,
    ⟨some 7, some (.nilCheck (.tmp 6)), none⟩,
    ⟨some 8, some (.fieldAddr T_aig_Graph (.tmp 7) 1), none⟩,
    ⟨some 9, some (.load T_s_a2_int (.tmp 8)), none⟩,
    ⟨some 10, some (.call ⟨(.builtin .len), #[(.tmp 9)], #[T_s_a2_int]⟩), none⟩,
    ⟨some 11, some (.move (.tmp 0)), none⟩,
    ⟨some 12, some (.nilCheck (.tmp 11)), none⟩,
    ⟨some 13, some (.fieldAddr T_aig_Graph (.tmp 12) 0), none⟩,
    ⟨some 14, some (.load T_int (.tmp 13)), none⟩,
    ⟨some 15, some (.binOp .geq T_int (.tmp 10) (.tmp 14) T_int), none⟩])
  (.cond (.tmp 15) (.seq (.reg [] [⟨some 4, some (.assign (.const (.int .i64 0))), none⟩,
    ⟨some 5, some (.assign (.const (.int .i64 81))), none⟩])
  .ret)
  .skip))
  (.seq (.reg [] [⟨some 16, some (.move (.tmp 0)), none⟩,
    ⟨some 17, some (.move (.tmp 0)), none⟩,
    ⟨some 18, some (.nilCheck (.tmp 17)), none⟩,
    ⟨some 19, some (.fieldAddr T_aig_Graph (.tmp 18) 1), none⟩,
    ⟨some 20, some (.load T_s_a2_int (.tmp 19)), none⟩,
    ⟨some 21, some (.load T_a2_int (.tmp 3)), none⟩,
    ⟨some 22, some (.buildSlice T_s_a2_int 1 #[(0, (.tmp 21))]), none⟩,
    ⟨some 23, some (.call ⟨(.builtin .append), #[(.tmp 20), (.tmp 22)], #[T_s_a2_int, T_s_a2_int]⟩), none⟩,
    ⟨some 24, some (.nilCheck (.tmp 16)), none⟩,
    ⟨some 25, some (.fieldAddr T_aig_Graph (.tmp 24) 1), none⟩,
    ⟨none, some (.store T_s_a2_int (.tmp 25) (.tmp 23)), none⟩])
  (.seq (.reg [] [⟨some 26, some (.move (.tmp 0)), none⟩,
    ⟨some 27, some (.nilCheck (.tmp 26)), none⟩,
    ⟨some 28, some (.fieldAddr T_aig_Graph (.tmp 27) 1), none⟩,
    ⟨some 29, some (.load T_s_a2_int (.tmp 28)), none⟩,
    ⟨some 30, some (.call ⟨(.builtin .len), #[(.tmp 29)], #[T_s_a2_int]⟩), none⟩,
    ⟨some 31, some (.binOp .shl T_int (.tmp 30) (.const (.int .u64 1)) T_uint), none⟩,
    ⟨some 4, some (.assign (.tmp 31)), none⟩,
    ⟨some 5, some (.assign (.const (.int .i64 0))), none⟩])
  .ret))))
theorem e_plait_aig_Graph_node {a0 a1 : AV} {H : AHeap} : R f_plait_aig_Graph_node [a0, a1] H = fnK Go.Proofs.Try.prog [] H [(.tmp 4), (.tmp 5)] (evalL Go.Proofs.Try.prog KT R c_plait_aig_Graph_node (Env.args [a0, a1] 0) H) :=
  runs_body (D := DT) (f := f_plait_aig_Graph_node) Go.Proofs.Try.func84 (by kernel_rfl) (by kernel_rfl) (by kernel_rfl) (by kernel_rfl) (by kernel_rfl) (Nat.le_of_ble_eq_true rfl)

def c_aig_turned : LCode := (.seq (.reg [] [⟨some 4, some (.assign (.const (.int .i64 0))), none⟩,
    ⟨some 5, some (.assign (.const (.int .i64 0))), none⟩])
  (.seq (.seq (.reg [] [⟨some 6, some (.move (.tmp 1)), none⟩,
    ⟨some 7, some (.binOp .neq T_api_Errno (.tmp 6) (.const (.int .i64 0)) T_api_Errno), none⟩])
  (.cond (.tmp 7) (.seq (.reg [] [⟨some 8, some (.move (.tmp 1)), none⟩,
    ⟨some 4, some (.assign (.const (.int .i64 0))), none⟩,
    ⟨some 5, some (.assign (.tmp 8)), none⟩])
  .ret)
  .skip))
  (.seq (.reg [] [⟨some 9, some (.move (.tmp 0)), none⟩,
    ⟨some 10, some (.binOp .xor T_int (.tmp 9) (.const (.int .i64 1)) T_int), none⟩,
    ⟨some 4, some (.assign (.tmp 10)), none⟩,
    ⟨some 5, some (.assign (.const (.int .i64 0))), none⟩])
  .ret)))
theorem e_aig_turned {a0 a1 : AV} {H : AHeap} : R f_aig_turned [a0, a1] H = fnK Go.Proofs.Try.prog [] H [(.tmp 4), (.tmp 5)] (evalL Go.Proofs.Try.prog KT R c_aig_turned (Env.args [a0, a1] 0) H) :=
  runs_body (D := DT) (f := f_aig_turned) Go.Proofs.Try.func85 (by kernel_rfl) (by kernel_rfl) (by kernel_rfl) (by kernel_rfl) (by kernel_rfl) (Nat.le_of_ble_eq_true rfl)

def c_plait_aig_Graph_either : LCode := (.seq (.reg [] [⟨some 10, some (.assign (.const (.int .i64 0))), none⟩,
    ⟨some 11, some (.assign (.const (.int .i64 0))), none⟩])
  (.seq (.reg [] [⟨some 16, some (.move (.tmp 0)), none⟩,
    ⟨some 17, some (.move (.tmp 1)), none⟩,
    ⟨some 18, some (.move (.tmp 2)), none⟩,
    ⟨some 19, some (.call ⟨(.value (.func f_plait_aig_Graph_And)), #[(.tmp 16), (.tmp 17), (.tmp 18)], #[T_p_aig_Graph, T_int, T_int]⟩), none⟩,
    ⟨some 15, some (.move (.tmp 19)), none⟩,
    ⟨some 20, some (.extract (.tmp 15) 0), none⟩,
    ⟨some 21, some (.extract (.tmp 15) 1), none⟩,
    ⟨some 12, some (.assign (.tmp 20)), none⟩,
    ⟨some 13, some (.assign (.tmp 21)), none⟩])
  (.seq (.seq (.reg [] [⟨some 22, some (.move (.tmp 13)), none⟩,
    ⟨some 23, some (.binOp .neq T_api_Errno (.tmp 22) (.const (.int .i64 0)) T_api_Errno), none⟩])
  (.cond (.tmp 23) (.seq (.reg [] [⟨some 24, some (.move (.tmp 13)), none⟩,
    ⟨some 10, some (.assign (.const (.int .i64 0))), none⟩,
    ⟨some 11, some (.assign (.tmp 24)), none⟩])
  .ret)
  .skip))
  (.seq (.reg [] [⟨some 26, some (.move (.tmp 0)), none⟩,
    ⟨some 27, some (.move (.tmp 3)), none⟩,
    ⟨some 28, some (.move (.tmp 4)), none⟩,
    ⟨some 29, some (.call ⟨(.value (.func f_plait_aig_Graph_And)), #[(.tmp 26), (.tmp 27), (.tmp 28)], #[T_p_aig_Graph, T_int, T_int]⟩), none⟩,
    ⟨some 25, some (.move (.tmp 29)), none⟩,
    ⟨some 30, some (.extract (.tmp 25) 0), none⟩,
    ⟨some 31, some (.extract (.tmp 25) 1), none⟩,
    ⟨some 14, some (.assign (.tmp 30)), none⟩,
    ⟨some 13, some (.assign (.tmp 31)), none⟩])
  (.seq (.seq (.reg [] [⟨some 32, some (.move (.tmp 13)), none⟩,
    ⟨some 33, some (.binOp .neq T_api_Errno (.tmp 32) (.const (.int .i64 0)) T_api_Errno), none⟩])
  (.cond (.tmp 33) (.seq (.reg [] [⟨some 34, some (.move (.tmp 13)), none⟩,
    ⟨some 10, some (.assign (.const (.int .i64 0))), none⟩,
    ⟨some 11, some (.assign (.tmp 34)), none⟩])
  .ret)
  .skip))
  (.seq (.reg [] [⟨some 35, some (.move (.tmp 0)), none⟩,
    ⟨some 36, some (.move (.tmp 12)), none⟩,
    ⟨some 37, some (.move (.tmp 14)), none⟩,
    ⟨some 38, some (.call ⟨(.value (.func f_plait_aig_Graph_Or)), #[(.tmp 35), (.tmp 36), (.tmp 37)], #[T_p_aig_Graph, T_int, T_int]⟩), none⟩,
    ⟨some 39, some (.extract (.tmp 38) 0), none⟩,
    ⟨some 40, some (.extract (.tmp 38) 1), none⟩,
    ⟨some 10, some (.assign (.tmp 39)), none⟩,
    ⟨some 11, some (.assign (.tmp 40)), none⟩])
  .ret))))))
theorem e_plait_aig_Graph_either {a0 a1 a2 a3 a4 : AV} {H : AHeap} : R f_plait_aig_Graph_either [a0, a1, a2, a3, a4] H = fnK Go.Proofs.Try.prog [] H [(.tmp 10), (.tmp 11)] (evalL Go.Proofs.Try.prog KT R c_plait_aig_Graph_either (Env.args [a0, a1, a2, a3, a4] 0) H) :=
  runs_body (D := DT) (f := f_plait_aig_Graph_either) Go.Proofs.Try.func86 (by kernel_rfl) (by kernel_rfl) (by kernel_rfl) (by kernel_rfl) (by kernel_rfl) (Nat.le_of_ble_eq_true rfl)

def c_plait_plaitref8_Graph_put : LCode := (.seq (.reg [] [⟨some 3, some (.box T_plaitref8_Node (.tmp 1)), none⟩,
    ⟨some 4, some (.assign (.const (.int .i64 0))), none⟩,
    ⟨some 5, some (.assign (.const (.int .i64 0))), none⟩])
  (.seq (.seq (.reg [] [⟨some 6, some (.move (.tmp 0)), none⟩,
    ⟨some 7, some (.nilCheck (.tmp 6)), none⟩,
    ⟨some 8, some (.fieldAddr T_plaitref8_Graph (.tmp 7) 0), none⟩,
    ⟨some 9, some (.load T_s_plaitref8_Node (.tmp 8)), none⟩,
    ⟨some 10, some (.call ⟨(.builtin .len), #[(.tmp 9)], #[T_s_plaitref8_Node]⟩), none⟩,
    ⟨some 11, some (.move (.tmp 0)), none⟩,
    ⟨some 12, some (.nilCheck (.tmp 11)), none⟩,
    ⟨some 13, some (.fieldAddr T_plaitref8_Graph (.tmp 12) 1), none⟩,
    ⟨some 14, some (.load T_int (.tmp 13)), none⟩,
    ⟨some 15, some (.binOp .geq T_int (.tmp 10) (.tmp 14) T_int), none⟩])
  (.cond (.tmp 15) (.seq (.reg [] [⟨some 4, some (.assign (.const (.int .i64 0))), none⟩,
    ⟨some 5, some (.assign (.const (.int .i64 81))), none⟩])
  .ret)
  .skip))
  (.seq (.reg [] [⟨some 16, some (.move (.tmp 0)), none⟩,
    ⟨some 17, some (.move (.tmp 0)), none⟩,
    ⟨some 18, some (.nilCheck (.tmp 17)), none⟩,
    ⟨some 19, some (.fieldAddr T_plaitref8_Graph (.tmp 18) 0), none⟩,
    ⟨some 20, some (.load T_s_plaitref8_Node (.tmp 19)), none⟩,
    ⟨some 21, some (.load T_plaitref8_Node (.tmp 3)), none⟩,
    ⟨some 22, some (.buildSlice T_s_plaitref8_Node 1 #[(0, (.tmp 21))]), none⟩,
    ⟨some 23, some (.call ⟨(.builtin .append), #[(.tmp 20), (.tmp 22)], #[T_s_plaitref8_Node, T_s_plaitref8_Node]⟩), none⟩,
    ⟨some 24, some (.nilCheck (.tmp 16)), none⟩,
    ⟨some 25, some (.fieldAddr T_plaitref8_Graph (.tmp 24) 0), none⟩,
    ⟨none, some (.store T_s_plaitref8_Node (.tmp 25) (.tmp 23)), none⟩])
  (.seq (.reg [] [⟨some 26, some (.move (.tmp 0)), none⟩,
    ⟨some 27, some (.nilCheck (.tmp 26)), none⟩,
    ⟨some 28, some (.fieldAddr T_plaitref8_Graph (.tmp 27) 0), none⟩,
    ⟨some 29, some (.load T_s_plaitref8_Node (.tmp 28)), none⟩,
    ⟨some 30, some (.call ⟨(.builtin .len), #[(.tmp 29)], #[T_s_plaitref8_Node]⟩), none⟩,
    ⟨some 31, some (.binOp .mul T_int (.const (.int .i64 2)) (.tmp 30) T_int), none⟩,
    ⟨some 4, some (.assign (.tmp 31)), none⟩,
    ⟨some 5, some (.assign (.const (.int .i64 0))), none⟩])
  .ret))))
theorem e_plait_plaitref8_Graph_put {a0 a1 : AV} {H : AHeap} : R f_plait_plaitref8_Graph_put [a0, a1] H = fnK Go.Proofs.Try.prog [] H [(.tmp 4), (.tmp 5)] (evalL Go.Proofs.Try.prog KT R c_plait_plaitref8_Graph_put (Env.args [a0, a1] 0) H) :=
  runs_body (D := DT) (f := f_plait_plaitref8_Graph_put) Go.Proofs.Try.func105 (by kernel_rfl) (by kernel_rfl) (by kernel_rfl) (by kernel_rfl) (by kernel_rfl) (Nat.le_of_ble_eq_true rfl)

end Go.Proofs.Ytphkkcocimmmfaa
