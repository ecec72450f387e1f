/- What this seat's program looks like to the rules: names, types, bodies in the short form. Written by seat.py. -/
import Derived.Test.YtphkkcocimmmfaaAL20
import Derived.Test.YtphkkcocimmmfaaChecked
namespace Go.Proofs.Ytphkkcocimmmfaa
open Go.RowKit

def T_int : TypeId := 3
def T_bool : TypeId := 4
def T_s_bool : TypeId := 22
def T_uint64 : TypeId := 23
def T_api_Bits : TypeId := 25
def T_a2_uint64 : TypeId := 109
def T_uint : TypeId := 110
def T_bv_number : TypeId := 151
def f_plaitlaw16_LiftValues : FuncId := 3
def f_plaitlaw16_known : FuncId := 15
def f_lift_Value : FuncId := 16
def f_plaitref3_Is : FuncId := 17
def f_plaithelp_Bools : FuncId := 18
def f_plaitref1_Word : FuncId := 19
def f_plaitref1_Bool : FuncId := 20
def f_lift_BitsOf : FuncId := 21
def f_plaitref1_Right : FuncId := 22
def f_bv_Right : FuncId := 72
def f_plaitref1_Bits : FuncId := 73
def f_bv_cut : FuncId := 103
def f_bv_of : FuncId := 104
def f_bv_mask : FuncId := 114
def f_plait_bv_number_not : FuncId := 115
def f_plait_bv_number_right : FuncId := 116
def KT : TypeId → Option (List Sc) := fun t => if t = T_api_Bits then some [(.i .i64), (.i .u64), (.i .u64)] else none
def DT : Quiets := fun f r => if f = f_plaitlaw16_LiftValues then (if r = 10 then [7, 18] else []) else if f = f_plaitref1_Right then (if r = 5 then [1, 2] else []) else if f = f_bv_Right then (if r = 3 then [12, 13] else []) else []
noncomputable def R : Calling := runs Go.Proofs.Try.prog KT DT
theorem good : Good Go.Proofs.Try.prog KT := by
  refine ⟨fun t sh h => ?_, Go.Proofs.Try.checked.mixed⟩
  unfold KT at h
  split at h
  · rename_i ht; subst ht; cases h; exact keyOK_of (d := 8) (by kernel_rfl) (by omega) (by kernel_rfl) (by kernel_rfl)
  cases h

@[simp] theorem ty0 : lnS Go.Proofs.Try.prog T_s_bool = .slice := by kernel_rfl
@[simp] theorem ty1 : mkS Go.Proofs.Try.prog T_s_bool = some (1, 1, [(.bool false)]) := by kernel_rfl
@[simp] theorem ty2 : tZ Go.Proofs.Try.prog T_api_Bits = some [(.int .i64 0), (u 0#64), (u 0#64)] := by kernel_rfl
@[simp] theorem ty3 : tS Go.Proofs.Try.prog T_api_Bits = some 3 := by kernel_rfl
@[simp] theorem ty4 : eqS Go.Proofs.Try.prog T_bool = .bool := by kernel_rfl
@[simp] theorem ty5 : ldS Go.Proofs.Try.prog T_api_Bits = some (some 3) := by kernel_rfl
@[simp] theorem ty6 : KT T_api_Bits = some [(.i .i64), (.i .u64), (.i .u64)] := by kernel_rfl
@[simp] theorem ty7 : eszS Go.Proofs.Try.prog T_s_bool = some 1 := by kernel_rfl
@[simp] theorem ty8 : ldS Go.Proofs.Try.prog T_bool = some none := by kernel_rfl
@[simp] theorem ty9 : faS Go.Proofs.Try.prog T_api_Bits 0 = some 0 := by kernel_rfl
@[simp] theorem ty10 : ldS Go.Proofs.Try.prog T_int = some none := by kernel_rfl
@[simp] theorem ty11 : bsS Go.Proofs.Try.prog T_s_bool = some (1, [(.bool false)]) := by kernel_rfl
@[simp] theorem ty12 : blS Go.Proofs.Try.prog T_api_Bits = some true := by kernel_rfl
@[simp] theorem ty13 : plS Go.Proofs.Try.prog T_api_Bits 0 = some (0, 1) := by kernel_rfl
@[simp] theorem ty14 : plS Go.Proofs.Try.prog T_api_Bits 1 = some (1, 1) := by kernel_rfl
@[simp] theorem ty15 : tZ Go.Proofs.Try.prog T_a2_uint64 = some [(u 0#64), (u 0#64)] := by kernel_rfl
@[simp] theorem ty16 : arrS Go.Proofs.Try.prog T_a2_uint64 = some (2, 1) := by kernel_rfl
@[simp] theorem ty17 : arrL Go.Proofs.Try.prog T_a2_uint64 = some none := by kernel_rfl
@[simp] theorem ty18 : ldS Go.Proofs.Try.prog T_uint64 = some none := by kernel_rfl
@[simp] theorem ty19 : cvS Go.Proofs.Try.prog T_int T_uint = some (some .u64) := by kernel_rfl
@[simp] theorem ty20 : tS Go.Proofs.Try.prog T_uint64 = some 1 := by kernel_rfl
@[simp] theorem ty21 : plS Go.Proofs.Try.prog T_api_Bits 2 = some (2, 1) := by kernel_rfl
@[simp] theorem ty22 : faS Go.Proofs.Try.prog T_api_Bits 1 = some 1 := by kernel_rfl
@[simp] theorem ty23 : faS Go.Proofs.Try.prog T_api_Bits 2 = some 2 := by kernel_rfl
@[simp] theorem ty24 : tS Go.Proofs.Try.prog T_bool = some 1 := by kernel_rfl
@[simp] theorem ty25 : tZ Go.Proofs.Try.prog T_bv_number = some [(u 0#64), (u 0#64)] := by kernel_rfl
@[simp] theorem ty26 : tS Go.Proofs.Try.prog T_bv_number = some 2 := by kernel_rfl
@[simp] theorem ty27 : faS Go.Proofs.Try.prog T_bv_number 0 = some 0 := by kernel_rfl
@[simp] theorem ty28 : faS Go.Proofs.Try.prog T_bv_number 1 = some 1 := by kernel_rfl
@[simp] theorem ty29 : blS Go.Proofs.Try.prog T_bv_number = some true := by kernel_rfl
@[simp] theorem ty30 : ldS Go.Proofs.Try.prog T_bv_number = some (some 2) := by kernel_rfl
@[simp] theorem ty31 : plS Go.Proofs.Try.prog T_bv_number 0 = some (0, 1) := by kernel_rfl
@[simp] theorem ty32 : plS Go.Proofs.Try.prog T_bv_number 1 = some (1, 1) := by kernel_rfl

def c_plaitlaw16_LiftValues : LCode := (.seq (.reg [] [⟨some 5, some (.box T_api_Bits (.tmp 2)), none⟩,
    ⟨some 6, some (.assign (.const (.bool false))), none⟩])
  (.seq (.seq (.reg [] [⟨some 14, some (.call ⟨(.value (.func f_plaitlaw16_known)), #[], #[]⟩), none⟩,
    ⟨some 15, some (.unOp .not T_bool (.tmp 14)), none⟩])
  (.cond (.tmp 15) (.seq (.reg [] [⟨some 6, some (.assign (.const (.bool false))), none⟩])
  .ret)
  .skip))
  (.seq (.seq (.reg [] [⟨some 16, some (.move (.tmp 1)), none⟩,
    ⟨some 17, some (.call ⟨(.builtin .len), #[(.tmp 16)], #[T_s_bool]⟩), none⟩,
    ⟨some 18, some (.binOp .gtr T_int (.tmp 17) (.const (.int .i64 200)) T_int), none⟩])
  (.cond (.tmp 18) (.seq (.reg [] [⟨some 6, some (.assign (.const (.bool true))), none⟩])
  .ret)
  .skip))
  (.seq (.reg [] [⟨some 19, some (.move (.tmp 1)), none⟩,
    ⟨some 20, some (.call ⟨(.builtin .append), #[(.const (.slice none 0 0)), (.tmp 19)], #[T_s_bool, T_s_bool]⟩), none⟩,
    ⟨some 7, some (.assign (.tmp 20)), none⟩])
  (.seq (.reg [] [⟨some 22, some (.move (.tmp 0)), none⟩,
    ⟨some 23, some (.move (.tmp 7)), none⟩,
    ⟨some 24, some (.call ⟨(.value (.func f_lift_Value)), #[(.tmp 22), (.tmp 23)], #[T_int, T_s_bool]⟩), none⟩,
    ⟨some 21, some (.move (.tmp 24)), none⟩,
    ⟨some 25, some (.extract (.tmp 21) 0), none⟩,
    ⟨some 26, some (.extract (.tmp 21) 1), none⟩,
    ⟨some 8, some (.alloc T_api_Bits), none⟩,
    ⟨none, some (.store T_api_Bits (.tmp 8) (.tmp 25)), none⟩,
    ⟨some 9, some (.assign (.tmp 26)), none⟩])
  (.seq (.reg [] [⟨some 27, some (.move (.tmp 0)), none⟩,
    ⟨some 28, some (.call ⟨(.value (.func f_plaitref3_Is)), #[(.tmp 27)], #[T_int]⟩), none⟩,
    ⟨some 29, some (.move (.tmp 28)), none⟩,
    ⟨some 30, some (.move (.tmp 1)), some (some 29, true)⟩,
    ⟨some 31, some (.call ⟨(.builtin .len), #[(.tmp 30)], #[T_s_bool]⟩), some (some 29, true)⟩,
    ⟨some 32, some (.move (.tmp 0)), some (some 29, true)⟩,
    ⟨some 33, some (.call ⟨(.builtin .max), #[(.tmp 32), (.const (.int .i64 1))], #[T_int, T_int]⟩), some (some 29, true)⟩,
    ⟨some 34, some (.binOp .eql T_int (.tmp 31) (.tmp 33) T_int), some (some 29, true)⟩,
    ⟨some 35, some (.pick (.tmp 29) (.tmp 34) (.const (.bool false))), none⟩,
    ⟨some 10, some (.assign (.tmp 35)), none⟩])
  (.seq (.seq (.reg [] [⟨some 36, some (.move (.tmp 9)), none⟩,
    ⟨some 37, some (.binOp .eql T_int (.tmp 36) (.const (.int .i64 0)) T_int), none⟩,
    ⟨some 38, some (.move (.tmp 10)), none⟩,
    ⟨some 39, some (.binOp .neq T_bool (.tmp 37) (.tmp 38) T_bool), none⟩,
    ⟨some 40, some (.move (.tmp 39)), none⟩,
    ⟨some 41, some (.move (.tmp 9)), some (some 40, false)⟩,
    ⟨some 42, some (.binOp .neq T_int (.tmp 41) (.const (.int .i64 0)) T_int), some (some 40, false)⟩,
    ⟨some 43, some (.move (.tmp 42)), some (some 40, false)⟩,
    ⟨some 44, some (.move (.tmp 9)), some (some 43, true)⟩,
    ⟨some 45, some (.binOp .neq T_int (.tmp 44) (.const (.int .i64 160)) T_int), some (some 43, true)⟩,
    ⟨some 46, some (.pick (.tmp 43) (.tmp 45) (.const (.bool false))), some (some 40, false)⟩,
    ⟨some 47, some (.pick (.tmp 40) (.const (.bool true)) (.tmp 46)), none⟩,
    ⟨some 48, some (.move (.tmp 47)), none⟩,
    ⟨some 49, some (.move (.tmp 7)), some (some 48, false)⟩,
    ⟨some 50, some (.move (.tmp 1)), some (some 48, false)⟩,
    ⟨some 51, some (.call ⟨(.value (.func f_plaithelp_Bools)), #[(.tmp 49), (.tmp 50)], #[T_s_bool, T_s_bool]⟩), some (some 48, false)⟩,
    ⟨some 52, some (.unOp .not T_bool (.tmp 51)), some (some 48, false)⟩,
    ⟨some 53, some (.pick (.tmp 48) (.const (.bool true)) (.tmp 52)), none⟩])
  (.cond (.tmp 53) (.seq (.reg [] [⟨some 6, some (.assign (.const (.bool false))), none⟩])
  .ret)
  .skip))
  (.seq (.seq (.reg [7, 18] [⟨some 54, some (.move (.tmp 10)), none⟩,
    ⟨some 55, some (.move (.tmp 54)), none⟩,
    ⟨some 56, some (.move (.tmp 0)), some (some 55, true)⟩,
    ⟨some 57, some (.binOp .gtr T_int (.tmp 56) (.const (.int .i64 0)) T_int), some (some 55, true)⟩,
    ⟨some 58, some (.move (.tmp 57)), some (some 55, true)⟩,
    ⟨some 59, some (.load T_api_Bits (.tmp 8)), some (some 58, true)⟩,
    ⟨some 60, some (.move (.tmp 1)), some (some 58, true)⟩,
    ⟨some 61, some (.call ⟨(.value (.func f_plaitref1_Word)), #[(.tmp 60)], #[T_s_bool]⟩), some (some 58, true)⟩,
    ⟨some 62, some (.binOp .neq T_api_Bits (.tmp 59) (.tmp 61) T_api_Bits), some (some 58, true)⟩,
    ⟨some 63, some (.pick (.tmp 58) (.tmp 62) (.const (.bool false))), some (some 55, true)⟩,
    ⟨some 64, some (.move (.tmp 63)), some (some 55, true)⟩,
    ⟨some 65, some (.move (.tmp 0)), some (some 64, false)⟩,
    ⟨some 66, some (.binOp .eql T_int (.tmp 65) (.const (.int .i64 0)) T_int), some (some 64, false)⟩,
    ⟨some 67, some (.move (.tmp 66)), some (some 64, false)⟩,
    ⟨some 68, some (.load T_api_Bits (.tmp 8)), some (some 67, true)⟩,
    ⟨some 69, some (.move (.tmp 1)), some (some 67, true)⟩,
    ⟨some 70, some (.indexAddr T_s_bool (.tmp 69) (.const (.int .i64 0))), some (some 67, true)⟩,
    ⟨some 71, some (.load T_bool (.tmp 70)), some (some 67, true)⟩,
    ⟨some 72, some (.call ⟨(.value (.func f_plaitref1_Bool)), #[(.tmp 71)], #[T_bool]⟩), some (some 67, true)⟩,
    ⟨some 73, some (.binOp .neq T_api_Bits (.tmp 68) (.tmp 72) T_api_Bits), some (some 67, true)⟩,
    ⟨some 74, some (.pick (.tmp 67) (.tmp 73) (.const (.bool false))), some (some 64, false)⟩,
    ⟨some 75, some (.pick (.tmp 64) (.const (.bool true)) (.tmp 74)), some (some 55, true)⟩,
    ⟨some 76, some (.pick (.tmp 55) (.tmp 75) (.const (.bool false))), none⟩])
  (.cond (.tmp 76) (.seq (.reg [] [⟨some 6, some (.assign (.const (.bool false))), none⟩])
  .ret)
  .skip))
  (.seq (.reg [] [⟨some 77, some (.load T_api_Bits (.tmp 5)), none⟩,
    ⟨some 78, some (.call ⟨(.value (.func f_lift_BitsOf)), #[(.tmp 77)], #[T_api_Bits]⟩), none⟩,
    ⟨some 11, some (.assign (.tmp 78)), none⟩])
  (.seq (.seq (.reg [] [⟨some 79, some (.load T_api_Bits (.tmp 5)), none⟩,
    ⟨some 80, some (.call ⟨(.value (.func f_plaitref1_Right)), #[(.tmp 79)], #[T_api_Bits]⟩), none⟩,
    ⟨some 81, some (.unOp .not T_bool (.tmp 80)), none⟩])
  (.cond (.tmp 81) (.seq (.reg [] [⟨some 82, some (.move (.tmp 11)), none⟩,
    ⟨some 83, some (.call ⟨(.builtin .len), #[(.tmp 82)], #[T_s_bool]⟩), none⟩,
    ⟨some 84, some (.binOp .eql T_int (.tmp 83) (.const (.int .i64 0)) T_int), none⟩,
    ⟨some 6, some (.assign (.tmp 84)), none⟩])
  .ret)
  .skip))
  (.seq (.reg [] [⟨some 86, some (.fieldAddr T_api_Bits (.tmp 5) 0), none⟩,
    ⟨some 87, some (.load T_int (.tmp 86)), none⟩,
    ⟨some 88, some (.move (.tmp 11)), none⟩,
    ⟨some 89, some (.call ⟨(.value (.func f_lift_Value)), #[(.tmp 87), (.tmp 88)], #[T_int, T_s_bool]⟩), none⟩,
    ⟨some 85, some (.move (.tmp 89)), none⟩,
    ⟨some 90, some (.extract (.tmp 85) 0), none⟩,
    ⟨some 91, some (.extract (.tmp 85) 1), none⟩,
    ⟨some 12, some (.alloc T_api_Bits), none⟩,
    ⟨none, some (.store T_api_Bits (.tmp 12) (.tmp 90)), none⟩,
    ⟨some 13, some (.assign (.tmp 91)), none⟩])
  (.seq (.reg [] [⟨some 92, some (.move (.tmp 11)), none⟩,
    ⟨some 93, some (.call ⟨(.builtin .len), #[(.tmp 92)], #[T_s_bool]⟩), none⟩,
    ⟨some 94, some (.fieldAddr T_api_Bits (.tmp 5) 0), none⟩,
    ⟨some 95, some (.load T_int (.tmp 94)), none⟩,
    ⟨some 96, some (.call ⟨(.builtin .max), #[(.tmp 95), (.const (.int .i64 1))], #[T_int, T_int]⟩), none⟩,
    ⟨some 97, some (.binOp .eql T_int (.tmp 93) (.tmp 96) T_int), none⟩,
    ⟨some 98, some (.move (.tmp 97)), none⟩,
    ⟨some 99, some (.move (.tmp 13)), some (some 98, true)⟩,
    ⟨some 100, some (.binOp .eql T_int (.tmp 99) (.const (.int .i64 0)) T_int), some (some 98, true)⟩,
    ⟨some 101, some (.pick (.tmp 98) (.tmp 100) (.const (.bool false))), none⟩,
    ⟨some 102, some (.move (.tmp 101)), none⟩,
    ⟨some 103, some (.load T_api_Bits (.tmp 12)), some (some 102, true)⟩,
    ⟨some 104, some (.load T_api_Bits (.tmp 5)), some (some 102, true)⟩,
    ⟨some 105, some (.binOp .eql T_api_Bits (.tmp 103) (.tmp 104) T_api_Bits), some (some 102, true)⟩,
    ⟨some 106, some (.pick (.tmp 102) (.tmp 105) (.const (.bool false))), none⟩,
    ⟨some 6, some (.assign (.tmp 106)), none⟩])
  .ret))))))))))))
theorem e_plaitlaw16_LiftValues {a0 a1 a2 : AV} {H : AHeap} : R f_plaitlaw16_LiftValues [a0, a1, a2] H = fnK Go.Proofs.Try.prog [(.tmp 6)] (evalL Go.Proofs.Try.prog KT R c_plaitlaw16_LiftValues (Env.args [a0, a1, a2] 0) H) :=
  runs_body (D := DT) (f := f_plaitlaw16_LiftValues) Go.Proofs.Try.func3 (by kernel_rfl) (by kernel_rfl) (by kernel_rfl) (by kernel_rfl) (Nat.le_of_ble_eq_true rfl)

def c_plaitlaw16_known : LCode := (.seq (.reg [] [⟨some 0, some (.assign (.const (.bool false))), none⟩])
  (.seq (.reg [] [⟨some 8, some (.buildSlice T_s_bool 2 #[(0, (.const (.bool true))), (1, (.const (.bool false)))]), none⟩,
    ⟨some 9, some (.call ⟨(.value (.func f_lift_Value)), #[(.const (.int .i64 2)), (.tmp 8)], #[T_int, T_s_bool]⟩), none⟩,
    ⟨some 7, some (.move (.tmp 9)), none⟩,
    ⟨some 10, some (.extract (.tmp 7) 0), none⟩,
    ⟨some 11, some (.extract (.tmp 7) 1), none⟩,
    ⟨some 1, some (.alloc T_api_Bits), none⟩,
    ⟨none, some (.store T_api_Bits (.tmp 1) (.tmp 10)), none⟩,
    ⟨some 2, some (.assign (.tmp 11)), none⟩])
  (.seq (.reg [] [⟨some 13, some (.buildSlice T_s_bool 1 #[(0, (.const (.bool true)))]), none⟩,
    ⟨some 14, some (.call ⟨(.value (.func f_lift_Value)), #[(.const (.int .i64 0)), (.tmp 13)], #[T_int, T_s_bool]⟩), none⟩,
    ⟨some 12, some (.move (.tmp 14)), none⟩,
    ⟨some 15, some (.extract (.tmp 12) 0), none⟩,
    ⟨some 16, some (.extract (.tmp 12) 1), none⟩,
    ⟨some 3, some (.alloc T_api_Bits), none⟩,
    ⟨none, some (.store T_api_Bits (.tmp 3) (.tmp 15)), none⟩,
    ⟨some 4, some (.assign (.tmp 16)), none⟩])
  (.seq (.reg [] [⟨some 18, some (.buildSlice T_s_bool 1 #[(0, (.const (.bool true)))]), none⟩,
    ⟨some 19, some (.call ⟨(.value (.func f_lift_Value)), #[(.const (.int .i64 3)), (.tmp 18)], #[T_int, T_s_bool]⟩), none⟩,
    ⟨some 17, some (.move (.tmp 19)), none⟩,
    ⟨some 20, some (.extract (.tmp 17) 0), none⟩,
    ⟨some 21, some (.extract (.tmp 17) 1), none⟩,
    ⟨some 5, some (.alloc T_api_Bits), none⟩,
    ⟨none, some (.store T_api_Bits (.tmp 5) (.tmp 20)), none⟩,
    ⟨some 6, some (.assign (.tmp 21)), none⟩])
  (.seq (.reg [] [⟨some 22, some (.move (.tmp 2)), none⟩,
    ⟨some 23, some (.move (.tmp 4)), none⟩,
    ⟨some 24, some (.binOp .add T_int (.tmp 22) (.tmp 23) T_int), none⟩,
    ⟨some 25, some (.binOp .eql T_int (.tmp 24) (.const (.int .i64 0)) T_int), none⟩,
    ⟨some 26, some (.move (.tmp 25)), none⟩,
    ⟨some 27, some (.move (.tmp 6)), some (some 26, true)⟩,
    ⟨some 28, some (.binOp .eql T_int (.tmp 27) (.const (.int .i64 160)) T_int), some (some 26, true)⟩,
    ⟨some 29, some (.pick (.tmp 26) (.tmp 28) (.const (.bool false))), none⟩,
    ⟨some 30, some (.move (.tmp 29)), none⟩,
    ⟨some 31, some (.load T_api_Bits (.tmp 1)), some (some 30, true)⟩,
    ⟨some 32, some (.build T_api_Bits #[(0, (.const (.int .i64 2))), (1, (.const (.int .u64 1)))]), some (some 30, true)⟩,
    ⟨some 33, some (.binOp .eql T_api_Bits (.tmp 31) (.tmp 32) T_api_Bits), some (some 30, true)⟩,
    ⟨some 34, some (.pick (.tmp 30) (.tmp 33) (.const (.bool false))), none⟩,
    ⟨some 35, some (.move (.tmp 34)), none⟩,
    ⟨some 36, some (.load T_api_Bits (.tmp 3)), some (some 35, true)⟩,
    ⟨some 37, some (.build T_api_Bits #[(1, (.const (.int .u64 1)))]), some (some 35, true)⟩,
    ⟨some 38, some (.binOp .eql T_api_Bits (.tmp 36) (.tmp 37) T_api_Bits), some (some 35, true)⟩,
    ⟨some 39, some (.pick (.tmp 35) (.tmp 38) (.const (.bool false))), none⟩,
    ⟨some 40, some (.move (.tmp 39)), none⟩,
    ⟨some 41, some (.load T_api_Bits (.tmp 1)), some (some 40, true)⟩,
    ⟨some 42, some (.call ⟨(.value (.func f_lift_BitsOf)), #[(.tmp 41)], #[T_api_Bits]⟩), some (some 40, true)⟩,
    ⟨some 43, some (.buildSlice T_s_bool 2 #[(0, (.const (.bool true))), (1, (.const (.bool false)))]), some (some 40, true)⟩,
    ⟨some 44, some (.call ⟨(.value (.func f_plaithelp_Bools)), #[(.tmp 42), (.tmp 43)], #[T_s_bool, T_s_bool]⟩), some (some 40, true)⟩,
    ⟨some 45, some (.pick (.tmp 40) (.tmp 44) (.const (.bool false))), none⟩,
    ⟨some 0, some (.assign (.tmp 45)), none⟩])
  .ret)))))
theorem e_plaitlaw16_known {H : AHeap} : R f_plaitlaw16_known [] H = fnK Go.Proofs.Try.prog [(.tmp 0)] (evalL Go.Proofs.Try.prog KT R c_plaitlaw16_known (Env.args [] 0) H) :=
  runs_body (D := DT) (f := f_plaitlaw16_known) Go.Proofs.Try.func15 (by kernel_rfl) (by kernel_rfl) (by kernel_rfl) (by kernel_rfl) (Nat.le_of_ble_eq_true rfl)

def l_lift_Value_0 : LCode := (.seq (.reg [] [⟨some 25, some (.binOp .lss T_int (.tmp 24) (.tmp 23) T_int), none⟩])
  (.seq (.cond (.tmp 25) .skip
  (.exit 0))
  (.seq (.block 1 (.seq (.reg [] [⟨some 26, some (.move (.tmp 24)), none⟩,
    ⟨some 7, some (.assign (.tmp 26)), none⟩])
  (.seq (.reg [] [⟨some 27, some (.move (.tmp 1)), none⟩,
    ⟨some 28, some (.move (.tmp 7)), none⟩,
    ⟨some 29, some (.indexAddr T_s_bool (.tmp 27) (.tmp 28)), none⟩,
    ⟨some 30, some (.load T_bool (.tmp 29)), none⟩])
  (.cond (.tmp 30) (.reg [] [⟨some 31, some (.move (.tmp 7)), none⟩,
    ⟨some 32, some (.binOp .shr T_int (.tmp 31) (.const (.int .u64 6)) T_uint), none⟩,
    ⟨some 33, some (.indexAddr T_a2_uint64 (.tmp 6) (.tmp 32)), none⟩,
    ⟨some 34, some (.load T_uint64 (.tmp 33)), none⟩,
    ⟨some 35, some (.move (.tmp 7)), none⟩,
    ⟨some 36, some (.binOp .and T_int (.tmp 35) (.const (.int .i64 63)) T_int), none⟩,
    ⟨some 37, some (.convert T_int T_uint (.tmp 36)), none⟩,
    ⟨some 38, some (.binOp .shl T_uint64 (.const (.int .u64 1)) (.tmp 37) T_uint), none⟩,
    ⟨some 39, some (.binOp .or T_uint64 (.tmp 34) (.tmp 38) T_uint64), none⟩,
    ⟨some 40, some (.indexAddr T_a2_uint64 (.tmp 6) (.tmp 32)), none⟩,
    ⟨none, some (.store T_uint64 (.tmp 40) (.tmp 39)), none⟩])
  .skip))))
  (.reg [] [⟨some 41, some (.binOp .add T_int (.tmp 24) (.const (.int .i64 1)) T_int), none⟩,
    ⟨some 24, some (.move (.tmp 41)), none⟩]))))
def c_lift_Value : LCode := (.seq (.reg [] [⟨some 4, some (.alloc T_api_Bits), none⟩,
    ⟨some 5, some (.assign (.const (.int .i64 0))), none⟩])
  (.seq (.seq (.reg [] [⟨some 8, some (.move (.tmp 0)), none⟩,
    ⟨some 9, some (.binOp .lss T_int (.tmp 8) (.const (.int .i64 0)) T_int), none⟩,
    ⟨some 10, some (.move (.tmp 9)), none⟩,
    ⟨some 11, some (.move (.tmp 0)), some (some 10, false)⟩,
    ⟨some 12, some (.binOp .gtr T_int (.tmp 11) (.const (.int .i64 128)) T_int), some (some 10, false)⟩,
    ⟨some 13, some (.pick (.tmp 10) (.const (.bool true)) (.tmp 12)), none⟩,
    ⟨some 14, some (.move (.tmp 13)), none⟩,
    ⟨some 15, some (.move (.tmp 1)), some (some 14, false)⟩,
    ⟨some 16, some (.call ⟨(.builtin .len), #[(.tmp 15)], #[T_s_bool]⟩), some (some 14, false)⟩,
    ⟨some 17, some (.move (.tmp 0)), some (some 14, false)⟩,
    ⟨some 18, some (.call ⟨(.builtin .max), #[(.tmp 17), (.const (.int .i64 1))], #[T_int, T_int]⟩), some (some 14, false)⟩,
    ⟨some 19, some (.binOp .neq T_int (.tmp 16) (.tmp 18) T_int), some (some 14, false)⟩,
    ⟨some 20, some (.pick (.tmp 14) (.const (.bool true)) (.tmp 19)), none⟩])
  (.cond (.tmp 20) (.seq (.reg [] [⟨some 21, some (.build T_api_Bits #[]), none⟩,
    ⟨none, some (.store T_api_Bits (.tmp 4) (.tmp 21)), none⟩,
    ⟨some 5, some (.assign (.const (.int .i64 160))), none⟩])
  .ret)
  .skip))
  (.seq (.reg [] [⟨some 6, some (.alloc T_a2_uint64), none⟩])
  (.seq (.seq (.reg [] [⟨some 22, some (.move (.tmp 1)), none⟩,
    ⟨some 23, some (.call ⟨(.builtin .len), #[(.tmp 22)], #[T_s_bool]⟩), none⟩,
    ⟨some 24, some (.move (.const (.int .i64 0))), none⟩])
  (.block 0 (.loop l_lift_Value_0)))
  (.seq (.reg [] [⟨some 42, some (.move (.tmp 0)), none⟩,
    ⟨some 43, some (.indexAddr T_a2_uint64 (.tmp 6) (.const (.int .i64 0))), none⟩,
    ⟨some 44, some (.load T_uint64 (.tmp 43)), none⟩,
    ⟨some 45, some (.indexAddr T_a2_uint64 (.tmp 6) (.const (.int .i64 1))), none⟩,
    ⟨some 46, some (.load T_uint64 (.tmp 45)), none⟩,
    ⟨some 47, some (.build T_api_Bits #[(0, (.tmp 42)), (1, (.tmp 44)), (2, (.tmp 46))]), none⟩,
    ⟨none, some (.store T_api_Bits (.tmp 4) (.tmp 47)), none⟩,
    ⟨some 5, some (.assign (.const (.int .i64 0))), none⟩])
  .ret)))))
theorem e_lift_Value {a0 a1 : AV} {H : AHeap} : R f_lift_Value [a0, a1] H = fnK Go.Proofs.Try.prog [(.cell 4 T_api_Bits), (.tmp 5)] (evalL Go.Proofs.Try.prog KT R c_lift_Value (Env.args [a0, a1] 0) H) :=
  runs_body (D := DT) (f := f_lift_Value) Go.Proofs.Try.func16 (by kernel_rfl) (by kernel_rfl) (by kernel_rfl) (by kernel_rfl) (Nat.le_of_ble_eq_true rfl)

def c_plaitref3_Is : LCode := (.seq (.reg [] [⟨some 2, some (.assign (.const (.bool false))), none⟩])
  (.seq (.reg [] [⟨some 3, some (.move (.tmp 0)), none⟩,
    ⟨some 4, some (.binOp .geq T_int (.tmp 3) (.const (.int .i64 0)) T_int), none⟩,
    ⟨some 5, some (.move (.tmp 4)), none⟩,
    ⟨some 6, some (.move (.tmp 0)), some (some 5, true)⟩,
    ⟨some 7, some (.binOp .leq T_int (.tmp 6) (.const (.int .i64 128)) T_int), some (some 5, true)⟩,
    ⟨some 8, some (.pick (.tmp 5) (.tmp 7) (.const (.bool false))), none⟩,
    ⟨some 2, some (.assign (.tmp 8)), none⟩])
  .ret))
theorem e_plaitref3_Is {a0 : AV} {H : AHeap} : R f_plaitref3_Is [a0] H = fnK Go.Proofs.Try.prog [(.tmp 2)] (evalL Go.Proofs.Try.prog KT R c_plaitref3_Is (Env.args [a0] 0) H) :=
  runs_body (D := DT) (f := f_plaitref3_Is) Go.Proofs.Try.func17 (by kernel_rfl) (by kernel_rfl) (by kernel_rfl) (by kernel_rfl) (Nat.le_of_ble_eq_true rfl)

def l_plaithelp_Bools_0 : LCode := (.seq (.seq (.reg [] [⟨some 11, some (.move (.tmp 5)), none⟩,
    ⟨some 12, some (.move (.tmp 0)), none⟩,
    ⟨some 13, some (.call ⟨(.builtin .len), #[(.tmp 12)], #[T_s_bool]⟩), none⟩,
    ⟨some 14, some (.binOp .lss T_int (.tmp 11) (.tmp 13) T_int), none⟩])
  (.cond (.tmp 14) .skip
  (.exit 0)))
  (.seq (.block 1 (.seq (.reg [] [⟨some 17, some (.move (.tmp 0)), none⟩,
    ⟨some 18, some (.move (.tmp 5)), none⟩,
    ⟨some 19, some (.indexAddr T_s_bool (.tmp 17) (.tmp 18)), none⟩,
    ⟨some 20, some (.load T_bool (.tmp 19)), none⟩,
    ⟨some 21, some (.move (.tmp 1)), none⟩,
    ⟨some 22, some (.move (.tmp 5)), none⟩,
    ⟨some 23, some (.indexAddr T_s_bool (.tmp 21) (.tmp 22)), none⟩,
    ⟨some 24, some (.load T_bool (.tmp 23)), none⟩,
    ⟨some 25, some (.binOp .neq T_bool (.tmp 20) (.tmp 24) T_bool), none⟩])
  (.cond (.tmp 25) (.seq (.reg [] [⟨some 4, some (.assign (.const (.bool false))), none⟩])
  .ret)
  .skip)))
  (.reg [] [⟨some 15, some (.move (.tmp 5)), none⟩,
    ⟨some 16, some (.binOp .add T_int (.tmp 15) (.const (.int .i64 1)) T_int), none⟩,
    ⟨some 5, some (.assign (.tmp 16)), none⟩])))
def c_plaithelp_Bools : LCode := (.seq (.reg [] [⟨some 4, some (.assign (.const (.bool false))), none⟩])
  (.seq (.seq (.reg [] [⟨some 6, some (.move (.tmp 0)), none⟩,
    ⟨some 7, some (.call ⟨(.builtin .len), #[(.tmp 6)], #[T_s_bool]⟩), none⟩,
    ⟨some 8, some (.move (.tmp 1)), none⟩,
    ⟨some 9, some (.call ⟨(.builtin .len), #[(.tmp 8)], #[T_s_bool]⟩), none⟩,
    ⟨some 10, some (.binOp .neq T_int (.tmp 7) (.tmp 9) T_int), none⟩])
  (.cond (.tmp 10) (.seq (.reg [] [⟨some 4, some (.assign (.const (.bool false))), none⟩])
  .ret)
  .skip))
  (.seq (.seq (.reg [] [⟨some 5, some (.assign (.const (.int .i64 0))), none⟩])
  (.block 0 (.loop l_plaithelp_Bools_0)))
  (.seq (.reg [] [⟨some 4, some (.assign (.const (.bool true))), none⟩])
  .ret))))
theorem e_plaithelp_Bools {a0 a1 : AV} {H : AHeap} : R f_plaithelp_Bools [a0, a1] H = fnK Go.Proofs.Try.prog [(.tmp 4)] (evalL Go.Proofs.Try.prog KT R c_plaithelp_Bools (Env.args [a0, a1] 0) H) :=
  runs_body (D := DT) (f := f_plaithelp_Bools) Go.Proofs.Try.func18 (by kernel_rfl) (by kernel_rfl) (by kernel_rfl) (by kernel_rfl) (Nat.le_of_ble_eq_true rfl)

def l_plaitref1_Word_0 : LCode := (.seq (.seq (.reg [] [⟨some 8, some (.move (.tmp 4)), none⟩,
    ⟨some 9, some (.move (.tmp 0)), none⟩,
    ⟨some 10, some (.call ⟨(.builtin .len), #[(.tmp 9)], #[T_s_bool]⟩), none⟩,
    ⟨some 11, some (.binOp .lss T_int (.tmp 8) (.tmp 10) T_int), none⟩])
  (.cond (.tmp 11) .skip
  (.exit 0)))
  (.seq (.block 1 (.seq (.seq (.reg [] [⟨some 14, some (.move (.tmp 0)), none⟩,
    ⟨some 15, some (.move (.tmp 4)), none⟩,
    ⟨some 16, some (.indexAddr T_s_bool (.tmp 14) (.tmp 15)), none⟩,
    ⟨some 17, some (.load T_bool (.tmp 16)), none⟩,
    ⟨some 18, some (.move (.tmp 17)), none⟩,
    ⟨some 19, some (.move (.tmp 4)), some (some 18, true)⟩,
    ⟨some 20, some (.binOp .lss T_int (.tmp 19) (.const (.int .i64 64)) T_int), some (some 18, true)⟩,
    ⟨some 21, some (.pick (.tmp 18) (.tmp 20) (.const (.bool false))), none⟩])
  (.cond (.tmp 21) (.reg [] [⟨some 22, some (.fieldAddr T_api_Bits (.tmp 3) 1), none⟩,
    ⟨some 23, some (.load T_uint64 (.tmp 22)), none⟩,
    ⟨some 24, some (.move (.tmp 4)), none⟩,
    ⟨some 25, some (.binOp .shl T_uint64 (.const (.int .u64 1)) (.tmp 24) T_int), none⟩,
    ⟨some 26, some (.binOp .or T_uint64 (.tmp 23) (.tmp 25) T_uint64), none⟩,
    ⟨some 27, some (.fieldAddr T_api_Bits (.tmp 3) 1), none⟩,
    ⟨none, some (.store T_uint64 (.tmp 27) (.tmp 26)), none⟩])
  .skip))
  (.seq (.reg [] [⟨some 28, some (.move (.tmp 0)), none⟩,
    ⟨some 29, some (.move (.tmp 4)), none⟩,
    ⟨some 30, some (.indexAddr T_s_bool (.tmp 28) (.tmp 29)), none⟩,
    ⟨some 31, some (.load T_bool (.tmp 30)), none⟩,
    ⟨some 32, some (.move (.tmp 31)), none⟩,
    ⟨some 33, some (.move (.tmp 4)), some (some 32, true)⟩,
    ⟨some 34, some (.binOp .geq T_int (.tmp 33) (.const (.int .i64 64)) T_int), some (some 32, true)⟩,
    ⟨some 35, some (.pick (.tmp 32) (.tmp 34) (.const (.bool false))), none⟩])
  (.cond (.tmp 35) (.reg [] [⟨some 36, some (.fieldAddr T_api_Bits (.tmp 3) 2), none⟩,
    ⟨some 37, some (.load T_uint64 (.tmp 36)), none⟩,
    ⟨some 38, some (.move (.tmp 4)), none⟩,
    ⟨some 39, some (.binOp .sub T_int (.tmp 38) (.const (.int .i64 64)) T_int), none⟩,
    ⟨some 40, some (.binOp .shl T_uint64 (.const (.int .u64 1)) (.tmp 39) T_int), none⟩,
    ⟨some 41, some (.binOp .or T_uint64 (.tmp 37) (.tmp 40) T_uint64), none⟩,
    ⟨some 42, some (.fieldAddr T_api_Bits (.tmp 3) 2), none⟩,
    ⟨none, some (.store T_uint64 (.tmp 42) (.tmp 41)), none⟩])
  .skip))))
  (.reg [] [⟨some 12, some (.move (.tmp 4)), none⟩,
    ⟨some 13, some (.binOp .add T_int (.tmp 12) (.const (.int .i64 1)) T_int), none⟩,
    ⟨some 4, some (.assign (.tmp 13)), none⟩])))
def c_plaitref1_Word : LCode := (.seq (.reg [] [⟨some 2, some (.alloc T_api_Bits), none⟩])
  (.seq (.reg [] [⟨some 5, some (.move (.tmp 0)), none⟩,
    ⟨some 6, some (.call ⟨(.builtin .len), #[(.tmp 5)], #[T_s_bool]⟩), none⟩,
    ⟨some 7, some (.build T_api_Bits #[(0, (.tmp 6))]), none⟩,
    ⟨some 3, some (.alloc T_api_Bits), none⟩,
    ⟨none, some (.store T_api_Bits (.tmp 3) (.tmp 7)), none⟩])
  (.seq (.seq (.reg [] [⟨some 4, some (.assign (.const (.int .i64 0))), none⟩])
  (.block 0 (.loop l_plaitref1_Word_0)))
  (.seq (.reg [] [⟨some 43, some (.load T_api_Bits (.tmp 3)), none⟩,
    ⟨none, some (.store T_api_Bits (.tmp 2) (.tmp 43)), none⟩])
  .ret))))
theorem e_plaitref1_Word {a0 : AV} {H : AHeap} : R f_plaitref1_Word [a0] H = fnK Go.Proofs.Try.prog [(.cell 2 T_api_Bits)] (evalL Go.Proofs.Try.prog KT R c_plaitref1_Word (Env.args [a0] 0) H) :=
  runs_body (D := DT) (f := f_plaitref1_Word) Go.Proofs.Try.func19 (by kernel_rfl) (by kernel_rfl) (by kernel_rfl) (by kernel_rfl) (Nat.le_of_ble_eq_true rfl)

def c_plaitref1_Bool : LCode := (.seq (.reg [] [⟨some 2, some (.alloc T_api_Bits), none⟩])
  (.seq (.seq (.reg [] [⟨some 3, some (.move (.tmp 0)), none⟩])
  (.cond (.tmp 3) (.seq (.reg [] [⟨some 4, some (.build T_api_Bits #[(1, (.const (.int .u64 1)))]), none⟩,
    ⟨none, some (.store T_api_Bits (.tmp 2) (.tmp 4)), none⟩])
  .ret)
  .skip))
  (.seq (.reg [] [⟨some 5, some (.build T_api_Bits #[]), none⟩,
    ⟨none, some (.store T_api_Bits (.tmp 2) (.tmp 5)), none⟩])
  .ret)))
theorem e_plaitref1_Bool {a0 : AV} {H : AHeap} : R f_plaitref1_Bool [a0] H = fnK Go.Proofs.Try.prog [(.cell 2 T_api_Bits)] (evalL Go.Proofs.Try.prog KT R c_plaitref1_Bool (Env.args [a0] 0) H) :=
  runs_body (D := DT) (f := f_plaitref1_Bool) Go.Proofs.Try.func20 (by kernel_rfl) (by kernel_rfl) (by kernel_rfl) (by kernel_rfl) (Nat.le_of_ble_eq_true rfl)

def l_lift_BitsOf_0 : LCode := (.seq (.reg [] [⟨some 16, some (.binOp .lss T_int (.tmp 15) (.tmp 14) T_int), none⟩])
  (.seq (.cond (.tmp 16) .skip
  (.exit 0))
  (.seq (.block 1 (.seq (.reg [] [⟨some 17, some (.move (.tmp 15)), none⟩,
    ⟨some 4, some (.assign (.tmp 17)), none⟩])
  (.seq (.reg [] [⟨some 18, some (.fieldAddr T_api_Bits (.tmp 1) 1), none⟩,
    ⟨some 19, some (.load T_uint64 (.tmp 18)), none⟩,
    ⟨some 5, some (.assign (.tmp 19)), none⟩])
  (.seq (.seq (.reg [] [⟨some 20, some (.move (.tmp 4)), none⟩,
    ⟨some 21, some (.binOp .gtr T_int (.tmp 20) (.const (.int .i64 63)) T_int), none⟩])
  (.cond (.tmp 21) (.reg [] [⟨some 22, some (.fieldAddr T_api_Bits (.tmp 1) 2), none⟩,
    ⟨some 23, some (.load T_uint64 (.tmp 22)), none⟩,
    ⟨some 5, some (.assign (.tmp 23)), none⟩])
  .skip))
  (.reg [] [⟨some 24, some (.move (.tmp 3)), none⟩,
    ⟨some 25, some (.move (.tmp 4)), none⟩,
    ⟨some 26, some (.move (.tmp 5)), none⟩,
    ⟨some 27, some (.move (.tmp 4)), none⟩,
    ⟨some 28, some (.binOp .and T_int (.tmp 27) (.const (.int .i64 63)) T_int), none⟩,
    ⟨some 29, some (.convert T_int T_uint (.tmp 28)), none⟩,
    ⟨some 30, some (.binOp .shr T_uint64 (.tmp 26) (.tmp 29) T_uint), none⟩,
    ⟨some 31, some (.binOp .and T_uint64 (.tmp 30) (.const (.int .u64 1)) T_uint64), none⟩,
    ⟨some 32, some (.binOp .eql T_uint64 (.tmp 31) (.const (.int .u64 1)) T_uint64), none⟩,
    ⟨some 33, some (.indexAddr T_s_bool (.tmp 24) (.tmp 25)), none⟩,
    ⟨none, some (.store T_bool (.tmp 33) (.tmp 32)), none⟩])))))
  (.reg [] [⟨some 34, some (.binOp .add T_int (.tmp 15) (.const (.int .i64 1)) T_int), none⟩,
    ⟨some 15, some (.move (.tmp 34)), none⟩]))))
def c_lift_BitsOf : LCode := (.seq (.reg [] [⟨some 1, some (.box T_api_Bits (.tmp 0)), none⟩,
    ⟨some 2, some (.assign (.const (.slice none 0 0))), none⟩])
  (.seq (.seq (.reg [] [⟨some 6, some (.load T_api_Bits (.tmp 1)), none⟩,
    ⟨some 7, some (.call ⟨(.value (.func f_bv_Right)), #[(.tmp 6)], #[T_api_Bits]⟩), none⟩,
    ⟨some 8, some (.unOp .not T_bool (.tmp 7)), none⟩])
  (.cond (.tmp 8) (.seq (.reg [] [⟨some 2, some (.assign (.const (.slice none 0 0))), none⟩])
  .ret)
  .skip))
  (.seq (.reg [] [⟨some 9, some (.fieldAddr T_api_Bits (.tmp 1) 0), none⟩,
    ⟨some 10, some (.load T_int (.tmp 9)), none⟩,
    ⟨some 11, some (.call ⟨(.builtin .max), #[(.tmp 10), (.const (.int .i64 1))], #[T_int, T_int]⟩), none⟩,
    ⟨some 12, some (.makeSlice T_s_bool (.tmp 11) (.tmp 11)), none⟩,
    ⟨some 3, some (.assign (.tmp 12)), none⟩])
  (.seq (.seq (.reg [] [⟨some 13, some (.move (.tmp 3)), none⟩,
    ⟨some 14, some (.call ⟨(.builtin .len), #[(.tmp 13)], #[T_s_bool]⟩), none⟩,
    ⟨some 15, some (.move (.const (.int .i64 0))), none⟩])
  (.block 0 (.loop l_lift_BitsOf_0)))
  (.seq (.reg [] [⟨some 35, some (.move (.tmp 3)), none⟩,
    ⟨some 2, some (.assign (.tmp 35)), none⟩])
  .ret)))))
theorem e_lift_BitsOf {a0 : AV} {H : AHeap} : R f_lift_BitsOf [a0] H = fnK Go.Proofs.Try.prog [(.tmp 2)] (evalL Go.Proofs.Try.prog KT R c_lift_BitsOf (Env.args [a0] 0) H) :=
  runs_body (D := DT) (f := f_lift_BitsOf) Go.Proofs.Try.func21 (by kernel_rfl) (by kernel_rfl) (by kernel_rfl) (by kernel_rfl) (Nat.le_of_ble_eq_true rfl)

def c_plaitref1_Right : LCode := (.seq (.reg [] [⟨some 1, some (.box T_api_Bits (.tmp 0)), none⟩,
    ⟨some 2, some (.assign (.const (.bool false))), none⟩])
  (.seq (.seq (.reg [] [⟨some 3, some (.fieldAddr T_api_Bits (.tmp 1) 0), none⟩,
    ⟨some 4, some (.load T_int (.tmp 3)), none⟩,
    ⟨some 5, some (.binOp .lss T_int (.tmp 4) (.const (.int .i64 0)) T_int), none⟩,
    ⟨some 6, some (.move (.tmp 5)), none⟩,
    ⟨some 7, some (.fieldAddr T_api_Bits (.tmp 1) 0), some (some 6, false)⟩,
    ⟨some 8, some (.load T_int (.tmp 7)), some (some 6, false)⟩,
    ⟨some 9, some (.binOp .gtr T_int (.tmp 8) (.const (.int .i64 128)) T_int), some (some 6, false)⟩,
    ⟨some 10, some (.pick (.tmp 6) (.const (.bool true)) (.tmp 9)), none⟩])
  (.cond (.tmp 10) (.seq (.reg [] [⟨some 2, some (.assign (.const (.bool false))), none⟩])
  .ret)
  .skip))
  (.seq (.seq (.reg [] [⟨some 11, some (.fieldAddr T_api_Bits (.tmp 1) 0), none⟩,
    ⟨some 12, some (.load T_int (.tmp 11)), none⟩,
    ⟨some 13, some (.binOp .eql T_int (.tmp 12) (.const (.int .i64 0)) T_int), none⟩])
  (.cond (.tmp 13) (.seq (.reg [] [⟨some 14, some (.fieldAddr T_api_Bits (.tmp 1) 1), none⟩,
    ⟨some 15, some (.load T_uint64 (.tmp 14)), none⟩,
    ⟨some 16, some (.binOp .leq T_uint64 (.tmp 15) (.const (.int .u64 1)) T_uint64), none⟩,
    ⟨some 17, some (.move (.tmp 16)), none⟩,
    ⟨some 18, some (.fieldAddr T_api_Bits (.tmp 1) 2), some (some 17, true)⟩,
    ⟨some 19, some (.load T_uint64 (.tmp 18)), some (some 17, true)⟩,
    ⟨some 20, some (.binOp .eql T_uint64 (.tmp 19) (.const (.int .u64 0)) T_uint64), some (some 17, true)⟩,
    ⟨some 21, some (.pick (.tmp 17) (.tmp 20) (.const (.bool false))), none⟩,
    ⟨some 2, some (.assign (.tmp 21)), none⟩])
  .ret)
  .skip))
  (.seq (.reg [1, 2] [⟨some 22, some (.load T_api_Bits (.tmp 1)), none⟩,
    ⟨some 23, some (.call ⟨(.value (.func f_plaitref1_Bits)), #[(.tmp 22)], #[T_api_Bits]⟩), none⟩,
    ⟨some 24, some (.call ⟨(.value (.func f_plaitref1_Word)), #[(.tmp 23)], #[T_s_bool]⟩), none⟩,
    ⟨some 25, some (.load T_api_Bits (.tmp 1)), none⟩,
    ⟨some 26, some (.binOp .eql T_api_Bits (.tmp 24) (.tmp 25) T_api_Bits), none⟩,
    ⟨some 2, some (.assign (.tmp 26)), none⟩])
  .ret))))
theorem e_plaitref1_Right {a0 : AV} {H : AHeap} : R f_plaitref1_Right [a0] H = fnK Go.Proofs.Try.prog [(.tmp 2)] (evalL Go.Proofs.Try.prog KT R c_plaitref1_Right (Env.args [a0] 0) H) :=
  runs_body (D := DT) (f := f_plaitref1_Right) Go.Proofs.Try.func22 (by kernel_rfl) (by kernel_rfl) (by kernel_rfl) (by kernel_rfl) (Nat.le_of_ble_eq_true rfl)

def c_bv_Right : LCode := (.seq (.reg [] [⟨some 1, some (.box T_api_Bits (.tmp 0)), none⟩,
    ⟨some 2, some (.assign (.const (.bool false))), none⟩])
  (.seq (.seq (.reg [] [⟨some 3, some (.fieldAddr T_api_Bits (.tmp 1) 0), none⟩,
    ⟨some 4, some (.load T_int (.tmp 3)), none⟩,
    ⟨some 5, some (.binOp .eql T_int (.tmp 4) (.const (.int .i64 0)) T_int), none⟩])
  (.cond (.tmp 5) (.seq (.reg [] [⟨some 6, some (.fieldAddr T_api_Bits (.tmp 1) 1), none⟩,
    ⟨some 7, some (.load T_uint64 (.tmp 6)), none⟩,
    ⟨some 8, some (.binOp .leq T_uint64 (.tmp 7) (.const (.int .u64 1)) T_uint64), none⟩,
    ⟨some 9, some (.move (.tmp 8)), none⟩,
    ⟨some 10, some (.fieldAddr T_api_Bits (.tmp 1) 2), some (some 9, true)⟩,
    ⟨some 11, some (.load T_uint64 (.tmp 10)), some (some 9, true)⟩,
    ⟨some 12, some (.binOp .eql T_uint64 (.tmp 11) (.const (.int .u64 0)) T_uint64), some (some 9, true)⟩,
    ⟨some 13, some (.pick (.tmp 9) (.tmp 12) (.const (.bool false))), none⟩,
    ⟨some 2, some (.assign (.tmp 13)), none⟩])
  .ret)
  .skip))
  (.seq (.reg [12, 13] [⟨some 14, some (.fieldAddr T_api_Bits (.tmp 1) 0), none⟩,
    ⟨some 15, some (.load T_int (.tmp 14)), none⟩,
    ⟨some 16, some (.binOp .gtr T_int (.tmp 15) (.const (.int .i64 0)) T_int), none⟩,
    ⟨some 17, some (.move (.tmp 16)), none⟩,
    ⟨some 18, some (.fieldAddr T_api_Bits (.tmp 1) 0), some (some 17, true)⟩,
    ⟨some 19, some (.load T_int (.tmp 18)), some (some 17, true)⟩,
    ⟨some 20, some (.binOp .leq T_int (.tmp 19) (.const (.int .i64 128)) T_int), some (some 17, true)⟩,
    ⟨some 21, some (.pick (.tmp 17) (.tmp 20) (.const (.bool false))), none⟩,
    ⟨some 22, some (.move (.tmp 21)), none⟩,
    ⟨some 23, some (.fieldAddr T_api_Bits (.tmp 1) 0), some (some 22, true)⟩,
    ⟨some 24, some (.load T_int (.tmp 23)), some (some 22, true)⟩,
    ⟨some 25, some (.load T_api_Bits (.tmp 1)), some (some 22, true)⟩,
    ⟨some 26, some (.call ⟨(.value (.func f_bv_of)), #[(.tmp 25)], #[T_api_Bits]⟩), some (some 22, true)⟩,
    ⟨some 27, some (.call ⟨(.value (.func f_bv_cut)), #[(.tmp 24), (.tmp 26)], #[T_int, T_bv_number]⟩), some (some 22, true)⟩,
    ⟨some 28, some (.load T_api_Bits (.tmp 1)), some (some 22, true)⟩,
    ⟨some 29, some (.binOp .eql T_api_Bits (.tmp 27) (.tmp 28) T_api_Bits), some (some 22, true)⟩,
    ⟨some 30, some (.pick (.tmp 22) (.tmp 29) (.const (.bool false))), none⟩,
    ⟨some 2, some (.assign (.tmp 30)), none⟩])
  .ret)))
theorem e_bv_Right {a0 : AV} {H : AHeap} : R f_bv_Right [a0] H = fnK Go.Proofs.Try.prog [(.tmp 2)] (evalL Go.Proofs.Try.prog KT R c_bv_Right (Env.args [a0] 0) H) :=
  runs_body (D := DT) (f := f_bv_Right) Go.Proofs.Try.func72 (by kernel_rfl) (by kernel_rfl) (by kernel_rfl) (by kernel_rfl) (Nat.le_of_ble_eq_true rfl)

def l_plaitref1_Bits_0 : LCode := (.seq (.seq (.reg [] [⟨some 8, some (.move (.tmp 4)), none⟩,
    ⟨some 9, some (.fieldAddr T_api_Bits (.tmp 1) 0), none⟩,
    ⟨some 10, some (.load T_int (.tmp 9)), none⟩,
    ⟨some 11, some (.binOp .lss T_int (.tmp 8) (.tmp 10) T_int), none⟩])
  (.cond (.tmp 11) .skip
  (.exit 0)))
  (.seq (.block 1 (.seq (.reg [] [⟨some 14, some (.move (.tmp 4)), none⟩,
    ⟨some 15, some (.binOp .lss T_int (.tmp 14) (.const (.int .i64 64)) T_int), none⟩])
  (.cond (.tmp 15) (.reg [] [⟨some 16, some (.move (.tmp 3)), none⟩,
    ⟨some 17, some (.move (.tmp 4)), none⟩,
    ⟨some 18, some (.fieldAddr T_api_Bits (.tmp 1) 1), none⟩,
    ⟨some 19, some (.load T_uint64 (.tmp 18)), none⟩,
    ⟨some 20, some (.move (.tmp 4)), none⟩,
    ⟨some 21, some (.binOp .shr T_uint64 (.tmp 19) (.tmp 20) T_int), none⟩,
    ⟨some 22, some (.binOp .and T_uint64 (.tmp 21) (.const (.int .u64 1)) T_uint64), none⟩,
    ⟨some 23, some (.binOp .eql T_uint64 (.tmp 22) (.const (.int .u64 1)) T_uint64), none⟩,
    ⟨some 24, some (.indexAddr T_s_bool (.tmp 16) (.tmp 17)), none⟩,
    ⟨none, some (.store T_bool (.tmp 24) (.tmp 23)), none⟩])
  (.reg [] [⟨some 25, some (.move (.tmp 3)), none⟩,
    ⟨some 26, some (.move (.tmp 4)), none⟩,
    ⟨some 27, some (.fieldAddr T_api_Bits (.tmp 1) 2), none⟩,
    ⟨some 28, some (.load T_uint64 (.tmp 27)), none⟩,
    ⟨some 29, some (.move (.tmp 4)), none⟩,
    ⟨some 30, some (.binOp .sub T_int (.tmp 29) (.const (.int .i64 64)) T_int), none⟩,
    ⟨some 31, some (.binOp .shr T_uint64 (.tmp 28) (.tmp 30) T_int), none⟩,
    ⟨some 32, some (.binOp .and T_uint64 (.tmp 31) (.const (.int .u64 1)) T_uint64), none⟩,
    ⟨some 33, some (.binOp .eql T_uint64 (.tmp 32) (.const (.int .u64 1)) T_uint64), none⟩,
    ⟨some 34, some (.indexAddr T_s_bool (.tmp 25) (.tmp 26)), none⟩,
    ⟨none, some (.store T_bool (.tmp 34) (.tmp 33)), none⟩]))))
  (.reg [] [⟨some 12, some (.move (.tmp 4)), none⟩,
    ⟨some 13, some (.binOp .add T_int (.tmp 12) (.const (.int .i64 1)) T_int), none⟩,
    ⟨some 4, some (.assign (.tmp 13)), none⟩])))
def c_plaitref1_Bits : LCode := (.seq (.reg [] [⟨some 1, some (.box T_api_Bits (.tmp 0)), none⟩,
    ⟨some 2, some (.assign (.const (.slice none 0 0))), none⟩])
  (.seq (.reg [] [⟨some 5, some (.fieldAddr T_api_Bits (.tmp 1) 0), none⟩,
    ⟨some 6, some (.load T_int (.tmp 5)), none⟩,
    ⟨some 7, some (.makeSlice T_s_bool (.tmp 6) (.tmp 6)), none⟩,
    ⟨some 3, some (.assign (.tmp 7)), none⟩])
  (.seq (.seq (.reg [] [⟨some 4, some (.assign (.const (.int .i64 0))), none⟩])
  (.block 0 (.loop l_plaitref1_Bits_0)))
  (.seq (.reg [] [⟨some 35, some (.move (.tmp 3)), none⟩,
    ⟨some 2, some (.assign (.tmp 35)), none⟩])
  .ret))))
theorem e_plaitref1_Bits {a0 : AV} {H : AHeap} : R f_plaitref1_Bits [a0] H = fnK Go.Proofs.Try.prog [(.tmp 2)] (evalL Go.Proofs.Try.prog KT R c_plaitref1_Bits (Env.args [a0] 0) H) :=
  runs_body (D := DT) (f := f_plaitref1_Bits) Go.Proofs.Try.func73 (by kernel_rfl) (by kernel_rfl) (by kernel_rfl) (by kernel_rfl) (Nat.le_of_ble_eq_true rfl)

def c_bv_cut : LCode := (.seq (.reg [] [⟨some 3, some (.box T_bv_number (.tmp 1)), none⟩,
    ⟨some 4, some (.alloc T_api_Bits), none⟩])
  (.seq (.reg [] [⟨some 6, some (.move (.tmp 0)), none⟩,
    ⟨some 7, some (.call ⟨(.value (.func f_bv_mask)), #[(.tmp 6)], #[T_int]⟩), none⟩,
    ⟨some 5, some (.alloc T_bv_number), none⟩,
    ⟨none, some (.store T_bv_number (.tmp 5) (.tmp 7)), none⟩])
  (.seq (.reg [] [⟨some 8, some (.move (.tmp 0)), none⟩,
    ⟨some 9, some (.fieldAddr T_bv_number (.tmp 3) 0), none⟩,
    ⟨some 10, some (.load T_uint64 (.tmp 9)), none⟩,
    ⟨some 11, some (.fieldAddr T_bv_number (.tmp 5) 0), none⟩,
    ⟨some 12, some (.load T_uint64 (.tmp 11)), none⟩,
    ⟨some 13, some (.binOp .and T_uint64 (.tmp 10) (.tmp 12) T_uint64), none⟩,
    ⟨some 14, some (.fieldAddr T_bv_number (.tmp 3) 1), none⟩,
    ⟨some 15, some (.load T_uint64 (.tmp 14)), none⟩,
    ⟨some 16, some (.fieldAddr T_bv_number (.tmp 5) 1), none⟩,
    ⟨some 17, some (.load T_uint64 (.tmp 16)), none⟩,
    ⟨some 18, some (.binOp .and T_uint64 (.tmp 15) (.tmp 17) T_uint64), none⟩,
    ⟨some 19, some (.build T_api_Bits #[(0, (.tmp 8)), (1, (.tmp 13)), (2, (.tmp 18))]), none⟩,
    ⟨none, some (.store T_api_Bits (.tmp 4) (.tmp 19)), none⟩])
  .ret)))
theorem e_bv_cut {a0 a1 : AV} {H : AHeap} : R f_bv_cut [a0, a1] H = fnK Go.Proofs.Try.prog [(.cell 4 T_api_Bits)] (evalL Go.Proofs.Try.prog KT R c_bv_cut (Env.args [a0, a1] 0) H) :=
  runs_body (D := DT) (f := f_bv_cut) Go.Proofs.Try.func103 (by kernel_rfl) (by kernel_rfl) (by kernel_rfl) (by kernel_rfl) (Nat.le_of_ble_eq_true rfl)

def c_bv_of : LCode := (.seq (.reg [] [⟨some 1, some (.box T_api_Bits (.tmp 0)), none⟩,
    ⟨some 2, some (.alloc T_bv_number), none⟩])
  (.seq (.reg [] [⟨some 3, some (.fieldAddr T_api_Bits (.tmp 1) 1), none⟩,
    ⟨some 4, some (.load T_uint64 (.tmp 3)), none⟩,
    ⟨some 5, some (.fieldAddr T_api_Bits (.tmp 1) 2), none⟩,
    ⟨some 6, some (.load T_uint64 (.tmp 5)), none⟩,
    ⟨some 7, some (.build T_bv_number #[(0, (.tmp 4)), (1, (.tmp 6))]), none⟩,
    ⟨none, some (.store T_bv_number (.tmp 2) (.tmp 7)), none⟩])
  .ret))
theorem e_bv_of {a0 : AV} {H : AHeap} : R f_bv_of [a0] H = fnK Go.Proofs.Try.prog [(.cell 2 T_bv_number)] (evalL Go.Proofs.Try.prog KT R c_bv_of (Env.args [a0] 0) H) :=
  runs_body (D := DT) (f := f_bv_of) Go.Proofs.Try.func104 (by kernel_rfl) (by kernel_rfl) (by kernel_rfl) (by kernel_rfl) (Nat.le_of_ble_eq_true rfl)

def c_bv_mask : LCode := (.seq (.reg [] [⟨some 2, some (.alloc T_bv_number), none⟩])
  (.seq (.reg [] [⟨some 3, some (.build T_bv_number #[]), none⟩,
    ⟨some 4, some (.call ⟨(.value (.func f_plait_bv_number_not)), #[(.tmp 3)], #[T_bv_number]⟩), none⟩,
    ⟨some 5, some (.move (.tmp 0)), none⟩,
    ⟨some 6, some (.binOp .sub T_int (.const (.int .i64 128)) (.tmp 5) T_int), none⟩,
    ⟨some 7, some (.call ⟨(.value (.func f_plait_bv_number_right)), #[(.tmp 4), (.tmp 6)], #[T_bv_number, T_int]⟩), none⟩,
    ⟨none, some (.store T_bv_number (.tmp 2) (.tmp 7)), none⟩])
  .ret))
theorem e_bv_mask {a0 : AV} {H : AHeap} : R f_bv_mask [a0] H = fnK Go.Proofs.Try.prog [(.cell 2 T_bv_number)] (evalL Go.Proofs.Try.prog KT R c_bv_mask (Env.args [a0] 0) H) :=
  runs_body (D := DT) (f := f_bv_mask) Go.Proofs.Try.func114 (by kernel_rfl) (by kernel_rfl) (by kernel_rfl) (by kernel_rfl) (Nat.le_of_ble_eq_true rfl)

def c_plait_bv_number_not : LCode := (.seq (.reg [] [⟨some 1, some (.box T_bv_number (.tmp 0)), none⟩,
    ⟨some 2, some (.alloc T_bv_number), none⟩])
  (.seq (.reg [] [⟨some 3, some (.fieldAddr T_bv_number (.tmp 1) 0), none⟩,
    ⟨some 4, some (.load T_uint64 (.tmp 3)), none⟩,
    ⟨some 5, some (.unOp .xor T_uint64 (.tmp 4)), none⟩,
    ⟨some 6, some (.fieldAddr T_bv_number (.tmp 1) 1), none⟩,
    ⟨some 7, some (.load T_uint64 (.tmp 6)), none⟩,
    ⟨some 8, some (.unOp .xor T_uint64 (.tmp 7)), none⟩,
    ⟨some 9, some (.build T_bv_number #[(0, (.tmp 5)), (1, (.tmp 8))]), none⟩,
    ⟨none, some (.store T_bv_number (.tmp 2) (.tmp 9)), none⟩])
  .ret))
theorem e_plait_bv_number_not {a0 : AV} {H : AHeap} : R f_plait_bv_number_not [a0] H = fnK Go.Proofs.Try.prog [(.cell 2 T_bv_number)] (evalL Go.Proofs.Try.prog KT R c_plait_bv_number_not (Env.args [a0] 0) H) :=
  runs_body (D := DT) (f := f_plait_bv_number_not) Go.Proofs.Try.func115 (by kernel_rfl) (by kernel_rfl) (by kernel_rfl) (by kernel_rfl) (Nat.le_of_ble_eq_true rfl)

def c_plait_bv_number_right : LCode := (.seq (.reg [] [⟨some 2, some (.box T_bv_number (.tmp 0)), none⟩,
    ⟨some 4, some (.alloc T_bv_number), none⟩])
  (.seq (.seq (.reg [] [⟨some 5, some (.move (.tmp 1)), none⟩,
    ⟨some 6, some (.binOp .geq T_int (.tmp 5) (.const (.int .i64 64)) T_int), none⟩])
  (.cond (.tmp 6) (.seq (.reg [] [⟨some 7, some (.fieldAddr T_bv_number (.tmp 2) 1), none⟩,
    ⟨some 8, some (.load T_uint64 (.tmp 7)), none⟩,
    ⟨some 9, some (.move (.tmp 1)), none⟩,
    ⟨some 10, some (.binOp .sub T_int (.tmp 9) (.const (.int .i64 64)) T_int), none⟩,
    ⟨some 11, some (.convert T_int T_uint (.tmp 10)), none⟩,
    ⟨some 12, some (.binOp .shr T_uint64 (.tmp 8) (.tmp 11) T_uint), none⟩,
    ⟨some 13, some (.build T_bv_number #[(0, (.tmp 12)), (1, (.const (.int .u64 0)))]), none⟩,
    ⟨none, some (.store T_bv_number (.tmp 4) (.tmp 13)), none⟩])
  .ret)
  .skip))
  (.seq (.reg [] [⟨some 14, some (.fieldAddr T_bv_number (.tmp 2) 0), none⟩,
    ⟨some 15, some (.load T_uint64 (.tmp 14)), none⟩,
    ⟨some 16, some (.move (.tmp 1)), none⟩,
    ⟨some 17, some (.convert T_int T_uint (.tmp 16)), none⟩,
    ⟨some 18, some (.binOp .shr T_uint64 (.tmp 15) (.tmp 17) T_uint), none⟩,
    ⟨some 19, some (.fieldAddr T_bv_number (.tmp 2) 1), none⟩,
    ⟨some 20, some (.load T_uint64 (.tmp 19)), none⟩,
    ⟨some 21, some (.move (.tmp 1)), none⟩,
    ⟨some 22, some (.binOp .sub T_int (.const (.int .i64 64)) (.tmp 21) T_int), none⟩,
    ⟨some 23, some (.convert T_int T_uint (.tmp 22)), none⟩,
    ⟨some 24, some (.binOp .shl T_uint64 (.tmp 20) (.tmp 23) T_uint), none⟩,
    ⟨some 25, some (.binOp .or T_uint64 (.tmp 18) (.tmp 24) T_uint64), none⟩,
    ⟨some 26, some (.fieldAddr T_bv_number (.tmp 2) 1), none⟩,
    ⟨some 27, some (.load T_uint64 (.tmp 26)), none⟩,
    ⟨some 28, some (.move (.tmp 1)), none⟩,
    ⟨some 29, some (.convert T_int T_uint (.tmp 28)), none⟩,
    ⟨some 30, some (.binOp .shr T_uint64 (.tmp 27) (.tmp 29) T_uint), none⟩,
    ⟨some 31, some (.build T_bv_number #[(0, (.tmp 25)), (1, (.tmp 30))]), none⟩,
    ⟨none, some (.store T_bv_number (.tmp 4) (.tmp 31)), none⟩])
  .ret)))
theorem e_plait_bv_number_right {a0 a1 : AV} {H : AHeap} : R f_plait_bv_number_right [a0, a1] H = fnK Go.Proofs.Try.prog [(.cell 4 T_bv_number)] (evalL Go.Proofs.Try.prog KT R c_plait_bv_number_right (Env.args [a0, a1] 0) H) :=
  runs_body (D := DT) (f := f_plait_bv_number_right) Go.Proofs.Try.func116 (by kernel_rfl) (by kernel_rfl) (by kernel_rfl) (by kernel_rfl) (Nat.le_of_ble_eq_true rfl)

end Go.Proofs.Ytphkkcocimmmfaa
