/- What this seat's program looks like to the rules: names, types, bodies in the short form. Written by seat.py. -/
import Derived.Test.YtcnhpkongbdihaaAT1
namespace Go.Proofs.Ytcnhpkongbdihaa
open Go.RowKit

def c_bv_turnedIf : LCode := (.seq (.reg [] [⟨some 3, some (.box T_bv_number (.tmp 1)), none⟩,
    ⟨some 4, some (.alloc T_bv_number), none⟩])
  (.seq (.seq (.reg [] [⟨some 5, some (.move (.tmp 0)), none⟩])
  (.cond (.tmp 5) (.seq (.reg [] [⟨some 6, some (.load T_bv_number (.tmp 3)), none⟩,
    ⟨some 7, some (.call ⟨(.value (.func f_plait_bv_number_neg)), #[(.tmp 6)], #[T_bv_number]⟩), none⟩,
    ⟨none, some (.store T_bv_number (.tmp 4) (.tmp 7)), none⟩])
  .ret)
  .skip))
  (.seq (.reg [] [⟨some 8, some (.load T_bv_number (.tmp 3)), none⟩,
    ⟨none, some (.store T_bv_number (.tmp 4) (.tmp 8)), none⟩])
  .ret)))
theorem e_bv_turnedIf {a0 a1 : AV} {H : AHeap} : R f_bv_turnedIf [a0, a1] H = fnK Go.Proofs.Try.prog [] H [(.cell 4 T_bv_number)] (evalL Go.Proofs.Try.prog KT R c_bv_turnedIf (Env.args [a0, a1] 0) H) :=
  runs_body (D := DT) (f := f_bv_turnedIf) Go.Proofs.Try.func71 (by kernel_rfl) (by kernel_rfl) (by kernel_rfl) (by kernel_rfl) (by kernel_rfl) (Nat.le_of_ble_eq_true rfl)

def c_bv_smod : LCode := (.seq (.reg [] [⟨some 2, some (.box T_api_Bits (.tmp 0)), none⟩,
    ⟨some 3, some (.box T_api_Bits (.tmp 1)), none⟩,
    ⟨some 4, some (.alloc T_bv_number), none⟩])
  (.seq (.reg [3, 5, 10, 11] [⟨some 8, some (.fieldAddr T_api_Bits (.tmp 2) 0), none⟩,
    ⟨some 9, some (.load T_int (.tmp 8)), none⟩,
    ⟨some 10, some (.load T_api_Bits (.tmp 2)), none⟩,
    ⟨some 11, some (.call ⟨(.value (.func f_bv_size)), #[(.tmp 10)], #[T_api_Bits]⟩), none⟩,
    ⟨some 12, some (.load T_api_Bits (.tmp 3)), none⟩,
    ⟨some 13, some (.call ⟨(.value (.func f_bv_size)), #[(.tmp 12)], #[T_api_Bits]⟩), none⟩,
    ⟨some 14, some (.call ⟨(.value (.func f_bv_divided)), #[(.tmp 9), (.tmp 11), (.tmp 13)], #[T_int, T_bv_number, T_bv_number]⟩), none⟩,
    ⟨some 7, some (.move (.tmp 14)), none⟩,
    ⟨some 15, some (.extract (.tmp 7) 0), none⟩,
    ⟨some 16, some (.extract (.tmp 7) 1), none⟩,
    ⟨some 5, some (.alloc T_bv_number), none⟩,
    ⟨some 6, some (.alloc T_bv_number), none⟩,
    ⟨none, some (.store T_bv_number (.tmp 5) (.tmp 15)), none⟩,
    ⟨none, some (.store T_bv_number (.tmp 6) (.tmp 16)), none⟩])
  (.seq (.block 0 (.seq (.reg [] [⟨some 18, some (.load T_bv_number (.tmp 6)), none⟩,
    ⟨some 19, some (.build T_bv_number #[]), none⟩,
    ⟨some 20, some (.binOp .eql T_bv_number (.tmp 18) (.tmp 19) T_bv_number), none⟩,
    ⟨some 21, some (.move (.tmp 20)), none⟩,
    ⟨some 22, some (.load T_api_Bits (.tmp 2)), some (some 21, false)⟩,
    ⟨some 23, some (.call ⟨(.value (.func f_bv_below)), #[(.tmp 22)], #[T_api_Bits]⟩), some (some 21, false)⟩,
    ⟨some 24, some (.unOp .not T_bool (.tmp 23)), some (some 21, false)⟩,
    ⟨some 25, some (.move (.tmp 24)), some (some 21, false)⟩,
    ⟨some 26, some (.load T_api_Bits (.tmp 3)), some (some 25, true)⟩,
    ⟨some 27, some (.call ⟨(.value (.func f_bv_below)), #[(.tmp 26)], #[T_api_Bits]⟩), some (some 25, true)⟩,
    ⟨some 28, some (.unOp .not T_bool (.tmp 27)), some (some 25, true)⟩,
    ⟨some 29, some (.pick (.tmp 25) (.tmp 28) (.const (.bool false))), some (some 21, false)⟩,
    ⟨some 30, some (.pick (.tmp 21) (.const (.bool true)) (.tmp 29)), none⟩,
    ⟨some 17, some (.assign (.tmp 30)), none⟩])
  (.cond (.tmp 17) (.seq (.reg [] [⟨some 31, some (.load T_bv_number (.tmp 6)), none⟩,
    ⟨none, some (.store T_bv_number (.tmp 4) (.tmp 31)), none⟩])
  .ret)
  (.seq (.reg [] [⟨some 33, some (.load T_api_Bits (.tmp 3)), none⟩,
    ⟨some 34, some (.call ⟨(.value (.func f_bv_below)), #[(.tmp 33)], #[T_api_Bits]⟩), none⟩,
    ⟨some 35, some (.unOp .not T_bool (.tmp 34)), none⟩,
    ⟨some 32, some (.assign (.tmp 35)), none⟩])
  (.cond (.tmp 32) (.seq (.reg [1] [⟨some 36, some (.load T_api_Bits (.tmp 3)), none⟩,
    ⟨some 37, some (.call ⟨(.value (.func f_bv_of)), #[(.tmp 36)], #[T_api_Bits]⟩), none⟩,
    ⟨some 38, some (.load T_bv_number (.tmp 6)), none⟩,
    ⟨some 39, some (.call ⟨(.value (.func f_plait_bv_number_sub)), #[(.tmp 37), (.tmp 38)], #[T_bv_number, T_bv_number]⟩), none⟩,
    ⟨none, some (.store T_bv_number (.tmp 4) (.tmp 39)), none⟩])
  .ret)
  (.seq (.reg [] [⟨some 41, some (.load T_api_Bits (.tmp 2)), none⟩,
    ⟨some 42, some (.call ⟨(.value (.func f_bv_below)), #[(.tmp 41)], #[T_api_Bits]⟩), none⟩,
    ⟨some 43, some (.unOp .not T_bool (.tmp 42)), none⟩,
    ⟨some 40, some (.assign (.tmp 43)), none⟩])
  (.cond (.tmp 40) (.seq (.reg [2] [⟨some 44, some (.load T_bv_number (.tmp 6)), none⟩,
    ⟨some 45, some (.load T_api_Bits (.tmp 3)), none⟩,
    ⟨some 46, some (.call ⟨(.value (.func f_bv_of)), #[(.tmp 45)], #[T_api_Bits]⟩), none⟩,
    ⟨some 47, some (.call ⟨(.value (.func f_plait_bv_number_add)), #[(.tmp 44), (.tmp 46)], #[T_bv_number, T_bv_number]⟩), none⟩,
    ⟨none, some (.store T_bv_number (.tmp 4) (.tmp 47)), none⟩])
  .ret)
  .skip)))))))
  (.seq (.reg [] [⟨some 48, some (.load T_bv_number (.tmp 6)), none⟩,
    ⟨some 49, some (.call ⟨(.value (.func f_plait_bv_number_neg)), #[(.tmp 48)], #[T_bv_number]⟩), none⟩,
    ⟨none, some (.store T_bv_number (.tmp 4) (.tmp 49)), none⟩])
  .ret))))
theorem e_bv_smod {a0 a1 : AV} {H : AHeap} : R f_bv_smod [a0, a1] H = fnK Go.Proofs.Try.prog [] H [(.cell 4 T_bv_number)] (evalL Go.Proofs.Try.prog KT R c_bv_smod (Env.args [a0, a1] 0) H) :=
  runs_body (D := DT) (f := f_bv_smod) Go.Proofs.Try.func72 (by kernel_rfl) (by kernel_rfl) (by kernel_rfl) (by kernel_rfl) (by kernel_rfl) (Nat.le_of_ble_eq_true rfl)

def c_plait_bv_number_less : LCode := (.seq (.reg [] [⟨some 2, some (.box T_bv_number (.tmp 0)), none⟩,
    ⟨some 3, some (.box T_bv_number (.tmp 1)), none⟩,
    ⟨some 4, some (.assign (.const (.bool false))), none⟩])
  (.seq (.reg [] [⟨some 5, some (.fieldAddr T_bv_number (.tmp 2) 1), none⟩,
    ⟨some 6, some (.load T_uint64 (.tmp 5)), none⟩,
    ⟨some 7, some (.fieldAddr T_bv_number (.tmp 3) 1), none⟩,
    ⟨some 8, some (.load T_uint64 (.tmp 7)), none⟩,
    ⟨some 9, some (.binOp .lss T_uint64 (.tmp 6) (.tmp 8) T_uint64), none⟩,
    ⟨some 10, some (.move (.tmp 9)), none⟩,
    ⟨some 11, some (.fieldAddr T_bv_number (.tmp 2) 1), some (some 10, false)⟩,
    ⟨some 12, some (.load T_uint64 (.tmp 11)), some (some 10, false)⟩,
    ⟨some 13, some (.fieldAddr T_bv_number (.tmp 3) 1), some (some 10, false)⟩,
    ⟨some 14, some (.load T_uint64 (.tmp 13)), some (some 10, false)⟩,
    ⟨some 15, some (.binOp .eql T_uint64 (.tmp 12) (.tmp 14) T_uint64), some (some 10, false)⟩,
    ⟨some 16, some (.move (.tmp 15)), some (some 10, false)⟩,
    ⟨some 17, some (.fieldAddr T_bv_number (.tmp 2) 0), some (some 16, true)⟩,
    ⟨some 18, some (.load T_uint64 (.tmp 17)), some (some 16, true)⟩,
    ⟨some 19, some (.fieldAddr T_bv_number (.tmp 3) 0), some (some 16, true)⟩,
    ⟨some 20, some (.load T_uint64 (.tmp 19)), some (some 16, true)⟩,
    ⟨some 21, some (.binOp .lss T_uint64 (.tmp 18) (.tmp 20) T_uint64), some (some 16, true)⟩,
    ⟨some 22, some (.pick (.tmp 16) (.tmp 21) (.const (.bool false))), some (some 10, false)⟩,
    ⟨some 23, some (.pick (.tmp 10) (.const (.bool true)) (.tmp 22)), none⟩,
    ⟨some 4, some (.assign (.tmp 23)), none⟩])
  .ret))
theorem e_plait_bv_number_less {a0 a1 : AV} {H : AHeap} : R f_plait_bv_number_less [a0, a1] H = fnK Go.Proofs.Try.prog [] H [(.tmp 4)] (evalL Go.Proofs.Try.prog KT R c_plait_bv_number_less (Env.args [a0, a1] 0) H) :=
  runs_body (D := DT) (f := f_plait_bv_number_less) Go.Proofs.Try.func73 (by kernel_rfl) (by kernel_rfl) (by kernel_rfl) (by kernel_rfl) (by kernel_rfl) (Nat.le_of_ble_eq_true rfl)

def c_plaitref1_each : LCode := (.seq (.reg [] [⟨some 6, some (.assign (.const (.bool false))), none⟩])
  (.seq (.seq (.reg [] [⟨some 7, some (.move (.tmp 0)), none⟩])
  (.block 0 (.seq (.reg [] [⟨some 9, some (.binOp .eql T_int (.tmp 7) (.const (.int .i64 12)) T_int), none⟩,
    ⟨some 8, some (.assign (.tmp 9)), none⟩])
  (.cond (.tmp 8) (.seq (.reg [] [⟨some 10, some (.move (.tmp 1)), none⟩,
    ⟨some 11, some (.move (.tmp 10)), none⟩,
    ⟨some 12, some (.move (.tmp 2)), some (some 11, true)⟩,
    ⟨some 13, some (.pick (.tmp 11) (.tmp 12) (.const (.bool false))), none⟩,
    ⟨some 6, some (.assign (.tmp 13)), none⟩])
  .ret)
  (.seq (.reg [] [⟨some 15, some (.binOp .eql T_int (.tmp 7) (.const (.int .i64 13)) T_int), none⟩,
    ⟨some 14, some (.assign (.tmp 15)), none⟩])
  (.cond (.tmp 14) (.seq (.reg [] [⟨some 16, some (.move (.tmp 1)), none⟩,
    ⟨some 17, some (.move (.tmp 16)), none⟩,
    ⟨some 18, some (.move (.tmp 2)), some (some 17, false)⟩,
    ⟨some 19, some (.pick (.tmp 17) (.const (.bool true)) (.tmp 18)), none⟩,
    ⟨some 6, some (.assign (.tmp 19)), none⟩])
  .ret)
  (.seq (.reg [] [⟨some 21, some (.binOp .eql T_int (.tmp 7) (.const (.int .i64 14)) T_int), none⟩,
    ⟨some 20, some (.assign (.tmp 21)), none⟩])
  (.cond (.tmp 20) (.seq (.reg [] [⟨some 22, some (.move (.tmp 1)), none⟩,
    ⟨some 23, some (.move (.tmp 2)), none⟩,
    ⟨some 24, some (.binOp .neq T_bool (.tmp 22) (.tmp 23) T_bool), none⟩,
    ⟨some 6, some (.assign (.tmp 24)), none⟩])
  .ret)
  (.seq (.reg [] [⟨some 26, some (.binOp .eql T_int (.tmp 7) (.const (.int .i64 15)) T_int), none⟩,
    ⟨some 25, some (.assign (.tmp 26)), none⟩])
  (.cond (.tmp 25) (.seq (.reg [] [⟨some 27, some (.move (.tmp 1)), none⟩,
    ⟨some 28, some (.move (.tmp 27)), none⟩,
    ⟨some 29, some (.move (.tmp 2)), some (some 28, true)⟩,
    ⟨some 30, some (.pick (.tmp 28) (.tmp 29) (.const (.bool false))), none⟩,
    ⟨some 31, some (.unOp .not T_bool (.tmp 30)), none⟩,
    ⟨some 6, some (.assign (.tmp 31)), none⟩])
  .ret)
  (.seq (.reg [] [⟨some 33, some (.binOp .eql T_int (.tmp 7) (.const (.int .i64 16)) T_int), none⟩,
    ⟨some 32, some (.assign (.tmp 33)), none⟩])
  (.cond (.tmp 32) (.seq (.reg [] [⟨some 34, some (.move (.tmp 1)), none⟩,
    ⟨some 35, some (.move (.tmp 34)), none⟩,
    ⟨some 36, some (.move (.tmp 2)), some (some 35, false)⟩,
    ⟨some 37, some (.pick (.tmp 35) (.const (.bool true)) (.tmp 36)), none⟩,
    ⟨some 38, some (.unOp .not T_bool (.tmp 37)), none⟩,
    ⟨some 6, some (.assign (.tmp 38)), none⟩])
  .ret)
  .skip))))))))))))
  (.seq (.reg [] [⟨some 39, some (.move (.tmp 1)), none⟩,
    ⟨some 40, some (.move (.tmp 2)), none⟩,
    ⟨some 41, some (.binOp .eql T_bool (.tmp 39) (.tmp 40) T_bool), none⟩,
    ⟨some 6, some (.assign (.tmp 41)), none⟩])
  .ret)))
theorem e_plaitref1_each {a0 a1 a2 : AV} {H : AHeap} : R f_plaitref1_each [a0, a1, a2] H = fnK Go.Proofs.Try.prog [] H [(.tmp 6)] (evalL Go.Proofs.Try.prog KT R c_plaitref1_each (Env.args [a0, a1, a2] 0) H) :=
  runs_body (D := DT) (f := f_plaitref1_each) Go.Proofs.Try.func74 (by kernel_rfl) (by kernel_rfl) (by kernel_rfl) (by kernel_rfl) (by kernel_rfl) (Nat.le_of_ble_eq_true rfl)

def l_plaitref1_add_0 : LCode := (.seq (.seq (.reg [] [⟨some 12, some (.move (.tmp 8)), none⟩,
    ⟨some 13, some (.move (.tmp 0)), none⟩,
    ⟨some 14, some (.call ⟨(.builtin .len), #[(.tmp 13)], #[T_s_bool]⟩), none⟩,
    ⟨some 15, some (.binOp .lss T_int (.tmp 12) (.tmp 14) T_int), none⟩])
  (.cond (.tmp 15) .skip
  (.exit 0)))
  (.seq (.block 1 (.seq (.reg [] [⟨some 18, some (.move (.tmp 7)), none⟩,
    ⟨some 19, some (.move (.tmp 8)), none⟩,
    ⟨some 20, some (.move (.tmp 0)), none⟩,
    ⟨some 21, some (.move (.tmp 8)), none⟩,
    ⟨some 22, some (.indexAddr T_s_bool (.tmp 20) (.tmp 21)), none⟩,
    ⟨some 23, some (.load T_bool (.tmp 22)), none⟩,
    ⟨some 24, some (.move (.tmp 1)), none⟩,
    ⟨some 25, some (.move (.tmp 8)), none⟩,
    ⟨some 26, some (.indexAddr T_s_bool (.tmp 24) (.tmp 25)), none⟩,
    ⟨some 27, some (.load T_bool (.tmp 26)), none⟩,
    ⟨some 28, some (.binOp .neq T_bool (.tmp 23) (.tmp 27) T_bool), none⟩,
    ⟨some 29, some (.move (.tmp 2)), none⟩,
    ⟨some 30, some (.binOp .neq T_bool (.tmp 28) (.tmp 29) T_bool), none⟩,
    ⟨some 31, some (.indexAddr T_s_bool (.tmp 18) (.tmp 19)), none⟩,
    ⟨none, some (.store T_bool (.tmp 31) (.tmp 30)), none⟩])
  (.reg [] [⟨some 32, some (.move (.tmp 0)), none⟩,
    ⟨some 33, some (.move (.tmp 8)), none⟩,
    ⟨some 34, some (.indexAddr T_s_bool (.tmp 32) (.tmp 33)), none⟩,
    ⟨some 35, some (.load T_bool (.tmp 34)), none⟩,
    ⟨some 36, some (.move (.tmp 35)), none⟩,
    ⟨some 37, some (.move (.tmp 1)), some (some 36, true)⟩,
    ⟨some 38, some (.move (.tmp 8)), some (some 36, true)⟩,
    ⟨some 39, some (.indexAddr T_s_bool (.tmp 37) (.tmp 38)), some (some 36, true)⟩,
    ⟨some 40, some (.load T_bool (.tmp 39)), some (some 36, true)⟩,
    ⟨some 41, some (.pick (.tmp 36) (.tmp 40) (.const (.bool false))), none⟩,
    ⟨some 42, some (.move (.tmp 41)), none⟩,
    ⟨some 43, some (.move (.tmp 2)), some (some 42, false)⟩,
    ⟨some 44, some (.move (.tmp 43)), some (some 42, false)⟩,
    ⟨some 45, some (.move (.tmp 0)), some (some 44, true)⟩,
    ⟨some 46, some (.move (.tmp 8)), some (some 44, true)⟩,
    ⟨some 47, some (.indexAddr T_s_bool (.tmp 45) (.tmp 46)), some (some 44, true)⟩,
    ⟨some 48, some (.load T_bool (.tmp 47)), some (some 44, true)⟩,
    ⟨some 49, some (.move (.tmp 48)), some (some 44, true)⟩,
    ⟨some 50, some (.move (.tmp 1)), some (some 49, false)⟩,
    ⟨some 51, some (.move (.tmp 8)), some (some 49, false)⟩,
    ⟨some 52, some (.indexAddr T_s_bool (.tmp 50) (.tmp 51)), some (some 49, false)⟩,
    ⟨some 53, some (.load T_bool (.tmp 52)), some (some 49, false)⟩,
    ⟨some 54, some (.pick (.tmp 49) (.const (.bool true)) (.tmp 53)), some (some 44, true)⟩,
    ⟨some 55, some (.pick (.tmp 44) (.tmp 54) (.const (.bool false))), some (some 42, false)⟩,
    ⟨some 56, some (.pick (.tmp 42) (.const (.bool true)) (.tmp 55)), none⟩,
    ⟨some 2, some (.assign (.tmp 56)), none⟩])))
  (.reg [] [⟨some 16, some (.move (.tmp 8)), none⟩,
    ⟨some 17, some (.binOp .add T_int (.tmp 16) (.const (.int .i64 1)) T_int), none⟩,
    ⟨some 8, some (.assign (.tmp 17)), none⟩])))
@[simp] theorem d_l_plaitref1_add_0 : defs l_plaitref1_add_0 = [12, 13, 14, 15, 18, 19, 20, 21, 22, 23, 24, 25, 26, 27, 28, 29, 30, 31, 32, 33, 34, 35, 36, 37, 38, 39, 40, 41, 42, 43, 44, 45, 46, 47, 48, 49, 50, 51, 52, 53, 54, 55, 56, 2, 16, 17, 8] := by rfl
def c_plaitref1_add : LCode := (.seq (.reg [] [⟨some 6, some (.assign (.const (.slice none 0 0))), none⟩])
  (.seq (.reg [] [⟨some 9, some (.move (.tmp 0)), none⟩,
    ⟨some 10, some (.call ⟨(.builtin .len), #[(.tmp 9)], #[T_s_bool]⟩), none⟩,
    ⟨some 11, some (.makeSlice T_s_bool (.tmp 10) (.tmp 10)), none⟩,
    ⟨some 7, some (.assign (.tmp 11)), none⟩])
  (.seq (.seq (.reg [] [⟨some 8, some (.assign (.const (.int .i64 0))), none⟩])
  (.block 0 (.loop l_plaitref1_add_0)))
  (.seq (.reg [] [⟨some 57, some (.move (.tmp 7)), none⟩,
    ⟨some 6, some (.assign (.tmp 57)), none⟩])
  .ret))))
theorem e_plaitref1_add {a0 a1 a2 : AV} {H : AHeap} : R f_plaitref1_add [a0, a1, a2] H = fnK Go.Proofs.Try.prog [0] H [(.tmp 6)] (evalL Go.Proofs.Try.prog KT R c_plaitref1_add (Env.args [a0, a1, a2] 0) H) :=
  runs_body (D := DT) (f := f_plaitref1_add) Go.Proofs.Try.func75 (by kernel_rfl) (by kernel_rfl) (by kernel_rfl) (by kernel_rfl) (by kernel_rfl) (Nat.le_of_ble_eq_true rfl)

def c_plaitref1_sub : LCode := (.seq (.reg [] [⟨some 4, some (.assign (.const (.slice none 0 0))), none⟩])
  (.seq (.reg [] [⟨some 5, some (.move (.tmp 0)), none⟩,
    ⟨some 6, some (.move (.tmp 1)), none⟩,
    ⟨some 7, some (.call ⟨(.value (.func f_plaitref1_not)), #[(.tmp 6)], #[T_s_bool]⟩), none⟩,
    ⟨some 8, some (.call ⟨(.value (.func f_plaitref1_add)), #[(.tmp 5), (.tmp 7), (.const (.bool true))], #[T_s_bool, T_s_bool, T_bool]⟩), none⟩,
    ⟨some 4, some (.assign (.tmp 8)), none⟩])
  .ret))
theorem e_plaitref1_sub {a0 a1 : AV} {H : AHeap} : R f_plaitref1_sub [a0, a1] H = fnK Go.Proofs.Try.prog [0] H [(.tmp 4)] (evalL Go.Proofs.Try.prog KT R c_plaitref1_sub (Env.args [a0, a1] 0) H) :=
  runs_body (D := DT) (f := f_plaitref1_sub) Go.Proofs.Try.func76 (by kernel_rfl) (by kernel_rfl) (by kernel_rfl) (by kernel_rfl) (by kernel_rfl) (Nat.le_of_ble_eq_true rfl)

def l_plaitref1_mul_0 : LCode := (.seq (.seq (.reg [] [⟨some 10, some (.move (.tmp 6)), none⟩,
    ⟨some 11, some (.move (.tmp 1)), none⟩,
    ⟨some 12, some (.call ⟨(.builtin .len), #[(.tmp 11)], #[T_s_bool]⟩), none⟩,
    ⟨some 13, some (.binOp .lss T_int (.tmp 10) (.tmp 12) T_int), none⟩])
  (.cond (.tmp 13) .skip
  (.exit 0)))
  (.seq (.block 1 (.seq (.reg [] [⟨some 16, some (.move (.tmp 1)), none⟩,
    ⟨some 17, some (.move (.tmp 6)), none⟩,
    ⟨some 18, some (.indexAddr T_s_bool (.tmp 16) (.tmp 17)), none⟩,
    ⟨some 19, some (.load T_bool (.tmp 18)), none⟩])
  (.cond (.tmp 19) (.reg [] [⟨some 20, some (.move (.tmp 5)), none⟩,
    ⟨some 21, some (.move (.tmp 0)), none⟩,
    ⟨some 22, some (.move (.tmp 6)), none⟩,
    ⟨some 23, some (.call ⟨(.value (.func f_plaitref1_up)), #[(.tmp 21), (.tmp 22)], #[T_s_bool, T_int]⟩), none⟩,
    ⟨some 24, some (.call ⟨(.value (.func f_plaitref1_add)), #[(.tmp 20), (.tmp 23), (.const (.bool false))], #[T_s_bool, T_s_bool, T_bool]⟩), none⟩,
    ⟨some 5, some (.assign (.tmp 24)), none⟩])
  .skip)))
  (.reg [] [⟨some 14, some (.move (.tmp 6)), none⟩,
    ⟨some 15, some (.binOp .add T_int (.tmp 14) (.const (.int .i64 1)) T_int), none⟩,
    ⟨some 6, some (.assign (.tmp 15)), none⟩])))
@[simp] theorem d_l_plaitref1_mul_0 : defs l_plaitref1_mul_0 = [10, 11, 12, 13, 16, 17, 18, 19, 20, 21, 22, 23, 24, 5, 14, 15, 6] := by rfl
def c_plaitref1_mul : LCode := (.seq (.reg [] [⟨some 4, some (.assign (.const (.slice none 0 0))), none⟩])
  (.seq (.reg [] [⟨some 7, some (.move (.tmp 0)), none⟩,
    ⟨some 8, some (.call ⟨(.builtin .len), #[(.tmp 7)], #[T_s_bool]⟩), none⟩,
    ⟨some 9, some (.makeSlice T_s_bool (.tmp 8) (.tmp 8)), none⟩,
    ⟨some 5, some (.assign (.tmp 9)), none⟩])
  (.seq (.seq (.reg [] [⟨some 6, some (.assign (.const (.int .i64 0))), none⟩])
  (.block 0 (.loop l_plaitref1_mul_0)))
  (.seq (.reg [] [⟨some 25, some (.move (.tmp 5)), none⟩,
    ⟨some 4, some (.assign (.tmp 25)), none⟩])
  .ret))))
theorem e_plaitref1_mul {a0 a1 : AV} {H : AHeap} : R f_plaitref1_mul [a0, a1] H = fnK Go.Proofs.Try.prog [0] H [(.tmp 4)] (evalL Go.Proofs.Try.prog KT R c_plaitref1_mul (Env.args [a0, a1] 0) H) :=
  runs_body (D := DT) (f := f_plaitref1_mul) Go.Proofs.Try.func77 (by kernel_rfl) (by kernel_rfl) (by kernel_rfl) (by kernel_rfl) (by kernel_rfl) (Nat.le_of_ble_eq_true rfl)

def l_plaitref1_div_0 : LCode := (.seq (.seq (.reg [] [⟨some 25, some (.move (.tmp 8)), none⟩,
    ⟨some 26, some (.binOp .geq T_int (.tmp 25) (.const (.int .i64 0)) T_int), none⟩])
  (.cond (.tmp 26) .skip
  (.exit 0)))
  (.seq (.block 1 (.seq (.reg [] [⟨some 29, some (.move (.tmp 7)), none⟩,
    ⟨some 30, some (.move (.tmp 7)), none⟩,
    ⟨some 31, some (.call ⟨(.builtin .len), #[(.tmp 30)], #[T_s_bool]⟩), none⟩,
    ⟨some 32, some (.binOp .sub T_int (.tmp 31) (.const (.int .i64 1)) T_int), none⟩,
    ⟨some 33, some (.indexAddr T_s_bool (.tmp 29) (.tmp 32)), none⟩,
    ⟨some 34, some (.load T_bool (.tmp 33)), none⟩,
    ⟨some 9, some (.assign (.tmp 34)), none⟩])
  (.seq (.reg [] [⟨some 35, some (.move (.tmp 7)), none⟩,
    ⟨some 36, some (.call ⟨(.value (.func f_plaitref1_up)), #[(.tmp 35), (.const (.int .i64 1))], #[T_s_bool, T_int]⟩), none⟩,
    ⟨some 7, some (.assign (.tmp 36)), none⟩])
  (.seq (.reg [] [⟨some 37, some (.move (.tmp 7)), none⟩,
    ⟨some 38, some (.move (.tmp 0)), none⟩,
    ⟨some 39, some (.move (.tmp 8)), none⟩,
    ⟨some 40, some (.indexAddr T_s_bool (.tmp 38) (.tmp 39)), none⟩,
    ⟨some 41, some (.load T_bool (.tmp 40)), none⟩,
    ⟨some 42, some (.indexAddr T_s_bool (.tmp 37) (.const (.int .i64 0))), none⟩,
    ⟨none, some (.store T_bool (.tmp 42) (.tmp 41)), none⟩])
  (.seq (.reg [] [⟨some 43, some (.move (.tmp 9)), none⟩,
    ⟨some 44, some (.move (.tmp 43)), none⟩,
    ⟨some 45, some (.move (.tmp 7)), some (some 44, false)⟩,
    ⟨some 46, some (.move (.tmp 1)), some (some 44, false)⟩,
    ⟨some 47, some (.call ⟨(.value (.func f_plaitref1_below)), #[(.tmp 45), (.tmp 46)], #[T_s_bool, T_s_bool]⟩), some (some 44, false)⟩,
    ⟨some 48, some (.unOp .not T_bool (.tmp 47)), some (some 44, false)⟩,
    ⟨some 49, some (.pick (.tmp 44) (.const (.bool true)) (.tmp 48)), none⟩])
  (.cond (.tmp 49) (.seq (.reg [] [⟨some 50, some (.move (.tmp 7)), none⟩,
    ⟨some 51, some (.move (.tmp 1)), none⟩,
    ⟨some 52, some (.call ⟨(.value (.func f_plaitref1_sub)), #[(.tmp 50), (.tmp 51)], #[T_s_bool, T_s_bool]⟩), none⟩,
    ⟨some 7, some (.assign (.tmp 52)), none⟩])
  (.reg [] [⟨some 53, some (.move (.tmp 6)), none⟩,
    ⟨some 54, some (.move (.tmp 8)), none⟩,
    ⟨some 55, some (.indexAddr T_s_bool (.tmp 53) (.tmp 54)), none⟩,
    ⟨none, some (.store T_bool (.tmp 55) (.const (.bool true))), none⟩]))
  .skip))))))
  (.reg [] [⟨some 27, some (.move (.tmp 8)), none⟩,
    ⟨some 28, some (.binOp .sub T_int (.tmp 27) (.const (.int .i64 1)) T_int), none⟩,
    ⟨some 8, some (.assign (.tmp 28)), none⟩])))
@[simp] theorem d_l_plaitref1_div_0 : defs l_plaitref1_div_0 = [25, 26, 29, 30, 31, 32, 33, 34, 9, 35, 36, 7, 37, 38, 39, 40, 41, 42, 43, 44, 45, 46, 47, 48, 49, 50, 51, 52, 7, 53, 54, 55, 27, 28, 8] := by rfl
def c_plaitref1_div : LCode := (.seq (.reg [] [⟨some 4, some (.assign (.const (.slice none 0 0))), none⟩,
    ⟨some 5, some (.assign (.const (.slice none 0 0))), none⟩])
  (.seq (.reg [5] [⟨some 10, some (.move (.tmp 0)), none⟩,
    ⟨some 11, some (.call ⟨(.builtin .len), #[(.tmp 10)], #[T_s_bool]⟩), none⟩,
    ⟨some 12, some (.makeSlice T_s_bool (.tmp 11) (.tmp 11)), none⟩,
    ⟨some 13, some (.move (.tmp 0)), none⟩,
    ⟨some 14, some (.call ⟨(.builtin .len), #[(.tmp 13)], #[T_s_bool]⟩), none⟩,
    ⟨some 15, some (.makeSlice T_s_bool (.tmp 14) (.tmp 14)), none⟩,
    ⟨some 6, some (.assign (.tmp 12)), none⟩,
    ⟨some 7, some (.assign (.tmp 15)), none⟩])
  (.seq (.seq (.reg [] [⟨some 16, some (.move (.tmp 1)), none⟩,
    ⟨some 17, some (.call ⟨(.value (.func f_plaitref1_zero)), #[(.tmp 16)], #[T_s_bool]⟩), none⟩])
  (.cond (.tmp 17) (.seq (.reg [] [⟨some 18, some (.move (.tmp 6)), none⟩,
    ⟨some 19, some (.call ⟨(.value (.func f_plaitref1_not)), #[(.tmp 18)], #[T_s_bool]⟩), none⟩,
    ⟨some 20, some (.move (.tmp 0)), none⟩,
    ⟨some 21, some (.call ⟨(.builtin .append), #[(.const (.slice none 0 0)), (.tmp 20)], #[T_s_bool, T_s_bool]⟩), none⟩,
    ⟨some 4, some (.assign (.tmp 19)), none⟩,
    ⟨some 5, some (.assign (.tmp 21)), none⟩])
  .ret)
  .skip))
  (.seq (.seq (.reg [] [⟨some 22, some (.move (.tmp 0)), none⟩,
    ⟨some 23, some (.call ⟨(.builtin .len), #[(.tmp 22)], #[T_s_bool]⟩), none⟩,
    ⟨some 24, some (.binOp .sub T_int (.tmp 23) (.const (.int .i64 1)) T_int), none⟩,
    ⟨some 8, some (.assign (.tmp 24)), none⟩])
  (.block 0 (.loop l_plaitref1_div_0)))
  (.seq (.reg [] [⟨some 56, some (.move (.tmp 6)), none⟩,
    ⟨some 57, some (.move (.tmp 7)), none⟩,
    ⟨some 4, some (.assign (.tmp 56)), none⟩,
    ⟨some 5, some (.assign (.tmp 57)), none⟩])
  .ret)))))
theorem e_plaitref1_div {a0 a1 : AV} {H : AHeap} : R f_plaitref1_div [a0, a1] H = fnK Go.Proofs.Try.prog [0, 0] H [(.tmp 4), (.tmp 5)] (evalL Go.Proofs.Try.prog KT R c_plaitref1_div (Env.args [a0, a1] 0) H) :=
  runs_body (D := DT) (f := f_plaitref1_div) Go.Proofs.Try.func78 (by kernel_rfl) (by kernel_rfl) (by kernel_rfl) (by kernel_rfl) (by kernel_rfl) (Nat.le_of_ble_eq_true rfl)

def c_plaitref1_size : LCode := (.seq (.reg [] [⟨some 2, some (.assign (.const (.slice none 0 0))), none⟩])
  (.seq (.seq (.reg [] [⟨some 3, some (.move (.tmp 0)), none⟩,
    ⟨some 4, some (.call ⟨(.value (.func f_plaitref1_minus)), #[(.tmp 3)], #[T_s_bool]⟩), none⟩])
  (.cond (.tmp 4) (.seq (.reg [] [⟨some 5, some (.move (.tmp 0)), none⟩,
    ⟨some 6, some (.call ⟨(.value (.func f_plaitref1_neg)), #[(.tmp 5)], #[T_s_bool]⟩), none⟩,
    ⟨some 2, some (.assign (.tmp 6)), none⟩])
  .ret)
  .skip))
  (.seq (.reg [] [⟨some 7, some (.move (.tmp 0)), none⟩,
    ⟨some 2, some (.assign (.tmp 7)), none⟩])
  .ret)))
theorem e_plaitref1_size {a0 : AV} {H : AHeap} : R f_plaitref1_size [a0] H = fnK Go.Proofs.Try.prog [0] H [(.tmp 2)] (evalL Go.Proofs.Try.prog KT R c_plaitref1_size (Env.args [a0] 0) H) :=
  runs_body (D := DT) (f := f_plaitref1_size) Go.Proofs.Try.func79 (by kernel_rfl) (by kernel_rfl) (by kernel_rfl) (by kernel_rfl) (by kernel_rfl) (Nat.le_of_ble_eq_true rfl)

def c_plaitref1_smod : LCode := (.seq (.reg [] [⟨some 4, some (.assign (.const (.slice none 0 0))), none⟩])
  (.seq (.reg [] [⟨some 8, some (.move (.tmp 0)), none⟩,
    ⟨some 9, some (.call ⟨(.value (.func f_plaitref1_size)), #[(.tmp 8)], #[T_s_bool]⟩), none⟩,
    ⟨some 10, some (.move (.tmp 1)), none⟩,
    ⟨some 11, some (.call ⟨(.value (.func f_plaitref1_size)), #[(.tmp 10)], #[T_s_bool]⟩), none⟩,
    ⟨some 12, some (.call ⟨(.value (.func f_plaitref1_div)), #[(.tmp 9), (.tmp 11)], #[T_s_bool, T_s_bool]⟩), none⟩,
    ⟨some 7, some (.move (.tmp 12)), none⟩,
    ⟨some 13, some (.extract (.tmp 7) 0), none⟩,
    ⟨some 14, some (.extract (.tmp 7) 1), none⟩,
    ⟨some 5, some (.assign (.tmp 13)), none⟩,
    ⟨some 6, some (.assign (.tmp 14)), none⟩])
  (.seq (.seq (.reg [] [⟨some 15, some (.move (.tmp 6)), none⟩,
    ⟨some 16, some (.call ⟨(.value (.func f_plaitref1_zero)), #[(.tmp 15)], #[T_s_bool]⟩), none⟩])
  (.cond (.tmp 16) (.seq (.reg [] [⟨some 17, some (.move (.tmp 6)), none⟩,
    ⟨some 4, some (.assign (.tmp 17)), none⟩])
  .ret)
  .skip))
  (.seq (.seq (.reg [] [⟨some 18, some (.move (.tmp 0)), none⟩,
    ⟨some 19, some (.call ⟨(.value (.func f_plaitref1_minus)), #[(.tmp 18)], #[T_s_bool]⟩), none⟩,
    ⟨some 20, some (.unOp .not T_bool (.tmp 19)), none⟩,
    ⟨some 21, some (.move (.tmp 20)), none⟩,
    ⟨some 22, some (.move (.tmp 1)), some (some 21, true)⟩,
    ⟨some 23, some (.call ⟨(.value (.func f_plaitref1_minus)), #[(.tmp 22)], #[T_s_bool]⟩), some (some 21, true)⟩,
    ⟨some 24, some (.unOp .not T_bool (.tmp 23)), some (some 21, true)⟩,
    ⟨some 25, some (.pick (.tmp 21) (.tmp 24) (.const (.bool false))), none⟩])
  (.cond (.tmp 25) (.seq (.reg [] [⟨some 26, some (.move (.tmp 6)), none⟩,
    ⟨some 4, some (.assign (.tmp 26)), none⟩])
  .ret)
  .skip))
  (.seq (.seq (.reg [] [⟨some 27, some (.move (.tmp 0)), none⟩,
    ⟨some 28, some (.call ⟨(.value (.func f_plaitref1_minus)), #[(.tmp 27)], #[T_s_bool]⟩), none⟩,
    ⟨some 29, some (.move (.tmp 28)), none⟩,
    ⟨some 30, some (.move (.tmp 1)), some (some 29, true)⟩,
    ⟨some 31, some (.call ⟨(.value (.func f_plaitref1_minus)), #[(.tmp 30)], #[T_s_bool]⟩), some (some 29, true)⟩,
    ⟨some 32, some (.unOp .not T_bool (.tmp 31)), some (some 29, true)⟩,
    ⟨some 33, some (.pick (.tmp 29) (.tmp 32) (.const (.bool false))), none⟩])
  (.cond (.tmp 33) (.seq (.reg [] [⟨some 34, some (.move (.tmp 1)), none⟩,
    ⟨some 35, some (.move (.tmp 6)), none⟩,
    ⟨some 36, some (.call ⟨(.value (.func f_plaitref1_sub)), #[(.tmp 34), (.tmp 35)], #[T_s_bool, T_s_bool]⟩), none⟩,
    ⟨some 4, some (.assign (.tmp 36)), none⟩])
  .ret)
  .skip))
  (.seq (.seq (.reg [] [⟨some 37, some (.move (.tmp 0)), none⟩,
    ⟨some 38, some (.call ⟨(.value (.func f_plaitref1_minus)), #[(.tmp 37)], #[T_s_bool]⟩), none⟩,
    ⟨some 39, some (.unOp .not T_bool (.tmp 38)), none⟩])
  (.cond (.tmp 39) (.seq (.reg [] [⟨some 40, some (.move (.tmp 6)), none⟩,
    ⟨some 41, some (.move (.tmp 1)), none⟩,
    ⟨some 42, some (.call ⟨(.value (.func f_plaitref1_add)), #[(.tmp 40), (.tmp 41), (.const (.bool false))], #[T_s_bool, T_s_bool, T_bool]⟩), none⟩,
    ⟨some 4, some (.assign (.tmp 42)), none⟩])
  .ret)
  .skip))
  (.seq (.reg [] [⟨some 43, some (.move (.tmp 6)), none⟩,
    ⟨some 44, some (.call ⟨(.value (.func f_plaitref1_neg)), #[(.tmp 43)], #[T_s_bool]⟩), none⟩,
    ⟨some 4, some (.assign (.tmp 44)), none⟩])
  .ret)))))))
theorem e_plaitref1_smod {a0 a1 : AV} {H : AHeap} : R f_plaitref1_smod [a0, a1] H = fnK Go.Proofs.Try.prog [0] H [(.tmp 4)] (evalL Go.Proofs.Try.prog KT R c_plaitref1_smod (Env.args [a0, a1] 0) H) :=
  runs_body (D := DT) (f := f_plaitref1_smod) Go.Proofs.Try.func80 (by kernel_rfl) (by kernel_rfl) (by kernel_rfl) (by kernel_rfl) (by kernel_rfl) (Nat.le_of_ble_eq_true rfl)

def l_plaitref1_up_0 : LCode := (.seq (.seq (.reg [] [⟨some 11, some (.move (.tmp 6)), none⟩,
    ⟨some 12, some (.move (.tmp 0)), none⟩,
    ⟨some 13, some (.call ⟨(.builtin .len), #[(.tmp 12)], #[T_s_bool]⟩), none⟩,
    ⟨some 14, some (.binOp .lss T_int (.tmp 11) (.tmp 13) T_int), none⟩])
  (.cond (.tmp 14) .skip
  (.exit 0)))
  (.seq (.block 1 (.reg [] [⟨some 17, some (.move (.tmp 5)), none⟩,
    ⟨some 18, some (.move (.tmp 6)), none⟩,
    ⟨some 19, some (.move (.tmp 0)), none⟩,
    ⟨some 20, some (.move (.tmp 6)), none⟩,
    ⟨some 21, some (.move (.tmp 1)), none⟩,
    ⟨some 22, some (.binOp .sub T_int (.tmp 20) (.tmp 21) T_int), none⟩,
    ⟨some 23, some (.indexAddr T_s_bool (.tmp 19) (.tmp 22)), none⟩,
    ⟨some 24, some (.load T_bool (.tmp 23)), none⟩,
    ⟨some 25, some (.indexAddr T_s_bool (.tmp 17) (.tmp 18)), none⟩,
    ⟨none, some (.store T_bool (.tmp 25) (.tmp 24)), none⟩]))
  (.reg [] [⟨some 15, some (.move (.tmp 6)), none⟩,
    ⟨some 16, some (.binOp .add T_int (.tmp 15) (.const (.int .i64 1)) T_int), none⟩,
    ⟨some 6, some (.assign (.tmp 16)), none⟩])))
@[simp] theorem d_l_plaitref1_up_0 : defs l_plaitref1_up_0 = [11, 12, 13, 14, 17, 18, 19, 20, 21, 22, 23, 24, 25, 15, 16, 6] := by rfl
def c_plaitref1_up : LCode := (.seq (.reg [] [⟨some 4, some (.assign (.const (.slice none 0 0))), none⟩])
  (.seq (.reg [] [⟨some 7, some (.move (.tmp 0)), none⟩,
    ⟨some 8, some (.call ⟨(.builtin .len), #[(.tmp 7)], #[T_s_bool]⟩), none⟩,
    ⟨some 9, some (.makeSlice T_s_bool (.tmp 8) (.tmp 8)), none⟩,
    ⟨some 5, some (.assign (.tmp 9)), none⟩])
  (.seq (.seq (.reg [] [⟨some 10, some (.move (.tmp 1)), none⟩,
    ⟨some 6, some (.assign (.tmp 10)), none⟩])
  (.block 0 (.loop l_plaitref1_up_0)))
  (.seq (.reg [] [⟨some 26, some (.move (.tmp 5)), none⟩,
    ⟨some 4, some (.assign (.tmp 26)), none⟩])
  .ret))))
theorem e_plaitref1_up {a0 a1 : AV} {H : AHeap} : R f_plaitref1_up [a0, a1] H = fnK Go.Proofs.Try.prog [] H [(.tmp 4)] (evalL Go.Proofs.Try.prog KT R c_plaitref1_up (Env.args [a0, a1] 0) H) :=
  runs_body (D := DT) (f := f_plaitref1_up) Go.Proofs.Try.func81 (by kernel_rfl) (by kernel_rfl) (by kernel_rfl) (by kernel_rfl) (by kernel_rfl) (Nat.le_of_ble_eq_true rfl)

def l_plaitref1_amount_0 : LCode := (.seq (.seq (.reg [] [⟨some 8, some (.move (.tmp 4)), none⟩,
    ⟨some 9, some (.binOp .geq T_int (.tmp 8) (.const (.int .i64 0)) T_int), none⟩])
  (.cond (.tmp 9) .skip
  (.exit 0)))
  (.seq (.block 1 (.seq (.reg [] [⟨some 12, some (.move (.tmp 3)), none⟩,
    ⟨some 13, some (.binOp .mul T_int (.const (.int .i64 2)) (.tmp 12) T_int), none⟩,
    ⟨some 3, some (.assign (.tmp 13)), none⟩])
  (.seq (.seq (.reg [] [⟨some 14, some (.move (.tmp 0)), none⟩,
    ⟨some 15, some (.move (.tmp 4)), none⟩,
    ⟨some 16, some (.indexAddr T_s_bool (.tmp 14) (.tmp 15)), none⟩,
    ⟨some 17, some (.load T_bool (.tmp 16)), none⟩])
  (.cond (.tmp 17) (.reg [] [⟨some 18, some (.move (.tmp 3)), none⟩,
    ⟨some 19, some (.binOp .add T_int (.tmp 18) (.const (.int .i64 1)) T_int), none⟩,
    ⟨some 3, some (.assign (.tmp 19)), none⟩])
  .skip))
  (.seq (.reg [] [⟨some 20, some (.move (.tmp 3)), none⟩,
    ⟨some 21, some (.move (.tmp 0)), none⟩,
    ⟨some 22, some (.call ⟨(.builtin .len), #[(.tmp 21)], #[T_s_bool]⟩), none⟩,
    ⟨some 23, some (.binOp .gtr T_int (.tmp 20) (.tmp 22) T_int), none⟩])
  (.cond (.tmp 23) (.reg [] [⟨some 24, some (.move (.tmp 0)), none⟩,
    ⟨some 25, some (.call ⟨(.builtin .len), #[(.tmp 24)], #[T_s_bool]⟩), none⟩,
    ⟨some 3, some (.assign (.tmp 25)), none⟩])
  .skip)))))
  (.reg [] [⟨some 10, some (.move (.tmp 4)), none⟩,
    ⟨some 11, some (.binOp .sub T_int (.tmp 10) (.const (.int .i64 1)) T_int), none⟩,
    ⟨some 4, some (.assign (.tmp 11)), none⟩])))
@[simp] theorem d_l_plaitref1_amount_0 : defs l_plaitref1_amount_0 = [8, 9, 12, 13, 3, 14, 15, 16, 17, 18, 19, 3, 20, 21, 22, 23, 24, 25, 3, 10, 11, 4] := by rfl
def c_plaitref1_amount : LCode := (.seq (.reg [] [⟨some 2, some (.assign (.const (.int .i64 0))), none⟩])
  (.seq (.reg [] [⟨some 3, some (.assign (.const (.int .i64 0))), none⟩])
  (.seq (.seq (.reg [] [⟨some 5, some (.move (.tmp 0)), none⟩,
    ⟨some 6, some (.call ⟨(.builtin .len), #[(.tmp 5)], #[T_s_bool]⟩), none⟩,
    ⟨some 7, some (.binOp .sub T_int (.tmp 6) (.const (.int .i64 1)) T_int), none⟩,
    ⟨some 4, some (.assign (.tmp 7)), none⟩])
  (.block 0 (.loop l_plaitref1_amount_0)))
  (.seq (.reg [] [⟨some 26, some (.move (.tmp 3)), none⟩,
    ⟨some 2, some (.assign (.tmp 26)), none⟩])
  .ret))))
theorem e_plaitref1_amount {a0 : AV} {H : AHeap} : R f_plaitref1_amount [a0] H = fnK Go.Proofs.Try.prog [] H [(.tmp 2)] (evalL Go.Proofs.Try.prog KT R c_plaitref1_amount (Env.args [a0] 0) H) :=
  runs_body (D := DT) (f := f_plaitref1_amount) Go.Proofs.Try.func82 (by kernel_rfl) (by kernel_rfl) (by kernel_rfl) (by kernel_rfl) (by kernel_rfl) (Nat.le_of_ble_eq_true rfl)

def l_plaitref1_down_0 : LCode := (.seq (.seq (.reg [] [⟨some 12, some (.move (.tmp 8)), none⟩,
    ⟨some 13, some (.move (.tmp 0)), none⟩,
    ⟨some 14, some (.call ⟨(.builtin .len), #[(.tmp 13)], #[T_s_bool]⟩), none⟩,
    ⟨some 15, some (.binOp .lss T_int (.tmp 12) (.tmp 14) T_int), none⟩])
  (.cond (.tmp 15) .skip
  (.exit 0)))
  (.seq (.block 1 (.seq (.reg [] [⟨some 18, some (.move (.tmp 7)), none⟩,
    ⟨some 19, some (.move (.tmp 8)), none⟩,
    ⟨some 20, some (.move (.tmp 2)), none⟩,
    ⟨some 21, some (.indexAddr T_s_bool (.tmp 18) (.tmp 19)), none⟩,
    ⟨none, some (.store T_bool (.tmp 21) (.tmp 20)), none⟩])
  (.seq (.reg [] [⟨some 22, some (.move (.tmp 8)), none⟩,
    ⟨some 23, some (.move (.tmp 1)), none⟩,
    ⟨some 24, some (.binOp .add T_int (.tmp 22) (.tmp 23) T_int), none⟩,
    ⟨some 25, some (.move (.tmp 0)), none⟩,
    ⟨some 26, some (.call ⟨(.builtin .len), #[(.tmp 25)], #[T_s_bool]⟩), none⟩,
    ⟨some 27, some (.binOp .lss T_int (.tmp 24) (.tmp 26) T_int), none⟩])
  (.cond (.tmp 27) (.reg [] [⟨some 28, some (.move (.tmp 7)), none⟩,
    ⟨some 29, some (.move (.tmp 8)), none⟩,
    ⟨some 30, some (.move (.tmp 0)), none⟩,
    ⟨some 31, some (.move (.tmp 8)), none⟩,
    ⟨some 32, some (.move (.tmp 1)), none⟩,
    ⟨some 33, some (.binOp .add T_int (.tmp 31) (.tmp 32) T_int), none⟩,
    ⟨some 34, some (.indexAddr T_s_bool (.tmp 30) (.tmp 33)), none⟩,
    ⟨some 35, some (.load T_bool (.tmp 34)), none⟩,
    ⟨some 36, some (.indexAddr T_s_bool (.tmp 28) (.tmp 29)), none⟩,
    ⟨none, some (.store T_bool (.tmp 36) (.tmp 35)), none⟩])
  .skip))))
  (.reg [] [⟨some 16, some (.move (.tmp 8)), none⟩,
    ⟨some 17, some (.binOp .add T_int (.tmp 16) (.const (.int .i64 1)) T_int), none⟩,
    ⟨some 8, some (.assign (.tmp 17)), none⟩])))
@[simp] theorem d_l_plaitref1_down_0 : defs l_plaitref1_down_0 = [12, 13, 14, 15, 18, 19, 20, 21, 22, 23, 24, 25, 26, 27, 28, 29, 30, 31, 32, 33, 34, 35, 36, 16, 17, 8] := by rfl
def c_plaitref1_down : LCode := (.seq (.reg [] [⟨some 6, some (.assign (.const (.slice none 0 0))), none⟩])
  (.seq (.reg [] [⟨some 9, some (.move (.tmp 0)), none⟩,
    ⟨some 10, some (.call ⟨(.builtin .len), #[(.tmp 9)], #[T_s_bool]⟩), none⟩,
    ⟨some 11, some (.makeSlice T_s_bool (.tmp 10) (.tmp 10)), none⟩,
    ⟨some 7, some (.assign (.tmp 11)), none⟩])
  (.seq (.seq (.reg [] [⟨some 8, some (.assign (.const (.int .i64 0))), none⟩])
  (.block 0 (.loop l_plaitref1_down_0)))
  (.seq (.reg [] [⟨some 37, some (.move (.tmp 7)), none⟩,
    ⟨some 6, some (.assign (.tmp 37)), none⟩])
  .ret))))
theorem e_plaitref1_down {a0 a1 a2 : AV} {H : AHeap} : R f_plaitref1_down [a0, a1, a2] H = fnK Go.Proofs.Try.prog [0] H [(.tmp 6)] (evalL Go.Proofs.Try.prog KT R c_plaitref1_down (Env.args [a0, a1, a2] 0) H) :=
  runs_body (D := DT) (f := f_plaitref1_down) Go.Proofs.Try.func83 (by kernel_rfl) (by kernel_rfl) (by kernel_rfl) (by kernel_rfl) (by kernel_rfl) (Nat.le_of_ble_eq_true rfl)
theorem e_internal_bytealg_IndexByteString {s : ByteArray} {c : Int} {H : AHeap} : R f_internal_bytealg_IndexByteString [.str s, .int .u8 c] H = some (.int .i64 (firstIdx s c.toNat.toUInt8), H) :=
  runs_ext Go.Proofs.Try.func84 (by kernel_rfl) (ext_index (by kernel_rfl) (by kernel_rfl) (by kernel_rfl) (by kernel_rfl))
theorem e_math_bits_Add64 {x y c : BitVec 64} (hc : c.toNat ≤ 1) {H : AHeap} : R f_math_bits_Add64 [u x, u y, u c] H = some (.tup [.int .u64 (((x.toNat : Int) + y.toNat + c.toNat) % 18446744073709551616), .int .u64 (((x.toNat : Int) + y.toNat + c.toNat) / 18446744073709551616)], H) :=
  runs_ext Go.Proofs.Try.func85 (by kernel_rfl) (ext_add64 (by kernel_rfl) (by kernel_rfl) (by kernel_rfl) (by kernel_rfl) (by omega) (by omega) (by omega) (by omega))

def c_math_bits_Mul64 : LCode := (.seq (.reg [] [⟨some 4, some (.assign (.const (.int .u64 0))), none⟩,
    ⟨some 5, some (.assign (.const (.int .u64 0))), none⟩])
  (.seq (.reg [] [⟨some 14, some (.move (.tmp 0)), none⟩,
    ⟨some 15, some (.binOp .and T_uint64 (.tmp 14) (.const (.int .u64 4294967295)) T_uint64), none⟩,
    ⟨some 6, some (.assign (.tmp 15)), none⟩])
  (.seq (.reg [] [⟨some 16, some (.move (.tmp 0)), none⟩,
    ⟨some 17, some (.binOp .shr T_uint64 (.tmp 16) (.const (.int .u64 32)) T_uint), none⟩,
    ⟨some 7, some (.assign (.tmp 17)), none⟩])
  (.seq (.reg [] [⟨some 18, some (.move (.tmp 1)), none⟩,
    ⟨some 19, some (.binOp .and T_uint64 (.tmp 18) (.const (.int .u64 4294967295)) T_uint64), none⟩,
    ⟨some 8, some (.assign (.tmp 19)), none⟩])
  (.seq (.reg [] [⟨some 20, some (.move (.tmp 1)), none⟩,
    ⟨some 21, some (.binOp .shr T_uint64 (.tmp 20) (.const (.int .u64 32)) T_uint), none⟩,
    ⟨some 9, some (.assign (.tmp 21)), none⟩])
  (.seq (.reg [] [⟨some 22, some (.move (.tmp 6)), none⟩,
    ⟨some 23, some (.move (.tmp 8)), none⟩,
    ⟨some 24, some (.binOp .mul T_uint64 (.tmp 22) (.tmp 23) T_uint64), none⟩,
    ⟨some 10, some (.assign (.tmp 24)), none⟩])
  (.seq (.reg [] [⟨some 25, some (.move (.tmp 7)), none⟩,
    ⟨some 26, some (.move (.tmp 8)), none⟩,
    ⟨some 27, some (.binOp .mul T_uint64 (.tmp 25) (.tmp 26) T_uint64), none⟩,
    ⟨some 28, some (.move (.tmp 10)), none⟩,
    ⟨some 29, some (.binOp .shr T_uint64 (.tmp 28) (.const (.int .u64 32)) T_uint), none⟩,
    ⟨some 30, some (.binOp .add T_uint64 (.tmp 27) (.tmp 29) T_uint64), none⟩,
    ⟨some 11, some (.assign (.tmp 30)), none⟩])
  (.seq (.reg [] [⟨some 31, some (.move (.tmp 11)), none⟩,
    ⟨some 32, some (.binOp .and T_uint64 (.tmp 31) (.const (.int .u64 4294967295)) T_uint64), none⟩,
    ⟨some 12, some (.assign (.tmp 32)), none⟩])
  (.seq (.reg [] [⟨some 33, some (.move (.tmp 11)), none⟩,
    ⟨some 34, some (.binOp .shr T_uint64 (.tmp 33) (.const (.int .u64 32)) T_uint), none⟩,
    ⟨some 13, some (.assign (.tmp 34)), none⟩])
  (.seq (.reg [] [⟨some 35, some (.move (.tmp 12)), none⟩,
    ⟨some 36, some (.move (.tmp 6)), none⟩,
    ⟨some 37, some (.move (.tmp 9)), none⟩,
    ⟨some 38, some (.binOp .mul T_uint64 (.tmp 36) (.tmp 37) T_uint64), none⟩,
    ⟨some 39, some (.binOp .add T_uint64 (.tmp 35) (.tmp 38) T_uint64), none⟩,
    ⟨some 12, some (.assign (.tmp 39)), none⟩])
  (.seq (.reg [] [⟨some 40, some (.move (.tmp 7)), none⟩,
    ⟨some 41, some (.move (.tmp 9)), none⟩,
    ⟨some 42, some (.binOp .mul T_uint64 (.tmp 40) (.tmp 41) T_uint64), none⟩,
    ⟨some 43, some (.move (.tmp 13)), none⟩,
    ⟨some 44, some (.binOp .add T_uint64 (.tmp 42) (.tmp 43) T_uint64), none⟩,
    ⟨some 45, some (.move (.tmp 12)), none⟩,
    ⟨some 46, some (.binOp .shr T_uint64 (.tmp 45) (.const (.int .u64 32)) T_uint), none⟩,
    ⟨some 47, some (.binOp .add T_uint64 (.tmp 44) (.tmp 46) T_uint64), none⟩,
    ⟨some 4, some (.assign (.tmp 47)), none⟩])
  (.seq (.reg [] [⟨some 48, some (.move (.tmp 0)), none⟩,
    ⟨some 49, some (.move (.tmp 1)), none⟩,
    ⟨some 50, some (.binOp .mul T_uint64 (.tmp 48) (.tmp 49) T_uint64), none⟩,
    ⟨some 5, some (.assign (.tmp 50)), none⟩])
  .ret))))))))))))
theorem e_math_bits_Mul64 {a0 a1 : AV} {H : AHeap} : R f_math_bits_Mul64 [a0, a1] H = fnK Go.Proofs.Try.prog [] H [(.tmp 4), (.tmp 5)] (evalL Go.Proofs.Try.prog KT R c_math_bits_Mul64 (Env.args [a0, a1] 0) H) :=
  runs_body (D := DT) (f := f_math_bits_Mul64) Go.Proofs.Try.func86 (by kernel_rfl) (by kernel_rfl) (by kernel_rfl) (by kernel_rfl) (by kernel_rfl) (Nat.le_of_ble_eq_true rfl)

def l_plait_bv_number_quo_0 : LCode := (.seq (.seq (.reg [] [⟨some 8, some (.move (.tmp 6)), none⟩,
    ⟨some 9, some (.binOp .geq T_int (.tmp 8) (.const (.int .i64 0)) T_int), none⟩])
  (.cond (.tmp 9) .skip
  (.exit 0)))
  (.seq (.block 1 (.seq (.reg [] [⟨some 12, some (.load T_bv_number (.tmp 5)), none⟩,
    ⟨some 13, some (.call ⟨(.value (.func f_plait_bv_number_bit)), #[(.tmp 12), (.const (.int .i64 127))], #[T_bv_number, T_int]⟩), none⟩,
    ⟨some 7, some (.assign (.tmp 13)), none⟩])
  (.seq (.reg [] [⟨some 14, some (.load T_bv_number (.tmp 5)), none⟩,
    ⟨some 15, some (.call ⟨(.value (.func f_plait_bv_number_left)), #[(.tmp 14), (.const (.int .i64 1))], #[T_bv_number, T_int]⟩), none⟩,
    ⟨none, some (.store T_bv_number (.tmp 5) (.tmp 15)), none⟩])
  (.seq (.seq (.reg [] [⟨some 16, some (.load T_bv_number (.tmp 2)), none⟩,
    ⟨some 17, some (.move (.tmp 6)), none⟩,
    ⟨some 18, some (.call ⟨(.value (.func f_plait_bv_number_bit)), #[(.tmp 16), (.tmp 17)], #[T_bv_number, T_int]⟩), none⟩])
  (.cond (.tmp 18) (.reg [] [⟨some 19, some (.fieldAddr T_bv_number (.tmp 5) 0), none⟩,
    ⟨some 20, some (.load T_uint64 (.tmp 19)), none⟩,
    ⟨some 21, some (.binOp .or T_uint64 (.tmp 20) (.const (.int .u64 1)) T_uint64), none⟩,
    ⟨some 22, some (.fieldAddr T_bv_number (.tmp 5) 0), none⟩,
    ⟨none, some (.store T_uint64 (.tmp 22) (.tmp 21)), none⟩])
  .skip))
  (.seq (.reg [] [⟨some 23, some (.move (.tmp 7)), none⟩,
    ⟨some 24, some (.move (.tmp 23)), none⟩,
    ⟨some 25, some (.load T_bv_number (.tmp 5)), some (some 24, false)⟩,
    ⟨some 26, some (.load T_bv_number (.tmp 3)), some (some 24, false)⟩,
    ⟨some 27, some (.call ⟨(.value (.func f_plait_bv_number_less)), #[(.tmp 25), (.tmp 26)], #[T_bv_number, T_bv_number]⟩), some (some 24, false)⟩,
    ⟨some 28, some (.unOp .not T_bool (.tmp 27)), some (some 24, false)⟩,
    ⟨some 29, some (.pick (.tmp 24) (.const (.bool true)) (.tmp 28)), none⟩])
  (.cond (.tmp 29) (.seq (.reg [] [⟨some 30, some (.load T_bv_number (.tmp 5)), none⟩,
    ⟨some 31, some (.load T_bv_number (.tmp 3)), none⟩,
    ⟨some 32, some (.call ⟨(.value (.func f_plait_bv_number_sub)), #[(.tmp 30), (.tmp 31)], #[T_bv_number, T_bv_number]⟩), none⟩,
    ⟨none, some (.store T_bv_number (.tmp 5) (.tmp 32)), none⟩])
  (.reg [3] [⟨some 33, some (.load T_bv_number (.tmp 4)), none⟩,
    ⟨some 34, some (.build T_bv_number #[(0, (.const (.int .u64 1)))]), none⟩,
    ⟨some 35, some (.move (.tmp 6)), none⟩,
    ⟨some 36, some (.call ⟨(.value (.func f_plait_bv_number_left)), #[(.tmp 34), (.tmp 35)], #[T_bv_number, T_int]⟩), none⟩,
    ⟨some 37, some (.call ⟨(.value (.func f_plait_bv_number_add)), #[(.tmp 33), (.tmp 36)], #[T_bv_number, T_bv_number]⟩), none⟩,
    ⟨none, some (.store T_bv_number (.tmp 4) (.tmp 37)), none⟩]))
  .skip))))))
  (.reg [] [⟨some 10, some (.move (.tmp 6)), none⟩,
    ⟨some 11, some (.binOp .sub T_int (.tmp 10) (.const (.int .i64 1)) T_int), none⟩,
    ⟨some 6, some (.assign (.tmp 11)), none⟩])))
@[simp] theorem d_l_plait_bv_number_quo_0 : defs l_plait_bv_number_quo_0 = [8, 9, 12, 13, 7, 14, 15, 16, 17, 18, 19, 20, 21, 22, 23, 24, 25, 26, 27, 28, 29, 30, 31, 32, 33, 34, 35, 36, 37, 10, 11, 6] := by rfl
def c_plait_bv_number_quo : LCode := (.seq (.reg [] [⟨some 2, some (.box T_bv_number (.tmp 0)), none⟩,
    ⟨some 3, some (.box T_bv_number (.tmp 1)), none⟩,
    ⟨some 4, some (.alloc T_bv_number), none⟩,
    ⟨some 5, some (.alloc T_bv_number), none⟩])
  (.seq (.seq (.reg [] [⟨some 6, some (.assign (.const (.int .i64 127))), none⟩])
  (.block 0 (.loop l_plait_bv_number_quo_0)))
  (.seq (.reg [1, 2, 999, 1005] [⟨some 38, some (.load T_bv_number (.tmp 4)), none⟩,
    ⟨some 39, some (.load T_bv_number (.tmp 5)), none⟩,
    ⟨none, some (.store T_bv_number (.tmp 4) (.tmp 38)), none⟩,
    ⟨none, some (.store T_bv_number (.tmp 5) (.tmp 39)), none⟩])
  .ret)))
theorem e_plait_bv_number_quo {a0 a1 : AV} {H : AHeap} : R f_plait_bv_number_quo [a0, a1] H = fnK Go.Proofs.Try.prog [] H [(.cell 4 T_bv_number), (.cell 5 T_bv_number)] (evalL Go.Proofs.Try.prog KT R c_plait_bv_number_quo (Env.args [a0, a1] 0) H) :=
  runs_body (D := DT) (f := f_plait_bv_number_quo) Go.Proofs.Try.func87 (by kernel_rfl) (by kernel_rfl) (by kernel_rfl) (by kernel_rfl) (by kernel_rfl) (Nat.le_of_ble_eq_true rfl)

def l_plaitref1_zero_0 : LCode := (.seq (.seq (.reg [] [⟨some 4, some (.move (.tmp 3)), none⟩,
    ⟨some 5, some (.move (.tmp 0)), none⟩,
    ⟨some 6, some (.call ⟨(.builtin .len), #[(.tmp 5)], #[T_s_bool]⟩), none⟩,
    ⟨some 7, some (.binOp .lss T_int (.tmp 4) (.tmp 6) T_int), none⟩])
  (.cond (.tmp 7) .skip
  (.exit 0)))
  (.seq (.block 1 (.seq (.reg [] [⟨some 10, some (.move (.tmp 0)), none⟩,
    ⟨some 11, some (.move (.tmp 3)), none⟩,
    ⟨some 12, some (.indexAddr T_s_bool (.tmp 10) (.tmp 11)), none⟩,
    ⟨some 13, some (.load T_bool (.tmp 12)), none⟩])
  (.cond (.tmp 13) (.seq (.reg [] [⟨some 2, some (.assign (.const (.bool false))), none⟩])
  .ret)
  .skip)))
  (.reg [] [⟨some 8, some (.move (.tmp 3)), none⟩,
    ⟨some 9, some (.binOp .add T_int (.tmp 8) (.const (.int .i64 1)) T_int), none⟩,
    ⟨some 3, some (.assign (.tmp 9)), none⟩])))
@[simp] theorem d_l_plaitref1_zero_0 : defs l_plaitref1_zero_0 = [4, 5, 6, 7, 10, 11, 12, 13, 2, 8, 9, 3] := by rfl
def c_plaitref1_zero : LCode := (.seq (.reg [] [⟨some 2, some (.assign (.const (.bool false))), none⟩])
  (.seq (.seq (.reg [] [⟨some 3, some (.assign (.const (.int .i64 0))), none⟩])
  (.block 0 (.loop l_plaitref1_zero_0)))
  (.seq (.reg [] [⟨some 2, some (.assign (.const (.bool true))), none⟩])
  .ret)))
theorem e_plaitref1_zero {a0 : AV} {H : AHeap} : R f_plaitref1_zero [a0] H = fnK Go.Proofs.Try.prog [] H [(.tmp 2)] (evalL Go.Proofs.Try.prog KT R c_plaitref1_zero (Env.args [a0] 0) H) :=
  runs_body (D := DT) (f := f_plaitref1_zero) Go.Proofs.Try.func88 (by kernel_rfl) (by kernel_rfl) (by kernel_rfl) (by kernel_rfl) (by kernel_rfl) (Nat.le_of_ble_eq_true rfl)

end Go.Proofs.Ytcnhpkongbdihaa
