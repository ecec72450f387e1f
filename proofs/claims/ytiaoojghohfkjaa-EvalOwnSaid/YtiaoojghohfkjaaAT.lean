/- What this seat's program looks like to the rules: names, types, bodies in the short form. Written by seat.py. -/
import Derived.Test.YtiaoojghohfkjaaAT1
namespace Go.Proofs.Ytiaoojghohfkjaa
open Go.RowKit

def l_bv_Repeat_0 : LCode := (.seq (.reg [] [⟨some 27, some (.binOp .lss T_int (.tmp 26) (.tmp 25) T_int), none⟩])
  (.seq (.cond (.tmp 27) .skip
  (.exit 1))
  (.seq (.block 2 (.reg [] [⟨some 29, some (.load T_api_Bits (.tmp 6)), none⟩,
    ⟨some 30, some (.load T_api_Bits (.tmp 2)), none⟩,
    ⟨some 31, some (.call ⟨(.value (.func f_bv_Concat)), #[(.tmp 29), (.tmp 30)], #[T_api_Bits, T_api_Bits]⟩), none⟩,
    ⟨some 28, some (.move (.tmp 31)), none⟩,
    ⟨some 32, some (.extract (.tmp 28) 0), none⟩,
    ⟨some 33, some (.extract (.tmp 28) 1), none⟩,
    ⟨none, some (.store T_api_Bits (.tmp 6) (.tmp 32)), none⟩]))
  (.reg [] [⟨some 34, some (.binOp .add T_int (.tmp 26) (.const (.int .i64 1)) T_int), none⟩,
    ⟨some 26, some (.move (.tmp 34)), none⟩]))))
@[simp] theorem d_l_bv_Repeat_0 : defs l_bv_Repeat_0 = [27, 29, 30, 31, 28, 32, 33, 34, 26] := by rfl
def c_bv_Repeat : LCode := (.seq (.reg [] [⟨some 2, some (.box T_api_Bits (.tmp 0)), none⟩,
    ⟨some 4, some (.alloc T_api_Bits), none⟩,
    ⟨some 5, some (.assign (.const (.int .i64 0))), none⟩])
  (.seq (.block 0 (.seq (.reg [] [⟨some 8, some (.load T_api_Bits (.tmp 2)), none⟩,
    ⟨some 9, some (.call ⟨(.value (.func f_bv_word)), #[(.tmp 8)], #[T_api_Bits]⟩), none⟩,
    ⟨some 10, some (.unOp .not T_bool (.tmp 9)), none⟩,
    ⟨some 7, some (.assign (.tmp 10)), none⟩])
  (.cond (.tmp 7) (.seq (.reg [] [⟨some 11, some (.build T_api_Bits #[]), none⟩,
    ⟨none, some (.store T_api_Bits (.tmp 4) (.tmp 11)), none⟩,
    ⟨some 5, some (.assign (.const (.int .i64 10))), none⟩])
  .ret)
  (.seq (.reg [] [⟨some 13, some (.move (.tmp 1)), none⟩,
    ⟨some 14, some (.binOp .lss T_int (.tmp 13) (.const (.int .i64 1)) T_int), none⟩,
    ⟨some 12, some (.assign (.tmp 14)), none⟩])
  (.cond (.tmp 12) (.seq (.reg [] [⟨some 15, some (.build T_api_Bits #[]), none⟩,
    ⟨none, some (.store T_api_Bits (.tmp 4) (.tmp 15)), none⟩,
    ⟨some 5, some (.assign (.const (.int .i64 12))), none⟩])
  .ret)
  (.seq (.reg [] [⟨some 17, some (.move (.tmp 1)), none⟩,
    ⟨some 18, some (.fieldAddr T_api_Bits (.tmp 2) 0), none⟩,
    ⟨some 19, some (.load T_int (.tmp 18)), none⟩,
    ⟨some 20, some (.binOp .quo T_int (.const (.int .i64 128)) (.tmp 19) T_int), none⟩,
    ⟨some 21, some (.binOp .gtr T_int (.tmp 17) (.tmp 20) T_int), none⟩,
    ⟨some 16, some (.assign (.tmp 21)), none⟩])
  (.cond (.tmp 16) (.seq (.reg [] [⟨some 22, some (.build T_api_Bits #[]), none⟩,
    ⟨none, some (.store T_api_Bits (.tmp 4) (.tmp 22)), none⟩,
    ⟨some 5, some (.assign (.const (.int .i64 10))), none⟩])
  .ret)
  .skip)))))))
  (.seq (.reg [] [⟨some 23, some (.load T_api_Bits (.tmp 2)), none⟩,
    ⟨some 6, some (.alloc T_api_Bits), none⟩,
    ⟨none, some (.store T_api_Bits (.tmp 6) (.tmp 23)), none⟩])
  (.seq (.seq (.reg [] [⟨some 24, some (.move (.tmp 1)), none⟩,
    ⟨some 25, some (.binOp .sub T_int (.tmp 24) (.const (.int .i64 1)) T_int), none⟩,
    ⟨some 26, some (.move (.const (.int .i64 0))), none⟩])
  (.block 1 (.loop l_bv_Repeat_0)))
  (.seq (.reg [] [⟨some 35, some (.load T_api_Bits (.tmp 6)), none⟩,
    ⟨none, some (.store T_api_Bits (.tmp 4) (.tmp 35)), none⟩,
    ⟨some 5, some (.assign (.const (.int .i64 0))), none⟩])
  .ret)))))
theorem e_bv_Repeat {a0 a1 : AV} {H : AHeap} : R f_bv_Repeat [a0, a1] H = fnK Go.Proofs.Try.prog [] H [(.cell 4 T_api_Bits), (.tmp 5)] (evalL Go.Proofs.Try.prog KT R c_bv_Repeat (Env.args [a0, a1] 0) H) :=
  runs_body (D := DT) (f := f_bv_Repeat) Go.Proofs.Try.func62 (by kernel_rfl) (by kernel_rfl) (by kernel_rfl) (by kernel_rfl) (by kernel_rfl) (Nat.le_of_ble_eq_true rfl)

def c_bv_Two : LCode := (.seq (.reg [] [⟨some 4, some (.box T_api_Bits (.tmp 1)), none⟩,
    ⟨some 5, some (.box T_api_Bits (.tmp 2)), none⟩,
    ⟨some 6, some (.alloc T_api_Bits), none⟩,
    ⟨some 7, some (.assign (.const (.int .i64 0))), none⟩])
  (.seq (.block 0 (.seq (.reg [] [⟨some 9, some (.load T_api_Bits (.tmp 4)), none⟩,
    ⟨some 10, some (.call ⟨(.value (.func f_bv_word)), #[(.tmp 9)], #[T_api_Bits]⟩), none⟩,
    ⟨some 11, some (.unOp .not T_bool (.tmp 10)), none⟩,
    ⟨some 12, some (.move (.tmp 11)), none⟩,
    ⟨some 13, some (.load T_api_Bits (.tmp 5)), some (some 12, false)⟩,
    ⟨some 14, some (.call ⟨(.value (.func f_bv_word)), #[(.tmp 13)], #[T_api_Bits]⟩), some (some 12, false)⟩,
    ⟨some 15, some (.unOp .not T_bool (.tmp 14)), some (some 12, false)⟩,
    ⟨some 16, some (.pick (.tmp 12) (.const (.bool true)) (.tmp 15)), none⟩,
    ⟨some 17, some (.move (.tmp 16)), none⟩,
    ⟨some 18, some (.fieldAddr T_api_Bits (.tmp 4) 0), some (some 17, false)⟩,
    ⟨some 19, some (.load T_int (.tmp 18)), some (some 17, false)⟩,
    ⟨some 20, some (.fieldAddr T_api_Bits (.tmp 5) 0), some (some 17, false)⟩,
    ⟨some 21, some (.load T_int (.tmp 20)), some (some 17, false)⟩,
    ⟨some 22, some (.binOp .neq T_int (.tmp 19) (.tmp 21) T_int), some (some 17, false)⟩,
    ⟨some 23, some (.pick (.tmp 17) (.const (.bool true)) (.tmp 22)), none⟩,
    ⟨some 8, some (.assign (.tmp 23)), none⟩])
  (.cond (.tmp 8) (.seq (.reg [] [⟨some 24, some (.build T_api_Bits #[]), none⟩,
    ⟨none, some (.store T_api_Bits (.tmp 6) (.tmp 24)), none⟩,
    ⟨some 7, some (.assign (.const (.int .i64 10))), none⟩])
  .ret)
  (.seq (.reg [] [⟨some 26, some (.move (.tmp 0)), none⟩,
    ⟨some 27, some (.binOp .geq T_int (.tmp 26) (.const (.int .i64 12)) T_int), none⟩,
    ⟨some 28, some (.move (.tmp 27)), none⟩,
    ⟨some 29, some (.move (.tmp 0)), some (some 28, true)⟩,
    ⟨some 30, some (.binOp .leq T_int (.tmp 29) (.const (.int .i64 17)) T_int), some (some 28, true)⟩,
    ⟨some 31, some (.pick (.tmp 28) (.tmp 30) (.const (.bool false))), none⟩,
    ⟨some 25, some (.assign (.tmp 31)), none⟩])
  (.cond (.tmp 25) (.seq (.reg [4, 6, 7] [⟨some 32, some (.fieldAddr T_api_Bits (.tmp 4) 0), none⟩,
    ⟨some 33, some (.load T_int (.tmp 32)), none⟩,
    ⟨some 34, some (.move (.tmp 0)), none⟩,
    ⟨some 35, some (.load T_api_Bits (.tmp 4)), none⟩,
    ⟨some 36, some (.call ⟨(.value (.func f_bv_of)), #[(.tmp 35)], #[T_api_Bits]⟩), none⟩,
    ⟨some 37, some (.load T_api_Bits (.tmp 5)), none⟩,
    ⟨some 38, some (.call ⟨(.value (.func f_bv_of)), #[(.tmp 37)], #[T_api_Bits]⟩), none⟩,
    ⟨some 39, some (.call ⟨(.value (.func f_bv_bitwise)), #[(.tmp 34), (.tmp 36), (.tmp 38)], #[T_int, T_bv_number, T_bv_number]⟩), none⟩,
    ⟨some 40, some (.call ⟨(.value (.func f_bv_cut)), #[(.tmp 33), (.tmp 39)], #[T_int, T_bv_number]⟩), none⟩,
    ⟨none, some (.store T_api_Bits (.tmp 6) (.tmp 40)), none⟩,
    ⟨some 7, some (.assign (.const (.int .i64 0))), none⟩])
  .ret)
  (.seq (.reg [] [⟨some 42, some (.move (.tmp 0)), none⟩,
    ⟨some 43, some (.binOp .geq T_int (.tmp 42) (.const (.int .i64 18)) T_int), none⟩,
    ⟨some 44, some (.move (.tmp 43)), none⟩,
    ⟨some 45, some (.move (.tmp 0)), some (some 44, true)⟩,
    ⟨some 46, some (.binOp .leq T_int (.tmp 45) (.const (.int .i64 25)) T_int), some (some 44, true)⟩,
    ⟨some 47, some (.pick (.tmp 44) (.tmp 46) (.const (.bool false))), none⟩,
    ⟨some 41, some (.assign (.tmp 47)), none⟩])
  (.cond (.tmp 41) (.seq (.reg [5] [⟨some 48, some (.fieldAddr T_api_Bits (.tmp 4) 0), none⟩,
    ⟨some 49, some (.load T_int (.tmp 48)), none⟩,
    ⟨some 50, some (.move (.tmp 0)), none⟩,
    ⟨some 51, some (.load T_api_Bits (.tmp 4)), none⟩,
    ⟨some 52, some (.load T_api_Bits (.tmp 5)), none⟩,
    ⟨some 53, some (.call ⟨(.value (.func f_bv_reckoned)), #[(.tmp 50), (.tmp 51), (.tmp 52)], #[T_int, T_api_Bits, T_api_Bits]⟩), none⟩,
    ⟨some 54, some (.call ⟨(.value (.func f_bv_cut)), #[(.tmp 49), (.tmp 53)], #[T_int, T_bv_number]⟩), none⟩,
    ⟨none, some (.store T_api_Bits (.tmp 6) (.tmp 54)), none⟩,
    ⟨some 7, some (.assign (.const (.int .i64 0))), none⟩])
  .ret)
  (.seq (.reg [] [⟨some 56, some (.move (.tmp 0)), none⟩,
    ⟨some 57, some (.binOp .geq T_int (.tmp 56) (.const (.int .i64 26)) T_int), none⟩,
    ⟨some 58, some (.move (.tmp 57)), none⟩,
    ⟨some 59, some (.move (.tmp 0)), some (some 58, true)⟩,
    ⟨some 60, some (.binOp .leq T_int (.tmp 59) (.const (.int .i64 28)) T_int), some (some 58, true)⟩,
    ⟨some 61, some (.pick (.tmp 58) (.tmp 60) (.const (.bool false))), none⟩,
    ⟨some 55, some (.assign (.tmp 61)), none⟩])
  (.cond (.tmp 55) (.seq (.reg [5] [⟨some 62, some (.fieldAddr T_api_Bits (.tmp 4) 0), none⟩,
    ⟨some 63, some (.load T_int (.tmp 62)), none⟩,
    ⟨some 64, some (.move (.tmp 0)), none⟩,
    ⟨some 65, some (.load T_api_Bits (.tmp 4)), none⟩,
    ⟨some 66, some (.load T_api_Bits (.tmp 5)), none⟩,
    ⟨some 67, some (.call ⟨(.value (.func f_bv_shifted)), #[(.tmp 64), (.tmp 65), (.tmp 66)], #[T_int, T_api_Bits, T_api_Bits]⟩), none⟩,
    ⟨some 68, some (.call ⟨(.value (.func f_bv_cut)), #[(.tmp 63), (.tmp 67)], #[T_int, T_bv_number]⟩), none⟩,
    ⟨none, some (.store T_api_Bits (.tmp 6) (.tmp 68)), none⟩,
    ⟨some 7, some (.assign (.const (.int .i64 0))), none⟩])
  .ret)
  (.seq (.reg [] [⟨some 70, some (.move (.tmp 0)), none⟩,
    ⟨some 71, some (.binOp .geq T_int (.tmp 70) (.const (.int .i64 29)) T_int), none⟩,
    ⟨some 72, some (.move (.tmp 71)), none⟩,
    ⟨some 73, some (.move (.tmp 0)), some (some 72, true)⟩,
    ⟨some 74, some (.binOp .leq T_int (.tmp 73) (.const (.int .i64 36)) T_int), some (some 72, true)⟩,
    ⟨some 75, some (.pick (.tmp 72) (.tmp 74) (.const (.bool false))), none⟩,
    ⟨some 69, some (.assign (.tmp 75)), none⟩])
  (.cond (.tmp 69) (.seq (.reg [] [⟨some 76, some (.move (.tmp 0)), none⟩,
    ⟨some 77, some (.load T_api_Bits (.tmp 4)), none⟩,
    ⟨some 78, some (.load T_api_Bits (.tmp 5)), none⟩,
    ⟨some 79, some (.call ⟨(.value (.func f_bv_compared)), #[(.tmp 76), (.tmp 77), (.tmp 78)], #[T_int, T_api_Bits, T_api_Bits]⟩), none⟩,
    ⟨some 80, some (.call ⟨(.value (.func f_bv_Bool)), #[(.tmp 79)], #[T_bool]⟩), none⟩,
    ⟨none, some (.store T_api_Bits (.tmp 6) (.tmp 80)), none⟩,
    ⟨some 7, some (.assign (.const (.int .i64 0))), none⟩])
  .ret)
  (.seq (.reg [] [⟨some 82, some (.move (.tmp 0)), none⟩,
    ⟨some 83, some (.binOp .eql T_int (.tmp 82) (.const (.int .i64 8)) T_int), none⟩,
    ⟨some 81, some (.assign (.tmp 83)), none⟩])
  (.cond (.tmp 81) (.seq (.reg [] [⟨some 84, some (.load T_api_Bits (.tmp 4)), none⟩,
    ⟨some 85, some (.load T_api_Bits (.tmp 5)), none⟩,
    ⟨some 86, some (.binOp .eql T_api_Bits (.tmp 84) (.tmp 85) T_api_Bits), none⟩,
    ⟨some 87, some (.call ⟨(.value (.func f_bv_Bool)), #[(.tmp 86)], #[T_bool]⟩), none⟩,
    ⟨none, some (.store T_api_Bits (.tmp 6) (.tmp 87)), none⟩,
    ⟨some 7, some (.assign (.const (.int .i64 0))), none⟩])
  .ret)
  (.seq (.reg [] [⟨some 89, some (.move (.tmp 0)), none⟩,
    ⟨some 90, some (.binOp .eql T_int (.tmp 89) (.const (.int .i64 37)) T_int), none⟩,
    ⟨some 88, some (.assign (.tmp 90)), none⟩])
  (.cond (.tmp 88) (.seq (.reg [] [⟨some 91, some (.load T_api_Bits (.tmp 4)), none⟩,
    ⟨some 92, some (.load T_api_Bits (.tmp 5)), none⟩,
    ⟨some 93, some (.binOp .eql T_api_Bits (.tmp 91) (.tmp 92) T_api_Bits), none⟩,
    ⟨some 94, some (.call ⟨(.value (.func f_bv_Bool)), #[(.tmp 93)], #[T_bool]⟩), none⟩,
    ⟨some 95, some (.field T_api_Bits (.tmp 94) 1), none⟩,
    ⟨some 96, some (.build T_bv_number #[(0, (.tmp 95))]), none⟩,
    ⟨some 97, some (.call ⟨(.value (.func f_bv_cut)), #[(.const (.int .i64 1)), (.tmp 96)], #[T_int, T_bv_number]⟩), none⟩,
    ⟨none, some (.store T_api_Bits (.tmp 6) (.tmp 97)), none⟩,
    ⟨some 7, some (.assign (.const (.int .i64 0))), none⟩])
  .ret)
  .skip)))))))))))))))
  (.seq (.reg [] [⟨some 98, some (.build T_api_Bits #[]), none⟩,
    ⟨none, some (.store T_api_Bits (.tmp 6) (.tmp 98)), none⟩,
    ⟨some 7, some (.assign (.const (.int .i64 11))), none⟩])
  .ret)))
theorem e_bv_Two {a0 a1 a2 : AV} {H : AHeap} : R f_bv_Two [a0, a1, a2] H = fnK Go.Proofs.Try.prog [] H [(.cell 6 T_api_Bits), (.tmp 7)] (evalL Go.Proofs.Try.prog KT R c_bv_Two (Env.args [a0, a1, a2] 0) H) :=
  runs_body (D := DT) (f := f_bv_Two) Go.Proofs.Try.func63 (by kernel_rfl) (by kernel_rfl) (by kernel_rfl) (by kernel_rfl) (by kernel_rfl) (Nat.le_of_ble_eq_true rfl)

def c_plaitref3_Arity : LCode := (.seq (.reg [] [⟨some 2, some (.assign (.const (.int .i64 0))), none⟩])
  (.seq (.seq (.reg [] [⟨some 3, some (.move (.tmp 0)), none⟩])
  (.block 0 (.seq (.seq (.reg [] [⟨some 5, some (.binOp .eql T_int (.tmp 3) (.const (.int .i64 1)) T_int), none⟩,
    ⟨some 4, some (.assign (.tmp 5)), none⟩])
  (.cond (.tmp 4) .skip
  (.reg [] [⟨some 6, some (.binOp .eql T_int (.tmp 3) (.const (.int .i64 2)) T_int), none⟩,
    ⟨some 4, some (.assign (.tmp 6)), none⟩])))
  (.cond (.tmp 4) (.seq (.reg [] [⟨some 2, some (.assign (.const (.int .i64 0))), none⟩])
  .ret)
  (.seq (.seq (.reg [] [⟨some 8, some (.binOp .eql T_int (.tmp 3) (.const (.int .i64 3)) T_int), none⟩,
    ⟨some 7, some (.assign (.tmp 8)), none⟩])
  (.cond (.tmp 7) .skip
  (.seq (.reg [] [⟨some 9, some (.binOp .eql T_int (.tmp 3) (.const (.int .i64 10)) T_int), none⟩,
    ⟨some 7, some (.assign (.tmp 9)), none⟩])
  (.cond (.tmp 7) .skip
  (.seq (.reg [] [⟨some 10, some (.binOp .eql T_int (.tmp 3) (.const (.int .i64 11)) T_int), none⟩,
    ⟨some 7, some (.assign (.tmp 10)), none⟩])
  (.cond (.tmp 7) .skip
  (.seq (.reg [] [⟨some 11, some (.binOp .eql T_int (.tmp 3) (.const (.int .i64 39)) T_int), none⟩,
    ⟨some 7, some (.assign (.tmp 11)), none⟩])
  (.cond (.tmp 7) .skip
  (.seq (.reg [] [⟨some 12, some (.binOp .eql T_int (.tmp 3) (.const (.int .i64 40)) T_int), none⟩,
    ⟨some 7, some (.assign (.tmp 12)), none⟩])
  (.cond (.tmp 7) .skip
  (.seq (.reg [] [⟨some 13, some (.binOp .eql T_int (.tmp 3) (.const (.int .i64 41)) T_int), none⟩,
    ⟨some 7, some (.assign (.tmp 13)), none⟩])
  (.cond (.tmp 7) .skip
  (.seq (.reg [] [⟨some 14, some (.binOp .eql T_int (.tmp 3) (.const (.int .i64 42)) T_int), none⟩,
    ⟨some 7, some (.assign (.tmp 14)), none⟩])
  (.cond (.tmp 7) .skip
  (.seq (.reg [] [⟨some 15, some (.binOp .eql T_int (.tmp 3) (.const (.int .i64 43)) T_int), none⟩,
    ⟨some 7, some (.assign (.tmp 15)), none⟩])
  (.cond (.tmp 7) .skip
  (.reg [] [⟨some 16, some (.binOp .eql T_int (.tmp 3) (.const (.int .i64 44)) T_int), none⟩,
    ⟨some 7, some (.assign (.tmp 16)), none⟩])))))))))))))))))
  (.cond (.tmp 7) (.seq (.reg [] [⟨some 2, some (.assign (.const (.int .i64 1))), none⟩])
  .ret)
  (.seq (.reg [] [⟨some 18, some (.binOp .eql T_int (.tmp 3) (.const (.int .i64 9)) T_int), none⟩,
    ⟨some 17, some (.assign (.tmp 18)), none⟩])
  (.cond (.tmp 17) (.seq (.reg [] [⟨some 2, some (.assign (.const (.int .i64 3))), none⟩])
  .ret)
  .skip))))))))
  (.seq (.seq (.reg [] [⟨some 19, some (.move (.tmp 0)), none⟩,
    ⟨some 20, some (.binOp .lss T_int (.tmp 19) (.const (.int .i64 1)) T_int), none⟩,
    ⟨some 21, some (.move (.tmp 20)), none⟩,
    ⟨some 22, some (.move (.tmp 0)), some (some 21, false)⟩,
    ⟨some 23, some (.binOp .gtr T_int (.tmp 22) (.const (.int .i64 44)) T_int), some (some 21, false)⟩,
    ⟨some 24, some (.pick (.tmp 21) (.const (.bool true)) (.tmp 23)), none⟩])
  (.cond (.tmp 24) (.seq (.reg [] [⟨some 2, some (.assign (.const (.int .i64 (-1)))), none⟩])
  .ret)
  .skip))
  (.seq (.reg [] [⟨some 2, some (.assign (.const (.int .i64 2))), none⟩])
  .ret))))
theorem e_plaitref3_Arity {a0 : AV} {H : AHeap} : R f_plaitref3_Arity [a0] H = fnK Go.Proofs.Try.prog [] H [(.tmp 2)] (evalL Go.Proofs.Try.prog KT R c_plaitref3_Arity (Env.args [a0] 0) H) :=
  runs_body (D := DT) (f := f_plaitref3_Arity) Go.Proofs.Try.func64 (by kernel_rfl) (by kernel_rfl) (by kernel_rfl) (by kernel_rfl) (by kernel_rfl) (Nat.le_of_ble_eq_true rfl)

def c_plait_plaitref3_Graph_At : LCode := (.seq (.reg [] [⟨some 4, some (.alloc T_api_Node), none⟩,
    ⟨some 5, some (.assign (.const (.bool false))), none⟩])
  (.seq (.seq (.reg [] [⟨some 6, some (.move (.tmp 1)), none⟩,
    ⟨some 7, some (.binOp .lss T_int (.tmp 6) (.const (.int .i64 1)) T_int), none⟩,
    ⟨some 8, some (.move (.tmp 7)), none⟩,
    ⟨some 9, some (.move (.tmp 1)), some (some 8, false)⟩,
    ⟨some 10, some (.move (.tmp 0)), some (some 8, false)⟩,
    ⟨some 11, some (.nilCheck (.tmp 10)), some (some 8, false)⟩,
    ⟨some 12, some (.fieldAddr T_plaitref3_Graph (.tmp 11) 0), some (some 8, false)⟩,
    ⟨some 13, some (.load T_s_api_Node (.tmp 12)), some (some 8, false)⟩,
    ⟨some 14, some (.call ⟨(.builtin .len), #[(.tmp 13)], #[T_s_api_Node]⟩), some (some 8, false)⟩,
    ⟨some 15, some (.binOp .gtr T_int (.tmp 9) (.tmp 14) T_int), some (some 8, false)⟩,
    ⟨some 16, some (.pick (.tmp 8) (.const (.bool true)) (.tmp 15)), none⟩])
  (.cond (.tmp 16) (.seq (.reg [] [⟨some 17, some (.build T_api_Node #[]), none⟩,
    ⟨none, some (.store T_api_Node (.tmp 4) (.tmp 17)), none⟩,
    ⟨some 5, some (.assign (.const (.bool false))), none⟩])
  .ret)
  .skip))
  (.seq (.reg [] [⟨some 18, some (.move (.tmp 0)), none⟩,
    ⟨some 19, some (.nilCheck (.tmp 18)), none⟩,
    ⟨some 20, some (.fieldAddr T_plaitref3_Graph (.tmp 19) 0), none⟩,
    ⟨some 21, some (.load T_s_api_Node (.tmp 20)), none⟩,
    ⟨some 22, some (.move (.tmp 1)), none⟩,
    ⟨some 23, some (.binOp .sub T_int (.tmp 22) (.const (.int .i64 1)) T_int), none⟩,
    ⟨some 24, some (.indexAddr T_s_api_Node (.tmp 21) (.tmp 23)), none⟩,
    ⟨some 25, some (.load T_api_Node (.tmp 24)), none⟩,
    ⟨none, some (.store T_api_Node (.tmp 4) (.tmp 25)), none⟩,
    ⟨some 5, some (.assign (.const (.bool true))), none⟩])
  .ret)))
theorem e_plait_plaitref3_Graph_At {a0 a1 : AV} {H : AHeap} : R f_plait_plaitref3_Graph_At [a0, a1] H = fnK Go.Proofs.Try.prog [] H [(.cell 4 T_api_Node), (.tmp 5)] (evalL Go.Proofs.Try.prog KT R c_plait_plaitref3_Graph_At (Env.args [a0, a1] 0) H) :=
  runs_body (D := DT) (f := f_plait_plaitref3_Graph_At) Go.Proofs.Try.func65 (by kernel_rfl) (by kernel_rfl) (by kernel_rfl) (by kernel_rfl) (by kernel_rfl) (Nat.le_of_ble_eq_true rfl)

def c_plaitref1_Right : LCode := (.seq (.reg [] [⟨some 1, some (.box T_api_Bits (.tmp 0)), none⟩,
    ⟨some 2, some (.assign (.const (.bool false))), none⟩])
  (.seq (.seq (.reg [] [⟨some 3, some (.fieldAddr T_api_Bits (.tmp 1) 0), none⟩,
    ⟨some 4, some (.load T_int (.tmp 3)), none⟩,
    ⟨some 5, some (.binOp .lss T_int (.tmp 4) (.const (.int .i64 0)) T_int), none⟩,
    ⟨some 6, some (.move (.tmp 5)), none⟩,
    ⟨some 7, some (.fieldAddr T_api_Bits (.tmp 1) 0), some (some 6, false)⟩,
    ⟨some 8, some (.load T_int (.tmp 7)), some (some 6, false)⟩,
    ⟨some 9, some (.binOp .gtr T_int (.tmp 8) (.const (.int .i64 128)) T_int), some (some 6, false)⟩,
    ⟨some 10, some (.pick (.tmp 6) (.const (.bool true)) (.tmp 9)), none⟩])
  (.cond (.tmp 10) (.seq (.reg [] [⟨some 2, some (.assign (.const (.bool false))), none⟩])
  .ret)
  .skip))
  (.seq (.seq (.reg [] [⟨some 11, some (.fieldAddr T_api_Bits (.tmp 1) 0), none⟩,
    ⟨some 12, some (.load T_int (.tmp 11)), none⟩,
    ⟨some 13, some (.binOp .eql T_int (.tmp 12) (.const (.int .i64 0)) T_int), none⟩])
  (.cond (.tmp 13) (.seq (.reg [] [⟨some 14, some (.fieldAddr T_api_Bits (.tmp 1) 1), none⟩,
    ⟨some 15, some (.load T_uint64 (.tmp 14)), none⟩,
    ⟨some 16, some (.binOp .leq T_uint64 (.tmp 15) (.const (.int .u64 1)) T_uint64), none⟩,
    ⟨some 17, some (.move (.tmp 16)), none⟩,
    ⟨some 18, some (.fieldAddr T_api_Bits (.tmp 1) 2), some (some 17, true)⟩,
    ⟨some 19, some (.load T_uint64 (.tmp 18)), some (some 17, true)⟩,
    ⟨some 20, some (.binOp .eql T_uint64 (.tmp 19) (.const (.int .u64 0)) T_uint64), some (some 17, true)⟩,
    ⟨some 21, some (.pick (.tmp 17) (.tmp 20) (.const (.bool false))), none⟩,
    ⟨some 2, some (.assign (.tmp 21)), none⟩])
  .ret)
  .skip))
  (.seq (.reg [1, 2] [⟨some 22, some (.load T_api_Bits (.tmp 1)), none⟩,
    ⟨some 23, some (.call ⟨(.value (.func f_plaitref1_Bits)), #[(.tmp 22)], #[T_api_Bits]⟩), none⟩,
    ⟨some 24, some (.call ⟨(.value (.func f_plaitref1_Word)), #[(.tmp 23)], #[T_s_bool]⟩), none⟩,
    ⟨some 25, some (.load T_api_Bits (.tmp 1)), none⟩,
    ⟨some 26, some (.binOp .eql T_api_Bits (.tmp 24) (.tmp 25) T_api_Bits), none⟩,
    ⟨some 2, some (.assign (.tmp 26)), none⟩])
  .ret))))
theorem e_plaitref1_Right {a0 : AV} {H : AHeap} : R f_plaitref1_Right [a0] H = fnK Go.Proofs.Try.prog [] H [(.tmp 2)] (evalL Go.Proofs.Try.prog KT R c_plaitref1_Right (Env.args [a0] 0) H) :=
  runs_body (D := DT) (f := f_plaitref1_Right) Go.Proofs.Try.func66 (by kernel_rfl) (by kernel_rfl) (by kernel_rfl) (by kernel_rfl) (by kernel_rfl) (Nat.le_of_ble_eq_true rfl)

def c_plaitref3_Is : LCode := (.seq (.reg [] [⟨some 2, some (.assign (.const (.bool false))), none⟩])
  (.seq (.reg [] [⟨some 3, some (.move (.tmp 0)), none⟩,
    ⟨some 4, some (.binOp .geq T_int (.tmp 3) (.const (.int .i64 0)) T_int), none⟩,
    ⟨some 5, some (.move (.tmp 4)), none⟩,
    ⟨some 6, some (.move (.tmp 0)), some (some 5, true)⟩,
    ⟨some 7, some (.binOp .leq T_int (.tmp 6) (.const (.int .i64 128)) T_int), some (some 5, true)⟩,
    ⟨some 8, some (.pick (.tmp 5) (.tmp 7) (.const (.bool false))), none⟩,
    ⟨some 2, some (.assign (.tmp 8)), none⟩])
  .ret))
theorem e_plaitref3_Is {a0 : AV} {H : AHeap} : R f_plaitref3_Is [a0] H = fnK Go.Proofs.Try.prog [] H [(.tmp 2)] (evalL Go.Proofs.Try.prog KT R c_plaitref3_Is (Env.args [a0] 0) H) :=
  runs_body (D := DT) (f := f_plaitref3_Is) Go.Proofs.Try.func67 (by kernel_rfl) (by kernel_rfl) (by kernel_rfl) (by kernel_rfl) (by kernel_rfl) (Nat.le_of_ble_eq_true rfl)

def l_plait_plaitref3_Graph_Var_0 : LCode := (.seq (.seq (.reg [] [⟨some 7, some (.move (.tmp 6)), none⟩,
    ⟨some 8, some (.move (.tmp 0)), none⟩,
    ⟨some 9, some (.nilCheck (.tmp 8)), none⟩,
    ⟨some 10, some (.fieldAddr T_plaitref3_Graph (.tmp 9) 0), none⟩,
    ⟨some 11, some (.load T_s_api_Node (.tmp 10)), none⟩,
    ⟨some 12, some (.call ⟨(.builtin .len), #[(.tmp 11)], #[T_s_api_Node]⟩), none⟩,
    ⟨some 13, some (.binOp .lss T_int (.tmp 7) (.tmp 12) T_int), none⟩])
  (.cond (.tmp 13) .skip
  (.exit 0)))
  (.seq (.block 1 (.seq (.reg [] [⟨some 16, some (.move (.tmp 0)), none⟩,
    ⟨some 17, some (.nilCheck (.tmp 16)), none⟩,
    ⟨some 18, some (.fieldAddr T_plaitref3_Graph (.tmp 17) 0), none⟩,
    ⟨some 19, some (.load T_s_api_Node (.tmp 18)), none⟩,
    ⟨some 20, some (.move (.tmp 6)), none⟩,
    ⟨some 21, some (.indexAddr T_s_api_Node (.tmp 19) (.tmp 20)), none⟩,
    ⟨some 22, some (.fieldAddr T_api_Node (.tmp 21) 0), none⟩,
    ⟨some 23, some (.load T_int (.tmp 22)), none⟩,
    ⟨some 24, some (.binOp .eql T_int (.tmp 23) (.const (.int .i64 2)) T_int), none⟩,
    ⟨some 25, some (.move (.tmp 24)), none⟩,
    ⟨some 26, some (.move (.tmp 0)), some (some 25, true)⟩,
    ⟨some 27, some (.nilCheck (.tmp 26)), some (some 25, true)⟩,
    ⟨some 28, some (.fieldAddr T_plaitref3_Graph (.tmp 27) 0), some (some 25, true)⟩,
    ⟨some 29, some (.load T_s_api_Node (.tmp 28)), some (some 25, true)⟩,
    ⟨some 30, some (.move (.tmp 6)), some (some 25, true)⟩,
    ⟨some 31, some (.indexAddr T_s_api_Node (.tmp 29) (.tmp 30)), some (some 25, true)⟩,
    ⟨some 32, some (.fieldAddr T_api_Node (.tmp 31) 8), some (some 25, true)⟩,
    ⟨some 33, some (.load T_string (.tmp 32)), some (some 25, true)⟩,
    ⟨some 34, some (.move (.tmp 1)), some (some 25, true)⟩,
    ⟨some 35, some (.binOp .eql T_string (.tmp 33) (.tmp 34) T_string), some (some 25, true)⟩,
    ⟨some 36, some (.pick (.tmp 25) (.tmp 35) (.const (.bool false))), none⟩])
  (.cond (.tmp 36) (.seq (.reg [] [⟨some 37, some (.move (.tmp 6)), none⟩,
    ⟨some 38, some (.binOp .add T_int (.tmp 37) (.const (.int .i64 1)) T_int), none⟩,
    ⟨some 4, some (.assign (.tmp 38)), none⟩,
    ⟨some 5, some (.assign (.const (.bool true))), none⟩])
  .ret)
  .skip)))
  (.reg [] [⟨some 14, some (.move (.tmp 6)), none⟩,
    ⟨some 15, some (.binOp .add T_int (.tmp 14) (.const (.int .i64 1)) T_int), none⟩,
    ⟨some 6, some (.assign (.tmp 15)), none⟩])))
@[simp] theorem d_l_plait_plaitref3_Graph_Var_0 : defs l_plait_plaitref3_Graph_Var_0 = [7, 8, 9, 10, 11, 12, 13, 16, 17, 18, 19, 20, 21, 22, 23, 24, 25, 26, 27, 28, 29, 30, 31, 32, 33, 34, 35, 36, 37, 38, 4, 5, 14, 15, 6] := by rfl
def c_plait_plaitref3_Graph_Var : LCode := (.seq (.reg [] [⟨some 4, some (.assign (.const (.int .i64 0))), none⟩,
    ⟨some 5, some (.assign (.const (.bool false))), none⟩])
  (.seq (.seq (.reg [] [⟨some 6, some (.assign (.const (.int .i64 0))), none⟩])
  (.block 0 (.loop l_plait_plaitref3_Graph_Var_0)))
  (.seq (.reg [] [⟨some 4, some (.assign (.const (.int .i64 0))), none⟩,
    ⟨some 5, some (.assign (.const (.bool false))), none⟩])
  .ret)))
theorem e_plait_plaitref3_Graph_Var {a0 a1 : AV} {H : AHeap} : R f_plait_plaitref3_Graph_Var [a0, a1] H = fnK Go.Proofs.Try.prog [] H [(.tmp 4), (.tmp 5)] (evalL Go.Proofs.Try.prog KT R c_plait_plaitref3_Graph_Var (Env.args [a0, a1] 0) H) :=
  runs_body (D := DT) (f := f_plait_plaitref3_Graph_Var) Go.Proofs.Try.func68 (by kernel_rfl) (by kernel_rfl) (by kernel_rfl) (by kernel_rfl) (by kernel_rfl) (Nat.le_of_ble_eq_true rfl)

def l_plaitref3_Sort_0 : LCode := (.seq (.seq (.reg [] [⟨some 20, some (.move (.tmp 11)), none⟩,
    ⟨some 21, some (.move (.tmp 10)), none⟩,
    ⟨some 22, some (.binOp .lss T_int (.tmp 20) (.tmp 21) T_int), none⟩])
  (.cond (.tmp 22) .skip
  (.exit 0)))
  (.seq (.block 1 (.seq (.reg [] [⟨some 25, some (.move (.tmp 3)), none⟩,
    ⟨some 26, some (.move (.tmp 11)), none⟩,
    ⟨some 27, some (.indexAddr T_s_int (.tmp 25) (.tmp 26)), none⟩,
    ⟨some 28, some (.load T_int (.tmp 27)), none⟩,
    ⟨some 29, some (.call ⟨(.value (.func f_plaitref3_Is)), #[(.tmp 28)], #[T_int]⟩), none⟩,
    ⟨some 30, some (.unOp .not T_bool (.tmp 29)), none⟩])
  (.cond (.tmp 30) (.seq (.reg [] [⟨some 8, some (.assign (.const (.int .i64 0))), none⟩,
    ⟨some 9, some (.assign (.const (.int .i64 30))), none⟩])
  .ret)
  .skip)))
  (.reg [] [⟨some 23, some (.move (.tmp 11)), none⟩,
    ⟨some 24, some (.binOp .add T_int (.tmp 23) (.const (.int .i64 1)) T_int), none⟩,
    ⟨some 11, some (.assign (.tmp 24)), none⟩])))
@[simp] theorem d_l_plaitref3_Sort_0 : defs l_plaitref3_Sort_0 = [20, 21, 22, 25, 26, 27, 28, 29, 30, 8, 9, 23, 24, 11] := by rfl
def c_plaitref3_Sort : LCode := (.seq (.reg [] [⟨some 8, some (.assign (.const (.int .i64 0))), none⟩,
    ⟨some 9, some (.assign (.const (.int .i64 0))), none⟩])
  (.seq (.reg [] [⟨some 12, some (.move (.tmp 0)), none⟩,
    ⟨some 13, some (.call ⟨(.value (.func f_plaitref3_Arity)), #[(.tmp 12)], #[T_int]⟩), none⟩,
    ⟨some 10, some (.assign (.tmp 13)), none⟩])
  (.seq (.seq (.reg [] [⟨some 14, some (.move (.tmp 10)), none⟩,
    ⟨some 15, some (.binOp .lss T_int (.tmp 14) (.const (.int .i64 1)) T_int), none⟩])
  (.cond (.tmp 15) (.seq (.reg [] [⟨some 8, some (.assign (.const (.int .i64 0))), none⟩,
    ⟨some 9, some (.assign (.const (.int .i64 32))), none⟩])
  .ret)
  .skip))
  (.seq (.seq (.reg [] [⟨some 16, some (.move (.tmp 3)), none⟩,
    ⟨some 17, some (.call ⟨(.builtin .len), #[(.tmp 16)], #[T_s_int]⟩), none⟩,
    ⟨some 18, some (.move (.tmp 10)), none⟩,
    ⟨some 19, some (.binOp .neq T_int (.tmp 17) (.tmp 18) T_int), none⟩])
  (.cond (.tmp 19) (.seq (.reg [] [⟨some 8, some (.assign (.const (.int .i64 0))), none⟩,
    ⟨some 9, some (.assign (.const (.int .i64 30))), none⟩])
  .ret)
  .skip))
  (.seq (.seq (.reg [] [⟨some 11, some (.assign (.const (.int .i64 0))), none⟩])
  (.block 0 (.loop l_plaitref3_Sort_0)))
  (.seq (.seq (.reg [] [⟨some 31, some (.move (.tmp 0)), none⟩,
    ⟨some 32, some (.binOp .geq T_int (.tmp 31) (.const (.int .i64 39)) T_int), none⟩])
  (.cond (.tmp 32) (.seq (.reg [] [⟨some 33, some (.move (.tmp 0)), none⟩,
    ⟨some 34, some (.move (.tmp 1)), none⟩,
    ⟨some 35, some (.move (.tmp 2)), none⟩,
    ⟨some 36, some (.move (.tmp 3)), none⟩,
    ⟨some 37, some (.indexAddr T_s_int (.tmp 36) (.const (.int .i64 0))), none⟩,
    ⟨some 38, some (.load T_int (.tmp 37)), none⟩,
    ⟨some 39, some (.call ⟨(.value (.func f_plaitref3_numbered)), #[(.tmp 33), (.tmp 34), (.tmp 35), (.tmp 38)], #[T_int, T_int, T_int, T_int]⟩), none⟩,
    ⟨some 40, some (.extract (.tmp 39) 0), none⟩,
    ⟨some 41, some (.extract (.tmp 39) 1), none⟩,
    ⟨some 8, some (.assign (.tmp 40)), none⟩,
    ⟨some 9, some (.assign (.tmp 41)), none⟩])
  .ret)
  .skip))
  (.seq (.seq (.reg [] [⟨some 42, some (.move (.tmp 1)), none⟩,
    ⟨some 43, some (.binOp .neq T_int (.tmp 42) (.const (.int .i64 0)) T_int), none⟩,
    ⟨some 44, some (.move (.tmp 43)), none⟩,
    ⟨some 45, some (.move (.tmp 2)), some (some 44, false)⟩,
    ⟨some 46, some (.binOp .neq T_int (.tmp 45) (.const (.int .i64 0)) T_int), some (some 44, false)⟩,
    ⟨some 47, some (.pick (.tmp 44) (.const (.bool true)) (.tmp 46)), none⟩])
  (.cond (.tmp 47) (.seq (.reg [] [⟨some 8, some (.assign (.const (.int .i64 0))), none⟩,
    ⟨some 9, some (.assign (.const (.int .i64 30))), none⟩])
  .ret)
  .skip))
  (.seq (.block 2 (.seq (.reg [] [⟨some 49, some (.move (.tmp 0)), none⟩,
    ⟨some 50, some (.binOp .geq T_int (.tmp 49) (.const (.int .i64 3)) T_int), none⟩,
    ⟨some 51, some (.move (.tmp 50)), none⟩,
    ⟨some 52, some (.move (.tmp 0)), some (some 51, true)⟩,
    ⟨some 53, some (.binOp .leq T_int (.tmp 52) (.const (.int .i64 7)) T_int), some (some 51, true)⟩,
    ⟨some 54, some (.pick (.tmp 51) (.tmp 53) (.const (.bool false))), none⟩,
    ⟨some 48, some (.assign (.tmp 54)), none⟩])
  (.cond (.tmp 48) (.seq (.seq (.reg [] [⟨some 55, some (.move (.tmp 3)), none⟩,
    ⟨some 56, some (.call ⟨(.value (.func f_plaitref3_alike)), #[(.tmp 55)], #[T_s_int]⟩), none⟩,
    ⟨some 57, some (.unOp .not T_bool (.tmp 56)), none⟩,
    ⟨some 58, some (.move (.tmp 57)), none⟩,
    ⟨some 59, some (.move (.tmp 3)), some (some 58, false)⟩,
    ⟨some 60, some (.indexAddr T_s_int (.tmp 59) (.const (.int .i64 0))), some (some 58, false)⟩,
    ⟨some 61, some (.load T_int (.tmp 60)), some (some 58, false)⟩,
    ⟨some 62, some (.binOp .neq T_int (.tmp 61) (.const (.int .i64 0)) T_int), some (some 58, false)⟩,
    ⟨some 63, some (.pick (.tmp 58) (.const (.bool true)) (.tmp 62)), none⟩])
  (.cond (.tmp 63) (.seq (.reg [] [⟨some 8, some (.assign (.const (.int .i64 0))), none⟩,
    ⟨some 9, some (.assign (.const (.int .i64 30))), none⟩])
  .ret)
  .skip))
  (.seq (.reg [] [⟨some 8, some (.assign (.const (.int .i64 0))), none⟩,
    ⟨some 9, some (.assign (.const (.int .i64 0))), none⟩])
  .ret))
  (.seq (.reg [] [⟨some 65, some (.move (.tmp 0)), none⟩,
    ⟨some 66, some (.binOp .eql T_int (.tmp 65) (.const (.int .i64 8)) T_int), none⟩,
    ⟨some 64, some (.assign (.tmp 66)), none⟩])
  (.cond (.tmp 64) (.seq (.seq (.reg [] [⟨some 67, some (.move (.tmp 3)), none⟩,
    ⟨some 68, some (.call ⟨(.value (.func f_plaitref3_alike)), #[(.tmp 67)], #[T_s_int]⟩), none⟩,
    ⟨some 69, some (.unOp .not T_bool (.tmp 68)), none⟩])
  (.cond (.tmp 69) (.seq (.reg [] [⟨some 8, some (.assign (.const (.int .i64 0))), none⟩,
    ⟨some 9, some (.assign (.const (.int .i64 30))), none⟩])
  .ret)
  .skip))
  (.seq (.reg [] [⟨some 8, some (.assign (.const (.int .i64 0))), none⟩,
    ⟨some 9, some (.assign (.const (.int .i64 0))), none⟩])
  .ret))
  (.seq (.reg [] [⟨some 71, some (.move (.tmp 0)), none⟩,
    ⟨some 72, some (.binOp .eql T_int (.tmp 71) (.const (.int .i64 9)) T_int), none⟩,
    ⟨some 70, some (.assign (.tmp 72)), none⟩])
  (.cond (.tmp 70) (.seq (.seq (.reg [] [⟨some 73, some (.move (.tmp 3)), none⟩,
    ⟨some 74, some (.indexAddr T_s_int (.tmp 73) (.const (.int .i64 0))), none⟩,
    ⟨some 75, some (.load T_int (.tmp 74)), none⟩,
    ⟨some 76, some (.binOp .neq T_int (.tmp 75) (.const (.int .i64 0)) T_int), none⟩,
    ⟨some 77, some (.move (.tmp 76)), none⟩,
    ⟨some 78, some (.move (.tmp 3)), some (some 77, false)⟩,
    ⟨some 79, some (.indexAddr T_s_int (.tmp 78) (.const (.int .i64 1))), some (some 77, false)⟩,
    ⟨some 80, some (.load T_int (.tmp 79)), some (some 77, false)⟩,
    ⟨some 81, some (.move (.tmp 3)), some (some 77, false)⟩,
    ⟨some 82, some (.indexAddr T_s_int (.tmp 81) (.const (.int .i64 2))), some (some 77, false)⟩,
    ⟨some 83, some (.load T_int (.tmp 82)), some (some 77, false)⟩,
    ⟨some 84, some (.binOp .neq T_int (.tmp 80) (.tmp 83) T_int), some (some 77, false)⟩,
    ⟨some 85, some (.pick (.tmp 77) (.const (.bool true)) (.tmp 84)), none⟩])
  (.cond (.tmp 85) (.seq (.reg [] [⟨some 8, some (.assign (.const (.int .i64 0))), none⟩,
    ⟨some 9, some (.assign (.const (.int .i64 30))), none⟩])
  .ret)
  .skip))
  (.seq (.reg [] [⟨some 86, some (.move (.tmp 3)), none⟩,
    ⟨some 87, some (.indexAddr T_s_int (.tmp 86) (.const (.int .i64 1))), none⟩,
    ⟨some 88, some (.load T_int (.tmp 87)), none⟩,
    ⟨some 8, some (.assign (.tmp 88)), none⟩,
    ⟨some 9, some (.assign (.const (.int .i64 0))), none⟩])
  .ret))
  (.seq (.reg [] [⟨some 90, some (.move (.tmp 0)), none⟩,
    ⟨some 91, some (.binOp .eql T_int (.tmp 90) (.const (.int .i64 38)) T_int), none⟩,
    ⟨some 89, some (.assign (.tmp 91)), none⟩])
  (.cond (.tmp 89) (.seq (.seq (.reg [] [⟨some 92, some (.move (.tmp 3)), none⟩,
    ⟨some 93, some (.indexAddr T_s_int (.tmp 92) (.const (.int .i64 0))), none⟩,
    ⟨some 94, some (.load T_int (.tmp 93)), none⟩,
    ⟨some 95, some (.binOp .eql T_int (.tmp 94) (.const (.int .i64 0)) T_int), none⟩,
    ⟨some 96, some (.move (.tmp 95)), none⟩,
    ⟨some 97, some (.move (.tmp 3)), some (some 96, false)⟩,
    ⟨some 98, some (.indexAddr T_s_int (.tmp 97) (.const (.int .i64 1))), some (some 96, false)⟩,
    ⟨some 99, some (.load T_int (.tmp 98)), some (some 96, false)⟩,
    ⟨some 100, some (.binOp .eql T_int (.tmp 99) (.const (.int .i64 0)) T_int), some (some 96, false)⟩,
    ⟨some 101, some (.pick (.tmp 96) (.const (.bool true)) (.tmp 100)), none⟩])
  (.cond (.tmp 101) (.seq (.reg [] [⟨some 8, some (.assign (.const (.int .i64 0))), none⟩,
    ⟨some 9, some (.assign (.const (.int .i64 30))), none⟩])
  .ret)
  .skip))
  (.seq (.reg [] [⟨some 102, some (.move (.tmp 3)), none⟩,
    ⟨some 103, some (.indexAddr T_s_int (.tmp 102) (.const (.int .i64 0))), none⟩,
    ⟨some 104, some (.load T_int (.tmp 103)), none⟩,
    ⟨some 105, some (.move (.tmp 3)), none⟩,
    ⟨some 106, some (.indexAddr T_s_int (.tmp 105) (.const (.int .i64 1))), none⟩,
    ⟨some 107, some (.load T_int (.tmp 106)), none⟩,
    ⟨some 108, some (.binOp .add T_int (.tmp 104) (.tmp 107) T_int), none⟩,
    ⟨some 109, some (.call ⟨(.value (.func f_plaitref3_wide)), #[(.tmp 108)], #[T_int]⟩), none⟩,
    ⟨some 110, some (.extract (.tmp 109) 0), none⟩,
    ⟨some 111, some (.extract (.tmp 109) 1), none⟩,
    ⟨some 8, some (.assign (.tmp 110)), none⟩,
    ⟨some 9, some (.assign (.tmp 111)), none⟩])
  .ret))
  .skip)))))))))
  (.seq (.seq (.reg [] [⟨some 112, some (.move (.tmp 3)), none⟩,
    ⟨some 113, some (.call ⟨(.value (.func f_plaitref3_alike)), #[(.tmp 112)], #[T_s_int]⟩), none⟩,
    ⟨some 114, some (.unOp .not T_bool (.tmp 113)), none⟩,
    ⟨some 115, some (.move (.tmp 114)), none⟩,
    ⟨some 116, some (.move (.tmp 3)), some (some 115, false)⟩,
    ⟨some 117, some (.indexAddr T_s_int (.tmp 116) (.const (.int .i64 0))), some (some 115, false)⟩,
    ⟨some 118, some (.load T_int (.tmp 117)), some (some 115, false)⟩,
    ⟨some 119, some (.binOp .eql T_int (.tmp 118) (.const (.int .i64 0)) T_int), some (some 115, false)⟩,
    ⟨some 120, some (.pick (.tmp 115) (.const (.bool true)) (.tmp 119)), none⟩])
  (.cond (.tmp 120) (.seq (.reg [] [⟨some 8, some (.assign (.const (.int .i64 0))), none⟩,
    ⟨some 9, some (.assign (.const (.int .i64 30))), none⟩])
  .ret)
  .skip))
  (.seq (.seq (.reg [] [⟨some 121, some (.move (.tmp 0)), none⟩,
    ⟨some 122, some (.binOp .geq T_int (.tmp 121) (.const (.int .i64 10)) T_int), none⟩,
    ⟨some 123, some (.move (.tmp 122)), none⟩,
    ⟨some 124, some (.move (.tmp 0)), some (some 123, true)⟩,
    ⟨some 125, some (.binOp .leq T_int (.tmp 124) (.const (.int .i64 28)) T_int), some (some 123, true)⟩,
    ⟨some 126, some (.pick (.tmp 123) (.tmp 125) (.const (.bool false))), none⟩])
  (.cond (.tmp 126) (.seq (.reg [] [⟨some 127, some (.move (.tmp 3)), none⟩,
    ⟨some 128, some (.indexAddr T_s_int (.tmp 127) (.const (.int .i64 0))), none⟩,
    ⟨some 129, some (.load T_int (.tmp 128)), none⟩,
    ⟨some 8, some (.assign (.tmp 129)), none⟩,
    ⟨some 9, some (.assign (.const (.int .i64 0))), none⟩])
  .ret)
  .skip))
  (.seq (.seq (.reg [] [⟨some 130, some (.move (.tmp 0)), none⟩,
    ⟨some 131, some (.binOp .eql T_int (.tmp 130) (.const (.int .i64 37)) T_int), none⟩])
  (.cond (.tmp 131) (.seq (.reg [] [⟨some 8, some (.assign (.const (.int .i64 1))), none⟩,
    ⟨some 9, some (.assign (.const (.int .i64 0))), none⟩])
  .ret)
  .skip))
  (.seq (.reg [] [⟨some 8, some (.assign (.const (.int .i64 0))), none⟩,
    ⟨some 9, some (.assign (.const (.int .i64 0))), none⟩])
  .ret))))))))))))
theorem e_plaitref3_Sort {a0 a1 a2 a3 : AV} {H : AHeap} : R f_plaitref3_Sort [a0, a1, a2, a3] H = fnK Go.Proofs.Try.prog [] H [(.tmp 8), (.tmp 9)] (evalL Go.Proofs.Try.prog KT R c_plaitref3_Sort (Env.args [a0, a1, a2, a3] 0) H) :=
  runs_body (D := DT) (f := f_plaitref3_Sort) Go.Proofs.Try.func69 (by kernel_rfl) (by kernel_rfl) (by kernel_rfl) (by kernel_rfl) (by kernel_rfl) (Nat.le_of_ble_eq_true rfl)

def c_bv_mask : LCode := (.seq (.reg [] [⟨some 2, some (.alloc T_bv_number), none⟩])
  (.seq (.reg [] [⟨some 3, some (.build T_bv_number #[]), none⟩,
    ⟨some 4, some (.call ⟨(.value (.func f_plait_bv_number_not)), #[(.tmp 3)], #[T_bv_number]⟩), none⟩,
    ⟨some 5, some (.move (.tmp 0)), none⟩,
    ⟨some 6, some (.binOp .sub T_int (.const (.int .i64 128)) (.tmp 5) T_int), none⟩,
    ⟨some 7, some (.call ⟨(.value (.func f_plait_bv_number_right)), #[(.tmp 4), (.tmp 6)], #[T_bv_number, T_int]⟩), none⟩,
    ⟨none, some (.store T_bv_number (.tmp 2) (.tmp 7)), none⟩])
  .ret))
theorem e_bv_mask {a0 : AV} {H : AHeap} : R f_bv_mask [a0] H = fnK Go.Proofs.Try.prog [] H [(.cell 2 T_bv_number)] (evalL Go.Proofs.Try.prog KT R c_bv_mask (Env.args [a0] 0) H) :=
  runs_body (D := DT) (f := f_bv_mask) Go.Proofs.Try.func70 (by kernel_rfl) (by kernel_rfl) (by kernel_rfl) (by kernel_rfl) (by kernel_rfl) (Nat.le_of_ble_eq_true rfl)

def l_slices_IndexFunc_int_int_0 : LCode := (.seq (.reg [] [⟨some 9, some (.binOp .lss T_int (.tmp 8) (.tmp 7) T_int), none⟩])
  (.seq (.cond (.tmp 9) .skip
  (.exit 0))
  (.seq (.block 1 (.seq (.reg [] [⟨some 10, some (.move (.tmp 8)), none⟩,
    ⟨some 5, some (.assign (.tmp 10)), none⟩])
  (.seq (.reg [] [⟨some 11, some (.move (.tmp 1)), none⟩,
    ⟨some 12, some (.move (.tmp 0)), none⟩,
    ⟨some 13, some (.move (.tmp 5)), none⟩,
    ⟨some 14, some (.indexAddr T_s_int (.tmp 12) (.tmp 13)), none⟩,
    ⟨some 15, some (.load T_int (.tmp 14)), none⟩,
    ⟨some 16, some (.call ⟨(.value (.tmp 11)), #[(.tmp 15)], #[T_int]⟩), none⟩])
  (.cond (.tmp 16) (.seq (.reg [] [⟨some 17, some (.move (.tmp 5)), none⟩,
    ⟨some 4, some (.assign (.tmp 17)), none⟩])
  .ret)
  .skip))))
  (.reg [] [⟨some 18, some (.binOp .add T_int (.tmp 8) (.const (.int .i64 1)) T_int), none⟩,
    ⟨some 8, some (.move (.tmp 18)), none⟩]))))
@[simp] theorem d_l_slices_IndexFunc_int_int_0 : defs l_slices_IndexFunc_int_int_0 = [9, 10, 5, 11, 12, 13, 14, 15, 16, 17, 4, 18, 8] := by rfl
def c_slices_IndexFunc_int_int : LCode := (.seq (.reg [] [⟨some 4, some (.assign (.const (.int .i64 0))), none⟩])
  (.seq (.seq (.reg [] [⟨some 6, some (.move (.tmp 0)), none⟩,
    ⟨some 7, some (.call ⟨(.builtin .len), #[(.tmp 6)], #[T_s_int]⟩), none⟩,
    ⟨some 8, some (.move (.const (.int .i64 0))), none⟩])
  (.block 0 (.loop l_slices_IndexFunc_int_int_0)))
  (.seq (.reg [] [⟨some 4, some (.assign (.const (.int .i64 (-1)))), none⟩])
  .ret)))
theorem e_slices_IndexFunc_int_int {a0 a1 : AV} {H : AHeap} : R f_slices_IndexFunc_int_int [a0, a1] H = fnK Go.Proofs.Try.prog [] H [(.tmp 4)] (evalL Go.Proofs.Try.prog KT R c_slices_IndexFunc_int_int (Env.args [a0, a1] 0) H) :=
  runs_body (D := DT) (f := f_slices_IndexFunc_int_int) Go.Proofs.Try.func71 (by kernel_rfl) (by kernel_rfl) (by kernel_rfl) (by kernel_rfl) (by kernel_rfl) (Nat.le_of_ble_eq_true rfl)

def c_term_numbered : LCode := (.seq (.reg [] [⟨some 8, some (.assign (.const (.int .i64 0))), none⟩,
    ⟨some 9, some (.assign (.const (.bool false))), none⟩])
  (.seq (.seq (.reg [] [⟨some 10, some (.move (.tmp 0)), none⟩])
  (.block 0 (.seq (.reg [] [⟨some 12, some (.binOp .eql T_int (.tmp 10) (.const (.int .i64 39)) T_int), none⟩,
    ⟨some 11, some (.assign (.tmp 12)), none⟩])
  (.cond (.tmp 11) (.seq (.reg [] [⟨some 13, some (.move (.tmp 1)), none⟩,
    ⟨some 14, some (.move (.tmp 2)), none⟩,
    ⟨some 15, some (.binOp .sub T_int (.tmp 13) (.tmp 14) T_int), none⟩,
    ⟨some 16, some (.binOp .add T_int (.tmp 15) (.const (.int .i64 1)) T_int), none⟩,
    ⟨some 17, some (.move (.tmp 2)), none⟩,
    ⟨some 18, some (.binOp .geq T_int (.tmp 17) (.const (.int .i64 0)) T_int), none⟩,
    ⟨some 19, some (.move (.tmp 18)), none⟩,
    ⟨some 20, some (.move (.tmp 1)), some (some 19, true)⟩,
    ⟨some 21, some (.move (.tmp 2)), some (some 19, true)⟩,
    ⟨some 22, some (.binOp .geq T_int (.tmp 20) (.tmp 21) T_int), some (some 19, true)⟩,
    ⟨some 23, some (.pick (.tmp 19) (.tmp 22) (.const (.bool false))), none⟩,
    ⟨some 24, some (.move (.tmp 23)), none⟩,
    ⟨some 25, some (.move (.tmp 1)), some (some 24, true)⟩,
    ⟨some 26, some (.move (.tmp 3)), some (some 24, true)⟩,
    ⟨some 27, some (.binOp .lss T_int (.tmp 25) (.tmp 26) T_int), some (some 24, true)⟩,
    ⟨some 28, some (.pick (.tmp 24) (.tmp 27) (.const (.bool false))), none⟩,
    ⟨some 8, some (.assign (.tmp 16)), none⟩,
    ⟨some 9, some (.assign (.tmp 28)), none⟩])
  .ret)
  (.seq (.seq (.reg [] [⟨some 30, some (.binOp .eql T_int (.tmp 10) (.const (.int .i64 42)) T_int), none⟩,
    ⟨some 29, some (.assign (.tmp 30)), none⟩])
  (.cond (.tmp 29) .skip
  (.reg [] [⟨some 31, some (.binOp .eql T_int (.tmp 10) (.const (.int .i64 43)) T_int), none⟩,
    ⟨some 29, some (.assign (.tmp 31)), none⟩])))
  (.cond (.tmp 29) (.seq (.reg [] [⟨some 32, some (.move (.tmp 3)), none⟩,
    ⟨some 33, some (.move (.tmp 1)), none⟩,
    ⟨some 34, some (.binOp .geq T_int (.tmp 33) (.const (.int .i64 0)) T_int), none⟩,
    ⟨some 35, some (.move (.tmp 34)), none⟩,
    ⟨some 36, some (.move (.tmp 2)), some (some 35, true)⟩,
    ⟨some 37, some (.binOp .eql T_int (.tmp 36) (.const (.int .i64 0)) T_int), some (some 35, true)⟩,
    ⟨some 38, some (.pick (.tmp 35) (.tmp 37) (.const (.bool false))), none⟩,
    ⟨some 8, some (.assign (.tmp 32)), none⟩,
    ⟨some 9, some (.assign (.tmp 38)), none⟩])
  .ret)
  (.seq (.reg [] [⟨some 40, some (.binOp .eql T_int (.tmp 10) (.const (.int .i64 44)) T_int), none⟩,
    ⟨some 39, some (.assign (.tmp 40)), none⟩])
  (.cond (.tmp 39) (.seq (.reg [] [⟨some 41, some (.move (.tmp 3)), none⟩,
    ⟨some 42, some (.move (.tmp 1)), none⟩,
    ⟨some 43, some (.call ⟨(.builtin .min), #[(.tmp 42), (.const (.int .i64 129))], #[T_int, T_int]⟩), none⟩,
    ⟨some 44, some (.binOp .mul T_int (.tmp 41) (.tmp 43) T_int), none⟩,
    ⟨some 45, some (.move (.tmp 1)), none⟩,
    ⟨some 46, some (.binOp .geq T_int (.tmp 45) (.const (.int .i64 1)) T_int), none⟩,
    ⟨some 47, some (.move (.tmp 46)), none⟩,
    ⟨some 48, some (.move (.tmp 2)), some (some 47, true)⟩,
    ⟨some 49, some (.binOp .eql T_int (.tmp 48) (.const (.int .i64 0)) T_int), some (some 47, true)⟩,
    ⟨some 50, some (.pick (.tmp 47) (.tmp 49) (.const (.bool false))), none⟩,
    ⟨some 8, some (.assign (.tmp 44)), none⟩,
    ⟨some 9, some (.assign (.tmp 50)), none⟩])
  .ret)
  .skip))))))))
  (.seq (.reg [] [⟨some 51, some (.move (.tmp 3)), none⟩,
    ⟨some 52, some (.move (.tmp 1)), none⟩,
    ⟨some 53, some (.call ⟨(.builtin .max), #[(.tmp 52), (.const (.int .i64 0))], #[T_int, T_int]⟩), none⟩,
    ⟨some 54, some (.call ⟨(.builtin .min), #[(.tmp 53), (.const (.int .i64 128))], #[T_int, T_int]⟩), none⟩,
    ⟨some 55, some (.binOp .add T_int (.tmp 51) (.tmp 54) T_int), none⟩,
    ⟨some 56, some (.move (.tmp 1)), none⟩,
    ⟨some 57, some (.binOp .geq T_int (.tmp 56) (.const (.int .i64 0)) T_int), none⟩,
    ⟨some 58, some (.move (.tmp 57)), none⟩,
    ⟨some 59, some (.move (.tmp 2)), some (some 58, true)⟩,
    ⟨some 60, some (.binOp .eql T_int (.tmp 59) (.const (.int .i64 0)) T_int), some (some 58, true)⟩,
    ⟨some 61, some (.pick (.tmp 58) (.tmp 60) (.const (.bool false))), none⟩,
    ⟨some 8, some (.assign (.tmp 55)), none⟩,
    ⟨some 9, some (.assign (.tmp 61)), none⟩])
  .ret)))
theorem e_term_numbered {a0 a1 a2 a3 : AV} {H : AHeap} : R f_term_numbered [a0, a1, a2, a3] H = fnK Go.Proofs.Try.prog [] H [(.tmp 8), (.tmp 9)] (evalL Go.Proofs.Try.prog KT R c_term_numbered (Env.args [a0, a1, a2, a3] 0) H) :=
  runs_body (D := DT) (f := f_term_numbered) Go.Proofs.Try.func72 (by kernel_rfl) (by kernel_rfl) (by kernel_rfl) (by kernel_rfl) (by kernel_rfl) (Nat.le_of_ble_eq_true rfl)

def c_eval_logic_1 : LCode := (.seq (.reg [] [⟨some 7, some (.alloc T_api_Bits), none⟩,
    ⟨some 8, some (.assign (.const (.int .i64 0))), none⟩])
  (.seq (.reg [] [⟨some 9, some (.load T_x98 (.tmp 3)), none⟩,
    ⟨some 10, some (.move (.tmp 2)), none⟩,
    ⟨some 11, some (.call ⟨(.value (.tmp 9)), #[(.tmp 10)], #[T_s_api_Bits]⟩), none⟩,
    ⟨some 12, some (.call ⟨(.value (.func f_bv_Bool)), #[(.tmp 11)], #[T_bool]⟩), none⟩,
    ⟨none, some (.store T_api_Bits (.tmp 7) (.tmp 12)), none⟩,
    ⟨some 8, some (.assign (.const (.int .i64 0))), none⟩])
  .ret))
theorem e_eval_logic_1 {a0 a1 a2 a3 : AV} {H : AHeap} : R f_eval_logic_1 [a0, a1, a2, a3] H = fnK Go.Proofs.Try.prog [] H [(.cell 7 T_api_Bits), (.tmp 8)] (evalL Go.Proofs.Try.prog KT R c_eval_logic_1 (Env.args [a0, a1, a2, a3] 0) H) :=
  runs_body (D := DT) (f := f_eval_logic_1) Go.Proofs.Try.func73 (by kernel_rfl) (by kernel_rfl) (by kernel_rfl) (by kernel_rfl) (by kernel_rfl) (Nat.le_of_ble_eq_true rfl)

def c_bv_word : LCode := (.seq (.reg [] [⟨some 1, some (.box T_api_Bits (.tmp 0)), none⟩,
    ⟨some 2, some (.assign (.const (.bool false))), none⟩])
  (.seq (.reg [] [⟨some 3, some (.fieldAddr T_api_Bits (.tmp 1) 0), none⟩,
    ⟨some 4, some (.load T_int (.tmp 3)), none⟩,
    ⟨some 5, some (.binOp .neq T_int (.tmp 4) (.const (.int .i64 0)) T_int), none⟩,
    ⟨some 6, some (.move (.tmp 5)), none⟩,
    ⟨some 7, some (.load T_api_Bits (.tmp 1)), some (some 6, true)⟩,
    ⟨some 8, some (.call ⟨(.value (.func f_bv_Right)), #[(.tmp 7)], #[T_api_Bits]⟩), some (some 6, true)⟩,
    ⟨some 9, some (.pick (.tmp 6) (.tmp 8) (.const (.bool false))), none⟩,
    ⟨some 2, some (.assign (.tmp 9)), none⟩])
  .ret))
theorem e_bv_word {a0 : AV} {H : AHeap} : R f_bv_word [a0] H = fnK Go.Proofs.Try.prog [] H [(.tmp 2)] (evalL Go.Proofs.Try.prog KT R c_bv_word (Env.args [a0] 0) H) :=
  runs_body (D := DT) (f := f_bv_word) Go.Proofs.Try.func74 (by kernel_rfl) (by kernel_rfl) (by kernel_rfl) (by kernel_rfl) (by kernel_rfl) (Nat.le_of_ble_eq_true rfl)

def c_plait_bv_number_not : LCode := (.seq (.reg [] [⟨some 1, some (.box T_bv_number (.tmp 0)), none⟩,
    ⟨some 2, some (.alloc T_bv_number), none⟩])
  (.seq (.reg [] [⟨some 3, some (.fieldAddr T_bv_number (.tmp 1) 0), none⟩,
    ⟨some 4, some (.load T_uint64 (.tmp 3)), none⟩,
    ⟨some 5, some (.unOp .xor T_uint64 (.tmp 4)), none⟩,
    ⟨some 6, some (.fieldAddr T_bv_number (.tmp 1) 1), none⟩,
    ⟨some 7, some (.load T_uint64 (.tmp 6)), none⟩,
    ⟨some 8, some (.unOp .xor T_uint64 (.tmp 7)), none⟩,
    ⟨some 9, some (.build T_bv_number #[(0, (.tmp 5)), (1, (.tmp 8))]), none⟩,
    ⟨none, some (.store T_bv_number (.tmp 2) (.tmp 9)), none⟩])
  .ret))
theorem e_plait_bv_number_not {a0 : AV} {H : AHeap} : R f_plait_bv_number_not [a0] H = fnK Go.Proofs.Try.prog [] H [(.cell 2 T_bv_number)] (evalL Go.Proofs.Try.prog KT R c_plait_bv_number_not (Env.args [a0] 0) H) :=
  runs_body (D := DT) (f := f_plait_bv_number_not) Go.Proofs.Try.func75 (by kernel_rfl) (by kernel_rfl) (by kernel_rfl) (by kernel_rfl) (by kernel_rfl) (Nat.le_of_ble_eq_true rfl)

def c_plait_bv_number_neg : LCode := (.seq (.reg [] [⟨some 1, some (.box T_bv_number (.tmp 0)), none⟩,
    ⟨some 2, some (.alloc T_bv_number), none⟩])
  (.seq (.reg [] [⟨some 3, some (.load T_bv_number (.tmp 1)), none⟩,
    ⟨some 4, some (.call ⟨(.value (.func f_plait_bv_number_not)), #[(.tmp 3)], #[T_bv_number]⟩), none⟩,
    ⟨some 5, some (.build T_bv_number #[(0, (.const (.int .u64 1)))]), none⟩,
    ⟨some 6, some (.call ⟨(.value (.func f_plait_bv_number_add)), #[(.tmp 4), (.tmp 5)], #[T_bv_number, T_bv_number]⟩), none⟩,
    ⟨none, some (.store T_bv_number (.tmp 2) (.tmp 6)), none⟩])
  .ret))
theorem e_plait_bv_number_neg {a0 : AV} {H : AHeap} : R f_plait_bv_number_neg [a0] H = fnK Go.Proofs.Try.prog [] H [(.cell 2 T_bv_number)] (evalL Go.Proofs.Try.prog KT R c_plait_bv_number_neg (Env.args [a0] 0) H) :=
  runs_body (D := DT) (f := f_plait_bv_number_neg) Go.Proofs.Try.func76 (by kernel_rfl) (by kernel_rfl) (by kernel_rfl) (by kernel_rfl) (by kernel_rfl) (Nat.le_of_ble_eq_true rfl)

def c_plait_bv_number_left : LCode := (.seq (.reg [] [⟨some 2, some (.box T_bv_number (.tmp 0)), none⟩,
    ⟨some 4, some (.alloc T_bv_number), none⟩])
  (.seq (.seq (.reg [] [⟨some 5, some (.move (.tmp 1)), none⟩,
    ⟨some 6, some (.binOp .geq T_int (.tmp 5) (.const (.int .i64 64)) T_int), none⟩])
  (.cond (.tmp 6) (.seq (.reg [] [⟨some 7, some (.fieldAddr T_bv_number (.tmp 2) 0), none⟩,
    ⟨some 8, some (.load T_uint64 (.tmp 7)), none⟩,
    ⟨some 9, some (.move (.tmp 1)), none⟩,
    ⟨some 10, some (.binOp .sub T_int (.tmp 9) (.const (.int .i64 64)) T_int), none⟩,
    ⟨some 11, some (.convert T_int T_uint (.tmp 10)), none⟩,
    ⟨some 12, some (.binOp .shl T_uint64 (.tmp 8) (.tmp 11) T_uint), none⟩,
    ⟨some 13, some (.build T_bv_number #[(0, (.const (.int .u64 0))), (1, (.tmp 12))]), none⟩,
    ⟨none, some (.store T_bv_number (.tmp 4) (.tmp 13)), none⟩])
  .ret)
  .skip))
  (.seq (.reg [] [⟨some 14, some (.fieldAddr T_bv_number (.tmp 2) 0), none⟩,
    ⟨some 15, some (.load T_uint64 (.tmp 14)), none⟩,
    ⟨some 16, some (.move (.tmp 1)), none⟩,
    ⟨some 17, some (.convert T_int T_uint (.tmp 16)), none⟩,
    ⟨some 18, some (.binOp .shl T_uint64 (.tmp 15) (.tmp 17) T_uint), none⟩,
    ⟨some 19, some (.fieldAddr T_bv_number (.tmp 2) 1), none⟩,
    ⟨some 20, some (.load T_uint64 (.tmp 19)), none⟩,
    ⟨some 21, some (.move (.tmp 1)), none⟩,
    ⟨some 22, some (.convert T_int T_uint (.tmp 21)), none⟩,
    ⟨some 23, some (.binOp .shl T_uint64 (.tmp 20) (.tmp 22) T_uint), none⟩,
    ⟨some 24, some (.fieldAddr T_bv_number (.tmp 2) 0), none⟩,
    ⟨some 25, some (.load T_uint64 (.tmp 24)), none⟩,
    ⟨some 26, some (.move (.tmp 1)), none⟩,
    ⟨some 27, some (.binOp .sub T_int (.const (.int .i64 64)) (.tmp 26) T_int), none⟩,
    ⟨some 28, some (.convert T_int T_uint (.tmp 27)), none⟩,
    ⟨some 29, some (.binOp .shr T_uint64 (.tmp 25) (.tmp 28) T_uint), none⟩,
    ⟨some 30, some (.binOp .or T_uint64 (.tmp 23) (.tmp 29) T_uint64), none⟩,
    ⟨some 31, some (.build T_bv_number #[(0, (.tmp 18)), (1, (.tmp 30))]), none⟩,
    ⟨none, some (.store T_bv_number (.tmp 4) (.tmp 31)), none⟩])
  .ret)))
theorem e_plait_bv_number_left {a0 a1 : AV} {H : AHeap} : R f_plait_bv_number_left [a0, a1] H = fnK Go.Proofs.Try.prog [] H [(.cell 4 T_bv_number)] (evalL Go.Proofs.Try.prog KT R c_plait_bv_number_left (Env.args [a0, a1] 0) H) :=
  runs_body (D := DT) (f := f_plait_bv_number_left) Go.Proofs.Try.func77 (by kernel_rfl) (by kernel_rfl) (by kernel_rfl) (by kernel_rfl) (by kernel_rfl) (Nat.le_of_ble_eq_true rfl)

def c_plait_bv_number_right : LCode := (.seq (.reg [] [⟨some 2, some (.box T_bv_number (.tmp 0)), none⟩,
    ⟨some 4, some (.alloc T_bv_number), none⟩])
  (.seq (.seq (.reg [] [⟨some 5, some (.move (.tmp 1)), none⟩,
    ⟨some 6, some (.binOp .geq T_int (.tmp 5) (.const (.int .i64 64)) T_int), none⟩])
  (.cond (.tmp 6) (.seq (.reg [] [⟨some 7, some (.fieldAddr T_bv_number (.tmp 2) 1), none⟩,
    ⟨some 8, some (.load T_uint64 (.tmp 7)), none⟩,
    ⟨some 9, some (.move (.tmp 1)), none⟩,
    ⟨some 10, some (.binOp .sub T_int (.tmp 9) (.const (.int .i64 64)) T_int), none⟩,
    ⟨some 11, some (.convert T_int T_uint (.tmp 10)), none⟩,
    ⟨some 12, some (.binOp .shr T_uint64 (.tmp 8) (.tmp 11) T_uint), none⟩,
    ⟨some 13, some (.build T_bv_number #[(0, (.tmp 12)), (1, (.const (.int .u64 0)))]), none⟩,
    ⟨none, some (.store T_bv_number (.tmp 4) (.tmp 13)), none⟩])
  .ret)
  .skip))
  (.seq (.reg [] [⟨some 14, some (.fieldAddr T_bv_number (.tmp 2) 0), none⟩,
    ⟨some 15, some (.load T_uint64 (.tmp 14)), none⟩,
    ⟨some 16, some (.move (.tmp 1)), none⟩,
    ⟨some 17, some (.convert T_int T_uint (.tmp 16)), none⟩,
    ⟨some 18, some (.binOp .shr T_uint64 (.tmp 15) (.tmp 17) T_uint), none⟩,
    ⟨some 19, some (.fieldAddr T_bv_number (.tmp 2) 1), none⟩,
    ⟨some 20, some (.load T_uint64 (.tmp 19)), none⟩,
    ⟨some 21, some (.move (.tmp 1)), none⟩,
    ⟨some 22, some (.binOp .sub T_int (.const (.int .i64 64)) (.tmp 21) T_int), none⟩,
    ⟨some 23, some (.convert T_int T_uint (.tmp 22)), none⟩,
    ⟨some 24, some (.binOp .shl T_uint64 (.tmp 20) (.tmp 23) T_uint), none⟩,
    ⟨some 25, some (.binOp .or T_uint64 (.tmp 18) (.tmp 24) T_uint64), none⟩,
    ⟨some 26, some (.fieldAddr T_bv_number (.tmp 2) 1), none⟩,
    ⟨some 27, some (.load T_uint64 (.tmp 26)), none⟩,
    ⟨some 28, some (.move (.tmp 1)), none⟩,
    ⟨some 29, some (.convert T_int T_uint (.tmp 28)), none⟩,
    ⟨some 30, some (.binOp .shr T_uint64 (.tmp 27) (.tmp 29) T_uint), none⟩,
    ⟨some 31, some (.build T_bv_number #[(0, (.tmp 25)), (1, (.tmp 30))]), none⟩,
    ⟨none, some (.store T_bv_number (.tmp 4) (.tmp 31)), none⟩])
  .ret)))
theorem e_plait_bv_number_right {a0 a1 : AV} {H : AHeap} : R f_plait_bv_number_right [a0, a1] H = fnK Go.Proofs.Try.prog [] H [(.cell 4 T_bv_number)] (evalL Go.Proofs.Try.prog KT R c_plait_bv_number_right (Env.args [a0, a1] 0) H) :=
  runs_body (D := DT) (f := f_plait_bv_number_right) Go.Proofs.Try.func78 (by kernel_rfl) (by kernel_rfl) (by kernel_rfl) (by kernel_rfl) (by kernel_rfl) (Nat.le_of_ble_eq_true rfl)

def c_bv_below : LCode := (.seq (.reg [] [⟨some 1, some (.box T_api_Bits (.tmp 0)), none⟩,
    ⟨some 2, some (.assign (.const (.bool false))), none⟩])
  (.seq (.reg [1] [⟨some 3, some (.load T_api_Bits (.tmp 1)), none⟩,
    ⟨some 4, some (.call ⟨(.value (.func f_bv_of)), #[(.tmp 3)], #[T_api_Bits]⟩), none⟩,
    ⟨some 5, some (.fieldAddr T_api_Bits (.tmp 1) 0), none⟩,
    ⟨some 6, some (.load T_int (.tmp 5)), none⟩,
    ⟨some 7, some (.binOp .sub T_int (.tmp 6) (.const (.int .i64 1)) T_int), none⟩,
    ⟨some 8, some (.call ⟨(.value (.func f_plait_bv_number_bit)), #[(.tmp 4), (.tmp 7)], #[T_bv_number, T_int]⟩), none⟩,
    ⟨some 2, some (.assign (.tmp 8)), none⟩])
  .ret))
theorem e_bv_below {a0 : AV} {H : AHeap} : R f_bv_below [a0] H = fnK Go.Proofs.Try.prog [] H [(.tmp 2)] (evalL Go.Proofs.Try.prog KT R c_bv_below (Env.args [a0] 0) H) :=
  runs_body (D := DT) (f := f_bv_below) Go.Proofs.Try.func79 (by kernel_rfl) (by kernel_rfl) (by kernel_rfl) (by kernel_rfl) (by kernel_rfl) (Nat.le_of_ble_eq_true rfl)

def c_bv_bitwise : LCode := (.seq (.reg [] [⟨some 4, some (.box T_bv_number (.tmp 1)), none⟩,
    ⟨some 5, some (.box T_bv_number (.tmp 2)), none⟩,
    ⟨some 6, some (.alloc T_bv_number), none⟩])
  (.seq (.reg [] [⟨some 7, some (.assign (.const (.bool false))), none⟩])
  (.seq (.reg [] [⟨some 8, some (.alloc T_bv_number), none⟩])
  (.seq (.seq (.reg [] [⟨some 9, some (.move (.tmp 0)), none⟩])
  (.block 0 (.seq (.block 6 (.seq (.block 5 (.seq (.block 4 (.seq (.block 3 (.seq (.block 2 (.seq (.block 1 (.seq (.seq (.seq (.reg [] [⟨some 11, some (.binOp .eql T_int (.tmp 9) (.const (.int .i64 15)) T_int), none⟩,
    ⟨some 10, some (.assign (.tmp 11)), none⟩])
  (.cond (.tmp 10) (.exit 1)
  .skip))
  (.seq (.seq (.reg [] [⟨some 13, some (.binOp .eql T_int (.tmp 9) (.const (.int .i64 12)) T_int), none⟩,
    ⟨some 12, some (.assign (.tmp 13)), none⟩])
  (.cond (.tmp 12) (.exit 2)
  .skip))
  (.seq (.seq (.reg [] [⟨some 15, some (.binOp .eql T_int (.tmp 9) (.const (.int .i64 16)) T_int), none⟩,
    ⟨some 14, some (.assign (.tmp 15)), none⟩])
  (.cond (.tmp 14) (.exit 3)
  .skip))
  (.seq (.seq (.reg [] [⟨some 17, some (.binOp .eql T_int (.tmp 9) (.const (.int .i64 13)) T_int), none⟩,
    ⟨some 16, some (.assign (.tmp 17)), none⟩])
  (.cond (.tmp 16) (.exit 4)
  .skip))
  (.seq (.reg [] [⟨some 19, some (.binOp .eql T_int (.tmp 9) (.const (.int .i64 17)) T_int), none⟩,
    ⟨some 18, some (.assign (.tmp 19)), none⟩])
  (.cond (.tmp 18) (.exit 5)
  .skip))))))
  (.exit 6)))
  (.reg [] [⟨some 7, some (.assign (.const (.bool true))), none⟩])))
  (.seq (.reg [] [⟨some 20, some (.fieldAddr T_bv_number (.tmp 4) 0), none⟩,
    ⟨some 21, some (.load T_uint64 (.tmp 20)), none⟩,
    ⟨some 22, some (.fieldAddr T_bv_number (.tmp 5) 0), none⟩,
    ⟨some 23, some (.load T_uint64 (.tmp 22)), none⟩,
    ⟨some 24, some (.binOp .and T_uint64 (.tmp 21) (.tmp 23) T_uint64), none⟩,
    ⟨some 25, some (.fieldAddr T_bv_number (.tmp 4) 1), none⟩,
    ⟨some 26, some (.load T_uint64 (.tmp 25)), none⟩,
    ⟨some 27, some (.fieldAddr T_bv_number (.tmp 5) 1), none⟩,
    ⟨some 28, some (.load T_uint64 (.tmp 27)), none⟩,
    ⟨some 29, some (.binOp .and T_uint64 (.tmp 26) (.tmp 28) T_uint64), none⟩,
    ⟨some 30, some (.build T_bv_number #[(0, (.tmp 24)), (1, (.tmp 29))]), none⟩,
    ⟨none, some (.store T_bv_number (.tmp 8) (.tmp 30)), none⟩])
  (.exit 0))))
  (.reg [] [⟨some 7, some (.assign (.const (.bool true))), none⟩])))
  (.seq (.reg [] [⟨some 31, some (.fieldAddr T_bv_number (.tmp 4) 0), none⟩,
    ⟨some 32, some (.load T_uint64 (.tmp 31)), none⟩,
    ⟨some 33, some (.fieldAddr T_bv_number (.tmp 5) 0), none⟩,
    ⟨some 34, some (.load T_uint64 (.tmp 33)), none⟩,
    ⟨some 35, some (.binOp .or T_uint64 (.tmp 32) (.tmp 34) T_uint64), none⟩,
    ⟨some 36, some (.fieldAddr T_bv_number (.tmp 4) 1), none⟩,
    ⟨some 37, some (.load T_uint64 (.tmp 36)), none⟩,
    ⟨some 38, some (.fieldAddr T_bv_number (.tmp 5) 1), none⟩,
    ⟨some 39, some (.load T_uint64 (.tmp 38)), none⟩,
    ⟨some 40, some (.binOp .or T_uint64 (.tmp 37) (.tmp 39) T_uint64), none⟩,
    ⟨some 41, some (.build T_bv_number #[(0, (.tmp 35)), (1, (.tmp 40))]), none⟩,
    ⟨none, some (.store T_bv_number (.tmp 8) (.tmp 41)), none⟩])
  (.exit 0))))
  (.reg [] [⟨some 7, some (.assign (.const (.bool true))), none⟩])))
  (.seq (.reg [] [⟨some 42, some (.fieldAddr T_bv_number (.tmp 4) 0), none⟩,
    ⟨some 43, some (.load T_uint64 (.tmp 42)), none⟩,
    ⟨some 44, some (.fieldAddr T_bv_number (.tmp 5) 0), none⟩,
    ⟨some 45, some (.load T_uint64 (.tmp 44)), none⟩,
    ⟨some 46, some (.binOp .xor T_uint64 (.tmp 43) (.tmp 45) T_uint64), none⟩,
    ⟨some 47, some (.fieldAddr T_bv_number (.tmp 4) 1), none⟩,
    ⟨some 48, some (.load T_uint64 (.tmp 47)), none⟩,
    ⟨some 49, some (.fieldAddr T_bv_number (.tmp 5) 1), none⟩,
    ⟨some 50, some (.load T_uint64 (.tmp 49)), none⟩,
    ⟨some 51, some (.binOp .xor T_uint64 (.tmp 48) (.tmp 50) T_uint64), none⟩,
    ⟨some 52, some (.build T_bv_number #[(0, (.tmp 46)), (1, (.tmp 51))]), none⟩,
    ⟨none, some (.store T_bv_number (.tmp 8) (.tmp 52)), none⟩])
  (.exit 0)))))
  (.seq (.seq (.reg [] [⟨some 53, some (.move (.tmp 7)), none⟩])
  (.cond (.tmp 53) (.seq (.reg [] [⟨some 54, some (.load T_bv_number (.tmp 8)), none⟩,
    ⟨some 55, some (.call ⟨(.value (.func f_plait_bv_number_not)), #[(.tmp 54)], #[T_bv_number]⟩), none⟩,
    ⟨none, some (.store T_bv_number (.tmp 6) (.tmp 55)), none⟩])
  .ret)
  .skip))
  (.seq (.reg [] [⟨some 56, some (.load T_bv_number (.tmp 8)), none⟩,
    ⟨none, some (.store T_bv_number (.tmp 6) (.tmp 56)), none⟩])
  .ret))))))
theorem e_bv_bitwise {a0 a1 a2 : AV} {H : AHeap} : R f_bv_bitwise [a0, a1, a2] H = fnK Go.Proofs.Try.prog [] H [(.cell 6 T_bv_number)] (evalL Go.Proofs.Try.prog KT R c_bv_bitwise (Env.args [a0, a1, a2] 0) H) :=
  runs_body (D := DT) (f := f_bv_bitwise) Go.Proofs.Try.func80 (by kernel_rfl) (by kernel_rfl) (by kernel_rfl) (by kernel_rfl) (by kernel_rfl) (Nat.le_of_ble_eq_true rfl)

def c_bv_reckoned : LCode := (.seq (.reg [] [⟨some 4, some (.box T_api_Bits (.tmp 1)), none⟩,
    ⟨some 5, some (.box T_api_Bits (.tmp 2)), none⟩,
    ⟨some 6, some (.alloc T_bv_number), none⟩])
  (.seq (.reg [1, 4, 5] [⟨some 17, some (.load T_api_Bits (.tmp 4)), none⟩,
    ⟨some 18, some (.call ⟨(.value (.func f_bv_of)), #[(.tmp 17)], #[T_api_Bits]⟩), none⟩,
    ⟨some 19, some (.load T_api_Bits (.tmp 5)), none⟩,
    ⟨some 20, some (.call ⟨(.value (.func f_bv_of)), #[(.tmp 19)], #[T_api_Bits]⟩), none⟩,
    ⟨some 7, some (.alloc T_bv_number), none⟩,
    ⟨some 8, some (.alloc T_bv_number), none⟩,
    ⟨none, some (.store T_bv_number (.tmp 7) (.tmp 18)), none⟩,
    ⟨none, some (.store T_bv_number (.tmp 8) (.tmp 20)), none⟩])
  (.seq (.seq (.reg [] [⟨some 21, some (.move (.tmp 0)), none⟩])
  (.block 0 (.seq (.reg [] [⟨some 23, some (.binOp .eql T_int (.tmp 21) (.const (.int .i64 18)) T_int), none⟩,
    ⟨some 22, some (.assign (.tmp 23)), none⟩])
  (.cond (.tmp 22) (.seq (.reg [] [⟨some 24, some (.load T_bv_number (.tmp 7)), none⟩,
    ⟨some 25, some (.load T_bv_number (.tmp 8)), none⟩,
    ⟨some 26, some (.call ⟨(.value (.func f_plait_bv_number_add)), #[(.tmp 24), (.tmp 25)], #[T_bv_number, T_bv_number]⟩), none⟩,
    ⟨none, some (.store T_bv_number (.tmp 6) (.tmp 26)), none⟩])
  .ret)
  (.seq (.reg [] [⟨some 28, some (.binOp .eql T_int (.tmp 21) (.const (.int .i64 19)) T_int), none⟩,
    ⟨some 27, some (.assign (.tmp 28)), none⟩])
  (.cond (.tmp 27) (.seq (.reg [] [⟨some 29, some (.load T_bv_number (.tmp 7)), none⟩,
    ⟨some 30, some (.load T_bv_number (.tmp 8)), none⟩,
    ⟨some 31, some (.call ⟨(.value (.func f_plait_bv_number_sub)), #[(.tmp 29), (.tmp 30)], #[T_bv_number, T_bv_number]⟩), none⟩,
    ⟨none, some (.store T_bv_number (.tmp 6) (.tmp 31)), none⟩])
  .ret)
  (.seq (.reg [] [⟨some 33, some (.binOp .eql T_int (.tmp 21) (.const (.int .i64 20)) T_int), none⟩,
    ⟨some 32, some (.assign (.tmp 33)), none⟩])
  (.cond (.tmp 32) (.seq (.reg [] [⟨some 34, some (.load T_bv_number (.tmp 7)), none⟩,
    ⟨some 35, some (.load T_bv_number (.tmp 8)), none⟩,
    ⟨some 36, some (.call ⟨(.value (.func f_plait_bv_number_mul)), #[(.tmp 34), (.tmp 35)], #[T_bv_number, T_bv_number]⟩), none⟩,
    ⟨none, some (.store T_bv_number (.tmp 6) (.tmp 36)), none⟩])
  .ret)
  (.seq (.reg [] [⟨some 38, some (.binOp .eql T_int (.tmp 21) (.const (.int .i64 21)) T_int), none⟩,
    ⟨some 37, some (.assign (.tmp 38)), none⟩])
  (.cond (.tmp 37) (.seq (.reg [] [⟨some 40, some (.fieldAddr T_api_Bits (.tmp 4) 0), none⟩,
    ⟨some 41, some (.load T_int (.tmp 40)), none⟩,
    ⟨some 42, some (.load T_bv_number (.tmp 7)), none⟩,
    ⟨some 43, some (.load T_bv_number (.tmp 8)), none⟩,
    ⟨some 44, some (.call ⟨(.value (.func f_bv_divided)), #[(.tmp 41), (.tmp 42), (.tmp 43)], #[T_int, T_bv_number, T_bv_number]⟩), none⟩,
    ⟨some 39, some (.move (.tmp 44)), none⟩,
    ⟨some 45, some (.extract (.tmp 39) 0), none⟩,
    ⟨some 46, some (.extract (.tmp 39) 1), none⟩,
    ⟨some 9, some (.alloc T_bv_number), none⟩,
    ⟨some 10, some (.alloc T_bv_number), none⟩,
    ⟨none, some (.store T_bv_number (.tmp 9) (.tmp 45)), none⟩,
    ⟨none, some (.store T_bv_number (.tmp 10) (.tmp 46)), none⟩])
  (.seq (.reg [] [⟨some 47, some (.load T_bv_number (.tmp 9)), none⟩,
    ⟨none, some (.store T_bv_number (.tmp 6) (.tmp 47)), none⟩])
  .ret))
  (.seq (.reg [] [⟨some 49, some (.binOp .eql T_int (.tmp 21) (.const (.int .i64 22)) T_int), none⟩,
    ⟨some 48, some (.assign (.tmp 49)), none⟩])
  (.cond (.tmp 48) (.seq (.reg [] [⟨some 51, some (.fieldAddr T_api_Bits (.tmp 4) 0), none⟩,
    ⟨some 52, some (.load T_int (.tmp 51)), none⟩,
    ⟨some 53, some (.load T_bv_number (.tmp 7)), none⟩,
    ⟨some 54, some (.load T_bv_number (.tmp 8)), none⟩,
    ⟨some 55, some (.call ⟨(.value (.func f_bv_divided)), #[(.tmp 52), (.tmp 53), (.tmp 54)], #[T_int, T_bv_number, T_bv_number]⟩), none⟩,
    ⟨some 50, some (.move (.tmp 55)), none⟩,
    ⟨some 56, some (.extract (.tmp 50) 0), none⟩,
    ⟨some 57, some (.extract (.tmp 50) 1), none⟩,
    ⟨some 11, some (.alloc T_bv_number), none⟩,
    ⟨some 12, some (.alloc T_bv_number), none⟩,
    ⟨none, some (.store T_bv_number (.tmp 11) (.tmp 56)), none⟩,
    ⟨none, some (.store T_bv_number (.tmp 12) (.tmp 57)), none⟩])
  (.seq (.reg [] [⟨some 58, some (.load T_bv_number (.tmp 12)), none⟩,
    ⟨none, some (.store T_bv_number (.tmp 6) (.tmp 58)), none⟩])
  .ret))
  (.seq (.reg [] [⟨some 60, some (.binOp .eql T_int (.tmp 21) (.const (.int .i64 23)) T_int), none⟩,
    ⟨some 59, some (.assign (.tmp 60)), none⟩])
  (.cond (.tmp 59) (.seq (.reg [3, 5, 10, 11] [⟨some 62, some (.fieldAddr T_api_Bits (.tmp 4) 0), none⟩,
    ⟨some 63, some (.load T_int (.tmp 62)), none⟩,
    ⟨some 64, some (.load T_api_Bits (.tmp 4)), none⟩,
    ⟨some 65, some (.call ⟨(.value (.func f_bv_size)), #[(.tmp 64)], #[T_api_Bits]⟩), none⟩,
    ⟨some 66, some (.load T_api_Bits (.tmp 5)), none⟩,
    ⟨some 67, some (.call ⟨(.value (.func f_bv_size)), #[(.tmp 66)], #[T_api_Bits]⟩), none⟩,
    ⟨some 68, some (.call ⟨(.value (.func f_bv_divided)), #[(.tmp 63), (.tmp 65), (.tmp 67)], #[T_int, T_bv_number, T_bv_number]⟩), none⟩,
    ⟨some 61, some (.move (.tmp 68)), none⟩,
    ⟨some 69, some (.extract (.tmp 61) 0), none⟩,
    ⟨some 70, some (.extract (.tmp 61) 1), none⟩,
    ⟨some 13, some (.alloc T_bv_number), none⟩,
    ⟨some 14, some (.alloc T_bv_number), none⟩,
    ⟨none, some (.store T_bv_number (.tmp 13) (.tmp 69)), none⟩,
    ⟨none, some (.store T_bv_number (.tmp 14) (.tmp 70)), none⟩])
  (.seq (.reg [1, 3] [⟨some 71, some (.load T_api_Bits (.tmp 4)), none⟩,
    ⟨some 72, some (.call ⟨(.value (.func f_bv_below)), #[(.tmp 71)], #[T_api_Bits]⟩), none⟩,
    ⟨some 73, some (.load T_api_Bits (.tmp 5)), none⟩,
    ⟨some 74, some (.call ⟨(.value (.func f_bv_below)), #[(.tmp 73)], #[T_api_Bits]⟩), none⟩,
    ⟨some 75, some (.binOp .neq T_bool (.tmp 72) (.tmp 74) T_bool), none⟩,
    ⟨some 76, some (.load T_bv_number (.tmp 13)), none⟩,
    ⟨some 77, some (.call ⟨(.value (.func f_bv_turnedIf)), #[(.tmp 75), (.tmp 76)], #[T_bool, T_bv_number]⟩), none⟩,
    ⟨none, some (.store T_bv_number (.tmp 6) (.tmp 77)), none⟩])
  .ret))
  (.seq (.reg [] [⟨some 79, some (.binOp .eql T_int (.tmp 21) (.const (.int .i64 24)) T_int), none⟩,
    ⟨some 78, some (.assign (.tmp 79)), none⟩])
  (.cond (.tmp 78) (.seq (.reg [3, 5, 10, 11] [⟨some 81, some (.fieldAddr T_api_Bits (.tmp 4) 0), none⟩,
    ⟨some 82, some (.load T_int (.tmp 81)), none⟩,
    ⟨some 83, some (.load T_api_Bits (.tmp 4)), none⟩,
    ⟨some 84, some (.call ⟨(.value (.func f_bv_size)), #[(.tmp 83)], #[T_api_Bits]⟩), none⟩,
    ⟨some 85, some (.load T_api_Bits (.tmp 5)), none⟩,
    ⟨some 86, some (.call ⟨(.value (.func f_bv_size)), #[(.tmp 85)], #[T_api_Bits]⟩), none⟩,
    ⟨some 87, some (.call ⟨(.value (.func f_bv_divided)), #[(.tmp 82), (.tmp 84), (.tmp 86)], #[T_int, T_bv_number, T_bv_number]⟩), none⟩,
    ⟨some 80, some (.move (.tmp 87)), none⟩,
    ⟨some 88, some (.extract (.tmp 80) 0), none⟩,
    ⟨some 89, some (.extract (.tmp 80) 1), none⟩,
    ⟨some 15, some (.alloc T_bv_number), none⟩,
    ⟨some 16, some (.alloc T_bv_number), none⟩,
    ⟨none, some (.store T_bv_number (.tmp 15) (.tmp 88)), none⟩,
    ⟨none, some (.store T_bv_number (.tmp 16) (.tmp 89)), none⟩])
  (.seq (.reg [1] [⟨some 90, some (.load T_api_Bits (.tmp 4)), none⟩,
    ⟨some 91, some (.call ⟨(.value (.func f_bv_below)), #[(.tmp 90)], #[T_api_Bits]⟩), none⟩,
    ⟨some 92, some (.load T_bv_number (.tmp 16)), none⟩,
    ⟨some 93, some (.call ⟨(.value (.func f_bv_turnedIf)), #[(.tmp 91), (.tmp 92)], #[T_bool, T_bv_number]⟩), none⟩,
    ⟨none, some (.store T_bv_number (.tmp 6) (.tmp 93)), none⟩])
  .ret))
  .skip))))))))))))))))
  (.seq (.reg [] [⟨some 94, some (.load T_api_Bits (.tmp 4)), none⟩,
    ⟨some 95, some (.load T_api_Bits (.tmp 5)), none⟩,
    ⟨some 96, some (.call ⟨(.value (.func f_bv_smod)), #[(.tmp 94), (.tmp 95)], #[T_api_Bits, T_api_Bits]⟩), none⟩,
    ⟨none, some (.store T_bv_number (.tmp 6) (.tmp 96)), none⟩])
  .ret))))
theorem e_bv_reckoned {a0 a1 a2 : AV} {H : AHeap} : R f_bv_reckoned [a0, a1, a2] H = fnK Go.Proofs.Try.prog [] H [(.cell 6 T_bv_number)] (evalL Go.Proofs.Try.prog KT R c_bv_reckoned (Env.args [a0, a1, a2] 0) H) :=
  runs_body (D := DT) (f := f_bv_reckoned) Go.Proofs.Try.func81 (by kernel_rfl) (by kernel_rfl) (by kernel_rfl) (by kernel_rfl) (by kernel_rfl) (Nat.le_of_ble_eq_true rfl)

def c_bv_shifted : LCode := (.seq (.reg [] [⟨some 4, some (.box T_api_Bits (.tmp 1)), none⟩,
    ⟨some 5, some (.box T_api_Bits (.tmp 2)), none⟩,
    ⟨some 6, some (.alloc T_bv_number), none⟩])
  (.seq (.reg [] [⟨some 10, some (.fieldAddr T_api_Bits (.tmp 4) 0), none⟩,
    ⟨some 11, some (.load T_int (.tmp 10)), none⟩,
    ⟨some 7, some (.assign (.tmp 11)), none⟩])
  (.seq (.seq (.reg [] [⟨some 12, some (.fieldAddr T_api_Bits (.tmp 5) 2), none⟩,
    ⟨some 13, some (.load T_uint64 (.tmp 12)), none⟩,
    ⟨some 14, some (.binOp .eql T_uint64 (.tmp 13) (.const (.int .u64 0)) T_uint64), none⟩,
    ⟨some 15, some (.move (.tmp 14)), none⟩,
    ⟨some 16, some (.fieldAddr T_api_Bits (.tmp 5) 1), some (some 15, true)⟩,
    ⟨some 17, some (.load T_uint64 (.tmp 16)), some (some 15, true)⟩,
    ⟨some 18, some (.fieldAddr T_api_Bits (.tmp 4) 0), some (some 15, true)⟩,
    ⟨some 19, some (.load T_int (.tmp 18)), some (some 15, true)⟩,
    ⟨some 20, some (.convert T_int T_uint64 (.tmp 19)), some (some 15, true)⟩,
    ⟨some 21, some (.binOp .lss T_uint64 (.tmp 17) (.tmp 20) T_uint64), some (some 15, true)⟩,
    ⟨some 22, some (.pick (.tmp 15) (.tmp 21) (.const (.bool false))), none⟩])
  (.cond (.tmp 22) (.reg [] [⟨some 23, some (.fieldAddr T_api_Bits (.tmp 5) 1), none⟩,
    ⟨some 24, some (.load T_uint64 (.tmp 23)), none⟩,
    ⟨some 25, some (.convert T_uint64 T_int (.tmp 24)), none⟩,
    ⟨some 7, some (.assign (.tmp 25)), none⟩])
  .skip))
  (.seq (.seq (.reg [] [⟨some 26, some (.move (.tmp 0)), none⟩,
    ⟨some 27, some (.binOp .eql T_int (.tmp 26) (.const (.int .i64 26)) T_int), none⟩])
  (.cond (.tmp 27) (.seq (.reg [] [⟨some 28, some (.load T_api_Bits (.tmp 4)), none⟩,
    ⟨some 29, some (.call ⟨(.value (.func f_bv_of)), #[(.tmp 28)], #[T_api_Bits]⟩), none⟩,
    ⟨some 30, some (.move (.tmp 7)), none⟩,
    ⟨some 31, some (.call ⟨(.value (.func f_plait_bv_number_left)), #[(.tmp 29), (.tmp 30)], #[T_bv_number, T_int]⟩), none⟩,
    ⟨none, some (.store T_bv_number (.tmp 6) (.tmp 31)), none⟩])
  .ret)
  .skip))
  (.seq (.reg [] [⟨some 32, some (.load T_api_Bits (.tmp 4)), none⟩,
    ⟨some 33, some (.call ⟨(.value (.func f_bv_of)), #[(.tmp 32)], #[T_api_Bits]⟩), none⟩,
    ⟨some 34, some (.move (.tmp 7)), none⟩,
    ⟨some 35, some (.call ⟨(.value (.func f_plait_bv_number_right)), #[(.tmp 33), (.tmp 34)], #[T_bv_number, T_int]⟩), none⟩,
    ⟨some 8, some (.alloc T_bv_number), none⟩,
    ⟨none, some (.store T_bv_number (.tmp 8) (.tmp 35)), none⟩])
  (.seq (.seq (.reg [] [⟨some 36, some (.move (.tmp 0)), none⟩,
    ⟨some 37, some (.binOp .eql T_int (.tmp 36) (.const (.int .i64 28)) T_int), none⟩,
    ⟨some 38, some (.move (.tmp 37)), none⟩,
    ⟨some 39, some (.load T_api_Bits (.tmp 4)), some (some 38, true)⟩,
    ⟨some 40, some (.call ⟨(.value (.func f_bv_below)), #[(.tmp 39)], #[T_api_Bits]⟩), some (some 38, true)⟩,
    ⟨some 41, some (.pick (.tmp 38) (.tmp 40) (.const (.bool false))), none⟩])
  (.cond (.tmp 41) (.seq (.reg [] [⟨some 42, some (.fieldAddr T_api_Bits (.tmp 4) 0), none⟩,
    ⟨some 43, some (.load T_int (.tmp 42)), none⟩,
    ⟨some 44, some (.call ⟨(.value (.func f_bv_mask)), #[(.tmp 43)], #[T_int]⟩), none⟩,
    ⟨some 45, some (.move (.tmp 7)), none⟩,
    ⟨some 46, some (.call ⟨(.value (.func f_plait_bv_number_right)), #[(.tmp 44), (.tmp 45)], #[T_bv_number, T_int]⟩), none⟩,
    ⟨some 47, some (.call ⟨(.value (.func f_plait_bv_number_not)), #[(.tmp 46)], #[T_bv_number]⟩), none⟩,
    ⟨some 9, some (.alloc T_bv_number), none⟩,
    ⟨none, some (.store T_bv_number (.tmp 9) (.tmp 47)), none⟩])
  (.reg [] [⟨some 48, some (.fieldAddr T_bv_number (.tmp 8) 0), none⟩,
    ⟨some 49, some (.load T_uint64 (.tmp 48)), none⟩,
    ⟨some 50, some (.fieldAddr T_bv_number (.tmp 9) 0), none⟩,
    ⟨some 51, some (.load T_uint64 (.tmp 50)), none⟩,
    ⟨some 52, some (.binOp .or T_uint64 (.tmp 49) (.tmp 51) T_uint64), none⟩,
    ⟨some 53, some (.fieldAddr T_bv_number (.tmp 8) 1), none⟩,
    ⟨some 54, some (.load T_uint64 (.tmp 53)), none⟩,
    ⟨some 55, some (.fieldAddr T_bv_number (.tmp 9) 1), none⟩,
    ⟨some 56, some (.load T_uint64 (.tmp 55)), none⟩,
    ⟨some 57, some (.binOp .or T_uint64 (.tmp 54) (.tmp 56) T_uint64), none⟩,
    ⟨some 58, some (.build T_bv_number #[(0, (.tmp 52)), (1, (.tmp 57))]), none⟩,
    ⟨none, some (.store T_bv_number (.tmp 8) (.tmp 58)), none⟩]))
  .skip))
  (.seq (.reg [] [⟨some 59, some (.load T_bv_number (.tmp 8)), none⟩,
    ⟨none, some (.store T_bv_number (.tmp 6) (.tmp 59)), none⟩])
  .ret)))))))
theorem e_bv_shifted {a0 a1 a2 : AV} {H : AHeap} : R f_bv_shifted [a0, a1, a2] H = fnK Go.Proofs.Try.prog [] H [(.cell 6 T_bv_number)] (evalL Go.Proofs.Try.prog KT R c_bv_shifted (Env.args [a0, a1, a2] 0) H) :=
  runs_body (D := DT) (f := f_bv_shifted) Go.Proofs.Try.func82 (by kernel_rfl) (by kernel_rfl) (by kernel_rfl) (by kernel_rfl) (by kernel_rfl) (Nat.le_of_ble_eq_true rfl)

def c_bv_compared : LCode := (.seq (.reg [] [⟨some 4, some (.box T_api_Bits (.tmp 1)), none⟩,
    ⟨some 5, some (.box T_api_Bits (.tmp 2)), none⟩,
    ⟨some 6, some (.assign (.const (.bool false))), none⟩])
  (.seq (.reg [1, 4, 5] [⟨some 10, some (.load T_api_Bits (.tmp 4)), none⟩,
    ⟨some 11, some (.call ⟨(.value (.func f_bv_of)), #[(.tmp 10)], #[T_api_Bits]⟩), none⟩,
    ⟨some 12, some (.load T_api_Bits (.tmp 5)), none⟩,
    ⟨some 13, some (.call ⟨(.value (.func f_bv_of)), #[(.tmp 12)], #[T_api_Bits]⟩), none⟩,
    ⟨some 7, some (.alloc T_bv_number), none⟩,
    ⟨some 8, some (.alloc T_bv_number), none⟩,
    ⟨none, some (.store T_bv_number (.tmp 7) (.tmp 11)), none⟩,
    ⟨none, some (.store T_bv_number (.tmp 8) (.tmp 13)), none⟩])
  (.seq (.seq (.reg [] [⟨some 14, some (.move (.tmp 0)), none⟩])
  (.block 0 (.seq (.seq (.reg [] [⟨some 16, some (.binOp .eql T_int (.tmp 14) (.const (.int .i64 33)) T_int), none⟩,
    ⟨some 15, some (.assign (.tmp 16)), none⟩])
  (.cond (.tmp 15) .skip
  (.seq (.reg [] [⟨some 17, some (.binOp .eql T_int (.tmp 14) (.const (.int .i64 34)) T_int), none⟩,
    ⟨some 15, some (.assign (.tmp 17)), none⟩])
  (.cond (.tmp 15) .skip
  (.seq (.reg [] [⟨some 18, some (.binOp .eql T_int (.tmp 14) (.const (.int .i64 35)) T_int), none⟩,
    ⟨some 15, some (.assign (.tmp 18)), none⟩])
  (.cond (.tmp 15) .skip
  (.reg [] [⟨some 19, some (.binOp .eql T_int (.tmp 14) (.const (.int .i64 36)) T_int), none⟩,
    ⟨some 15, some (.assign (.tmp 19)), none⟩])))))))
  (.cond (.tmp 15) (.seq (.reg [] [⟨some 20, some (.build T_bv_number #[(0, (.const (.int .u64 1)))]), none⟩,
    ⟨some 21, some (.fieldAddr T_api_Bits (.tmp 4) 0), none⟩,
    ⟨some 22, some (.load T_int (.tmp 21)), none⟩,
    ⟨some 23, some (.binOp .sub T_int (.tmp 22) (.const (.int .i64 1)) T_int), none⟩,
    ⟨some 24, some (.call ⟨(.value (.func f_plait_bv_number_left)), #[(.tmp 20), (.tmp 23)], #[T_bv_number, T_int]⟩), none⟩,
    ⟨some 9, some (.alloc T_bv_number), none⟩,
    ⟨none, some (.store T_bv_number (.tmp 9) (.tmp 24)), none⟩])
  (.seq (.reg [] [⟨some 25, some (.fieldAddr T_bv_number (.tmp 7) 0), none⟩,
    ⟨some 26, some (.load T_uint64 (.tmp 25)), none⟩,
    ⟨some 27, some (.fieldAddr T_bv_number (.tmp 9) 0), none⟩,
    ⟨some 28, some (.load T_uint64 (.tmp 27)), none⟩,
    ⟨some 29, some (.binOp .xor T_uint64 (.tmp 26) (.tmp 28) T_uint64), none⟩,
    ⟨some 30, some (.fieldAddr T_bv_number (.tmp 7) 1), none⟩,
    ⟨some 31, some (.load T_uint64 (.tmp 30)), none⟩,
    ⟨some 32, some (.fieldAddr T_bv_number (.tmp 9) 1), none⟩,
    ⟨some 33, some (.load T_uint64 (.tmp 32)), none⟩,
    ⟨some 34, some (.binOp .xor T_uint64 (.tmp 31) (.tmp 33) T_uint64), none⟩,
    ⟨some 35, some (.build T_bv_number #[(0, (.tmp 29)), (1, (.tmp 34))]), none⟩,
    ⟨none, some (.store T_bv_number (.tmp 7) (.tmp 35)), none⟩])
  (.reg [] [⟨some 36, some (.fieldAddr T_bv_number (.tmp 8) 0), none⟩,
    ⟨some 37, some (.load T_uint64 (.tmp 36)), none⟩,
    ⟨some 38, some (.fieldAddr T_bv_number (.tmp 9) 0), none⟩,
    ⟨some 39, some (.load T_uint64 (.tmp 38)), none⟩,
    ⟨some 40, some (.binOp .xor T_uint64 (.tmp 37) (.tmp 39) T_uint64), none⟩,
    ⟨some 41, some (.fieldAddr T_bv_number (.tmp 8) 1), none⟩,
    ⟨some 42, some (.load T_uint64 (.tmp 41)), none⟩,
    ⟨some 43, some (.fieldAddr T_bv_number (.tmp 9) 1), none⟩,
    ⟨some 44, some (.load T_uint64 (.tmp 43)), none⟩,
    ⟨some 45, some (.binOp .xor T_uint64 (.tmp 42) (.tmp 44) T_uint64), none⟩,
    ⟨some 46, some (.build T_bv_number #[(0, (.tmp 40)), (1, (.tmp 45))]), none⟩,
    ⟨none, some (.store T_bv_number (.tmp 8) (.tmp 46)), none⟩])))
  .skip))))
  (.seq (.seq (.reg [] [⟨some 47, some (.move (.tmp 0)), none⟩])
  (.block 1 (.seq (.seq (.reg [] [⟨some 49, some (.binOp .eql T_int (.tmp 47) (.const (.int .i64 29)) T_int), none⟩,
    ⟨some 48, some (.assign (.tmp 49)), none⟩])
  (.cond (.tmp 48) .skip
  (.reg [] [⟨some 50, some (.binOp .eql T_int (.tmp 47) (.const (.int .i64 33)) T_int), none⟩,
    ⟨some 48, some (.assign (.tmp 50)), none⟩])))
  (.cond (.tmp 48) (.seq (.reg [] [⟨some 51, some (.load T_bv_number (.tmp 7)), none⟩,
    ⟨some 52, some (.load T_bv_number (.tmp 8)), none⟩,
    ⟨some 53, some (.call ⟨(.value (.func f_plait_bv_number_less)), #[(.tmp 51), (.tmp 52)], #[T_bv_number, T_bv_number]⟩), none⟩,
    ⟨some 6, some (.assign (.tmp 53)), none⟩])
  .ret)
  (.seq (.seq (.reg [] [⟨some 55, some (.binOp .eql T_int (.tmp 47) (.const (.int .i64 30)) T_int), none⟩,
    ⟨some 54, some (.assign (.tmp 55)), none⟩])
  (.cond (.tmp 54) .skip
  (.reg [] [⟨some 56, some (.binOp .eql T_int (.tmp 47) (.const (.int .i64 34)) T_int), none⟩,
    ⟨some 54, some (.assign (.tmp 56)), none⟩])))
  (.cond (.tmp 54) (.seq (.reg [] [⟨some 57, some (.load T_bv_number (.tmp 8)), none⟩,
    ⟨some 58, some (.load T_bv_number (.tmp 7)), none⟩,
    ⟨some 59, some (.call ⟨(.value (.func f_plait_bv_number_less)), #[(.tmp 57), (.tmp 58)], #[T_bv_number, T_bv_number]⟩), none⟩,
    ⟨some 60, some (.unOp .not T_bool (.tmp 59)), none⟩,
    ⟨some 6, some (.assign (.tmp 60)), none⟩])
  .ret)
  (.seq (.seq (.reg [] [⟨some 62, some (.binOp .eql T_int (.tmp 47) (.const (.int .i64 31)) T_int), none⟩,
    ⟨some 61, some (.assign (.tmp 62)), none⟩])
  (.cond (.tmp 61) .skip
  (.reg [] [⟨some 63, some (.binOp .eql T_int (.tmp 47) (.const (.int .i64 35)) T_int), none⟩,
    ⟨some 61, some (.assign (.tmp 63)), none⟩])))
  (.cond (.tmp 61) (.seq (.reg [] [⟨some 64, some (.load T_bv_number (.tmp 8)), none⟩,
    ⟨some 65, some (.load T_bv_number (.tmp 7)), none⟩,
    ⟨some 66, some (.call ⟨(.value (.func f_plait_bv_number_less)), #[(.tmp 64), (.tmp 65)], #[T_bv_number, T_bv_number]⟩), none⟩,
    ⟨some 6, some (.assign (.tmp 66)), none⟩])
  .ret)
  .skip))))))))
  (.seq (.reg [] [⟨some 67, some (.load T_bv_number (.tmp 7)), none⟩,
    ⟨some 68, some (.load T_bv_number (.tmp 8)), none⟩,
    ⟨some 69, some (.call ⟨(.value (.func f_plait_bv_number_less)), #[(.tmp 67), (.tmp 68)], #[T_bv_number, T_bv_number]⟩), none⟩,
    ⟨some 70, some (.unOp .not T_bool (.tmp 69)), none⟩,
    ⟨some 6, some (.assign (.tmp 70)), none⟩])
  .ret)))))
theorem e_bv_compared {a0 a1 a2 : AV} {H : AHeap} : R f_bv_compared [a0, a1, a2] H = fnK Go.Proofs.Try.prog [] H [(.tmp 6)] (evalL Go.Proofs.Try.prog KT R c_bv_compared (Env.args [a0, a1, a2] 0) H) :=
  runs_body (D := DT) (f := f_bv_compared) Go.Proofs.Try.func83 (by kernel_rfl) (by kernel_rfl) (by kernel_rfl) (by kernel_rfl) (by kernel_rfl) (Nat.le_of_ble_eq_true rfl)

def l_plaitref1_Word_0 : LCode := (.seq (.seq (.reg [] [⟨some 8, some (.move (.tmp 4)), none⟩,
    ⟨some 9, some (.move (.tmp 0)), none⟩,
    ⟨some 10, some (.call ⟨(.builtin .len), #[(.tmp 9)], #[T_s_bool]⟩), none⟩,
    ⟨some 11, some (.binOp .lss T_int (.tmp 8) (.tmp 10) T_int), none⟩])
  (.cond (.tmp 11) .skip
  (.exit 0)))
  (.seq (.block 1 (.seq (.seq (.reg [] [⟨some 14, some (.move (.tmp 0)), none⟩,
    ⟨some 15, some (.move (.tmp 4)), none⟩,
    ⟨some 16, some (.indexAddr T_s_bool (.tmp 14) (.tmp 15)), none⟩,
    ⟨some 17, some (.load T_bool (.tmp 16)), none⟩,
    ⟨some 18, some (.move (.tmp 17)), none⟩,
    ⟨some 19, some (.move (.tmp 4)), some (some 18, true)⟩,
    ⟨some 20, some (.binOp .lss T_int (.tmp 19) (.const (.int .i64 64)) T_int), some (some 18, true)⟩,
    ⟨some 21, some (.pick (.tmp 18) (.tmp 20) (.const (.bool false))), none⟩])
  (.cond (.tmp 21) (.reg [] [⟨some 22, some (.fieldAddr T_api_Bits (.tmp 3) 1), none⟩,
    ⟨some 23, some (.load T_uint64 (.tmp 22)), none⟩,
    ⟨some 24, some (.move (.tmp 4)), none⟩,
    ⟨some 25, some (.binOp .shl T_uint64 (.const (.int .u64 1)) (.tmp 24) T_int), none⟩,
    ⟨some 26, some (.binOp .or T_uint64 (.tmp 23) (.tmp 25) T_uint64), none⟩,
    ⟨some 27, some (.fieldAddr T_api_Bits (.tmp 3) 1), none⟩,
    ⟨none, some (.store T_uint64 (.tmp 27) (.tmp 26)), none⟩])
  .skip))
  (.seq (.reg [] [⟨some 28, some (.move (.tmp 0)), none⟩,
    ⟨some 29, some (.move (.tmp 4)), none⟩,
    ⟨some 30, some (.indexAddr T_s_bool (.tmp 28) (.tmp 29)), none⟩,
    ⟨some 31, some (.load T_bool (.tmp 30)), none⟩,
    ⟨some 32, some (.move (.tmp 31)), none⟩,
    ⟨some 33, some (.move (.tmp 4)), some (some 32, true)⟩,
    ⟨some 34, some (.binOp .geq T_int (.tmp 33) (.const (.int .i64 64)) T_int), some (some 32, true)⟩,
    ⟨some 35, some (.pick (.tmp 32) (.tmp 34) (.const (.bool false))), none⟩])
  (.cond (.tmp 35) (.reg [] [⟨some 36, some (.fieldAddr T_api_Bits (.tmp 3) 2), none⟩,
    ⟨some 37, some (.load T_uint64 (.tmp 36)), none⟩,
    ⟨some 38, some (.move (.tmp 4)), none⟩,
    ⟨some 39, some (.binOp .sub T_int (.tmp 38) (.const (.int .i64 64)) T_int), none⟩,
    ⟨some 40, some (.binOp .shl T_uint64 (.const (.int .u64 1)) (.tmp 39) T_int), none⟩,
    ⟨some 41, some (.binOp .or T_uint64 (.tmp 37) (.tmp 40) T_uint64), none⟩,
    ⟨some 42, some (.fieldAddr T_api_Bits (.tmp 3) 2), none⟩,
    ⟨none, some (.store T_uint64 (.tmp 42) (.tmp 41)), none⟩])
  .skip))))
  (.reg [] [⟨some 12, some (.move (.tmp 4)), none⟩,
    ⟨some 13, some (.binOp .add T_int (.tmp 12) (.const (.int .i64 1)) T_int), none⟩,
    ⟨some 4, some (.assign (.tmp 13)), none⟩])))
@[simp] theorem d_l_plaitref1_Word_0 : defs l_plaitref1_Word_0 = [8, 9, 10, 11, 14, 15, 16, 17, 18, 19, 20, 21, 22, 23, 24, 25, 26, 27, 28, 29, 30, 31, 32, 33, 34, 35, 36, 37, 38, 39, 40, 41, 42, 12, 13, 4] := by rfl
def c_plaitref1_Word : LCode := (.seq (.reg [] [⟨some 2, some (.alloc T_api_Bits), none⟩])
  (.seq (.reg [] [⟨some 5, some (.move (.tmp 0)), none⟩,
    ⟨some 6, some (.call ⟨(.builtin .len), #[(.tmp 5)], #[T_s_bool]⟩), none⟩,
    ⟨some 7, some (.build T_api_Bits #[(0, (.tmp 6))]), none⟩,
    ⟨some 3, some (.alloc T_api_Bits), none⟩,
    ⟨none, some (.store T_api_Bits (.tmp 3) (.tmp 7)), none⟩])
  (.seq (.seq (.reg [] [⟨some 4, some (.assign (.const (.int .i64 0))), none⟩])
  (.block 0 (.loop l_plaitref1_Word_0)))
  (.seq (.reg [] [⟨some 43, some (.load T_api_Bits (.tmp 3)), none⟩,
    ⟨none, some (.store T_api_Bits (.tmp 2) (.tmp 43)), none⟩])
  .ret))))
theorem e_plaitref1_Word {a0 : AV} {H : AHeap} : R f_plaitref1_Word [a0] H = fnK Go.Proofs.Try.prog [] H [(.cell 2 T_api_Bits)] (evalL Go.Proofs.Try.prog KT R c_plaitref1_Word (Env.args [a0] 0) H) :=
  runs_body (D := DT) (f := f_plaitref1_Word) Go.Proofs.Try.func84 (by kernel_rfl) (by kernel_rfl) (by kernel_rfl) (by kernel_rfl) (by kernel_rfl) (Nat.le_of_ble_eq_true rfl)

def l_plaitref1_Bits_0 : LCode := (.seq (.seq (.reg [] [⟨some 8, some (.move (.tmp 4)), none⟩,
    ⟨some 9, some (.fieldAddr T_api_Bits (.tmp 1) 0), none⟩,
    ⟨some 10, some (.load T_int (.tmp 9)), none⟩,
    ⟨some 11, some (.binOp .lss T_int (.tmp 8) (.tmp 10) T_int), none⟩])
  (.cond (.tmp 11) .skip
  (.exit 0)))
  (.seq (.block 1 (.seq (.reg [] [⟨some 14, some (.move (.tmp 4)), none⟩,
    ⟨some 15, some (.binOp .lss T_int (.tmp 14) (.const (.int .i64 64)) T_int), none⟩])
  (.cond (.tmp 15) (.reg [] [⟨some 16, some (.move (.tmp 3)), none⟩,
    ⟨some 17, some (.move (.tmp 4)), none⟩,
    ⟨some 18, some (.fieldAddr T_api_Bits (.tmp 1) 1), none⟩,
    ⟨some 19, some (.load T_uint64 (.tmp 18)), none⟩,
    ⟨some 20, some (.move (.tmp 4)), none⟩,
    ⟨some 21, some (.binOp .shr T_uint64 (.tmp 19) (.tmp 20) T_int), none⟩,
    ⟨some 22, some (.binOp .and T_uint64 (.tmp 21) (.const (.int .u64 1)) T_uint64), none⟩,
    ⟨some 23, some (.binOp .eql T_uint64 (.tmp 22) (.const (.int .u64 1)) T_uint64), none⟩,
    ⟨some 24, some (.indexAddr T_s_bool (.tmp 16) (.tmp 17)), none⟩,
    ⟨none, some (.store T_bool (.tmp 24) (.tmp 23)), none⟩])
  (.reg [] [⟨some 25, some (.move (.tmp 3)), none⟩,
    ⟨some 26, some (.move (.tmp 4)), none⟩,
    ⟨some 27, some (.fieldAddr T_api_Bits (.tmp 1) 2), none⟩,
    ⟨some 28, some (.load T_uint64 (.tmp 27)), none⟩,
    ⟨some 29, some (.move (.tmp 4)), none⟩,
    ⟨some 30, some (.binOp .sub T_int (.tmp 29) (.const (.int .i64 64)) T_int), none⟩,
    ⟨some 31, some (.binOp .shr T_uint64 (.tmp 28) (.tmp 30) T_int), none⟩,
    ⟨some 32, some (.binOp .and T_uint64 (.tmp 31) (.const (.int .u64 1)) T_uint64), none⟩,
    ⟨some 33, some (.binOp .eql T_uint64 (.tmp 32) (.const (.int .u64 1)) T_uint64), none⟩,
    ⟨some 34, some (.indexAddr T_s_bool (.tmp 25) (.tmp 26)), none⟩,
    ⟨none, some (.store T_bool (.tmp 34) (.tmp 33)), none⟩]))))
  (.reg [] [⟨some 12, some (.move (.tmp 4)), none⟩,
    ⟨some 13, some (.binOp .add T_int (.tmp 12) (.const (.int .i64 1)) T_int), none⟩,
    ⟨some 4, some (.assign (.tmp 13)), none⟩])))
@[simp] theorem d_l_plaitref1_Bits_0 : defs l_plaitref1_Bits_0 = [8, 9, 10, 11, 14, 15, 16, 17, 18, 19, 20, 21, 22, 23, 24, 25, 26, 27, 28, 29, 30, 31, 32, 33, 34, 12, 13, 4] := by rfl
def c_plaitref1_Bits : LCode := (.seq (.reg [] [⟨some 1, some (.box T_api_Bits (.tmp 0)), none⟩,
    ⟨some 2, some (.assign (.const (.slice none 0 0))), none⟩])
  (.seq (.reg [] [⟨some 5, some (.fieldAddr T_api_Bits (.tmp 1) 0), none⟩,
    ⟨some 6, some (.load T_int (.tmp 5)), none⟩,
    ⟨some 7, some (.makeSlice T_s_bool (.tmp 6) (.tmp 6)), none⟩,
    ⟨some 3, some (.assign (.tmp 7)), none⟩])
  (.seq (.seq (.reg [] [⟨some 4, some (.assign (.const (.int .i64 0))), none⟩])
  (.block 0 (.loop l_plaitref1_Bits_0)))
  (.seq (.reg [] [⟨some 35, some (.move (.tmp 3)), none⟩,
    ⟨some 2, some (.assign (.tmp 35)), none⟩])
  .ret))))
theorem e_plaitref1_Bits {a0 : AV} {H : AHeap} : R f_plaitref1_Bits [a0] H = fnK Go.Proofs.Try.prog [] H [(.tmp 2)] (evalL Go.Proofs.Try.prog KT R c_plaitref1_Bits (Env.args [a0] 0) H) :=
  runs_body (D := DT) (f := f_plaitref1_Bits) Go.Proofs.Try.func85 (by kernel_rfl) (by kernel_rfl) (by kernel_rfl) (by kernel_rfl) (by kernel_rfl) (Nat.le_of_ble_eq_true rfl)

def c_plaitref3_numbered : LCode := (.seq (.reg [] [⟨some 8, some (.assign (.const (.int .i64 0))), none⟩,
    ⟨some 9, some (.assign (.const (.int .i64 0))), none⟩])
  (.seq (.seq (.reg [] [⟨some 10, some (.move (.tmp 3)), none⟩,
    ⟨some 11, some (.binOp .eql T_int (.tmp 10) (.const (.int .i64 0)) T_int), none⟩])
  (.cond (.tmp 11) (.seq (.reg [] [⟨some 8, some (.assign (.const (.int .i64 0))), none⟩,
    ⟨some 9, some (.assign (.const (.int .i64 30))), none⟩])
  .ret)
  .skip))
  (.seq (.seq (.reg [] [⟨some 12, some (.move (.tmp 0)), none⟩,
    ⟨some 13, some (.binOp .eql T_int (.tmp 12) (.const (.int .i64 39)) T_int), none⟩])
  (.cond (.tmp 13) (.seq (.seq (.reg [] [⟨some 14, some (.move (.tmp 2)), none⟩,
    ⟨some 15, some (.binOp .lss T_int (.tmp 14) (.const (.int .i64 0)) T_int), none⟩,
    ⟨some 16, some (.move (.tmp 15)), none⟩,
    ⟨some 17, some (.move (.tmp 1)), some (some 16, false)⟩,
    ⟨some 18, some (.move (.tmp 2)), some (some 16, false)⟩,
    ⟨some 19, some (.binOp .lss T_int (.tmp 17) (.tmp 18) T_int), some (some 16, false)⟩,
    ⟨some 20, some (.pick (.tmp 16) (.const (.bool true)) (.tmp 19)), none⟩,
    ⟨some 21, some (.move (.tmp 20)), none⟩,
    ⟨some 22, some (.move (.tmp 1)), some (some 21, false)⟩,
    ⟨some 23, some (.move (.tmp 3)), some (some 21, false)⟩,
    ⟨some 24, some (.binOp .geq T_int (.tmp 22) (.tmp 23) T_int), some (some 21, false)⟩,
    ⟨some 25, some (.pick (.tmp 21) (.const (.bool true)) (.tmp 24)), none⟩])
  (.cond (.tmp 25) (.seq (.reg [] [⟨some 8, some (.assign (.const (.int .i64 0))), none⟩,
    ⟨some 9, some (.assign (.const (.int .i64 30))), none⟩])
  .ret)
  .skip))
  (.seq (.reg [] [⟨some 26, some (.move (.tmp 1)), none⟩,
    ⟨some 27, some (.move (.tmp 2)), none⟩,
    ⟨some 28, some (.binOp .sub T_int (.tmp 26) (.tmp 27) T_int), none⟩,
    ⟨some 29, some (.binOp .add T_int (.tmp 28) (.const (.int .i64 1)) T_int), none⟩,
    ⟨some 8, some (.assign (.tmp 29)), none⟩,
    ⟨some 9, some (.assign (.const (.int .i64 0))), none⟩])
  .ret))
  .skip))
  (.seq (.seq (.reg [] [⟨some 30, some (.move (.tmp 2)), none⟩,
    ⟨some 31, some (.binOp .neq T_int (.tmp 30) (.const (.int .i64 0)) T_int), none⟩,
    ⟨some 32, some (.move (.tmp 31)), none⟩,
    ⟨some 33, some (.move (.tmp 1)), some (some 32, false)⟩,
    ⟨some 34, some (.binOp .lss T_int (.tmp 33) (.const (.int .i64 0)) T_int), some (some 32, false)⟩,
    ⟨some 35, some (.pick (.tmp 32) (.const (.bool true)) (.tmp 34)), none⟩,
    ⟨some 36, some (.move (.tmp 35)), none⟩,
    ⟨some 37, some (.move (.tmp 0)), some (some 36, false)⟩,
    ⟨some 38, some (.binOp .eql T_int (.tmp 37) (.const (.int .i64 44)) T_int), some (some 36, false)⟩,
    ⟨some 39, some (.move (.tmp 38)), some (some 36, false)⟩,
    ⟨some 40, some (.move (.tmp 1)), some (some 39, true)⟩,
    ⟨some 41, some (.binOp .lss T_int (.tmp 40) (.const (.int .i64 1)) T_int), some (some 39, true)⟩,
    ⟨some 42, some (.pick (.tmp 39) (.tmp 41) (.const (.bool false))), some (some 36, false)⟩,
    ⟨some 43, some (.pick (.tmp 36) (.const (.bool true)) (.tmp 42)), none⟩])
  (.cond (.tmp 43) (.seq (.reg [] [⟨some 8, some (.assign (.const (.int .i64 0))), none⟩,
    ⟨some 9, some (.assign (.const (.int .i64 30))), none⟩])
  .ret)
  .skip))
  (.seq (.seq (.reg [] [⟨some 44, some (.move (.tmp 0)), none⟩])
  (.block 0 (.seq (.seq (.reg [] [⟨some 46, some (.binOp .eql T_int (.tmp 44) (.const (.int .i64 40)) T_int), none⟩,
    ⟨some 45, some (.assign (.tmp 46)), none⟩])
  (.cond (.tmp 45) .skip
  (.reg [] [⟨some 47, some (.binOp .eql T_int (.tmp 44) (.const (.int .i64 41)) T_int), none⟩,
    ⟨some 45, some (.assign (.tmp 47)), none⟩])))
  (.cond (.tmp 45) (.seq (.seq (.reg [] [⟨some 48, some (.move (.tmp 1)), none⟩,
    ⟨some 49, some (.binOp .gtr T_int (.tmp 48) (.const (.int .i64 128)) T_int), none⟩])
  (.cond (.tmp 49) (.seq (.reg [] [⟨some 8, some (.assign (.const (.int .i64 0))), none⟩,
    ⟨some 9, some (.assign (.const (.int .i64 31))), none⟩])
  .ret)
  .skip))
  (.seq (.reg [] [⟨some 50, some (.move (.tmp 3)), none⟩,
    ⟨some 51, some (.move (.tmp 1)), none⟩,
    ⟨some 52, some (.binOp .add T_int (.tmp 50) (.tmp 51) T_int), none⟩,
    ⟨some 53, some (.call ⟨(.value (.func f_plaitref3_wide)), #[(.tmp 52)], #[T_int]⟩), none⟩,
    ⟨some 54, some (.extract (.tmp 53) 0), none⟩,
    ⟨some 55, some (.extract (.tmp 53) 1), none⟩,
    ⟨some 8, some (.assign (.tmp 54)), none⟩,
    ⟨some 9, some (.assign (.tmp 55)), none⟩])
  .ret))
  (.seq (.reg [] [⟨some 57, some (.binOp .eql T_int (.tmp 44) (.const (.int .i64 44)) T_int), none⟩,
    ⟨some 56, some (.assign (.tmp 57)), none⟩])
  (.cond (.tmp 56) (.seq (.seq (.reg [] [⟨some 58, some (.move (.tmp 1)), none⟩,
    ⟨some 59, some (.binOp .gtr T_int (.tmp 58) (.const (.int .i64 128)) T_int), none⟩])
  (.cond (.tmp 59) (.seq (.reg [] [⟨some 8, some (.assign (.const (.int .i64 0))), none⟩,
    ⟨some 9, some (.assign (.const (.int .i64 31))), none⟩])
  .ret)
  .skip))
  (.seq (.reg [] [⟨some 60, some (.move (.tmp 3)), none⟩,
    ⟨some 61, some (.move (.tmp 1)), none⟩,
    ⟨some 62, some (.binOp .mul T_int (.tmp 60) (.tmp 61) T_int), none⟩,
    ⟨some 63, some (.call ⟨(.value (.func f_plaitref3_wide)), #[(.tmp 62)], #[T_int]⟩), none⟩,
    ⟨some 64, some (.extract (.tmp 63) 0), none⟩,
    ⟨some 65, some (.extract (.tmp 63) 1), none⟩,
    ⟨some 8, some (.assign (.tmp 64)), none⟩,
    ⟨some 9, some (.assign (.tmp 65)), none⟩])
  .ret))
  .skip))))))
  (.seq (.reg [] [⟨some 66, some (.move (.tmp 3)), none⟩,
    ⟨some 8, some (.assign (.tmp 66)), none⟩,
    ⟨some 9, some (.assign (.const (.int .i64 0))), none⟩])
  .ret))))))
theorem e_plaitref3_numbered {a0 a1 a2 a3 : AV} {H : AHeap} : R f_plaitref3_numbered [a0, a1, a2, a3] H = fnK Go.Proofs.Try.prog [] H [(.tmp 8), (.tmp 9)] (evalL Go.Proofs.Try.prog KT R c_plaitref3_numbered (Env.args [a0, a1, a2, a3] 0) H) :=
  runs_body (D := DT) (f := f_plaitref3_numbered) Go.Proofs.Try.func86 (by kernel_rfl) (by kernel_rfl) (by kernel_rfl) (by kernel_rfl) (by kernel_rfl) (Nat.le_of_ble_eq_true rfl)

def l_plaitref3_alike_0 : LCode := (.seq (.seq (.reg [] [⟨some 4, some (.move (.tmp 3)), none⟩,
    ⟨some 5, some (.move (.tmp 0)), none⟩,
    ⟨some 6, some (.call ⟨(.builtin .len), #[(.tmp 5)], #[T_s_int]⟩), none⟩,
    ⟨some 7, some (.binOp .lss T_int (.tmp 4) (.tmp 6) T_int), none⟩])
  (.cond (.tmp 7) .skip
  (.exit 0)))
  (.seq (.block 1 (.seq (.reg [] [⟨some 10, some (.move (.tmp 0)), none⟩,
    ⟨some 11, some (.move (.tmp 3)), none⟩,
    ⟨some 12, some (.indexAddr T_s_int (.tmp 10) (.tmp 11)), none⟩,
    ⟨some 13, some (.load T_int (.tmp 12)), none⟩,
    ⟨some 14, some (.move (.tmp 0)), none⟩,
    ⟨some 15, some (.indexAddr T_s_int (.tmp 14) (.const (.int .i64 0))), none⟩,
    ⟨some 16, some (.load T_int (.tmp 15)), none⟩,
    ⟨some 17, some (.binOp .neq T_int (.tmp 13) (.tmp 16) T_int), none⟩])
  (.cond (.tmp 17) (.seq (.reg [] [⟨some 2, some (.assign (.const (.bool false))), none⟩])
  .ret)
  .skip)))
  (.reg [] [⟨some 8, some (.move (.tmp 3)), none⟩,
    ⟨some 9, some (.binOp .add T_int (.tmp 8) (.const (.int .i64 1)) T_int), none⟩,
    ⟨some 3, some (.assign (.tmp 9)), none⟩])))
@[simp] theorem d_l_plaitref3_alike_0 : defs l_plaitref3_alike_0 = [4, 5, 6, 7, 10, 11, 12, 13, 14, 15, 16, 17, 2, 8, 9, 3] := by rfl
def c_plaitref3_alike : LCode := (.seq (.reg [] [⟨some 2, some (.assign (.const (.bool false))), none⟩])
  (.seq (.seq (.reg [] [⟨some 3, some (.assign (.const (.int .i64 1))), none⟩])
  (.block 0 (.loop l_plaitref3_alike_0)))
  (.seq (.reg [] [⟨some 2, some (.assign (.const (.bool true))), none⟩])
  .ret)))
theorem e_plaitref3_alike {a0 : AV} {H : AHeap} : R f_plaitref3_alike [a0] H = fnK Go.Proofs.Try.prog [] H [(.tmp 2)] (evalL Go.Proofs.Try.prog KT R c_plaitref3_alike (Env.args [a0] 0) H) :=
  runs_body (D := DT) (f := f_plaitref3_alike) Go.Proofs.Try.func87 (by kernel_rfl) (by kernel_rfl) (by kernel_rfl) (by kernel_rfl) (by kernel_rfl) (Nat.le_of_ble_eq_true rfl)

def c_plaitref3_wide : LCode := (.seq (.reg [] [⟨some 2, some (.assign (.const (.int .i64 0))), none⟩,
    ⟨some 3, some (.assign (.const (.int .i64 0))), none⟩])
  (.seq (.seq (.reg [] [⟨some 4, some (.move (.tmp 0)), none⟩,
    ⟨some 5, some (.binOp .gtr T_int (.tmp 4) (.const (.int .i64 128)) T_int), none⟩])
  (.cond (.tmp 5) (.seq (.reg [] [⟨some 2, some (.assign (.const (.int .i64 0))), none⟩,
    ⟨some 3, some (.assign (.const (.int .i64 31))), none⟩])
  .ret)
  .skip))
  (.seq (.reg [] [⟨some 6, some (.move (.tmp 0)), none⟩,
    ⟨some 2, some (.assign (.tmp 6)), none⟩,
    ⟨some 3, some (.assign (.const (.int .i64 0))), none⟩])
  .ret)))
theorem e_plaitref3_wide {a0 : AV} {H : AHeap} : R f_plaitref3_wide [a0] H = fnK Go.Proofs.Try.prog [] H [(.tmp 2), (.tmp 3)] (evalL Go.Proofs.Try.prog KT R c_plaitref3_wide (Env.args [a0] 0) H) :=
  runs_body (D := DT) (f := f_plaitref3_wide) Go.Proofs.Try.func88 (by kernel_rfl) (by kernel_rfl) (by kernel_rfl) (by kernel_rfl) (by kernel_rfl) (Nat.le_of_ble_eq_true rfl)

def c_plait_bv_number_add : LCode := (.seq (.reg [] [⟨some 2, some (.box T_bv_number (.tmp 0)), none⟩,
    ⟨some 3, some (.box T_bv_number (.tmp 1)), none⟩,
    ⟨some 4, some (.alloc T_bv_number), none⟩])
  (.seq (.reg [] [⟨some 10, some (.fieldAddr T_bv_number (.tmp 2) 0), none⟩,
    ⟨some 11, some (.load T_uint64 (.tmp 10)), none⟩,
    ⟨some 12, some (.fieldAddr T_bv_number (.tmp 3) 0), none⟩,
    ⟨some 13, some (.load T_uint64 (.tmp 12)), none⟩,
    ⟨some 14, some (.call ⟨(.value (.func f_math_bits_Add64)), #[(.tmp 11), (.tmp 13), (.const (.int .u64 0))], #[T_uint64, T_uint64, T_uint64]⟩), none⟩,
    ⟨some 9, some (.move (.tmp 14)), none⟩,
    ⟨some 15, some (.extract (.tmp 9) 0), none⟩,
    ⟨some 16, some (.extract (.tmp 9) 1), none⟩,
    ⟨some 5, some (.assign (.tmp 15)), none⟩,
    ⟨some 6, some (.assign (.tmp 16)), none⟩])
  (.seq (.reg [] [⟨some 18, some (.fieldAddr T_bv_number (.tmp 2) 1), none⟩,
    ⟨some 19, some (.load T_uint64 (.tmp 18)), none⟩,
    ⟨some 20, some (.fieldAddr T_bv_number (.tmp 3) 1), none⟩,
    ⟨some 21, some (.load T_uint64 (.tmp 20)), none⟩,
    ⟨some 22, some (.move (.tmp 6)), none⟩,
    ⟨some 23, some (.call ⟨(.value (.func f_math_bits_Add64)), #[(.tmp 19), (.tmp 21), (.tmp 22)], #[T_uint64, T_uint64, T_uint64]⟩), none⟩,
    ⟨some 17, some (.move (.tmp 23)), none⟩,
    ⟨some 24, some (.extract (.tmp 17) 0), none⟩,
    ⟨some 25, some (.extract (.tmp 17) 1), none⟩,
    ⟨some 7, some (.assign (.tmp 24)), none⟩,
    ⟨some 8, some (.assign (.tmp 25)), none⟩])
  (.seq (.reg [] [⟨some 26, some (.move (.tmp 5)), none⟩,
    ⟨some 27, some (.move (.tmp 7)), none⟩,
    ⟨some 28, some (.build T_bv_number #[(0, (.tmp 26)), (1, (.tmp 27))]), none⟩,
    ⟨none, some (.store T_bv_number (.tmp 4) (.tmp 28)), none⟩])
  .ret))))
theorem e_plait_bv_number_add {a0 a1 : AV} {H : AHeap} : R f_plait_bv_number_add [a0, a1] H = fnK Go.Proofs.Try.prog [] H [(.cell 4 T_bv_number)] (evalL Go.Proofs.Try.prog KT R c_plait_bv_number_add (Env.args [a0, a1] 0) H) :=
  runs_body (D := DT) (f := f_plait_bv_number_add) Go.Proofs.Try.func89 (by kernel_rfl) (by kernel_rfl) (by kernel_rfl) (by kernel_rfl) (by kernel_rfl) (Nat.le_of_ble_eq_true rfl)

def c_plait_bv_number_bit : LCode := (.seq (.reg [] [⟨some 2, some (.box T_bv_number (.tmp 0)), none⟩,
    ⟨some 4, some (.assign (.const (.bool false))), none⟩])
  (.seq (.reg [] [⟨some 5, some (.load T_bv_number (.tmp 2)), none⟩,
    ⟨some 6, some (.move (.tmp 1)), none⟩,
    ⟨some 7, some (.call ⟨(.value (.func f_plait_bv_number_right)), #[(.tmp 5), (.tmp 6)], #[T_bv_number, T_int]⟩), none⟩,
    ⟨some 8, some (.field T_bv_number (.tmp 7) 0), none⟩,
    ⟨some 9, some (.binOp .and T_uint64 (.tmp 8) (.const (.int .u64 1)) T_uint64), none⟩,
    ⟨some 10, some (.binOp .eql T_uint64 (.tmp 9) (.const (.int .u64 1)) T_uint64), none⟩,
    ⟨some 4, some (.assign (.tmp 10)), none⟩])
  .ret))
theorem e_plait_bv_number_bit {a0 a1 : AV} {H : AHeap} : R f_plait_bv_number_bit [a0, a1] H = fnK Go.Proofs.Try.prog [] H [(.tmp 4)] (evalL Go.Proofs.Try.prog KT R c_plait_bv_number_bit (Env.args [a0, a1] 0) H) :=
  runs_body (D := DT) (f := f_plait_bv_number_bit) Go.Proofs.Try.func90 (by kernel_rfl) (by kernel_rfl) (by kernel_rfl) (by kernel_rfl) (by kernel_rfl) (Nat.le_of_ble_eq_true rfl)

def c_plait_bv_number_sub : LCode := (.seq (.reg [] [⟨some 2, some (.box T_bv_number (.tmp 0)), none⟩,
    ⟨some 3, some (.box T_bv_number (.tmp 1)), none⟩,
    ⟨some 4, some (.alloc T_bv_number), none⟩])
  (.seq (.reg [2] [⟨some 5, some (.load T_bv_number (.tmp 2)), none⟩,
    ⟨some 6, some (.load T_bv_number (.tmp 3)), none⟩,
    ⟨some 7, some (.call ⟨(.value (.func f_plait_bv_number_neg)), #[(.tmp 6)], #[T_bv_number]⟩), none⟩,
    ⟨some 8, some (.call ⟨(.value (.func f_plait_bv_number_add)), #[(.tmp 5), (.tmp 7)], #[T_bv_number, T_bv_number]⟩), none⟩,
    ⟨none, some (.store T_bv_number (.tmp 4) (.tmp 8)), none⟩])
  .ret))
theorem e_plait_bv_number_sub {a0 a1 : AV} {H : AHeap} : R f_plait_bv_number_sub [a0, a1] H = fnK Go.Proofs.Try.prog [] H [(.cell 4 T_bv_number)] (evalL Go.Proofs.Try.prog KT R c_plait_bv_number_sub (Env.args [a0, a1] 0) H) :=
  runs_body (D := DT) (f := f_plait_bv_number_sub) Go.Proofs.Try.func91 (by kernel_rfl) (by kernel_rfl) (by kernel_rfl) (by kernel_rfl) (by kernel_rfl) (Nat.le_of_ble_eq_true rfl)

def c_plait_bv_number_mul : LCode := (.seq (.reg [] [⟨some 2, some (.box T_bv_number (.tmp 0)), none⟩,
    ⟨some 3, some (.box T_bv_number (.tmp 1)), none⟩,
    ⟨some 4, some (.alloc T_bv_number), none⟩])
  (.seq (.reg [] [⟨some 8, some (.fieldAddr T_bv_number (.tmp 2) 0), none⟩,
    ⟨some 9, some (.load T_uint64 (.tmp 8)), none⟩,
    ⟨some 10, some (.fieldAddr T_bv_number (.tmp 3) 0), none⟩,
    ⟨some 11, some (.load T_uint64 (.tmp 10)), none⟩,
    ⟨some 12, some (.call ⟨(.value (.func f_math_bits_Mul64)), #[(.tmp 9), (.tmp 11)], #[T_uint64, T_uint64]⟩), none⟩,
    ⟨some 7, some (.move (.tmp 12)), none⟩,
    ⟨some 13, some (.extract (.tmp 7) 0), none⟩,
    ⟨some 14, some (.extract (.tmp 7) 1), none⟩,
    ⟨some 5, some (.assign (.tmp 13)), none⟩,
    ⟨some 6, some (.assign (.tmp 14)), none⟩])
  (.seq (.reg [] [⟨some 15, some (.move (.tmp 6)), none⟩,
    ⟨some 16, some (.move (.tmp 5)), none⟩,
    ⟨some 17, some (.fieldAddr T_bv_number (.tmp 2) 1), none⟩,
    ⟨some 18, some (.load T_uint64 (.tmp 17)), none⟩,
    ⟨some 19, some (.fieldAddr T_bv_number (.tmp 3) 0), none⟩,
    ⟨some 20, some (.load T_uint64 (.tmp 19)), none⟩,
    ⟨some 21, some (.binOp .mul T_uint64 (.tmp 18) (.tmp 20) T_uint64), none⟩,
    ⟨some 22, some (.binOp .add T_uint64 (.tmp 16) (.tmp 21) T_uint64), none⟩,
    ⟨some 23, some (.fieldAddr T_bv_number (.tmp 2) 0), none⟩,
    ⟨some 24, some (.load T_uint64 (.tmp 23)), none⟩,
    ⟨some 25, some (.fieldAddr T_bv_number (.tmp 3) 1), none⟩,
    ⟨some 26, some (.load T_uint64 (.tmp 25)), none⟩,
    ⟨some 27, some (.binOp .mul T_uint64 (.tmp 24) (.tmp 26) T_uint64), none⟩,
    ⟨some 28, some (.binOp .add T_uint64 (.tmp 22) (.tmp 27) T_uint64), none⟩,
    ⟨some 29, some (.build T_bv_number #[(0, (.tmp 15)), (1, (.tmp 28))]), none⟩,
    ⟨none, some (.store T_bv_number (.tmp 4) (.tmp 29)), none⟩])
  .ret)))
theorem e_plait_bv_number_mul {a0 a1 : AV} {H : AHeap} : R f_plait_bv_number_mul [a0, a1] H = fnK Go.Proofs.Try.prog [] H [(.cell 4 T_bv_number)] (evalL Go.Proofs.Try.prog KT R c_plait_bv_number_mul (Env.args [a0, a1] 0) H) :=
  runs_body (D := DT) (f := f_plait_bv_number_mul) Go.Proofs.Try.func92 (by kernel_rfl) (by kernel_rfl) (by kernel_rfl) (by kernel_rfl) (by kernel_rfl) (Nat.le_of_ble_eq_true rfl)

def c_bv_divided : LCode := (.seq (.reg [] [⟨some 4, some (.box T_bv_number (.tmp 1)), none⟩,
    ⟨some 5, some (.box T_bv_number (.tmp 2)), none⟩,
    ⟨some 6, some (.alloc T_bv_number), none⟩,
    ⟨some 7, some (.alloc T_bv_number), none⟩])
  (.seq (.seq (.reg [] [⟨some 8, some (.load T_bv_number (.tmp 5)), none⟩,
    ⟨some 9, some (.build T_bv_number #[]), none⟩,
    ⟨some 10, some (.binOp .eql T_bv_number (.tmp 8) (.tmp 9) T_bv_number), none⟩])
  (.cond (.tmp 10) (.seq (.reg [1, 2, 3, 1006] [⟨some 11, some (.move (.tmp 0)), none⟩,
    ⟨some 12, some (.call ⟨(.value (.func f_bv_mask)), #[(.tmp 11)], #[T_int]⟩), none⟩,
    ⟨some 13, some (.load T_bv_number (.tmp 4)), none⟩,
    ⟨none, some (.store T_bv_number (.tmp 6) (.tmp 12)), none⟩,
    ⟨none, some (.store T_bv_number (.tmp 7) (.tmp 13)), none⟩])
  .ret)
  .skip))
  (.seq (.reg [] [⟨some 14, some (.load T_bv_number (.tmp 4)), none⟩,
    ⟨some 15, some (.load T_bv_number (.tmp 5)), none⟩,
    ⟨some 16, some (.call ⟨(.value (.func f_plait_bv_number_quo)), #[(.tmp 14), (.tmp 15)], #[T_bv_number, T_bv_number]⟩), none⟩,
    ⟨some 17, some (.extract (.tmp 16) 0), none⟩,
    ⟨some 18, some (.extract (.tmp 16) 1), none⟩,
    ⟨none, some (.store T_bv_number (.tmp 6) (.tmp 17)), none⟩,
    ⟨none, some (.store T_bv_number (.tmp 7) (.tmp 18)), none⟩])
  .ret)))
theorem e_bv_divided {a0 a1 a2 : AV} {H : AHeap} : R f_bv_divided [a0, a1, a2] H = fnK Go.Proofs.Try.prog [] H [(.cell 6 T_bv_number), (.cell 7 T_bv_number)] (evalL Go.Proofs.Try.prog KT R c_bv_divided (Env.args [a0, a1, a2] 0) H) :=
  runs_body (D := DT) (f := f_bv_divided) Go.Proofs.Try.func93 (by kernel_rfl) (by kernel_rfl) (by kernel_rfl) (by kernel_rfl) (by kernel_rfl) (Nat.le_of_ble_eq_true rfl)

def c_bv_size : LCode := (.seq (.reg [] [⟨some 1, some (.box T_api_Bits (.tmp 0)), none⟩,
    ⟨some 2, some (.alloc T_bv_number), none⟩])
  (.seq (.seq (.reg [] [⟨some 3, some (.load T_api_Bits (.tmp 1)), none⟩,
    ⟨some 4, some (.call ⟨(.value (.func f_bv_below)), #[(.tmp 3)], #[T_api_Bits]⟩), none⟩])
  (.cond (.tmp 4) (.seq (.reg [3, 4] [⟨some 5, some (.fieldAddr T_api_Bits (.tmp 1) 0), none⟩,
    ⟨some 6, some (.load T_int (.tmp 5)), none⟩,
    ⟨some 7, some (.load T_api_Bits (.tmp 1)), none⟩,
    ⟨some 8, some (.call ⟨(.value (.func f_bv_of)), #[(.tmp 7)], #[T_api_Bits]⟩), none⟩,
    ⟨some 9, some (.call ⟨(.value (.func f_plait_bv_number_neg)), #[(.tmp 8)], #[T_bv_number]⟩), none⟩,
    ⟨some 10, some (.call ⟨(.value (.func f_bv_cut)), #[(.tmp 6), (.tmp 9)], #[T_int, T_bv_number]⟩), none⟩,
    ⟨some 11, some (.call ⟨(.value (.func f_bv_of)), #[(.tmp 10)], #[T_api_Bits]⟩), none⟩,
    ⟨none, some (.store T_bv_number (.tmp 2) (.tmp 11)), none⟩])
  .ret)
  .skip))
  (.seq (.reg [] [⟨some 12, some (.load T_api_Bits (.tmp 1)), none⟩,
    ⟨some 13, some (.call ⟨(.value (.func f_bv_of)), #[(.tmp 12)], #[T_api_Bits]⟩), none⟩,
    ⟨none, some (.store T_bv_number (.tmp 2) (.tmp 13)), none⟩])
  .ret)))
theorem e_bv_size {a0 : AV} {H : AHeap} : R f_bv_size [a0] H = fnK Go.Proofs.Try.prog [] H [(.cell 2 T_bv_number)] (evalL Go.Proofs.Try.prog KT R c_bv_size (Env.args [a0] 0) H) :=
  runs_body (D := DT) (f := f_bv_size) Go.Proofs.Try.func94 (by kernel_rfl) (by kernel_rfl) (by kernel_rfl) (by kernel_rfl) (by kernel_rfl) (Nat.le_of_ble_eq_true rfl)

def c_bv_turnedIf : LCode := (.seq (.reg [] [⟨some 3, some (.box T_bv_number (.tmp 1)), none⟩,
    ⟨some 4, some (.alloc T_bv_number), none⟩])
  (.seq (.seq (.reg [] [⟨some 5, some (.move (.tmp 0)), none⟩])
  (.cond (.tmp 5) (.seq (.reg [] [⟨some 6, some (.load T_bv_number (.tmp 3)), none⟩,
    ⟨some 7, some (.call ⟨(.value (.func f_plait_bv_number_neg)), #[(.tmp 6)], #[T_bv_number]⟩), none⟩,
    ⟨none, some (.store T_bv_number (.tmp 4) (.tmp 7)), none⟩])
  .ret)
  .skip))
  (.seq (.reg [] [⟨some 8, some (.load T_bv_number (.tmp 3)), none⟩,
    ⟨none, some (.store T_bv_number (.tmp 4) (.tmp 8)), none⟩])
  .ret)))
theorem e_bv_turnedIf {a0 a1 : AV} {H : AHeap} : R f_bv_turnedIf [a0, a1] H = fnK Go.Proofs.Try.prog [] H [(.cell 4 T_bv_number)] (evalL Go.Proofs.Try.prog KT R c_bv_turnedIf (Env.args [a0, a1] 0) H) :=
  runs_body (D := DT) (f := f_bv_turnedIf) Go.Proofs.Try.func95 (by kernel_rfl) (by kernel_rfl) (by kernel_rfl) (by kernel_rfl) (by kernel_rfl) (Nat.le_of_ble_eq_true rfl)

def c_bv_smod : LCode := (.seq (.reg [] [⟨some 2, some (.box T_api_Bits (.tmp 0)), none⟩,
    ⟨some 3, some (.box T_api_Bits (.tmp 1)), none⟩,
    ⟨some 4, some (.alloc T_bv_number), none⟩])
  (.seq (.reg [3, 5, 10, 11] [⟨some 8, some (.fieldAddr T_api_Bits (.tmp 2) 0), none⟩,
    ⟨some 9, some (.load T_int (.tmp 8)), none⟩,
    ⟨some 10, some (.load T_api_Bits (.tmp 2)), none⟩,
    ⟨some 11, some (.call ⟨(.value (.func f_bv_size)), #[(.tmp 10)], #[T_api_Bits]⟩), none⟩,
    ⟨some 12, some (.load T_api_Bits (.tmp 3)), none⟩,
    ⟨some 13, some (.call ⟨(.value (.func f_bv_size)), #[(.tmp 12)], #[T_api_Bits]⟩), none⟩,
    ⟨some 14, some (.call ⟨(.value (.func f_bv_divided)), #[(.tmp 9), (.tmp 11), (.tmp 13)], #[T_int, T_bv_number, T_bv_number]⟩), none⟩,
    ⟨some 7, some (.move (.tmp 14)), none⟩,
    ⟨some 15, some (.extract (.tmp 7) 0), none⟩,
    ⟨some 16, some (.extract (.tmp 7) 1), none⟩,
    ⟨some 5, some (.alloc T_bv_number), none⟩,
    ⟨some 6, some (.alloc T_bv_number), none⟩,
    ⟨none, some (.store T_bv_number (.tmp 5) (.tmp 15)), none⟩,
    ⟨none, some (.store T_bv_number (.tmp 6) (.tmp 16)), none⟩])
  (.seq (.block 0 (.seq (.reg [] [⟨some 18, some (.load T_bv_number (.tmp 6)), none⟩,
    ⟨some 19, some (.build T_bv_number #[]), none⟩,
    ⟨some 20, some (.binOp .eql T_bv_number (.tmp 18) (.tmp 19) T_bv_number), none⟩,
    ⟨some 21, some (.move (.tmp 20)), none⟩,
    ⟨some 22, some (.load T_api_Bits (.tmp 2)), some (some 21, false)⟩,
    ⟨some 23, some (.call ⟨(.value (.func f_bv_below)), #[(.tmp 22)], #[T_api_Bits]⟩), some (some 21, false)⟩,
    ⟨some 24, some (.unOp .not T_bool (.tmp 23)), some (some 21, false)⟩,
    ⟨some 25, some (.move (.tmp 24)), some (some 21, false)⟩,
    ⟨some 26, some (.load T_api_Bits (.tmp 3)), some (some 25, true)⟩,
    ⟨some 27, some (.call ⟨(.value (.func f_bv_below)), #[(.tmp 26)], #[T_api_Bits]⟩), some (some 25, true)⟩,
    ⟨some 28, some (.unOp .not T_bool (.tmp 27)), some (some 25, true)⟩,
    ⟨some 29, some (.pick (.tmp 25) (.tmp 28) (.const (.bool false))), some (some 21, false)⟩,
    ⟨some 30, some (.pick (.tmp 21) (.const (.bool true)) (.tmp 29)), none⟩,
    ⟨some 17, some (.assign (.tmp 30)), none⟩])
  (.cond (.tmp 17) (.seq (.reg [] [⟨some 31, some (.load T_bv_number (.tmp 6)), none⟩,
    ⟨none, some (.store T_bv_number (.tmp 4) (.tmp 31)), none⟩])
  .ret)
  (.seq (.reg [] [⟨some 33, some (.load T_api_Bits (.tmp 3)), none⟩,
    ⟨some 34, some (.call ⟨(.value (.func f_bv_below)), #[(.tmp 33)], #[T_api_Bits]⟩), none⟩,
    ⟨some 35, some (.unOp .not T_bool (.tmp 34)), none⟩,
    ⟨some 32, some (.assign (.tmp 35)), none⟩])
  (.cond (.tmp 32) (.seq (.reg [1] [⟨some 36, some (.load T_api_Bits (.tmp 3)), none⟩,
    ⟨some 37, some (.call ⟨(.value (.func f_bv_of)), #[(.tmp 36)], #[T_api_Bits]⟩), none⟩,
    ⟨some 38, some (.load T_bv_number (.tmp 6)), none⟩,
    ⟨some 39, some (.call ⟨(.value (.func f_plait_bv_number_sub)), #[(.tmp 37), (.tmp 38)], #[T_bv_number, T_bv_number]⟩), none⟩,
    ⟨none, some (.store T_bv_number (.tmp 4) (.tmp 39)), none⟩])
  .ret)
  (.seq (.reg [] [⟨some 41, some (.load T_api_Bits (.tmp 2)), none⟩,
    ⟨some 42, some (.call ⟨(.value (.func f_bv_below)), #[(.tmp 41)], #[T_api_Bits]⟩), none⟩,
    ⟨some 43, some (.unOp .not T_bool (.tmp 42)), none⟩,
    ⟨some 40, some (.assign (.tmp 43)), none⟩])
  (.cond (.tmp 40) (.seq (.reg [2] [⟨some 44, some (.load T_bv_number (.tmp 6)), none⟩,
    ⟨some 45, some (.load T_api_Bits (.tmp 3)), none⟩,
    ⟨some 46, some (.call ⟨(.value (.func f_bv_of)), #[(.tmp 45)], #[T_api_Bits]⟩), none⟩,
    ⟨some 47, some (.call ⟨(.value (.func f_plait_bv_number_add)), #[(.tmp 44), (.tmp 46)], #[T_bv_number, T_bv_number]⟩), none⟩,
    ⟨none, some (.store T_bv_number (.tmp 4) (.tmp 47)), none⟩])
  .ret)
  .skip)))))))
  (.seq (.reg [] [⟨some 48, some (.load T_bv_number (.tmp 6)), none⟩,
    ⟨some 49, some (.call ⟨(.value (.func f_plait_bv_number_neg)), #[(.tmp 48)], #[T_bv_number]⟩), none⟩,
    ⟨none, some (.store T_bv_number (.tmp 4) (.tmp 49)), none⟩])
  .ret))))
theorem e_bv_smod {a0 a1 : AV} {H : AHeap} : R f_bv_smod [a0, a1] H = fnK Go.Proofs.Try.prog [] H [(.cell 4 T_bv_number)] (evalL Go.Proofs.Try.prog KT R c_bv_smod (Env.args [a0, a1] 0) H) :=
  runs_body (D := DT) (f := f_bv_smod) Go.Proofs.Try.func96 (by kernel_rfl) (by kernel_rfl) (by kernel_rfl) (by kernel_rfl) (by kernel_rfl) (Nat.le_of_ble_eq_true rfl)

def c_plait_bv_number_less : LCode := (.seq (.reg [] [⟨some 2, some (.box T_bv_number (.tmp 0)), none⟩,
    ⟨some 3, some (.box T_bv_number (.tmp 1)), none⟩,
    ⟨some 4, some (.assign (.const (.bool false))), none⟩])
  (.seq (.reg [] [⟨some 5, some (.fieldAddr T_bv_number (.tmp 2) 1), none⟩,
    ⟨some 6, some (.load T_uint64 (.tmp 5)), none⟩,
    ⟨some 7, some (.fieldAddr T_bv_number (.tmp 3) 1), none⟩,
    ⟨some 8, some (.load T_uint64 (.tmp 7)), none⟩,
    ⟨some 9, some (.binOp .lss T_uint64 (.tmp 6) (.tmp 8) T_uint64), none⟩,
    ⟨some 10, some (.move (.tmp 9)), none⟩,
    ⟨some 11, some (.fieldAddr T_bv_number (.tmp 2) 1), some (some 10, false)⟩,
    ⟨some 12, some (.load T_uint64 (.tmp 11)), some (some 10, false)⟩,
    ⟨some 13, some (.fieldAddr T_bv_number (.tmp 3) 1), some (some 10, false)⟩,
    ⟨some 14, some (.load T_uint64 (.tmp 13)), some (some 10, false)⟩,
    ⟨some 15, some (.binOp .eql T_uint64 (.tmp 12) (.tmp 14) T_uint64), some (some 10, false)⟩,
    ⟨some 16, some (.move (.tmp 15)), some (some 10, false)⟩,
    ⟨some 17, some (.fieldAddr T_bv_number (.tmp 2) 0), some (some 16, true)⟩,
    ⟨some 18, some (.load T_uint64 (.tmp 17)), some (some 16, true)⟩,
    ⟨some 19, some (.fieldAddr T_bv_number (.tmp 3) 0), some (some 16, true)⟩,
    ⟨some 20, some (.load T_uint64 (.tmp 19)), some (some 16, true)⟩,
    ⟨some 21, some (.binOp .lss T_uint64 (.tmp 18) (.tmp 20) T_uint64), some (some 16, true)⟩,
    ⟨some 22, some (.pick (.tmp 16) (.tmp 21) (.const (.bool false))), some (some 10, false)⟩,
    ⟨some 23, some (.pick (.tmp 10) (.const (.bool true)) (.tmp 22)), none⟩,
    ⟨some 4, some (.assign (.tmp 23)), none⟩])
  .ret))
theorem e_plait_bv_number_less {a0 a1 : AV} {H : AHeap} : R f_plait_bv_number_less [a0, a1] H = fnK Go.Proofs.Try.prog [] H [(.tmp 4)] (evalL Go.Proofs.Try.prog KT R c_plait_bv_number_less (Env.args [a0, a1] 0) H) :=
  runs_body (D := DT) (f := f_plait_bv_number_less) Go.Proofs.Try.func97 (by kernel_rfl) (by kernel_rfl) (by kernel_rfl) (by kernel_rfl) (by kernel_rfl) (Nat.le_of_ble_eq_true rfl)
theorem e_math_bits_Add64 {x y c : BitVec 64} (hc : c.toNat ≤ 1) {H : AHeap} : R f_math_bits_Add64 [u x, u y, u c] H = some (.tup [.int .u64 (((x.toNat : Int) + y.toNat + c.toNat) % 18446744073709551616), .int .u64 (((x.toNat : Int) + y.toNat + c.toNat) / 18446744073709551616)], H) :=
  runs_ext Go.Proofs.Try.func98 (by kernel_rfl) (ext_add64 (by kernel_rfl) (by kernel_rfl) (by kernel_rfl) (by kernel_rfl) (by omega) (by omega) (by omega) (by omega))

def c_math_bits_Mul64 : LCode := (.seq (.reg [] [⟨some 4, some (.assign (.const (.int .u64 0))), none⟩,
    ⟨some 5, some (.assign (.const (.int .u64 0))), none⟩])
  (.seq (.reg [] [⟨some 14, some (.move (.tmp 0)), none⟩,
    ⟨some 15, some (.binOp .and T_uint64 (.tmp 14) (.const (.int .u64 4294967295)) T_uint64), none⟩,
    ⟨some 6, some (.assign (.tmp 15)), none⟩])
  (.seq (.reg [] [⟨some 16, some (.move (.tmp 0)), none⟩,
    ⟨some 17, some (.binOp .shr T_uint64 (.tmp 16) (.const (.int .u64 32)) T_uint), none⟩,
    ⟨some 7, some (.assign (.tmp 17)), none⟩])
  (.seq (.reg [] [⟨some 18, some (.move (.tmp 1)), none⟩,
    ⟨some 19, some (.binOp .and T_uint64 (.tmp 18) (.const (.int .u64 4294967295)) T_uint64), none⟩,
    ⟨some 8, some (.assign (.tmp 19)), none⟩])
  (.seq (.reg [] [⟨some 20, some (.move (.tmp 1)), none⟩,
    ⟨some 21, some (.binOp .shr T_uint64 (.tmp 20) (.const (.int .u64 32)) T_uint), none⟩,
    ⟨some 9, some (.assign (.tmp 21)), none⟩])
  (.seq (.reg [] [⟨some 22, some (.move (.tmp 6)), none⟩,
    ⟨some 23, some (.move (.tmp 8)), none⟩,
    ⟨some 24, some (.binOp .mul T_uint64 (.tmp 22) (.tmp 23) T_uint64), none⟩,
    ⟨some 10, some (.assign (.tmp 24)), none⟩])
  (.seq (.reg [] [⟨some 25, some (.move (.tmp 7)), none⟩,
    ⟨some 26, some (.move (.tmp 8)), none⟩,
    ⟨some 27, some (.binOp .mul T_uint64 (.tmp 25) (.tmp 26) T_uint64), none⟩,
    ⟨some 28, some (.move (.tmp 10)), none⟩,
    ⟨some 29, some (.binOp .shr T_uint64 (.tmp 28) (.const (.int .u64 32)) T_uint), none⟩,
    ⟨some 30, some (.binOp .add T_uint64 (.tmp 27) (.tmp 29) T_uint64), none⟩,
    ⟨some 11, some (.assign (.tmp 30)), none⟩])
  (.seq (.reg [] [⟨some 31, some (.move (.tmp 11)), none⟩,
    ⟨some 32, some (.binOp .and T_uint64 (.tmp 31) (.const (.int .u64 4294967295)) T_uint64), none⟩,
    ⟨some 12, some (.assign (.tmp 32)), none⟩])
  (.seq (.reg [] [⟨some 33, some (.move (.tmp 11)), none⟩,
    ⟨some 34, some (.binOp .shr T_uint64 (.tmp 33) (.const (.int .u64 32)) T_uint), none⟩,
    ⟨some 13, some (.assign (.tmp 34)), none⟩])
  (.seq (.reg [] [⟨some 35, some (.move (.tmp 12)), none⟩,
    ⟨some 36, some (.move (.tmp 6)), none⟩,
    ⟨some 37, some (.move (.tmp 9)), none⟩,
    ⟨some 38, some (.binOp .mul T_uint64 (.tmp 36) (.tmp 37) T_uint64), none⟩,
    ⟨some 39, some (.binOp .add T_uint64 (.tmp 35) (.tmp 38) T_uint64), none⟩,
    ⟨some 12, some (.assign (.tmp 39)), none⟩])
  (.seq (.reg [] [⟨some 40, some (.move (.tmp 7)), none⟩,
    ⟨some 41, some (.move (.tmp 9)), none⟩,
    ⟨some 42, some (.binOp .mul T_uint64 (.tmp 40) (.tmp 41) T_uint64), none⟩,
    ⟨some 43, some (.move (.tmp 13)), none⟩,
    ⟨some 44, some (.binOp .add T_uint64 (.tmp 42) (.tmp 43) T_uint64), none⟩,
    ⟨some 45, some (.move (.tmp 12)), none⟩,
    ⟨some 46, some (.binOp .shr T_uint64 (.tmp 45) (.const (.int .u64 32)) T_uint), none⟩,
    ⟨some 47, some (.binOp .add T_uint64 (.tmp 44) (.tmp 46) T_uint64), none⟩,
    ⟨some 4, some (.assign (.tmp 47)), none⟩])
  (.seq (.reg [] [⟨some 48, some (.move (.tmp 0)), none⟩,
    ⟨some 49, some (.move (.tmp 1)), none⟩,
    ⟨some 50, some (.binOp .mul T_uint64 (.tmp 48) (.tmp 49) T_uint64), none⟩,
    ⟨some 5, some (.assign (.tmp 50)), none⟩])
  .ret))))))))))))
theorem e_math_bits_Mul64 {a0 a1 : AV} {H : AHeap} : R f_math_bits_Mul64 [a0, a1] H = fnK Go.Proofs.Try.prog [] H [(.tmp 4), (.tmp 5)] (evalL Go.Proofs.Try.prog KT R c_math_bits_Mul64 (Env.args [a0, a1] 0) H) :=
  runs_body (D := DT) (f := f_math_bits_Mul64) Go.Proofs.Try.func99 (by kernel_rfl) (by kernel_rfl) (by kernel_rfl) (by kernel_rfl) (by kernel_rfl) (Nat.le_of_ble_eq_true rfl)

def l_plait_bv_number_quo_0 : LCode := (.seq (.seq (.reg [] [⟨some 8, some (.move (.tmp 6)), none⟩,
    ⟨some 9, some (.binOp .geq T_int (.tmp 8) (.const (.int .i64 0)) T_int), none⟩])
  (.cond (.tmp 9) .skip
  (.exit 0)))
  (.seq (.block 1 (.seq (.reg [] [⟨some 12, some (.load T_bv_number (.tmp 5)), none⟩,
    ⟨some 13, some (.call ⟨(.value (.func f_plait_bv_number_bit)), #[(.tmp 12), (.const (.int .i64 127))], #[T_bv_number, T_int]⟩), none⟩,
    ⟨some 7, some (.assign (.tmp 13)), none⟩])
  (.seq (.reg [] [⟨some 14, some (.load T_bv_number (.tmp 5)), none⟩,
    ⟨some 15, some (.call ⟨(.value (.func f_plait_bv_number_left)), #[(.tmp 14), (.const (.int .i64 1))], #[T_bv_number, T_int]⟩), none⟩,
    ⟨none, some (.store T_bv_number (.tmp 5) (.tmp 15)), none⟩])
  (.seq (.seq (.reg [] [⟨some 16, some (.load T_bv_number (.tmp 2)), none⟩,
    ⟨some 17, some (.move (.tmp 6)), none⟩,
    ⟨some 18, some (.call ⟨(.value (.func f_plait_bv_number_bit)), #[(.tmp 16), (.tmp 17)], #[T_bv_number, T_int]⟩), none⟩])
  (.cond (.tmp 18) (.reg [] [⟨some 19, some (.fieldAddr T_bv_number (.tmp 5) 0), none⟩,
    ⟨some 20, some (.load T_uint64 (.tmp 19)), none⟩,
    ⟨some 21, some (.binOp .or T_uint64 (.tmp 20) (.const (.int .u64 1)) T_uint64), none⟩,
    ⟨some 22, some (.fieldAddr T_bv_number (.tmp 5) 0), none⟩,
    ⟨none, some (.store T_uint64 (.tmp 22) (.tmp 21)), none⟩])
  .skip))
  (.seq (.reg [] [⟨some 23, some (.move (.tmp 7)), none⟩,
    ⟨some 24, some (.move (.tmp 23)), none⟩,
    ⟨some 25, some (.load T_bv_number (.tmp 5)), some (some 24, false)⟩,
    ⟨some 26, some (.load T_bv_number (.tmp 3)), some (some 24, false)⟩,
    ⟨some 27, some (.call ⟨(.value (.func f_plait_bv_number_less)), #[(.tmp 25), (.tmp 26)], #[T_bv_number, T_bv_number]⟩), some (some 24, false)⟩,
    ⟨some 28, some (.unOp .not T_bool (.tmp 27)), some (some 24, false)⟩,
    ⟨some 29, some (.pick (.tmp 24) (.const (.bool true)) (.tmp 28)), none⟩])
  (.cond (.tmp 29) (.seq (.reg [] [⟨some 30, some (.load T_bv_number (.tmp 5)), none⟩,
    ⟨some 31, some (.load T_bv_number (.tmp 3)), none⟩,
    ⟨some 32, some (.call ⟨(.value (.func f_plait_bv_number_sub)), #[(.tmp 30), (.tmp 31)], #[T_bv_number, T_bv_number]⟩), none⟩,
    ⟨none, some (.store T_bv_number (.tmp 5) (.tmp 32)), none⟩])
  (.reg [3] [⟨some 33, some (.load T_bv_number (.tmp 4)), none⟩,
    ⟨some 34, some (.build T_bv_number #[(0, (.const (.int .u64 1)))]), none⟩,
    ⟨some 35, some (.move (.tmp 6)), none⟩,
    ⟨some 36, some (.call ⟨(.value (.func f_plait_bv_number_left)), #[(.tmp 34), (.tmp 35)], #[T_bv_number, T_int]⟩), none⟩,
    ⟨some 37, some (.call ⟨(.value (.func f_plait_bv_number_add)), #[(.tmp 33), (.tmp 36)], #[T_bv_number, T_bv_number]⟩), none⟩,
    ⟨none, some (.store T_bv_number (.tmp 4) (.tmp 37)), none⟩]))
  .skip))))))
  (.reg [] [⟨some 10, some (.move (.tmp 6)), none⟩,
    ⟨some 11, some (.binOp .sub T_int (.tmp 10) (.const (.int .i64 1)) T_int), none⟩,
    ⟨some 6, some (.assign (.tmp 11)), none⟩])))
@[simp] theorem d_l_plait_bv_number_quo_0 : defs l_plait_bv_number_quo_0 = [8, 9, 12, 13, 7, 14, 15, 16, 17, 18, 19, 20, 21, 22, 23, 24, 25, 26, 27, 28, 29, 30, 31, 32, 33, 34, 35, 36, 37, 10, 11, 6] := by rfl
def c_plait_bv_number_quo : LCode := (.seq (.reg [] [⟨some 2, some (.box T_bv_number (.tmp 0)), none⟩,
    ⟨some 3, some (.box T_bv_number (.tmp 1)), none⟩,
    ⟨some 4, some (.alloc T_bv_number), none⟩,
    ⟨some 5, some (.alloc T_bv_number), none⟩])
  (.seq (.seq (.reg [] [⟨some 6, some (.assign (.const (.int .i64 127))), none⟩])
  (.block 0 (.loop l_plait_bv_number_quo_0)))
  (.seq (.reg [1, 2, 999, 1005] [⟨some 38, some (.load T_bv_number (.tmp 4)), none⟩,
    ⟨some 39, some (.load T_bv_number (.tmp 5)), none⟩,
    ⟨none, some (.store T_bv_number (.tmp 4) (.tmp 38)), none⟩,
    ⟨none, some (.store T_bv_number (.tmp 5) (.tmp 39)), none⟩])
  .ret)))
theorem e_plait_bv_number_quo {a0 a1 : AV} {H : AHeap} : R f_plait_bv_number_quo [a0, a1] H = fnK Go.Proofs.Try.prog [] H [(.cell 4 T_bv_number), (.cell 5 T_bv_number)] (evalL Go.Proofs.Try.prog KT R c_plait_bv_number_quo (Env.args [a0, a1] 0) H) :=
  runs_body (D := DT) (f := f_plait_bv_number_quo) Go.Proofs.Try.func100 (by kernel_rfl) (by kernel_rfl) (by kernel_rfl) (by kernel_rfl) (by kernel_rfl) (Nat.le_of_ble_eq_true rfl)

end Go.Proofs.Ytiaoojghohfkjaa
