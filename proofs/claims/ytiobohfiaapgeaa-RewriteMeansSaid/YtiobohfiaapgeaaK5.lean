/- Texts AT TA TB TC BV1 of this claim, one behind the other. -/
import Derived.Test.YtiobohfiaapgeaaK4
section
namespace Go.Proofs.Ytiobohfiaapgeaa
open Go.RowKit
def Zx : LCode := (.seq (.reg [] [⟨some 2, some (.assign (.const (.int .i64 0))), none⟩])
  (.seq (.seq (.reg [] [⟨some 3, some (.move (.tmp 0)), none⟩])
  (.block 0 (.seq (.seq (.reg [] [⟨some 5, some (.binOp .eql Zd (.tmp 3) (.const (.int .i64 4)) Zd), none⟩,
 ⟨some 4, some (.assign (.tmp 5)), none⟩])
  (.cond (.tmp 4) .skip
  (.reg [] [⟨some 6, some (.binOp .eql Zd (.tmp 3) (.const (.int .i64 5)) Zd), none⟩,
 ⟨some 4, some (.assign (.tmp 6)), none⟩])))
  (.cond (.tmp 4) (.seq (.reg [] [⟨some 2, some (.assign (.const (.int .i64 1))), none⟩])
  .ret)
  (.seq (.seq (.reg [] [⟨some 8, some (.binOp .eql Zd (.tmp 3) (.const (.int .i64 6)) Zd), none⟩,
 ⟨some 7, some (.assign (.tmp 8)), none⟩])
  (.cond (.tmp 7) .skip
  (.seq (.reg [] [⟨some 9, some (.binOp .eql Zd (.tmp 3) (.const (.int .i64 29)) Zd), none⟩,
 ⟨some 7, some (.assign (.tmp 9)), none⟩])
  (.cond (.tmp 7) .skip
  (.seq (.reg [] [⟨some 10, some (.binOp .eql Zd (.tmp 3) (.const (.int .i64 31)) Zd), none⟩,
 ⟨some 7, some (.assign (.tmp 10)), none⟩])
  (.cond (.tmp 7) .skip
  (.seq (.reg [] [⟨some 11, some (.binOp .eql Zd (.tmp 3) (.const (.int .i64 33)) Zd), none⟩,
 ⟨some 7, some (.assign (.tmp 11)), none⟩])
  (.cond (.tmp 7) .skip
  (.reg [] [⟨some 12, some (.binOp .eql Zd (.tmp 3) (.const (.int .i64 35)) Zd), none⟩,
 ⟨some 7, some (.assign (.tmp 12)), none⟩])))))))))
  (.cond (.tmp 7) (.seq (.reg [] [⟨some 2, some (.assign (.const (.int .i64 2))), none⟩])
  .ret)
  (.seq (.seq (.reg [] [⟨some 14, some (.binOp .eql Zd (.tmp 3) (.const (.int .i64 8)) Zd), none⟩,
 ⟨some 13, some (.assign (.tmp 14)), none⟩])
  (.cond (.tmp 13) .skip
  (.seq (.reg [] [⟨some 15, some (.binOp .eql Zd (.tmp 3) (.const (.int .i64 30)) Zd), none⟩,
 ⟨some 13, some (.assign (.tmp 15)), none⟩])
  (.cond (.tmp 13) .skip
  (.seq (.reg [] [⟨some 16, some (.binOp .eql Zd (.tmp 3) (.const (.int .i64 32)) Zd), none⟩,
 ⟨some 13, some (.assign (.tmp 16)), none⟩])
  (.cond (.tmp 13) .skip
  (.seq (.reg [] [⟨some 17, some (.binOp .eql Zd (.tmp 3) (.const (.int .i64 34)) Zd), none⟩,
 ⟨some 13, some (.assign (.tmp 17)), none⟩])
  (.cond (.tmp 13) .skip
  (.seq (.reg [] [⟨some 18, some (.binOp .eql Zd (.tmp 3) (.const (.int .i64 36)) Zd), none⟩,
 ⟨some 13, some (.assign (.tmp 18)), none⟩])
  (.cond (.tmp 13) .skip
  (.reg [] [⟨some 19, some (.binOp .eql Zd (.tmp 3) (.const (.int .i64 7)) Zd), none⟩,
 ⟨some 13, some (.assign (.tmp 19)), none⟩])))))))))))
  (.cond (.tmp 13) (.seq (.reg [] [⟨some 2, some (.assign (.const (.int .i64 4))), none⟩])
  .ret)
  (.seq (.reg [] [⟨some 21, some (.binOp .eql Zd (.tmp 3) (.const (.int .i64 12)) Zd), none⟩,
 ⟨some 20, some (.assign (.tmp 21)), none⟩])
  (.cond (.tmp 20) (.seq (.reg [] [⟨some 2, some (.assign (.const (.int .i64 9))), none⟩])
  .ret)
  (.seq (.reg [] [⟨some 23, some (.binOp .eql Zd (.tmp 3) (.const (.int .i64 13)) Zd), none⟩,
 ⟨some 22, some (.assign (.tmp 23)), none⟩])
  (.cond (.tmp 22) (.seq (.reg [] [⟨some 2, some (.assign (.const (.int .i64 17))), none⟩])
  .ret)
  (.seq (.reg [] [⟨some 25, some (.binOp .eql Zd (.tmp 3) (.const (.int .i64 14)) Zd), none⟩,
 ⟨some 24, some (.assign (.tmp 25)), none⟩])
  (.cond (.tmp 24) (.seq (.reg [] [⟨some 2, some (.assign (.const (.int .i64 18))), none⟩])
  .ret)
  (.seq (.reg [] [⟨some 27, some (.binOp .eql Zd (.tmp 3) (.const (.int .i64 18)) Zd), none⟩,
 ⟨some 26, some (.assign (.tmp 27)), none⟩])
  (.cond (.tmp 26) (.seq (.reg [] [⟨some 2, some (.assign (.const (.int .i64 16))), none⟩])
  .ret)
  (.seq (.reg [] [⟨some 29, some (.binOp .eql Zd (.tmp 3) (.const (.int .i64 19)) Zd), none⟩,
 ⟨some 28, some (.assign (.tmp 29)), none⟩])
  (.cond (.tmp 28) (.seq (.reg [] [⟨some 2, some (.assign (.const (.int .i64 34))), none⟩])
  .ret)
  (.seq (.reg [] [⟨some 31, some (.binOp .eql Zd (.tmp 3) (.const (.int .i64 20)) Zd), none⟩,
 ⟨some 30, some (.assign (.tmp 31)), none⟩])
  (.cond (.tmp 30) (.seq (.reg [] [⟨some 2, some (.assign (.const (.int .i64 264))), none⟩])
  .ret)
  (.seq (.reg [] [⟨some 33, some (.binOp .eql Zd (.tmp 3) (.const (.int .i64 21)) Zd), none⟩,
 ⟨some 32, some (.assign (.tmp 33)), none⟩])
  (.cond (.tmp 32) (.seq (.reg [] [⟨some 2, some (.assign (.const (.int .i64 256))), none⟩])
  .ret)
  (.seq (.seq (.reg [] [⟨some 35, some (.binOp .eql Zd (.tmp 3) (.const (.int .i64 26)) Zd), none⟩,
 ⟨some 34, some (.assign (.tmp 35)), none⟩])
  (.cond (.tmp 34) .skip
  (.seq (.reg [] [⟨some 36, some (.binOp .eql Zd (.tmp 3) (.const (.int .i64 27)) Zd), none⟩,
 ⟨some 34, some (.assign (.tmp 36)), none⟩])
  (.cond (.tmp 34) .skip
  (.reg [] [⟨some 37, some (.binOp .eql Zd (.tmp 3) (.const (.int .i64 28)) Zd), none⟩,
 ⟨some 34, some (.assign (.tmp 37)), none⟩])))))
  (.cond (.tmp 34) (.seq (.reg [] [⟨some 2, some (.assign (.const (.int .i64 96))), none⟩])
  .ret)
  (.seq (.seq (.reg [] [⟨some 39, some (.binOp .eql Zd (.tmp 3) (.const (.int .i64 3)) Zd), none⟩,
 ⟨some 38, some (.assign (.tmp 39)), none⟩])
  (.cond (.tmp 38) .skip
  (.seq (.reg [] [⟨some 40, some (.binOp .eql Zd (.tmp 3) (.const (.int .i64 10)) Zd), none⟩,
 ⟨some 38, some (.assign (.tmp 40)), none⟩])
  (.cond (.tmp 38) .skip
  (.reg [] [⟨some 41, some (.binOp .eql Zd (.tmp 3) (.const (.int .i64 11)) Zd), none⟩,
 ⟨some 38, some (.assign (.tmp 41)), none⟩])))))
  (.cond (.tmp 38) (.seq (.reg [] [⟨some 2, some (.assign (.const (.int .i64 128))), none⟩])
  .ret)
  .skip))))))))))))))))))))))))))
  (.seq (.reg [] [⟨some 2, some (.assign (.const (.int .i64 0))), none⟩])
  .ret)))
theorem Zi5 {a0 : AV} {H : AHeap} : R Zeq [a0] H = fnK Try.prog [] H [(.tmp 2)] (evalL Try.prog KT R Zx (Env.args [a0] 0) H) :=
  runs_body (D := DT) (f := Zeq) Try.func44 (by kernel_rfl) (by kernel_rfl) (by kernel_rfl) (by kernel_rfl) (by kernel_rfl) (Nat.le_of_ble_eq_true rfl)
def Zbc : LCode := (.seq (.reg [] [⟨some 4, some (.box Zc (.tmp 1)), none⟩,
 ⟨some 5, some (.box Zc (.tmp 2)), none⟩,
 ⟨some 6, some (.assign (.const (.int .i64 0))), none⟩])
  (.seq (.seq (.reg [] [⟨some 11, some (.fieldAddr Zc (.tmp 5) 0), none⟩,
 ⟨some 12, some (.load Zd (.tmp 11)), none⟩])
  (.block 0 (.seq (.reg [] [⟨some 14, some (.binOp .eql Zd (.tmp 12) (.const (.int .i64 39)) Zd), none⟩,
 ⟨some 13, some (.assign (.tmp 14)), none⟩])
  (.cond (.tmp 13) (.seq (.reg [] [⟨some 15, some (.move (.tmp 0)), none⟩,
 ⟨some 16, some (.fieldAddr Zc (.tmp 5) 2), none⟩,
 ⟨some 17, some (.load Zd (.tmp 16)), none⟩,
 ⟨some 18, some (.fieldAddr Zc (.tmp 4) 5), none⟩,
 ⟨some 19, some (.load Zd (.tmp 18)), none⟩,
 ⟨some 20, some (.fieldAddr Zc (.tmp 5) 6), none⟩,
 ⟨some 21, some (.load Zd (.tmp 20)), none⟩,
 ⟨some 22, some (.binOp .add Zd (.tmp 19) (.tmp 21) Zd), none⟩,
 ⟨some 23, some (.fieldAddr Zc (.tmp 4) 6), none⟩,
 ⟨some 24, some (.load Zd (.tmp 23)), none⟩,
 ⟨some 25, some (.fieldAddr Zc (.tmp 5) 6), none⟩,
 ⟨some 26, some (.load Zd (.tmp 25)), none⟩,
 ⟨some 27, some (.binOp .add Zd (.tmp 24) (.tmp 26) Zd), none⟩,
 ⟨some 28, some (.build Zc #[(0, (.const (.int .i64 39))), (2, (.tmp 17)), (5, (.tmp 22)), (6, (.tmp 27))]), none⟩,
 ⟨some 29, some (.call ⟨(.value (.func Zn)), #[.tmp 15, .tmp 28], #[Zi, Zc]⟩), none⟩,
 ⟨some 6, some (.assign (.tmp 29)), none⟩])
  .ret)
  (.seq (.reg [] [⟨some 31, some (.binOp .eql Zd (.tmp 12) (.const (.int .i64 38)) Zd), none⟩,
 ⟨some 30, some (.assign (.tmp 31)), none⟩])
  (.cond (.tmp 30) (.seq (.reg [10] [⟨some 33, some (.move (.tmp 0)), none⟩,
 ⟨some 34, some (.nilCheck (.tmp 33)), none⟩,
 ⟨some 35, some (.fieldAddr Zs (.tmp 34) 0), none⟩,
 ⟨some 36, some (.load Ze (.tmp 35)), none⟩,
 ⟨some 37, some (.fieldAddr Zc (.tmp 5) 3), none⟩,
 ⟨some 38, some (.load Zd (.tmp 37)), none⟩,
 ⟨some 39, some (.call ⟨(.value (.func Zj)), #[.tmp 36, .tmp 38], #[Ze, Zd]⟩), none⟩,
 ⟨some 32, some (.move (.tmp 39)), none⟩,
 ⟨some 40, some (.extract (.tmp 32) 0), none⟩,
 ⟨some 41, some (.extract (.tmp 32) 1), none⟩,
 ⟨some 7, some (.alloc Zc), none⟩,
 ⟨none, some (.store Zc (.tmp 7) (.tmp 40)), none⟩,
 ⟨some 8, some (.assign (.tmp 41)), none⟩])
  (.seq (.seq (.reg [] [⟨some 42, some (.fieldAddr Zc (.tmp 4) 6), none⟩,
 ⟨some 43, some (.load Zd (.tmp 42)), none⟩,
 ⟨some 44, some (.fieldAddr Zc (.tmp 7) 1), none⟩,
 ⟨some 45, some (.load Zd (.tmp 44)), none⟩,
 ⟨some 46, some (.binOp .geq Zd (.tmp 43) (.tmp 45) Zd), none⟩])
  (.cond (.tmp 46) (.seq (.reg [] [⟨some 47, some (.move (.tmp 0)), none⟩,
 ⟨some 48, some (.fieldAddr Zc (.tmp 5) 2), none⟩,
 ⟨some 49, some (.load Zd (.tmp 48)), none⟩,
 ⟨some 50, some (.fieldAddr Zc (.tmp 4) 5), none⟩,
 ⟨some 51, some (.load Zd (.tmp 50)), none⟩,
 ⟨some 52, some (.fieldAddr Zc (.tmp 7) 1), none⟩,
 ⟨some 53, some (.load Zd (.tmp 52)), none⟩,
 ⟨some 54, some (.binOp .sub Zd (.tmp 51) (.tmp 53) Zd), none⟩,
 ⟨some 55, some (.fieldAddr Zc (.tmp 4) 6), none⟩,
 ⟨some 56, some (.load Zd (.tmp 55)), none⟩,
 ⟨some 57, some (.fieldAddr Zc (.tmp 7) 1), none⟩,
 ⟨some 58, some (.load Zd (.tmp 57)), none⟩,
 ⟨some 59, some (.binOp .sub Zd (.tmp 56) (.tmp 58) Zd), none⟩,
 ⟨some 60, some (.build Zc #[(0, (.const (.int .i64 39))), (2, (.tmp 49)), (5, (.tmp 54)), (6, (.tmp 59))]), none⟩,
 ⟨some 61, some (.call ⟨(.value (.func Zn)), #[.tmp 47, .tmp 60], #[Zi, Zc]⟩), none⟩,
 ⟨some 6, some (.assign (.tmp 61)), none⟩])
  .ret)
  .skip))
  (.seq (.reg [] [⟨some 62, some (.fieldAddr Zc (.tmp 4) 5), none⟩,
 ⟨some 63, some (.load Zd (.tmp 62)), none⟩,
 ⟨some 64, some (.fieldAddr Zc (.tmp 7) 1), none⟩,
 ⟨some 65, some (.load Zd (.tmp 64)), none⟩,
 ⟨some 66, some (.binOp .lss Zd (.tmp 63) (.tmp 65) Zd), none⟩])
  (.cond (.tmp 66) (.seq (.reg [] [⟨some 67, some (.move (.tmp 0)), none⟩,
 ⟨some 68, some (.fieldAddr Zc (.tmp 5) 3), none⟩,
 ⟨some 69, some (.load Zd (.tmp 68)), none⟩,
 ⟨some 70, some (.fieldAddr Zc (.tmp 4) 5), none⟩,
 ⟨some 71, some (.load Zd (.tmp 70)), none⟩,
 ⟨some 72, some (.fieldAddr Zc (.tmp 4) 6), none⟩,
 ⟨some 73, some (.load Zd (.tmp 72)), none⟩,
 ⟨some 74, some (.build Zc #[(0, (.const (.int .i64 39))), (2, (.tmp 69)), (5, (.tmp 71)), (6, (.tmp 73))]), none⟩,
 ⟨some 75, some (.call ⟨(.value (.func Zn)), #[.tmp 67, .tmp 74], #[Zi, Zc]⟩), none⟩,
 ⟨some 6, some (.assign (.tmp 75)), none⟩])
  .ret)
  .skip))))
  (.seq (.seq (.reg [] [⟨some 77, some (.binOp .eql Zd (.tmp 12) (.const (.int .i64 40)) Zd), none⟩,
 ⟨some 76, some (.assign (.tmp 77)), none⟩])
  (.cond (.tmp 76) .skip
  (.reg [] [⟨some 78, some (.binOp .eql Zd (.tmp 12) (.const (.int .i64 41)) Zd), none⟩,
 ⟨some 76, some (.assign (.tmp 78)), none⟩])))
  (.cond (.tmp 76) (.seq (.reg [10] [⟨some 80, some (.move (.tmp 0)), none⟩,
 ⟨some 81, some (.nilCheck (.tmp 80)), none⟩,
 ⟨some 82, some (.fieldAddr Zs (.tmp 81) 0), none⟩,
 ⟨some 83, some (.load Ze (.tmp 82)), none⟩,
 ⟨some 84, some (.fieldAddr Zc (.tmp 5) 2), none⟩,
 ⟨some 85, some (.load Zd (.tmp 84)), none⟩,
 ⟨some 86, some (.call ⟨(.value (.func Zj)), #[.tmp 83, .tmp 85], #[Ze, Zd]⟩), none⟩,
 ⟨some 79, some (.move (.tmp 86)), none⟩,
 ⟨some 87, some (.extract (.tmp 79) 0), none⟩,
 ⟨some 88, some (.extract (.tmp 79) 1), none⟩,
 ⟨some 9, some (.alloc Zc), none⟩,
 ⟨none, some (.store Zc (.tmp 9) (.tmp 87)), none⟩,
 ⟨some 10, some (.assign (.tmp 88)), none⟩])
  (.seq (.reg [] [⟨some 89, some (.fieldAddr Zc (.tmp 4) 5), none⟩,
 ⟨some 90, some (.load Zd (.tmp 89)), none⟩,
 ⟨some 91, some (.fieldAddr Zc (.tmp 9) 1), none⟩,
 ⟨some 92, some (.load Zd (.tmp 91)), none⟩,
 ⟨some 93, some (.binOp .lss Zd (.tmp 90) (.tmp 92) Zd), none⟩])
  (.cond (.tmp 93) (.seq (.reg [] [⟨some 94, some (.move (.tmp 0)), none⟩,
 ⟨some 95, some (.fieldAddr Zc (.tmp 5) 2), none⟩,
 ⟨some 96, some (.load Zd (.tmp 95)), none⟩,
 ⟨some 97, some (.fieldAddr Zc (.tmp 4) 5), none⟩,
 ⟨some 98, some (.load Zd (.tmp 97)), none⟩,
 ⟨some 99, some (.fieldAddr Zc (.tmp 4) 6), none⟩,
 ⟨some 100, some (.load Zd (.tmp 99)), none⟩,
 ⟨some 101, some (.build Zc #[(0, (.const (.int .i64 39))), (2, (.tmp 96)), (5, (.tmp 98)), (6, (.tmp 100))]), none⟩,
 ⟨some 102, some (.call ⟨(.value (.func Zn)), #[.tmp 94, .tmp 101], #[Zi, Zc]⟩), none⟩,
 ⟨some 6, some (.assign (.tmp 102)), none⟩])
  .ret)
  .skip)))
  .skip))))))))
  (.seq (.reg [] [⟨some 103, some (.move (.tmp 0)), none⟩,
 ⟨some 104, some (.load Zc (.tmp 4)), none⟩,
 ⟨some 105, some (.call ⟨(.value (.func Zg)), #[.tmp 103, .tmp 104], #[Zi, Zc]⟩), none⟩,
 ⟨some 6, some (.assign (.tmp 105)), none⟩])
  .ret)))
theorem Zf0 {a0 a1 a2 : AV} {H : AHeap} : R Zbb [a0, a1, a2] H = fnK Try.prog [] H [(.tmp 6)] (evalL Try.prog KT R Zbc (Env.args [a0, a1, a2] 0) H) :=
  runs_body (D := DT) (f := Zbb) Try.func45 (by kernel_rfl) (by kernel_rfl) (by kernel_rfl) (by kernel_rfl) (by kernel_rfl) (Nat.le_of_ble_eq_true rfl)
def Zd9 : LCode := (.seq (.reg [] [⟨some 4, some (.alloc Za), none⟩,
 ⟨some 5, some (.assign (.const (.bool false))), none⟩])
  (.seq (.reg [] [⟨some 9, some (.move (.tmp 0)), none⟩,
 ⟨some 10, some (.nilCheck (.tmp 9)), none⟩,
 ⟨some 11, some (.fieldAddr Zs (.tmp 10) 0), none⟩,
 ⟨some 12, some (.load Ze (.tmp 11)), none⟩,
 ⟨some 13, some (.move (.tmp 1)), none⟩,
 ⟨some 14, some (.call ⟨(.value (.func Zj)), #[.tmp 12, .tmp 13], #[Ze, Zd]⟩), none⟩,
 ⟨some 8, some (.move (.tmp 14)), none⟩,
 ⟨some 15, some (.extract (.tmp 8) 0), none⟩,
 ⟨some 16, some (.extract (.tmp 8) 1), none⟩,
 ⟨some 6, some (.alloc Zc), none⟩,
 ⟨none, some (.store Zc (.tmp 6) (.tmp 15)), none⟩,
 ⟨some 7, some (.assign (.tmp 16)), none⟩])
  (.seq (.reg [3, 5, 999, 1006] [⟨some 17, some (.fieldAddr Zc (.tmp 6) 7), none⟩,
 ⟨some 18, some (.load Za (.tmp 17)), none⟩,
 ⟨some 19, some (.fieldAddr Zc (.tmp 6) 0), none⟩,
 ⟨some 20, some (.load Zd (.tmp 19)), none⟩,
 ⟨some 21, some (.binOp .eql Zd (.tmp 20) (.const (.int .i64 1)) Zd), none⟩,
 ⟨none, some (.store Za (.tmp 4) (.tmp 18)), none⟩,
 ⟨some 5, some (.assign (.tmp 21)), none⟩])
  .ret)))
theorem Zf1 {a0 a1 : AV} {H : AHeap} : R Z2 [a0, a1] H = fnK Try.prog [] H [(.cell 4 Za), (.tmp 5)] (evalL Try.prog KT R Zd9 (Env.args [a0, a1] 0) H) :=
  runs_body (D := DT) (f := Z2) Try.func46 (by kernel_rfl) (by kernel_rfl) (by kernel_rfl) (by kernel_rfl) (by kernel_rfl) (Nat.le_of_ble_eq_true rfl)
def Zdq : LCode := (.seq (.reg [] [⟨some 3, some (.box Za (.tmp 1)), none⟩,
 ⟨some 4, some (.assign (.const (.int .i64 0))), none⟩])
  (.seq (.reg [] [⟨some 5, some (.move (.tmp 0)), none⟩,
 ⟨some 6, some (.fieldAddr Za (.tmp 3) 0), none⟩,
 ⟨some 7, some (.load Zd (.tmp 6)), none⟩,
 ⟨some 8, some (.load Za (.tmp 3)), none⟩,
 ⟨some 9, some (.build Zc #[(0, (.const (.int .i64 1))), (1, (.tmp 7)), (7, (.tmp 8))]), none⟩,
 ⟨some 10, some (.call ⟨(.value (.func Zg)), #[.tmp 5, .tmp 9], #[Zi, Zc]⟩), none⟩,
 ⟨some 4, some (.assign (.tmp 10)), none⟩])
  .ret))
theorem Zfh {a0 a1 : AV} {H : AHeap} : R Zh [a0, a1] H = fnK Try.prog [] H [(.tmp 4)] (evalL Try.prog KT R Zdq (Env.args [a0, a1] 0) H) :=
  runs_body (D := DT) (f := Zh) Try.func47 (by kernel_rfl) (by kernel_rfl) (by kernel_rfl) (by kernel_rfl) (by kernel_rfl) (Nat.le_of_ble_eq_true rfl)
def Zci : LCode := (.seq (.reg [] [⟨some 3, some (.box Zc (.tmp 1)), none⟩,
 ⟨some 4, some (.alloc Za), none⟩])
  (.seq (.seq (.reg [] [⟨some 7, some (.fieldAddr Zc (.tmp 3) 0), none⟩,
 ⟨some 8, some (.load Zd (.tmp 7)), none⟩,
 ⟨some 9, some (.binOp .eql Zd (.tmp 8) (.const (.int .i64 14)) Zd), none⟩,
 ⟨some 10, some (.move (.tmp 9)), none⟩,
 ⟨some 11, some (.fieldAddr Zc (.tmp 3) 0), some (some 10, false)⟩,
 ⟨some 12, some (.load Zd (.tmp 11)), some (some 10, false)⟩,
 ⟨some 13, some (.binOp .eql Zd (.tmp 12) (.const (.int .i64 19)) Zd), some (some 10, false)⟩,
 ⟨some 14, some (.pick (.tmp 10) (.const (.bool true)) (.tmp 13)), none⟩])
  (.cond (.tmp 14) (.seq (.reg [10] [⟨some 16, some (.move (.tmp 0)), none⟩,
 ⟨some 17, some (.nilCheck (.tmp 16)), none⟩,
 ⟨some 18, some (.fieldAddr Zs (.tmp 17) 0), none⟩,
 ⟨some 19, some (.load Ze (.tmp 18)), none⟩,
 ⟨some 20, some (.fieldAddr Zc (.tmp 3) 2), none⟩,
 ⟨some 21, some (.load Zd (.tmp 20)), none⟩,
 ⟨some 22, some (.call ⟨(.value (.func Zj)), #[.tmp 19, .tmp 21], #[Ze, Zd]⟩), none⟩,
 ⟨some 15, some (.move (.tmp 22)), none⟩,
 ⟨some 23, some (.extract (.tmp 15) 0), none⟩,
 ⟨some 24, some (.extract (.tmp 15) 1), none⟩,
 ⟨some 5, some (.alloc Zc), none⟩,
 ⟨none, some (.store Zc (.tmp 5) (.tmp 23)), none⟩,
 ⟨some 6, some (.assign (.tmp 24)), none⟩])
  (.seq (.reg [] [⟨some 25, some (.fieldAddr Zc (.tmp 5) 1), none⟩,
 ⟨some 26, some (.load Zd (.tmp 25)), none⟩,
 ⟨some 27, some (.build Za #[(0, (.tmp 26))]), none⟩,
 ⟨none, some (.store Za (.tmp 4) (.tmp 27)), none⟩])
  .ret))
  .skip))
  (.seq (.reg [] [⟨some 28, some (.build Za #[]), none⟩,
 ⟨none, some (.store Za (.tmp 4) (.tmp 28)), none⟩])
  .ret)))
theorem Zf8 {a0 a1 : AV} {H : AHeap} : R Zby [a0, a1] H = fnK Try.prog [] H [(.cell 4 Za)] (evalL Try.prog KT R Zci (Env.args [a0, a1] 0) H) :=
  runs_body (D := DT) (f := Zby) Try.func48 (by kernel_rfl) (by kernel_rfl) (by kernel_rfl) (by kernel_rfl) (by kernel_rfl) (Nat.le_of_ble_eq_true rfl)
def Ziw : LCode := (.seq (.reg [] [⟨some 2, some (.alloc Za), none⟩])
  (.seq (.seq (.reg [] [⟨some 3, some (.move (.tmp 0)), none⟩])
  (.cond (.tmp 3) (.seq (.reg [] [⟨some 4, some (.build Za #[(1, (.const (.int .u64 1)))]), none⟩,
 ⟨none, some (.store Za (.tmp 2) (.tmp 4)), none⟩])
  .ret)
  .skip))
  (.seq (.reg [] [⟨some 5, some (.build Za #[]), none⟩,
 ⟨none, some (.store Za (.tmp 2) (.tmp 5)), none⟩])
  .ret)))
theorem Zjw {a0 : AV} {H : AHeap} : R Zeb [a0] H = fnK Try.prog [] H [(.cell 2 Za)] (evalL Try.prog KT R Ziw (Env.args [a0] 0) H) :=
  runs_body (D := DT) (f := Zeb) Try.func49 (by kernel_rfl) (by kernel_rfl) (by kernel_rfl) (by kernel_rfl) (by kernel_rfl) (Nat.le_of_ble_eq_true rfl)
def Zk : LCode := (.seq (.reg [] [⟨some 3, some (.box Zc (.tmp 1)), none⟩,
 ⟨some 4, some (.assign (.const (.int .i64 0))), none⟩])
  (.seq (.seq (.reg [] [⟨some 10, some (.fieldAddr Zc (.tmp 3) 0), none⟩,
 ⟨some 11, some (.load Zd (.tmp 10)), none⟩,
 ⟨some 12, some (.binOp .lss Zd (.tmp 11) (.const (.int .i64 4)) Zd), none⟩,
 ⟨some 13, some (.move (.tmp 12)), none⟩,
 ⟨some 14, some (.fieldAddr Zc (.tmp 3) 0), some (some 13, false)⟩,
 ⟨some 15, some (.load Zd (.tmp 14)), some (some 13, false)⟩,
 ⟨some 16, some (.binOp .gtr Zd (.tmp 15) (.const (.int .i64 8)) Zd), some (some 13, false)⟩,
 ⟨some 17, some (.pick (.tmp 13) (.const (.bool true)) (.tmp 16)), none⟩])
  (.cond (.tmp 17) (.seq (.reg [] [⟨some 4, some (.assign (.const (.int .i64 0))), none⟩])
  .ret)
  .skip))
  (.seq (.reg [] [⟨some 18, some (.fieldAddr Zc (.tmp 3) 2), none⟩,
 ⟨some 19, some (.load Zd (.tmp 18)), none⟩,
 ⟨some 20, some (.fieldAddr Zc (.tmp 3) 3), none⟩,
 ⟨some 21, some (.load Zd (.tmp 20)), none⟩,
 ⟨some 5, some (.assign (.tmp 19)), none⟩,
 ⟨some 6, some (.assign (.tmp 21)), none⟩])
  (.seq (.reg [] [⟨some 23, some (.move (.tmp 0)), none⟩,
 ⟨some 24, some (.move (.tmp 5)), none⟩,
 ⟨some 25, some (.call ⟨(.value (.func Z2)), #[.tmp 23, .tmp 24], #[Zi, Zd]⟩), none⟩,
 ⟨some 22, some (.move (.tmp 25)), none⟩,
 ⟨some 26, some (.extract (.tmp 22) 0), none⟩,
 ⟨some 27, some (.extract (.tmp 22) 1), none⟩,
 ⟨some 7, some (.alloc Za), none⟩,
 ⟨none, some (.store Za (.tmp 7) (.tmp 26)), none⟩,
 ⟨some 8, some (.assign (.tmp 27)), none⟩])
  (.seq (.seq (.reg [] [⟨some 28, some (.move (.tmp 8)), none⟩,
 ⟨some 29, some (.unOp .not Z8 (.tmp 28)), none⟩,
 ⟨some 30, some (.move (.tmp 29)), none⟩,
 ⟨some 31, some (.fieldAddr Zc (.tmp 3) 0), some (some 30, true)⟩,
 ⟨some 32, some (.load Zd (.tmp 31)), some (some 30, true)⟩,
 ⟨some 33, some (.binOp .neq Zd (.tmp 32) (.const (.int .i64 7)) Zd), some (some 30, true)⟩,
 ⟨some 34, some (.pick (.tmp 30) (.tmp 33) (.const (.bool false))), none⟩])
  (.cond (.tmp 34) (.seq (.reg [] [⟨some 35, some (.move (.tmp 6)), none⟩,
 ⟨some 36, some (.move (.tmp 5)), none⟩,
 ⟨some 5, some (.assign (.tmp 35)), none⟩,
 ⟨some 6, some (.assign (.tmp 36)), none⟩])
  (.reg [] [⟨some 38, some (.move (.tmp 0)), none⟩,
 ⟨some 39, some (.move (.tmp 5)), none⟩,
 ⟨some 40, some (.call ⟨(.value (.func Z2)), #[.tmp 38, .tmp 39], #[Zi, Zd]⟩), none⟩,
 ⟨some 37, some (.move (.tmp 40)), none⟩,
 ⟨some 41, some (.extract (.tmp 37) 0), none⟩,
 ⟨some 42, some (.extract (.tmp 37) 1), none⟩,
 ⟨none, some (.store Za (.tmp 7) (.tmp 41)), none⟩,
 ⟨some 8, some (.assign (.tmp 42)), none⟩]))
  .skip))
  (.seq (.seq (.reg [] [⟨some 43, some (.move (.tmp 8)), none⟩,
 ⟨some 44, some (.unOp .not Z8 (.tmp 43)), none⟩,
 ⟨some 45, some (.move (.tmp 44)), none⟩,
 ⟨some 46, some (.fieldAddr Za (.tmp 7) 0), some (some 45, false)⟩,
 ⟨some 47, some (.load Zd (.tmp 46)), some (some 45, false)⟩,
 ⟨some 48, some (.binOp .gtr Zd (.tmp 47) (.const (.int .i64 0)) Zd), some (some 45, false)⟩,
 ⟨some 49, some (.pick (.tmp 45) (.const (.bool true)) (.tmp 48)), none⟩])
  (.cond (.tmp 49) (.seq (.reg [] [⟨some 4, some (.assign (.const (.int .i64 0))), none⟩])
  .ret)
  .skip))
  (.seq (.reg [] [⟨some 50, some (.fieldAddr Za (.tmp 7) 1), none⟩,
 ⟨some 51, some (.load Zf (.tmp 50)), none⟩,
 ⟨some 52, some (.binOp .eql Zf (.tmp 51) (.const (.int .u64 1)) Zf), none⟩,
 ⟨some 9, some (.assign (.tmp 52)), none⟩])
  (.seq (.seq (.reg [] [⟨some 53, some (.fieldAddr Zc (.tmp 3) 0), none⟩,
 ⟨some 54, some (.load Zd (.tmp 53)), none⟩])
  (.block 0 (.seq (.reg [] [⟨some 56, some (.binOp .eql Zd (.tmp 54) (.const (.int .i64 4)) Zd), none⟩,
 ⟨some 55, some (.assign (.tmp 56)), none⟩])
  (.cond (.tmp 55) (.seq (.seq (.reg [] [⟨some 57, some (.move (.tmp 9)), none⟩])
  (.cond (.tmp 57) (.seq (.reg [] [⟨some 58, some (.move (.tmp 6)), none⟩,
 ⟨some 4, some (.assign (.tmp 58)), none⟩])
  .ret)
  .skip))
  (.seq (.reg [] [⟨some 59, some (.move (.tmp 5)), none⟩,
 ⟨some 4, some (.assign (.tmp 59)), none⟩])
  .ret))
  (.seq (.reg [] [⟨some 61, some (.binOp .eql Zd (.tmp 54) (.const (.int .i64 5)) Zd), none⟩,
 ⟨some 60, some (.assign (.tmp 61)), none⟩])
  (.cond (.tmp 60) (.seq (.seq (.reg [] [⟨some 62, some (.move (.tmp 9)), none⟩])
  (.cond (.tmp 62) (.seq (.reg [] [⟨some 63, some (.move (.tmp 5)), none⟩,
 ⟨some 4, some (.assign (.tmp 63)), none⟩])
  .ret)
  .skip))
  (.seq (.reg [] [⟨some 64, some (.move (.tmp 6)), none⟩,
 ⟨some 4, some (.assign (.tmp 64)), none⟩])
  .ret))
  (.seq (.reg [] [⟨some 66, some (.binOp .eql Zd (.tmp 54) (.const (.int .i64 7)) Zd), none⟩,
 ⟨some 65, some (.assign (.tmp 66)), none⟩])
  (.cond (.tmp 65) (.seq (.seq (.reg [] [⟨some 67, some (.move (.tmp 9)), none⟩])
  (.cond (.tmp 67) (.seq (.reg [] [⟨some 68, some (.move (.tmp 6)), none⟩,
 ⟨some 4, some (.assign (.tmp 68)), none⟩])
  .ret)
  .skip))
  (.seq (.reg [] [⟨some 69, some (.move (.tmp 0)), none⟩,
 ⟨some 70, some (.call ⟨(.value (.func Zeb)), #[(.const (.bool true))], #[Z8]⟩), none⟩,
 ⟨some 71, some (.call ⟨(.value (.func Zh)), #[.tmp 69, .tmp 70], #[Zi, Za]⟩), none⟩,
 ⟨some 4, some (.assign (.tmp 71)), none⟩])
  .ret))
  (.seq (.reg [] [⟨some 73, some (.binOp .eql Zd (.tmp 54) (.const (.int .i64 6)) Zd), none⟩,
 ⟨some 72, some (.assign (.tmp 73)), none⟩])
  (.cond (.tmp 72) (.reg [] [⟨some 74, some (.move (.tmp 9)), none⟩,
 ⟨some 75, some (.unOp .not Z8 (.tmp 74)), none⟩,
 ⟨some 9, some (.assign (.tmp 75)), none⟩])
  .skip))))))))))
  (.seq (.seq (.reg [] [⟨some 76, some (.move (.tmp 9)), none⟩])
  (.cond (.tmp 76) (.seq (.reg [] [⟨some 77, some (.move (.tmp 6)), none⟩,
 ⟨some 4, some (.assign (.tmp 77)), none⟩])
  .ret)
  .skip))
  (.seq (.reg [] [⟨some 78, some (.move (.tmp 0)), none⟩,
 ⟨some 79, some (.move (.tmp 6)), none⟩,
 ⟨some 80, some (.build Zc #[(0, (.const (.int .i64 3))), (2, (.tmp 79))]), none⟩,
 ⟨some 81, some (.call ⟨(.value (.func Zn)), #[.tmp 78, .tmp 80], #[Zi, Zc]⟩), none⟩,
 ⟨some 4, some (.assign (.tmp 81)), none⟩])
  .ret))))))))))
theorem Zf2 {a0 a1 : AV} {H : AHeap} : R Zbm [a0, a1] H = fnK Try.prog [] H [(.tmp 4)] (evalL Try.prog KT R Zk (Env.args [a0, a1] 0) H) :=
  runs_body (D := DT) (f := Zbm) Try.func50 (by kernel_rfl) (by kernel_rfl) (by kernel_rfl) (by kernel_rfl) (by kernel_rfl) (Nat.le_of_ble_eq_true rfl)
def Zo : LCode := (.seq (.reg [] [⟨some 4, some (.box Zc (.tmp 1)), none⟩,
 ⟨some 6, some (.assign (.const (.int .i64 0))), none⟩])
  (.seq (.block 0 (.seq (.seq (.reg [] [⟨some 10, some (.move (.tmp 2)), none⟩,
 ⟨some 11, some (.binOp .and Zd (.tmp 10) (.const (.int .i64 8)) Zd), none⟩,
 ⟨some 12, some (.binOp .neq Zd (.tmp 11) (.const (.int .i64 0)) Zd), none⟩,
 ⟨some 13, some (.move (.tmp 12)), none⟩,
 ⟨some 14, some (.move (.tmp 0)), some (some 13, true)⟩,
 ⟨some 15, some (.fieldAddr Zc (.tmp 4) 2), some (some 13, true)⟩,
 ⟨some 16, some (.load Zd (.tmp 15)), some (some 13, true)⟩,
 ⟨some 17, some (.call ⟨(.value (.func Z6)), #[(.tmp 14), (.tmp 16), (.const (.int .u64 0))], #[Zi, Zd, Zf]⟩), some (some 13, true)⟩,
 ⟨some 18, some (.move (.tmp 17)), some (some 13, true)⟩,
 ⟨some 19, some (.move (.tmp 0)), some (some 18, false)⟩,
 ⟨some 20, some (.fieldAddr Zc (.tmp 4) 3), some (some 18, false)⟩,
 ⟨some 21, some (.load Zd (.tmp 20)), some (some 18, false)⟩,
 ⟨some 22, some (.call ⟨(.value (.func Z6)), #[(.tmp 19), (.tmp 21), (.const (.int .u64 0))], #[Zi, Zd, Zf]⟩), some (some 18, false)⟩,
 ⟨some 23, some (.pick (.tmp 18) (.const (.bool true)) (.tmp 22)), some (some 13, true)⟩,
 ⟨some 24, some (.pick (.tmp 13) (.tmp 23) (.const (.bool false))), none⟩,
 ⟨some 9, some (.assign (.tmp 24)), none⟩])
  (.cond (.tmp 9) .skip
  (.reg [] [⟨some 25, some (.move (.tmp 2)), none⟩,
 ⟨some 26, some (.binOp .and Zd (.tmp 25) (.const (.int .i64 64)) Zd), none⟩,
 ⟨some 27, some (.binOp .neq Zd (.tmp 26) (.const (.int .i64 0)) Zd), none⟩,
 ⟨some 28, some (.move (.tmp 27)), none⟩,
 ⟨some 29, some (.move (.tmp 0)), some (some 28, true)⟩,
 ⟨some 30, some (.fieldAddr Zc (.tmp 4) 2), some (some 28, true)⟩,
 ⟨some 31, some (.load Zd (.tmp 30)), some (some 28, true)⟩,
 ⟨some 32, some (.call ⟨(.value (.func Z6)), #[(.tmp 29), (.tmp 31), (.const (.int .u64 0))], #[Zi, Zd, Zf]⟩), some (some 28, true)⟩,
 ⟨some 33, some (.pick (.tmp 28) (.tmp 32) (.const (.bool false))), none⟩,
 ⟨some 9, some (.assign (.tmp 33)), none⟩])))
  (.cond (.tmp 9) (.seq (.reg [10] [⟨some 35, some (.move (.tmp 0)), none⟩,
 ⟨some 36, some (.nilCheck (.tmp 35)), none⟩,
 ⟨some 37, some (.fieldAddr Zs (.tmp 36) 0), none⟩,
 ⟨some 38, some (.load Ze (.tmp 37)), none⟩,
 ⟨some 39, some (.fieldAddr Zc (.tmp 4) 2), none⟩,
 ⟨some 40, some (.load Zd (.tmp 39)), none⟩,
 ⟨some 41, some (.call ⟨(.value (.func Zj)), #[.tmp 38, .tmp 40], #[Ze, Zd]⟩), none⟩,
 ⟨some 34, some (.move (.tmp 41)), none⟩,
 ⟨some 42, some (.extract (.tmp 34) 0), none⟩,
 ⟨some 43, some (.extract (.tmp 34) 1), none⟩,
 ⟨some 7, some (.alloc Zc), none⟩,
 ⟨none, some (.store Zc (.tmp 7) (.tmp 42)), none⟩,
 ⟨some 8, some (.assign (.tmp 43)), none⟩])
  (.seq (.reg [] [⟨some 44, some (.move (.tmp 0)), none⟩,
 ⟨some 45, some (.fieldAddr Zc (.tmp 7) 1), none⟩,
 ⟨some 46, some (.load Zd (.tmp 45)), none⟩,
 ⟨some 47, some (.build Za #[(0, (.tmp 46))]), none⟩,
 ⟨some 48, some (.call ⟨(.value (.func Zh)), #[.tmp 44, .tmp 47], #[Zi, Za]⟩), none⟩,
 ⟨some 6, some (.assign (.tmp 48)), none⟩])
  .ret))
  (.seq (.seq (.reg [] [⟨some 50, some (.move (.tmp 2)), none⟩,
 ⟨some 51, some (.binOp .and Zd (.tmp 50) (.const (.int .i64 48)) Zd), none⟩,
 ⟨some 52, some (.binOp .neq Zd (.tmp 51) (.const (.int .i64 0)) Zd), none⟩,
 ⟨some 53, some (.move (.tmp 52)), none⟩,
 ⟨some 54, some (.move (.tmp 0)), some (some 53, true)⟩,
 ⟨some 55, some (.fieldAddr Zc (.tmp 4) 3), some (some 53, true)⟩,
 ⟨some 56, some (.load Zd (.tmp 55)), some (some 53, true)⟩,
 ⟨some 57, some (.call ⟨(.value (.func Z6)), #[(.tmp 54), (.tmp 56), (.const (.int .u64 0))], #[Zi, Zd, Zf]⟩), some (some 53, true)⟩,
 ⟨some 58, some (.pick (.tmp 53) (.tmp 57) (.const (.bool false))), none⟩,
 ⟨some 49, some (.assign (.tmp 58)), none⟩])
  (.cond (.tmp 49) .skip
  (.reg [] [⟨some 59, some (.move (.tmp 2)), none⟩,
 ⟨some 60, some (.binOp .and Zd (.tmp 59) (.const (.int .i64 256)) Zd), none⟩,
 ⟨some 61, some (.binOp .neq Zd (.tmp 60) (.const (.int .i64 0)) Zd), none⟩,
 ⟨some 62, some (.move (.tmp 61)), none⟩,
 ⟨some 63, some (.move (.tmp 0)), some (some 62, true)⟩,
 ⟨some 64, some (.fieldAddr Zc (.tmp 4) 3), some (some 62, true)⟩,
 ⟨some 65, some (.load Zd (.tmp 64)), some (some 62, true)⟩,
 ⟨some 66, some (.call ⟨(.value (.func Z6)), #[(.tmp 63), (.tmp 65), (.const (.int .u64 1))], #[Zi, Zd, Zf]⟩), some (some 62, true)⟩,
 ⟨some 67, some (.pick (.tmp 62) (.tmp 66) (.const (.bool false))), none⟩,
 ⟨some 49, some (.assign (.tmp 67)), none⟩])))
  (.cond (.tmp 49) (.seq (.reg [] [⟨some 68, some (.fieldAddr Zc (.tmp 4) 2), none⟩,
 ⟨some 69, some (.load Zd (.tmp 68)), none⟩,
 ⟨some 6, some (.assign (.tmp 69)), none⟩])
  .ret)
  (.seq (.seq (.reg [] [⟨some 71, some (.move (.tmp 2)), none⟩,
 ⟨some 72, some (.binOp .and Zd (.tmp 71) (.const (.int .i64 16)) Zd), none⟩,
 ⟨some 73, some (.binOp .neq Zd (.tmp 72) (.const (.int .i64 0)) Zd), none⟩,
 ⟨some 74, some (.move (.tmp 73)), none⟩,
 ⟨some 75, some (.move (.tmp 0)), some (some 74, true)⟩,
 ⟨some 76, some (.fieldAddr Zc (.tmp 4) 2), some (some 74, true)⟩,
 ⟨some 77, some (.load Zd (.tmp 76)), some (some 74, true)⟩,
 ⟨some 78, some (.call ⟨(.value (.func Z6)), #[(.tmp 75), (.tmp 77), (.const (.int .u64 0))], #[Zi, Zd, Zf]⟩), some (some 74, true)⟩,
 ⟨some 79, some (.pick (.tmp 74) (.tmp 78) (.const (.bool false))), none⟩,
 ⟨some 70, some (.assign (.tmp 79)), none⟩])
  (.cond (.tmp 70) .skip
  (.reg [] [⟨some 80, some (.fieldAddr Zc (.tmp 4) 0), none⟩,
 ⟨some 81, some (.load Zd (.tmp 80)), none⟩,
 ⟨some 82, some (.binOp .eql Zd (.tmp 81) (.const (.int .i64 20)) Zd), none⟩,
 ⟨some 83, some (.move (.tmp 82)), none⟩,
 ⟨some 84, some (.move (.tmp 0)), some (some 83, true)⟩,
 ⟨some 85, some (.fieldAddr Zc (.tmp 4) 2), some (some 83, true)⟩,
 ⟨some 86, some (.load Zd (.tmp 85)), some (some 83, true)⟩,
 ⟨some 87, some (.call ⟨(.value (.func Z6)), #[(.tmp 84), (.tmp 86), (.const (.int .u64 1))], #[Zi, Zd, Zf]⟩), some (some 83, true)⟩,
 ⟨some 88, some (.pick (.tmp 83) (.tmp 87) (.const (.bool false))), none⟩,
 ⟨some 70, some (.assign (.tmp 88)), none⟩])))
  (.cond (.tmp 70) (.seq (.reg [] [⟨some 89, some (.fieldAddr Zc (.tmp 4) 3), none⟩,
 ⟨some 90, some (.load Zd (.tmp 89)), none⟩,
 ⟨some 6, some (.assign (.tmp 90)), none⟩])
  .ret)
  .skip)))))))
  (.seq (.seq (.reg [] [⟨some 91, some (.fieldAddr Zc (.tmp 4) 0), none⟩,
 ⟨some 92, some (.load Zd (.tmp 91)), none⟩,
 ⟨some 93, some (.binOp .eql Zd (.tmp 92) (.const (.int .i64 20)) Zd), none⟩])
  (.cond (.tmp 93) (.seq (.reg [] [⟨some 94, some (.move (.tmp 0)), none⟩,
 ⟨some 95, some (.load Zc (.tmp 4)), none⟩,
 ⟨some 96, some (.call ⟨(.value (.func Z5)), #[.tmp 94, .tmp 95], #[Zi, Zc]⟩), none⟩,
 ⟨some 6, some (.assign (.tmp 96)), none⟩])
  .ret)
  .skip))
  (.seq (.reg [] [⟨some 97, some (.move (.tmp 0)), none⟩,
 ⟨some 98, some (.load Zc (.tmp 4)), none⟩,
 ⟨some 99, some (.call ⟨(.value (.func Zg)), #[.tmp 97, .tmp 98], #[Zi, Zc]⟩), none⟩,
 ⟨some 6, some (.assign (.tmp 99)), none⟩])
  .ret))))
theorem Zdz {a0 a1 a2 : AV} {H : AHeap} : R Zz [a0, a1, a2] H = fnK Try.prog [] H [(.tmp 6)] (evalL Try.prog KT R Zo (Env.args [a0, a1, a2] 0) H) :=
  runs_body (D := DT) (f := Zz) Try.func51 (by kernel_rfl) (by kernel_rfl) (by kernel_rfl) (by kernel_rfl) (by kernel_rfl) (Nat.le_of_ble_eq_true rfl)
def Zkl : LCode := (.seq (.reg [] [⟨some 3, some (.box Zb (.tmp 1)), none⟩,
 ⟨some 4, some (.alloc Za), none⟩])
  (.seq (.reg [] [⟨some 6, some (.move (.tmp 0)), none⟩,
 ⟨some 7, some (.call ⟨(.value (.func Ze6)), #[.tmp 6], #[Zd]⟩), none⟩,
 ⟨some 5, some (.alloc Zb), none⟩,
 ⟨none, some (.store Zb (.tmp 5) (.tmp 7)), none⟩])
  (.seq (.reg [] [⟨some 8, some (.move (.tmp 0)), none⟩,
 ⟨some 9, some (.fieldAddr Zb (.tmp 3) 0), none⟩,
 ⟨some 10, some (.load Zf (.tmp 9)), none⟩,
 ⟨some 11, some (.fieldAddr Zb (.tmp 5) 0), none⟩,
 ⟨some 12, some (.load Zf (.tmp 11)), none⟩,
 ⟨some 13, some (.binOp .and Zf (.tmp 10) (.tmp 12) Zf), none⟩,
 ⟨some 14, some (.fieldAddr Zb (.tmp 3) 1), none⟩,
 ⟨some 15, some (.load Zf (.tmp 14)), none⟩,
 ⟨some 16, some (.fieldAddr Zb (.tmp 5) 1), none⟩,
 ⟨some 17, some (.load Zf (.tmp 16)), none⟩,
 ⟨some 18, some (.binOp .and Zf (.tmp 15) (.tmp 17) Zf), none⟩,
 ⟨some 19, some (.build Za #[(0, (.tmp 8)), (1, (.tmp 13)), (2, (.tmp 18))]), none⟩,
 ⟨none, some (.store Za (.tmp 4) (.tmp 19)), none⟩])
  .ret)))
theorem Zk2 {a0 a1 : AV} {H : AHeap} : R Zcw [a0, a1] H = fnK Try.prog [] H [(.cell 4 Za)] (evalL Try.prog KT R Zkl (Env.args [a0, a1] 0) H) :=
  runs_body (D := DT) (f := Zcw) Try.func52 (by kernel_rfl) (by kernel_rfl) (by kernel_rfl) (by kernel_rfl) (by kernel_rfl) (Nat.le_of_ble_eq_true rfl)
def Zkv : LCode := (.seq (.reg [] [⟨some 1, some (.box Za (.tmp 0)), none⟩,
 ⟨some 2, some (.alloc Zb), none⟩])
  (.seq (.reg [] [⟨some 3, some (.fieldAddr Za (.tmp 1) 1), none⟩,
 ⟨some 4, some (.load Zf (.tmp 3)), none⟩,
 ⟨some 5, some (.fieldAddr Za (.tmp 1) 2), none⟩,
 ⟨some 6, some (.load Zf (.tmp 5)), none⟩,
 ⟨some 7, some (.build Zb #[(0, (.tmp 4)), (1, (.tmp 6))]), none⟩,
 ⟨none, some (.store Zb (.tmp 2) (.tmp 7)), none⟩])
  .ret))
theorem Zk7 {a0 : AV} {H : AHeap} : R Zcp [a0] H = fnK Try.prog [] H [(.cell 2 Zb)] (evalL Try.prog KT R Zkv (Env.args [a0] 0) H) :=
  runs_body (D := DT) (f := Zcp) Try.func53 (by kernel_rfl) (by kernel_rfl) (by kernel_rfl) (by kernel_rfl) (by kernel_rfl) (Nat.le_of_ble_eq_true rfl)
def Zd0 : LCode := (.seq (.reg [] [⟨some 4, some (.assign (.const (.bool false))), none⟩])
  (.seq (.reg [] [⟨some 5, some (.move (.tmp 0)), none⟩,
 ⟨some 6, some (.move (.tmp 1)), none⟩,
 ⟨some 7, some (.call ⟨(.value (.func Zcn)), #[.tmp 5, .tmp 6], #[Z0, Zk8]⟩), none⟩,
 ⟨some 8, some (.binOp .geq Zd (.tmp 7) (.const (.int .i64 0)) Zd), none⟩,
 ⟨some 4, some (.assign (.tmp 8)), none⟩])
  .ret))
theorem Zfx {a0 a1 : AV} {H : AHeap} : R Zcb [a0, a1] H = fnK Try.prog [] H [(.tmp 4)] (evalL Try.prog KT R Zd0 (Env.args [a0, a1] 0) H) :=
  runs_body (D := DT) (f := Zcb) Try.func54 (by kernel_rfl) (by kernel_rfl) (by kernel_rfl) (by kernel_rfl) (by kernel_rfl) (Nat.le_of_ble_eq_true rfl)
def Zhu : LCode := (.seq (.reg [] [⟨some 2, some (.assign (.const (.bool false))), none⟩])
  (.seq (.reg [] [⟨some 3, some (.move (.tmp 0)), none⟩,
 ⟨some 4, some (.call ⟨(.value (.func Zf5)), #[.tmp 3], #[Zd]⟩), none⟩,
 ⟨some 5, some (.unOp .not Z8 (.tmp 4)), none⟩,
 ⟨some 2, some (.assign (.tmp 5)), none⟩])
  .ret))
theorem Zjl {a0 : AV} {H : AHeap} : R Zdt [a0] H = fnK Try.prog [] H [(.tmp 2)] (evalL Try.prog KT R Zhu (Env.args [a0] 0) H) :=
  runs_body (D := DT) (f := Zdt) Try.func55 (by kernel_rfl) (by kernel_rfl) (by kernel_rfl) (by kernel_rfl) (by kernel_rfl) (Nat.le_of_ble_eq_true rfl)
def Zw : LCode := (.seq (.reg [] [⟨some 8, some (.assign (.const (.int .i64 0))), none⟩,
 ⟨some 9, some (.assign (.const (.bool false))), none⟩])
  (.seq (.reg [] [⟨some 15, some (.move (.tmp 1)), none⟩,
 ⟨some 16, some (.binOp .eql Zd (.tmp 15) (.const (.int .i64 0)) Zd), none⟩,
 ⟨some 17, some (.move (.tmp 16)), none⟩,
 ⟨some 18, some (.move (.tmp 2)), some (some 17, true)⟩,
 ⟨some 19, some (.binOp .eql Zd (.tmp 18) (.const (.int .i64 0)) Zd), some (some 17, true)⟩,
 ⟨some 20, some (.pick (.tmp 17) (.tmp 19) (.const (.bool false))), none⟩,
 ⟨some 10, some (.assign (.tmp 20)), none⟩])
  (.seq (.reg [] [⟨some 21, some (.move (.tmp 3)), none⟩,
 ⟨some 22, some (.indexAddr Z0 (.tmp 21) (.const (.int .i64 0))), none⟩,
 ⟨some 23, some (.load Zd (.tmp 22)), none⟩,
 ⟨some 24, some (.move (.tmp 3)), none⟩,
 ⟨some 25, some (.move (.tmp 3)), none⟩,
 ⟨some 26, some (.call ⟨(.builtin .len), #[.tmp 25], #[Z0]⟩), none⟩,
 ⟨some 27, some (.binOp .sub Zd (.tmp 26) (.const (.int .i64 1)) Zd), none⟩,
 ⟨some 28, some (.indexAddr Z0 (.tmp 24) (.tmp 27)), none⟩,
 ⟨some 29, some (.load Zd (.tmp 28)), none⟩,
 ⟨some 11, some (.assign (.tmp 23)), none⟩,
 ⟨some 12, some (.assign (.tmp 29)), none⟩])
  (.seq (.block 0 (.seq (.reg [] [⟨some 31, some (.move (.tmp 0)), none⟩,
 ⟨some 32, some (.binOp .leq Zd (.tmp 31) (.const (.int .i64 7)) Zd), none⟩,
 ⟨some 30, some (.assign (.tmp 32)), none⟩])
  (.cond (.tmp 30) (.seq (.reg [] [⟨some 33, some (.move (.tmp 10)), none⟩,
 ⟨some 34, some (.move (.tmp 33)), none⟩,
 ⟨some 35, some (.move (.tmp 11)), some (some 34, true)⟩,
 ⟨some 36, some (.binOp .eql Zd (.tmp 35) (.const (.int .i64 0)) Zd), some (some 34, true)⟩,
 ⟨some 37, some (.pick (.tmp 34) (.tmp 36) (.const (.bool false))), none⟩,
 ⟨some 38, some (.move (.tmp 37)), none⟩,
 ⟨some 39, some (.move (.tmp 12)), some (some 38, true)⟩,
 ⟨some 40, some (.binOp .eql Zd (.tmp 39) (.const (.int .i64 0)) Zd), some (some 38, true)⟩,
 ⟨some 41, some (.pick (.tmp 38) (.tmp 40) (.const (.bool false))), none⟩,
 ⟨some 8, some (.assign (.const (.int .i64 0))), none⟩,
 ⟨some 9, some (.assign (.tmp 41)), none⟩])
  .ret)
  (.seq (.reg [] [⟨some 43, some (.move (.tmp 0)), none⟩,
 ⟨some 44, some (.binOp .eql Zd (.tmp 43) (.const (.int .i64 8)) Zd), none⟩,
 ⟨some 42, some (.assign (.tmp 44)), none⟩])
  (.cond (.tmp 42) (.seq (.reg [] [⟨some 45, some (.move (.tmp 10)), none⟩,
 ⟨some 46, some (.move (.tmp 45)), none⟩,
 ⟨some 47, some (.move (.tmp 11)), some (some 46, true)⟩,
 ⟨some 48, some (.move (.tmp 12)), some (some 46, true)⟩,
 ⟨some 49, some (.binOp .eql Zd (.tmp 47) (.tmp 48) Zd), some (some 46, true)⟩,
 ⟨some 50, some (.pick (.tmp 46) (.tmp 49) (.const (.bool false))), none⟩,
 ⟨some 8, some (.assign (.const (.int .i64 0))), none⟩,
 ⟨some 9, some (.assign (.tmp 50)), none⟩])
  .ret)
  (.seq (.reg [] [⟨some 52, some (.move (.tmp 0)), none⟩,
 ⟨some 53, some (.binOp .eql Zd (.tmp 52) (.const (.int .i64 9)) Zd), none⟩,
 ⟨some 51, some (.assign (.tmp 53)), none⟩])
  (.cond (.tmp 51) (.seq (.reg [] [⟨some 54, some (.move (.tmp 12)), none⟩,
 ⟨some 55, some (.move (.tmp 10)), none⟩,
 ⟨some 56, some (.move (.tmp 55)), none⟩,
 ⟨some 57, some (.move (.tmp 11)), some (some 56, true)⟩,
 ⟨some 58, some (.binOp .eql Zd (.tmp 57) (.const (.int .i64 0)) Zd), some (some 56, true)⟩,
 ⟨some 59, some (.pick (.tmp 56) (.tmp 58) (.const (.bool false))), none⟩,
 ⟨some 60, some (.move (.tmp 59)), none⟩,
 ⟨some 61, some (.move (.tmp 3)), some (some 60, true)⟩,
 ⟨some 62, some (.indexAddr Z0 (.tmp 61) (.const (.int .i64 1))), some (some 60, true)⟩,
 ⟨some 63, some (.load Zd (.tmp 62)), some (some 60, true)⟩,
 ⟨some 64, some (.move (.tmp 12)), some (some 60, true)⟩,
 ⟨some 65, some (.binOp .eql Zd (.tmp 63) (.tmp 64) Zd), some (some 60, true)⟩,
 ⟨some 66, some (.pick (.tmp 60) (.tmp 65) (.const (.bool false))), none⟩,
 ⟨some 8, some (.assign (.tmp 54)), none⟩,
 ⟨some 9, some (.assign (.tmp 66)), none⟩])
  .ret)
  (.seq (.reg [] [⟨some 68, some (.move (.tmp 0)), none⟩,
 ⟨some 69, some (.binOp .eql Zd (.tmp 68) (.const (.int .i64 38)) Zd), none⟩,
 ⟨some 67, some (.assign (.tmp 69)), none⟩])
  (.cond (.tmp 67) (.seq (.reg [] [⟨some 70, some (.move (.tmp 11)), none⟩,
 ⟨some 71, some (.move (.tmp 12)), none⟩,
 ⟨some 72, some (.binOp .add Zd (.tmp 70) (.tmp 71) Zd), none⟩,
 ⟨some 73, some (.move (.tmp 10)), none⟩,
 ⟨some 74, some (.move (.tmp 73)), none⟩,
 ⟨some 75, some (.move (.tmp 11)), some (some 74, true)⟩,
 ⟨some 76, some (.binOp .gtr Zd (.tmp 75) (.const (.int .i64 0)) Zd), some (some 74, true)⟩,
 ⟨some 77, some (.pick (.tmp 74) (.tmp 76) (.const (.bool false))), none⟩,
 ⟨some 78, some (.move (.tmp 77)), none⟩,
 ⟨some 79, some (.move (.tmp 12)), some (some 78, true)⟩,
 ⟨some 80, some (.binOp .gtr Zd (.tmp 79) (.const (.int .i64 0)) Zd), some (some 78, true)⟩,
 ⟨some 81, some (.pick (.tmp 78) (.tmp 80) (.const (.bool false))), none⟩,
 ⟨some 8, some (.assign (.tmp 72)), none⟩,
 ⟨some 9, some (.assign (.tmp 81)), none⟩])
  .ret)
  (.seq (.reg [] [⟨some 83, some (.move (.tmp 0)), none⟩,
 ⟨some 84, some (.binOp .geq Zd (.tmp 83) (.const (.int .i64 39)) Zd), none⟩,
 ⟨some 82, some (.assign (.tmp 84)), none⟩])
  (.cond (.tmp 82) (.seq (.reg [] [⟨some 86, some (.move (.tmp 0)), none⟩,
 ⟨some 87, some (.move (.tmp 1)), none⟩,
 ⟨some 88, some (.move (.tmp 2)), none⟩,
 ⟨some 89, some (.move (.tmp 11)), none⟩,
 ⟨some 90, some (.call ⟨(.value (.func Ze7)), #[.tmp 86, .tmp 87, .tmp 88, .tmp 89], #[Zd, Zd, Zd, Zd]⟩), none⟩,
 ⟨some 85, some (.move (.tmp 90)), none⟩,
 ⟨some 91, some (.extract (.tmp 85) 0), none⟩,
 ⟨some 92, some (.extract (.tmp 85) 1), none⟩,
 ⟨some 13, some (.assign (.tmp 91)), none⟩,
 ⟨some 14, some (.assign (.tmp 92)), none⟩])
  (.seq (.reg [] [⟨some 93, some (.move (.tmp 13)), none⟩,
 ⟨some 94, some (.move (.tmp 14)), none⟩,
 ⟨some 95, some (.move (.tmp 94)), none⟩,
 ⟨some 96, some (.move (.tmp 11)), some (some 95, true)⟩,
 ⟨some 97, some (.binOp .gtr Zd (.tmp 96) (.const (.int .i64 0)) Zd), some (some 95, true)⟩,
 ⟨some 98, some (.pick (.tmp 95) (.tmp 97) (.const (.bool false))), none⟩,
 ⟨some 8, some (.assign (.tmp 93)), none⟩,
 ⟨some 9, some (.assign (.tmp 98)), none⟩])
  .ret))
  (.seq (.reg [] [⟨some 100, some (.move (.tmp 0)), none⟩,
 ⟨some 101, some (.binOp .eql Zd (.tmp 100) (.const (.int .i64 37)) Zd), none⟩,
 ⟨some 99, some (.assign (.tmp 101)), none⟩])
  (.cond (.tmp 99) (.seq (.reg [] [⟨some 102, some (.move (.tmp 10)), none⟩,
 ⟨some 103, some (.move (.tmp 102)), none⟩,
 ⟨some 104, some (.move (.tmp 11)), some (some 103, true)⟩,
 ⟨some 105, some (.move (.tmp 12)), some (some 103, true)⟩,
 ⟨some 106, some (.binOp .eql Zd (.tmp 104) (.tmp 105) Zd), some (some 103, true)⟩,
 ⟨some 107, some (.pick (.tmp 103) (.tmp 106) (.const (.bool false))), none⟩,
 ⟨some 108, some (.move (.tmp 107)), none⟩,
 ⟨some 109, some (.move (.tmp 11)), some (some 108, true)⟩,
 ⟨some 110, some (.binOp .gtr Zd (.tmp 109) (.const (.int .i64 0)) Zd), some (some 108, true)⟩,
 ⟨some 111, some (.pick (.tmp 108) (.tmp 110) (.const (.bool false))), none⟩,
 ⟨some 8, some (.assign (.const (.int .i64 1))), none⟩,
 ⟨some 9, some (.assign (.tmp 111)), none⟩])
  .ret)
  (.seq (.reg [] [⟨some 113, some (.move (.tmp 0)), none⟩,
 ⟨some 114, some (.binOp .geq Zd (.tmp 113) (.const (.int .i64 29)) Zd), none⟩,
 ⟨some 112, some (.assign (.tmp 114)), none⟩])
  (.cond (.tmp 112) (.seq (.reg [] [⟨some 115, some (.move (.tmp 10)), none⟩,
 ⟨some 116, some (.move (.tmp 115)), none⟩,
 ⟨some 117, some (.move (.tmp 11)), some (some 116, true)⟩,
 ⟨some 118, some (.move (.tmp 12)), some (some 116, true)⟩,
 ⟨some 119, some (.binOp .eql Zd (.tmp 117) (.tmp 118) Zd), some (some 116, true)⟩,
 ⟨some 120, some (.pick (.tmp 116) (.tmp 119) (.const (.bool false))), none⟩,
 ⟨some 121, some (.move (.tmp 120)), none⟩,
 ⟨some 122, some (.move (.tmp 11)), some (some 121, true)⟩,
 ⟨some 123, some (.binOp .gtr Zd (.tmp 122) (.const (.int .i64 0)) Zd), some (some 121, true)⟩,
 ⟨some 124, some (.pick (.tmp 121) (.tmp 123) (.const (.bool false))), none⟩,
 ⟨some 8, some (.assign (.const (.int .i64 0))), none⟩,
 ⟨some 9, some (.assign (.tmp 124)), none⟩])
  .ret)
  .skip)))))))))))))))
  (.seq (.reg [] [⟨some 125, some (.move (.tmp 11)), none⟩,
 ⟨some 126, some (.move (.tmp 10)), none⟩,
 ⟨some 127, some (.move (.tmp 126)), none⟩,
 ⟨some 128, some (.move (.tmp 11)), some (some 127, true)⟩,
 ⟨some 129, some (.move (.tmp 12)), some (some 127, true)⟩,
 ⟨some 130, some (.binOp .eql Zd (.tmp 128) (.tmp 129) Zd), some (some 127, true)⟩,
 ⟨some 131, some (.pick (.tmp 127) (.tmp 130) (.const (.bool false))), none⟩,
 ⟨some 132, some (.move (.tmp 131)), none⟩,
 ⟨some 133, some (.move (.tmp 11)), some (some 132, true)⟩,
 ⟨some 134, some (.binOp .gtr Zd (.tmp 133) (.const (.int .i64 0)) Zd), some (some 132, true)⟩,
 ⟨some 135, some (.pick (.tmp 132) (.tmp 134) (.const (.bool false))), none⟩,
 ⟨some 8, some (.assign (.tmp 125)), none⟩,
 ⟨some 9, some (.assign (.tmp 135)), none⟩])
  .ret)))))
theorem Zkf {a0 a1 a2 a3 : AV} {H : AHeap} : R Zgo [a0, a1, a2, a3] H = fnK Try.prog [] H [(.tmp 8), (.tmp 9)] (evalL Try.prog KT R Zw (Env.args [a0, a1, a2, a3] 0) H) :=
  runs_body (D := DT) (f := Zgo) Try.func56 (by kernel_rfl) (by kernel_rfl) (by kernel_rfl) (by kernel_rfl) (by kernel_rfl) (Nat.le_of_ble_eq_true rfl)
def Zdg : LCode := (.seq (.reg [] [⟨some 2, some (.alloc Zv), none⟩,
 ⟨some 3, some (.assign (.const (.bool false))), none⟩])
  (.seq (.seq (.reg [] [⟨some 4, some (.move (.tmp 0)), none⟩])
  (.block 0 (.seq (.reg [] [⟨some 6, some (.binOp .eql Zd (.tmp 4) (.const (.int .i64 3)) Zd), none⟩,
 ⟨some 5, some (.assign (.tmp 6)), none⟩])
  (.cond (.tmp 5) (.seq (.reg [] [⟨some 7, some (.call ⟨(.value (.func Zc2)), #[(.func Zd2)], #[Zhp]⟩), none⟩,
 ⟨none, some (.store Zv (.tmp 2) (.tmp 7)), none⟩,
 ⟨some 3, some (.assign (.const (.bool true))), none⟩])
  .ret)
  (.seq (.reg [] [⟨some 9, some (.binOp .eql Zd (.tmp 4) (.const (.int .i64 4)) Zd), none⟩,
 ⟨some 8, some (.assign (.tmp 9)), none⟩])
  (.cond (.tmp 8) (.seq (.reg [] [⟨some 10, some (.call ⟨(.value (.func Zc2)), #[(.func Zd3)], #[Zhp]⟩), none⟩,
 ⟨none, some (.store Zv (.tmp 2) (.tmp 10)), none⟩,
 ⟨some 3, some (.assign (.const (.bool true))), none⟩])
  .ret)
  (.seq (.reg [] [⟨some 12, some (.binOp .eql Zd (.tmp 4) (.const (.int .i64 5)) Zd), none⟩,
 ⟨some 11, some (.assign (.tmp 12)), none⟩])
  (.cond (.tmp 11) (.seq (.reg [] [⟨some 13, some (.call ⟨(.value (.func Zc2)), #[(.func Zd4)], #[Zhp]⟩), none⟩,
 ⟨none, some (.store Zv (.tmp 2) (.tmp 13)), none⟩,
 ⟨some 3, some (.assign (.const (.bool true))), none⟩])
  .ret)
  (.seq (.reg [] [⟨some 15, some (.binOp .eql Zd (.tmp 4) (.const (.int .i64 6)) Zd), none⟩,
 ⟨some 14, some (.assign (.tmp 15)), none⟩])
  (.cond (.tmp 14) (.seq (.reg [] [⟨some 16, some (.call ⟨(.value (.func Zc2)), #[(.func Zdj)], #[Zhp]⟩), none⟩,
 ⟨none, some (.store Zv (.tmp 2) (.tmp 16)), none⟩,
 ⟨some 3, some (.assign (.const (.bool true))), none⟩])
  .ret)
  (.seq (.reg [] [⟨some 18, some (.binOp .eql Zd (.tmp 4) (.const (.int .i64 7)) Zd), none⟩,
 ⟨some 17, some (.assign (.tmp 18)), none⟩])
  (.cond (.tmp 17) (.seq (.reg [] [⟨some 19, some (.call ⟨(.value (.func Zc2)), #[(.func Zd5)], #[Zhp]⟩), none⟩,
 ⟨none, some (.store Zv (.tmp 2) (.tmp 19)), none⟩,
 ⟨some 3, some (.assign (.const (.bool true))), none⟩])
  .ret)
  (.seq (.reg [] [⟨some 21, some (.binOp .eql Zd (.tmp 4) (.const (.int .i64 8)) Zd), none⟩,
 ⟨some 20, some (.assign (.tmp 21)), none⟩])
  (.cond (.tmp 20) (.seq (.reg [] [⟨some 22, some (.call ⟨(.value (.func Zc2)), #[(.func Zd6)], #[Zhp]⟩), none⟩,
 ⟨none, some (.store Zv (.tmp 2) (.tmp 22)), none⟩,
 ⟨some 3, some (.assign (.const (.bool true))), none⟩])
  .ret)
  (.seq (.reg [] [⟨some 24, some (.binOp .eql Zd (.tmp 4) (.const (.int .i64 9)) Zd), none⟩,
 ⟨some 23, some (.assign (.tmp 24)), none⟩])
  (.cond (.tmp 23) (.seq (.reg [] [⟨some 25, some (.build Zv #[(0, (.func Zd7))]), none⟩,
 ⟨none, some (.store Zv (.tmp 2) (.tmp 25)), none⟩,
 ⟨some 3, some (.assign (.const (.bool true))), none⟩])
  .ret)
  .skip))))))))))))))))
  (.seq (.reg [] [⟨some 26, some (.build Zv #[]), none⟩,
 ⟨none, some (.store Zv (.tmp 2) (.tmp 26)), none⟩,
 ⟨some 3, some (.assign (.const (.bool false))), none⟩])
  .ret)))
theorem Zjx {a0 : AV} {H : AHeap} : R Ze0 [a0] H = fnK Try.prog [] H [(.cell 2 Zv), (.tmp 3)] (evalL Try.prog KT R Zdg (Env.args [a0] 0) H) :=
  runs_body (D := DT) (f := Ze0) Try.func57 (by kernel_rfl) (by kernel_rfl) (by kernel_rfl) (by kernel_rfl) (by kernel_rfl) (Nat.le_of_ble_eq_true rfl)
def Zh5 : LCode := (.seq (.reg [] [⟨some 1, some (.box Zd (.tmp 0)), none⟩,
 ⟨some 2, some (.alloc Zv), none⟩])
  (.seq (.reg [] [⟨some 3, some (.makeFunc (.func Zbt) #[] #[.tmp 1]), none⟩,
 ⟨some 4, some (.build Zv #[(0, (.tmp 3))]), none⟩,
 ⟨none, some (.store Zv (.tmp 2) (.tmp 4)), none⟩])
  .ret))
theorem Zjy {a0 : AV} {H : AHeap} : R Zgc [a0] H = fnK Try.prog [] H [(.cell 2 Zv)] (evalL Try.prog KT R Zh5 (Env.args [a0] 0) H) :=
  runs_body (D := DT) (f := Zgc) Try.func58 (by kernel_rfl) (by kernel_rfl) (by kernel_rfl) (by kernel_rfl) (by kernel_rfl) (Nat.le_of_ble_eq_true rfl)
def Zca : LCode := (.seq (.reg [] [⟨some 6, some (.assign (.const (.bool false))), none⟩])
  (.seq (.reg [] [⟨some 10, some (.move (.tmp 0)), none⟩,
 ⟨some 11, some (.move (.tmp 1)), none⟩,
 ⟨some 12, some (.call ⟨(.value (.func Z2)), #[.tmp 10, .tmp 11], #[Zi, Zd]⟩), none⟩,
 ⟨some 9, some (.move (.tmp 12)), none⟩,
 ⟨some 13, some (.extract (.tmp 9) 0), none⟩,
 ⟨some 14, some (.extract (.tmp 9) 1), none⟩,
 ⟨some 7, some (.alloc Za), none⟩,
 ⟨none, some (.store Za (.tmp 7) (.tmp 13)), none⟩,
 ⟨some 8, some (.assign (.tmp 14)), none⟩])
  (.seq (.reg [] [⟨some 15, some (.move (.tmp 8)), none⟩,
 ⟨some 16, some (.move (.tmp 15)), none⟩,
 ⟨some 17, some (.fieldAddr Za (.tmp 7) 0), some (some 16, true)⟩,
 ⟨some 18, some (.load Zd (.tmp 17)), some (some 16, true)⟩,
 ⟨some 19, some (.binOp .gtr Zd (.tmp 18) (.const (.int .i64 0)) Zd), some (some 16, true)⟩,
 ⟨some 20, some (.pick (.tmp 16) (.tmp 19) (.const (.bool false))), none⟩,
 ⟨some 21, some (.move (.tmp 20)), none⟩,
 ⟨some 22, some (.fieldAddr Za (.tmp 7) 1), some (some 21, true)⟩,
 ⟨some 23, some (.load Zf (.tmp 22)), some (some 21, true)⟩,
 ⟨some 24, some (.move (.tmp 2)), some (some 21, true)⟩,
 ⟨some 25, some (.binOp .eql Zf (.tmp 23) (.tmp 24) Zf), some (some 21, true)⟩,
 ⟨some 26, some (.pick (.tmp 21) (.tmp 25) (.const (.bool false))), none⟩,
 ⟨some 27, some (.move (.tmp 26)), none⟩,
 ⟨some 28, some (.fieldAddr Za (.tmp 7) 2), some (some 27, true)⟩,
 ⟨some 29, some (.load Zf (.tmp 28)), some (some 27, true)⟩,
 ⟨some 30, some (.binOp .eql Zf (.tmp 29) (.const (.int .u64 0)) Zf), some (some 27, true)⟩,
 ⟨some 31, some (.pick (.tmp 27) (.tmp 30) (.const (.bool false))), none⟩,
 ⟨some 6, some (.assign (.tmp 31)), none⟩])
  .ret)))
theorem Zgh {a0 a1 a2 : AV} {H : AHeap} : R Z6 [a0, a1, a2] H = fnK Try.prog [] H [(.tmp 6)] (evalL Try.prog KT R Zca (Env.args [a0, a1, a2] 0) H) :=
  runs_body (D := DT) (f := Z6) Try.func59 (by kernel_rfl) (by kernel_rfl) (by kernel_rfl) (by kernel_rfl) (by kernel_rfl) (Nat.le_of_ble_eq_true rfl)
def Zbn : LCode := (.seq (.reg [] [⟨some 40, some (.binOp .lss Zd (.tmp 39) (.tmp 38) Zd), none⟩])
  (.seq (.cond (.tmp 40) .skip
  (.exit 2))
  (.seq (.block 3 (.seq (.reg [] [⟨some 41, some (.move (.tmp 39)), none⟩,
 ⟨some 9, some (.assign (.tmp 41)), none⟩])
  (.seq (.reg [] [⟨some 43, some (.fieldAddr Za (.tmp 7) 0), none⟩,
 ⟨some 44, some (.load Zd (.tmp 43)), none⟩,
 ⟨some 45, some (.call ⟨(.value (.func Zhd)), #[(.tmp 44), (.const (.int .u64 1)), (.const (.int .u64 0))], #[Zd, Zf, Zf]⟩), none⟩,
 ⟨some 42, some (.move (.tmp 45)), none⟩,
 ⟨some 46, some (.extract (.tmp 42) 0), none⟩,
 ⟨some 47, some (.extract (.tmp 42) 1), none⟩,
 ⟨some 10, some (.alloc Za), none⟩,
 ⟨none, some (.store Za (.tmp 10) (.tmp 46)), none⟩,
 ⟨some 11, some (.assign (.tmp 47)), none⟩])
  (.seq (.reg [3] [⟨some 48, some (.load Za (.tmp 7)), none⟩,
 ⟨some 49, some (.load Za (.tmp 10)), none⟩,
 ⟨some 50, some (.move (.tmp 9)), none⟩,
 ⟨some 51, some (.call ⟨(.value (.func Zfz)), #[.tmp 49, .tmp 50], #[Za, Zd]⟩), none⟩,
 ⟨some 52, some (.binOp .eql Za (.tmp 48) (.tmp 51) Za), none⟩])
  (.cond (.tmp 52) (.seq (.reg [] [⟨some 54, some (.fieldAddr Za (.tmp 7) 0), none⟩,
 ⟨some 55, some (.load Zd (.tmp 54)), none⟩,
 ⟨some 56, some (.move (.tmp 9)), none⟩,
 ⟨some 57, some (.convert Zd Zf (.tmp 56)), none⟩,
 ⟨some 58, some (.call ⟨(.value (.func Zhd)), #[(.tmp 55), (.tmp 57), (.const (.int .u64 0))], #[Zd, Zf, Zf]⟩), none⟩,
 ⟨some 53, some (.move (.tmp 58)), none⟩,
 ⟨some 59, some (.extract (.tmp 53) 0), none⟩,
 ⟨some 60, some (.extract (.tmp 53) 1), none⟩,
 ⟨some 12, some (.alloc Za), none⟩,
 ⟨none, some (.store Za (.tmp 12) (.tmp 59)), none⟩,
 ⟨some 13, some (.assign (.tmp 60)), none⟩])
  (.seq (.reg [2, 5, 997, 1006] [⟨some 61, some (.move (.tmp 0)), none⟩,
 ⟨some 62, some (.indexAddr Zei (.tmp 6) (.const (.int .i64 0))), none⟩,
 ⟨some 63, some (.load Zd (.tmp 62)), none⟩,
 ⟨some 64, some (.move (.tmp 0)), none⟩,
 ⟨some 65, some (.load Za (.tmp 12)), none⟩,
 ⟨some 66, some (.call ⟨(.value (.func Zh)), #[.tmp 64, .tmp 65], #[Zi, Za]⟩), none⟩,
 ⟨some 67, some (.build Zc #[(0, (.const (.int .i64 26))), (2, (.tmp 63)), (3, (.tmp 66))]), none⟩,
 ⟨some 68, some (.call ⟨(.value (.func Zn)), #[.tmp 61, .tmp 67], #[Zi, Zc]⟩), none⟩,
 ⟨some 4, some (.assign (.tmp 68)), none⟩])
  .ret))
  .skip)))))
  (.reg [] [⟨some 69, some (.binOp .add Zd (.tmp 39) (.const (.int .i64 1)) Zd), none⟩,
 ⟨some 39, some (.move (.tmp 69)), none⟩]))))
def Zbo : LCode := (.seq (.reg [] [⟨some 26, some (.binOp .lss Zd (.tmp 25) (.const (.int .i64 2)) Zd), none⟩])
  (.seq (.cond (.tmp 26) .skip
  (.exit 0))
  (.seq (.block 1 (.seq (.reg [] [⟨some 27, some (.index Zea (.tmp 24) (.tmp 25)), none⟩,
 ⟨some 6, some (.alloc Zei), none⟩,
 ⟨none, some (.store Zei (.tmp 6) (.tmp 27)), none⟩])
  (.seq (.reg [] [⟨some 29, some (.move (.tmp 0)), none⟩,
 ⟨some 30, some (.indexAddr Zei (.tmp 6) (.const (.int .i64 1))), none⟩,
 ⟨some 31, some (.load Zd (.tmp 30)), none⟩,
 ⟨some 32, some (.call ⟨(.value (.func Z2)), #[.tmp 29, .tmp 31], #[Zi, Zd]⟩), none⟩,
 ⟨some 28, some (.move (.tmp 32)), none⟩,
 ⟨some 33, some (.extract (.tmp 28) 0), none⟩,
 ⟨some 34, some (.extract (.tmp 28) 1), none⟩,
 ⟨some 7, some (.alloc Za), none⟩,
 ⟨none, some (.store Za (.tmp 7) (.tmp 33)), none⟩,
 ⟨some 8, some (.assign (.tmp 34)), none⟩])
  (.seq (.seq (.reg [] [⟨some 35, some (.move (.tmp 8)), none⟩,
 ⟨some 36, some (.unOp .not Z8 (.tmp 35)), none⟩])
  (.cond (.tmp 36) (.exit 1)
  .skip))
  (.seq (.reg [] [⟨some 37, some (.fieldAddr Za (.tmp 7) 0), none⟩,
 ⟨some 38, some (.load Zd (.tmp 37)), none⟩,
 ⟨some 39, some (.move (.const (.int .i64 0))), none⟩])
  (.block 2 (.loop Zbn)))))))
  (.reg [] [⟨some 70, some (.binOp .add Zd (.tmp 25) (.const (.int .i64 1)) Zd), none⟩,
 ⟨some 25, some (.move (.tmp 70)), none⟩]))))
@[simp] theorem Zhn : defs Zbn = [40, 41, 9, 43, 44, 45, 42, 46, 47, 10, 11, 48, 49, 50, 51, 52, 54, 55, 56, 57, 58, 53, 59, 60, 12, 13, 61, 62, 63, 64, 65, 66, 67, 68, 4, 69, 39] := by rfl
@[simp] theorem Zho : defs Zbo = [26, 27, 6, 29, 30, 31, 32, 28, 33, 34, 7, 8, 35, 36, 37, 38, 39, 40, 41, 9, 43, 44, 45, 42, 46, 47, 10, 11, 48, 49, 50, 51, 52, 54, 55, 56, 57, 58, 53, 59, 60, 12, 13, 61, 62, 63, 64, 65, 66, 67, 68, 4, 69, 39, 70, 25] := by rfl
def Zds : LCode := (.seq (.reg [] [⟨some 3, some (.box Zc (.tmp 1)), none⟩,
 ⟨some 4, some (.assign (.const (.int .i64 0))), none⟩])
  (.seq (.seq (.reg [] [⟨some 14, some (.fieldAddr Zc (.tmp 3) 2), none⟩,
 ⟨some 15, some (.load Zd (.tmp 14)), none⟩,
 ⟨some 16, some (.fieldAddr Zc (.tmp 3) 3), none⟩,
 ⟨some 17, some (.load Zd (.tmp 16)), none⟩,
 ⟨some 18, some (.build Zei #[(0, (.tmp 15)), (1, (.tmp 17))]), none⟩,
 ⟨some 19, some (.fieldAddr Zc (.tmp 3) 3), none⟩,
 ⟨some 20, some (.load Zd (.tmp 19)), none⟩,
 ⟨some 21, some (.fieldAddr Zc (.tmp 3) 2), none⟩,
 ⟨some 22, some (.load Zd (.tmp 21)), none⟩,
 ⟨some 23, some (.build Zei #[(0, (.tmp 20)), (1, (.tmp 22))]), none⟩,
 ⟨some 24, some (.build Zea #[(0, (.tmp 18)), (1, (.tmp 23))]), none⟩,
 ⟨some 25, some (.move (.const (.int .i64 0))), none⟩])
  (.block 0 (.loop Zbo)))
  (.seq (.reg [] [⟨some 71, some (.move (.tmp 0)), none⟩,
 ⟨some 72, some (.load Zc (.tmp 3)), none⟩,
 ⟨some 73, some (.call ⟨(.value (.func Zg)), #[.tmp 71, .tmp 72], #[Zi, Zc]⟩), none⟩,
 ⟨some 4, some (.assign (.tmp 73)), none⟩])
  .ret)))
theorem Zfm {a0 a1 : AV} {H : AHeap} : R Z5 [a0, a1] H = fnK Try.prog [] H [(.tmp 4)] (evalL Try.prog KT R Zds (Env.args [a0, a1] 0) H) :=
  runs_body (D := DT) (f := Z5) Try.func60 (by kernel_rfl) (by kernel_rfl) (by kernel_rfl) (by kernel_rfl) (by kernel_rfl) (Nat.le_of_ble_eq_true rfl)
def Zjz : LCode := (.seq (.reg [] [⟨some 2, some (.alloc Zb), none⟩])
  (.seq (.reg [] [⟨some 3, some (.build Zb #[]), none⟩,
 ⟨some 4, some (.call ⟨(.value (.func Zbe)), #[.tmp 3], #[Zb]⟩), none⟩,
 ⟨some 5, some (.move (.tmp 0)), none⟩,
 ⟨some 6, some (.binOp .sub Zd (.const (.int .i64 128)) (.tmp 5) Zd), none⟩,
 ⟨some 7, some (.call ⟨(.value (.func Z7)), #[.tmp 4, .tmp 6], #[Zb, Zd]⟩), none⟩,
 ⟨none, some (.store Zb (.tmp 2) (.tmp 7)), none⟩])
  .ret))
theorem Zkw {a0 : AV} {H : AHeap} : R Ze6 [a0] H = fnK Try.prog [] H [(.cell 2 Zb)] (evalL Try.prog KT R Zjz (Env.args [a0] 0) H) :=
  runs_body (D := DT) (f := Ze6) Try.func61 (by kernel_rfl) (by kernel_rfl) (by kernel_rfl) (by kernel_rfl) (by kernel_rfl) (Nat.le_of_ble_eq_true rfl)
def Zbu : LCode := (.seq (.reg [] [⟨some 9, some (.binOp .lss Zd (.tmp 8) (.tmp 7) Zd), none⟩])
  (.seq (.cond (.tmp 9) .skip
  (.exit 0))
  (.seq (.block 1 (.seq (.reg [] [⟨some 10, some (.move (.tmp 8)), none⟩,
 ⟨some 5, some (.assign (.tmp 10)), none⟩])
  (.seq (.reg [] [⟨some 11, some (.move (.tmp 1)), none⟩,
 ⟨some 12, some (.move (.tmp 0)), none⟩,
 ⟨some 13, some (.move (.tmp 5)), none⟩,
 ⟨some 14, some (.indexAddr Z0 (.tmp 12) (.tmp 13)), none⟩,
 ⟨some 15, some (.load Zd (.tmp 14)), none⟩,
 ⟨some 16, some (.call ⟨(.value (.tmp 11)), #[.tmp 15], #[Zd]⟩), none⟩])
  (.cond (.tmp 16) (.seq (.reg [] [⟨some 17, some (.move (.tmp 5)), none⟩,
 ⟨some 4, some (.assign (.tmp 17)), none⟩])
  .ret)
  .skip))))
  (.reg [] [⟨some 18, some (.binOp .add Zd (.tmp 8) (.const (.int .i64 1)) Zd), none⟩,
 ⟨some 8, some (.move (.tmp 18)), none⟩]))))
@[simp] theorem Zh6 : defs Zbu = [9, 10, 5, 11, 12, 13, 14, 15, 16, 17, 4, 18, 8] := by rfl
def Zep : LCode := (.seq (.reg [] [⟨some 4, some (.assign (.const (.int .i64 0))), none⟩])
  (.seq (.seq (.reg [] [⟨some 6, some (.move (.tmp 0)), none⟩,
 ⟨some 7, some (.call ⟨(.builtin .len), #[.tmp 6], #[Z0]⟩), none⟩,
 ⟨some 8, some (.move (.const (.int .i64 0))), none⟩])
  (.block 0 (.loop Zbu)))
  (.seq (.reg [] [⟨some 4, some (.assign (.const (.int .i64 (-1)))), none⟩])
  .ret)))
theorem Zgb {a0 a1 : AV} {H : AHeap} : R Zcn [a0, a1] H = fnK Try.prog [] H [(.tmp 4)] (evalL Try.prog KT R Zep (Env.args [a0, a1] 0) H) :=
  runs_body (D := DT) (f := Zcn) Try.func62 (by kernel_rfl) (by kernel_rfl) (by kernel_rfl) (by kernel_rfl) (by kernel_rfl) (Nat.le_of_ble_eq_true rfl)
def Zb1 : LCode := (.seq (.reg [] [⟨some 8, some (.assign (.const (.int .i64 0))), none⟩,
 ⟨some 9, some (.assign (.const (.bool false))), none⟩])
  (.seq (.seq (.reg [] [⟨some 10, some (.move (.tmp 0)), none⟩])
  (.block 0 (.seq (.reg [] [⟨some 12, some (.binOp .eql Zd (.tmp 10) (.const (.int .i64 39)) Zd), none⟩,
 ⟨some 11, some (.assign (.tmp 12)), none⟩])
  (.cond (.tmp 11) (.seq (.reg [] [⟨some 13, some (.move (.tmp 1)), none⟩,
 ⟨some 14, some (.move (.tmp 2)), none⟩,
 ⟨some 15, some (.binOp .sub Zd (.tmp 13) (.tmp 14) Zd), none⟩,
 ⟨some 16, some (.binOp .add Zd (.tmp 15) (.const (.int .i64 1)) Zd), none⟩,
 ⟨some 17, some (.move (.tmp 2)), none⟩,
 ⟨some 18, some (.binOp .geq Zd (.tmp 17) (.const (.int .i64 0)) Zd), none⟩,
 ⟨some 19, some (.move (.tmp 18)), none⟩,
 ⟨some 20, some (.move (.tmp 1)), some (some 19, true)⟩,
 ⟨some 21, some (.move (.tmp 2)), some (some 19, true)⟩,
 ⟨some 22, some (.binOp .geq Zd (.tmp 20) (.tmp 21) Zd), some (some 19, true)⟩,
 ⟨some 23, some (.pick (.tmp 19) (.tmp 22) (.const (.bool false))), none⟩,
 ⟨some 24, some (.move (.tmp 23)), none⟩,
 ⟨some 25, some (.move (.tmp 1)), some (some 24, true)⟩,
 ⟨some 26, some (.move (.tmp 3)), some (some 24, true)⟩,
 ⟨some 27, some (.binOp .lss Zd (.tmp 25) (.tmp 26) Zd), some (some 24, true)⟩,
 ⟨some 28, some (.pick (.tmp 24) (.tmp 27) (.const (.bool false))), none⟩,
 ⟨some 8, some (.assign (.tmp 16)), none⟩,
 ⟨some 9, some (.assign (.tmp 28)), none⟩])
  .ret)
  (.seq (.seq (.reg [] [⟨some 30, some (.binOp .eql Zd (.tmp 10) (.const (.int .i64 42)) Zd), none⟩,
 ⟨some 29, some (.assign (.tmp 30)), none⟩])
  (.cond (.tmp 29) .skip
  (.reg [] [⟨some 31, some (.binOp .eql Zd (.tmp 10) (.const (.int .i64 43)) Zd), none⟩,
 ⟨some 29, some (.assign (.tmp 31)), none⟩])))
  (.cond (.tmp 29) (.seq (.reg [] [⟨some 32, some (.move (.tmp 3)), none⟩,
 ⟨some 33, some (.move (.tmp 1)), none⟩,
 ⟨some 34, some (.binOp .geq Zd (.tmp 33) (.const (.int .i64 0)) Zd), none⟩,
 ⟨some 35, some (.move (.tmp 34)), none⟩,
 ⟨some 36, some (.move (.tmp 2)), some (some 35, true)⟩,
 ⟨some 37, some (.binOp .eql Zd (.tmp 36) (.const (.int .i64 0)) Zd), some (some 35, true)⟩,
 ⟨some 38, some (.pick (.tmp 35) (.tmp 37) (.const (.bool false))), none⟩,
 ⟨some 8, some (.assign (.tmp 32)), none⟩,
 ⟨some 9, some (.assign (.tmp 38)), none⟩])
  .ret)
  (.seq (.reg [] [⟨some 40, some (.binOp .eql Zd (.tmp 10) (.const (.int .i64 44)) Zd), none⟩,
 ⟨some 39, some (.assign (.tmp 40)), none⟩])
  (.cond (.tmp 39) (.seq (.reg [] [⟨some 41, some (.move (.tmp 3)), none⟩,
 ⟨some 42, some (.move (.tmp 1)), none⟩,
 ⟨some 43, some (.call ⟨(.builtin .min), #[(.tmp 42), (.const (.int .i64 129))], #[Zd, Zd]⟩), none⟩,
 ⟨some 44, some (.binOp .mul Zd (.tmp 41) (.tmp 43) Zd), none⟩,
 ⟨some 45, some (.move (.tmp 1)), none⟩,
 ⟨some 46, some (.binOp .geq Zd (.tmp 45) (.const (.int .i64 1)) Zd), none⟩,
 ⟨some 47, some (.move (.tmp 46)), none⟩,
 ⟨some 48, some (.move (.tmp 2)), some (some 47, true)⟩,
 ⟨some 49, some (.binOp .eql Zd (.tmp 48) (.const (.int .i64 0)) Zd), some (some 47, true)⟩,
 ⟨some 50, some (.pick (.tmp 47) (.tmp 49) (.const (.bool false))), none⟩,
 ⟨some 8, some (.assign (.tmp 44)), none⟩,
 ⟨some 9, some (.assign (.tmp 50)), none⟩])
  .ret)
  .skip))))))))
  (.seq (.reg [] [⟨some 51, some (.move (.tmp 3)), none⟩,
 ⟨some 52, some (.move (.tmp 1)), none⟩,
 ⟨some 53, some (.call ⟨(.builtin .max), #[(.tmp 52), (.const (.int .i64 0))], #[Zd, Zd]⟩), none⟩,
 ⟨some 54, some (.call ⟨(.builtin .min), #[(.tmp 53), (.const (.int .i64 128))], #[Zd, Zd]⟩), none⟩,
 ⟨some 55, some (.binOp .add Zd (.tmp 51) (.tmp 54) Zd), none⟩,
 ⟨some 56, some (.move (.tmp 1)), none⟩,
 ⟨some 57, some (.binOp .geq Zd (.tmp 56) (.const (.int .i64 0)) Zd), none⟩,
 ⟨some 58, some (.move (.tmp 57)), none⟩,
 ⟨some 59, some (.move (.tmp 2)), some (some 58, true)⟩,
 ⟨some 60, some (.binOp .eql Zd (.tmp 59) (.const (.int .i64 0)) Zd), some (some 58, true)⟩,
 ⟨some 61, some (.pick (.tmp 58) (.tmp 60) (.const (.bool false))), none⟩,
 ⟨some 8, some (.assign (.tmp 55)), none⟩,
 ⟨some 9, some (.assign (.tmp 61)), none⟩])
  .ret)))
theorem Zix {a0 a1 a2 a3 : AV} {H : AHeap} : R Ze7 [a0, a1, a2, a3] H = fnK Try.prog [] H [(.tmp 8), (.tmp 9)] (evalL Try.prog KT R Zb1 (Env.args [a0, a1, a2, a3] 0) H) :=
  runs_body (D := DT) (f := Ze7) Try.func63 (by kernel_rfl) (by kernel_rfl) (by kernel_rfl) (by kernel_rfl) (by kernel_rfl) (Nat.le_of_ble_eq_true rfl)
def Zh7 : LCode := (.seq (.reg [] [⟨some 1, some (.box Zhp (.tmp 0)), none⟩,
 ⟨some 2, some (.alloc Zv), none⟩])
  (.seq (.reg [] [⟨some 3, some (.makeFunc (.func Zb6) #[] #[.tmp 1]), none⟩,
 ⟨some 4, some (.build Zv #[(0, (.tmp 3))]), none⟩,
 ⟨none, some (.store Zv (.tmp 2) (.tmp 4)), none⟩])
  .ret))
theorem Zj0 {a0 : AV} {H : AHeap} : R Zc2 [a0] H = fnK Try.prog [] H [(.cell 2 Zv)] (evalL Try.prog KT R Zh7 (Env.args [a0] 0) H) :=
  runs_body (D := DT) (f := Zc2) Try.func64 (by kernel_rfl) (by kernel_rfl) (by kernel_rfl) (by kernel_rfl) (by kernel_rfl) (Nat.le_of_ble_eq_true rfl)
def Zhe : LCode := (.seq (.reg [] [⟨some 2, some (.assign (.const (.bool false))), none⟩])
  (.seq (.reg [] [⟨some 3, some (.move (.tmp 0)), none⟩,
 ⟨some 4, some (.indexAddr Zp (.tmp 3) (.const (.int .i64 0))), none⟩,
 ⟨some 5, some (.load Za (.tmp 4)), none⟩,
 ⟨some 6, some (.call ⟨(.value (.func Zc6)), #[.tmp 5], #[Za]⟩), none⟩,
 ⟨some 7, some (.unOp .not Z8 (.tmp 6)), none⟩,
 ⟨some 2, some (.assign (.tmp 7)), none⟩])
  .ret))
theorem Zi6 {a0 : AV} {H : AHeap} : R Zd2 [a0] H = fnK Try.prog [] H [(.tmp 2)] (evalL Try.prog KT R Zhe (Env.args [a0] 0) H) :=
  runs_body (D := DT) (f := Zd2) Try.func65 (by kernel_rfl) (by kernel_rfl) (by kernel_rfl) (by kernel_rfl) (by kernel_rfl) (Nat.le_of_ble_eq_true rfl)
def Zji : LCode := (.seq (.reg [] [⟨some 1, some (.box Za (.tmp 0)), none⟩,
 ⟨some 2, some (.assign (.const (.bool false))), none⟩])
  (.seq (.reg [] [⟨some 3, some (.fieldAddr Za (.tmp 1) 1), none⟩,
 ⟨some 4, some (.load Zf (.tmp 3)), none⟩,
 ⟨some 5, some (.binOp .eql Zf (.tmp 4) (.const (.int .u64 1)) Zf), none⟩,
 ⟨some 2, some (.assign (.tmp 5)), none⟩])
  .ret))
theorem Zkp {a0 : AV} {H : AHeap} : R Zc6 [a0] H = fnK Try.prog [] H [(.tmp 2)] (evalL Try.prog KT R Zji (Env.args [a0] 0) H) :=
  runs_body (D := DT) (f := Zc6) Try.func66 (by kernel_rfl) (by kernel_rfl) (by kernel_rfl) (by kernel_rfl) (by kernel_rfl) (Nat.le_of_ble_eq_true rfl)
def Zhf : LCode := (.seq (.reg [] [⟨some 2, some (.assign (.const (.bool false))), none⟩])
  (.seq (.reg [] [⟨some 3, some (.move (.tmp 0)), none⟩,
 ⟨some 4, some (.indexAddr Zp (.tmp 3) (.const (.int .i64 0))), none⟩,
 ⟨some 5, some (.load Za (.tmp 4)), none⟩,
 ⟨some 6, some (.call ⟨(.value (.func Zc6)), #[.tmp 5], #[Za]⟩), none⟩,
 ⟨some 7, some (.move (.tmp 6)), none⟩,
 ⟨some 8, some (.move (.tmp 0)), some (some 7, true)⟩,
 ⟨some 9, some (.indexAddr Zp (.tmp 8) (.const (.int .i64 1))), some (some 7, true)⟩,
 ⟨some 10, some (.load Za (.tmp 9)), some (some 7, true)⟩,
 ⟨some 11, some (.call ⟨(.value (.func Zc6)), #[.tmp 10], #[Za]⟩), some (some 7, true)⟩,
 ⟨some 12, some (.pick (.tmp 7) (.tmp 11) (.const (.bool false))), none⟩,
 ⟨some 2, some (.assign (.tmp 12)), none⟩])
  .ret))
theorem Zi7 {a0 : AV} {H : AHeap} : R Zd3 [a0] H = fnK Try.prog [] H [(.tmp 2)] (evalL Try.prog KT R Zhf (Env.args [a0] 0) H) :=
  runs_body (D := DT) (f := Zd3) Try.func67 (by kernel_rfl) (by kernel_rfl) (by kernel_rfl) (by kernel_rfl) (by kernel_rfl) (Nat.le_of_ble_eq_true rfl)
def Zhg : LCode := (.seq (.reg [] [⟨some 2, some (.assign (.const (.bool false))), none⟩])
  (.seq (.reg [] [⟨some 3, some (.move (.tmp 0)), none⟩,
 ⟨some 4, some (.indexAddr Zp (.tmp 3) (.const (.int .i64 0))), none⟩,
 ⟨some 5, some (.load Za (.tmp 4)), none⟩,
 ⟨some 6, some (.call ⟨(.value (.func Zc6)), #[.tmp 5], #[Za]⟩), none⟩,
 ⟨some 7, some (.move (.tmp 6)), none⟩,
 ⟨some 8, some (.move (.tmp 0)), some (some 7, false)⟩,
 ⟨some 9, some (.indexAddr Zp (.tmp 8) (.const (.int .i64 1))), some (some 7, false)⟩,
 ⟨some 10, some (.load Za (.tmp 9)), some (some 7, false)⟩,
 ⟨some 11, some (.call ⟨(.value (.func Zc6)), #[.tmp 10], #[Za]⟩), some (some 7, false)⟩,
 ⟨some 12, some (.pick (.tmp 7) (.const (.bool true)) (.tmp 11)), none⟩,
 ⟨some 2, some (.assign (.tmp 12)), none⟩])
  .ret))
theorem Zi8 {a0 : AV} {H : AHeap} : R Zd4 [a0] H = fnK Try.prog [] H [(.tmp 2)] (evalL Try.prog KT R Zhg (Env.args [a0] 0) H) :=
  runs_body (D := DT) (f := Zd4) Try.func68 (by kernel_rfl) (by kernel_rfl) (by kernel_rfl) (by kernel_rfl) (by kernel_rfl) (Nat.le_of_ble_eq_true rfl)
def Zhh : LCode := (.seq (.reg [] [⟨some 2, some (.assign (.const (.bool false))), none⟩])
  (.seq (.reg [3] [⟨some 3, some (.move (.tmp 0)), none⟩,
 ⟨some 4, some (.indexAddr Zp (.tmp 3) (.const (.int .i64 0))), none⟩,
 ⟨some 5, some (.load Za (.tmp 4)), none⟩,
 ⟨some 6, some (.call ⟨(.value (.func Zc6)), #[.tmp 5], #[Za]⟩), none⟩,
 ⟨some 7, some (.move (.tmp 0)), none⟩,
 ⟨some 8, some (.indexAddr Zp (.tmp 7) (.const (.int .i64 1))), none⟩,
 ⟨some 9, some (.load Za (.tmp 8)), none⟩,
 ⟨some 10, some (.call ⟨(.value (.func Zc6)), #[.tmp 9], #[Za]⟩), none⟩,
 ⟨some 11, some (.binOp .neq Z8 (.tmp 6) (.tmp 10) Z8), none⟩,
 ⟨some 2, some (.assign (.tmp 11)), none⟩])
  .ret))
theorem Zi9 {a0 : AV} {H : AHeap} : R Zdj [a0] H = fnK Try.prog [] H [(.tmp 2)] (evalL Try.prog KT R Zhh (Env.args [a0] 0) H) :=
  runs_body (D := DT) (f := Zdj) Try.func69 (by kernel_rfl) (by kernel_rfl) (by kernel_rfl) (by kernel_rfl) (by kernel_rfl) (Nat.le_of_ble_eq_true rfl)
def Zhi : LCode := (.seq (.reg [] [⟨some 2, some (.assign (.const (.bool false))), none⟩])
  (.seq (.reg [] [⟨some 3, some (.move (.tmp 0)), none⟩,
 ⟨some 4, some (.indexAddr Zp (.tmp 3) (.const (.int .i64 0))), none⟩,
 ⟨some 5, some (.load Za (.tmp 4)), none⟩,
 ⟨some 6, some (.call ⟨(.value (.func Zc6)), #[.tmp 5], #[Za]⟩), none⟩,
 ⟨some 7, some (.unOp .not Z8 (.tmp 6)), none⟩,
 ⟨some 8, some (.move (.tmp 7)), none⟩,
 ⟨some 9, some (.move (.tmp 0)), some (some 8, false)⟩,
 ⟨some 10, some (.indexAddr Zp (.tmp 9) (.const (.int .i64 1))), some (some 8, false)⟩,
 ⟨some 11, some (.load Za (.tmp 10)), some (some 8, false)⟩,
 ⟨some 12, some (.call ⟨(.value (.func Zc6)), #[.tmp 11], #[Za]⟩), some (some 8, false)⟩,
 ⟨some 13, some (.pick (.tmp 8) (.const (.bool true)) (.tmp 12)), none⟩,
 ⟨some 2, some (.assign (.tmp 13)), none⟩])
  .ret))
theorem Zja {a0 : AV} {H : AHeap} : R Zd5 [a0] H = fnK Try.prog [] H [(.tmp 2)] (evalL Try.prog KT R Zhi (Env.args [a0] 0) H) :=
  runs_body (D := DT) (f := Zd5) Try.func70 (by kernel_rfl) (by kernel_rfl) (by kernel_rfl) (by kernel_rfl) (by kernel_rfl) (Nat.le_of_ble_eq_true rfl)
def Zhj : LCode := (.seq (.reg [] [⟨some 2, some (.assign (.const (.bool false))), none⟩])
  (.seq (.reg [] [⟨some 3, some (.move (.tmp 0)), none⟩,
 ⟨some 4, some (.indexAddr Zp (.tmp 3) (.const (.int .i64 0))), none⟩,
 ⟨some 5, some (.load Za (.tmp 4)), none⟩,
 ⟨some 6, some (.move (.tmp 0)), none⟩,
 ⟨some 7, some (.indexAddr Zp (.tmp 6) (.const (.int .i64 1))), none⟩,
 ⟨some 8, some (.load Za (.tmp 7)), none⟩,
 ⟨some 9, some (.binOp .eql Za (.tmp 5) (.tmp 8) Za), none⟩,
 ⟨some 2, some (.assign (.tmp 9)), none⟩])
  .ret))
theorem Zjb {a0 : AV} {H : AHeap} : R Zd6 [a0] H = fnK Try.prog [] H [(.tmp 2)] (evalL Try.prog KT R Zhj (Env.args [a0] 0) H) :=
  runs_body (D := DT) (f := Zd6) Try.func71 (by kernel_rfl) (by kernel_rfl) (by kernel_rfl) (by kernel_rfl) (by kernel_rfl) (Nat.le_of_ble_eq_true rfl)
def Zhk : LCode := (.seq (.reg [] [⟨some 6, some (.alloc Za), none⟩,
 ⟨some 7, some (.assign (.const (.int .i64 0))), none⟩])
  (.seq (.seq (.reg [] [⟨some 8, some (.move (.tmp 2)), none⟩,
 ⟨some 9, some (.indexAddr Zp (.tmp 8) (.const (.int .i64 0))), none⟩,
 ⟨some 10, some (.load Za (.tmp 9)), none⟩,
 ⟨some 11, some (.call ⟨(.value (.func Zc6)), #[.tmp 10], #[Za]⟩), none⟩])
  (.cond (.tmp 11) (.seq (.reg [] [⟨some 12, some (.move (.tmp 2)), none⟩,
 ⟨some 13, some (.indexAddr Zp (.tmp 12) (.const (.int .i64 1))), none⟩,
 ⟨some 14, some (.load Za (.tmp 13)), none⟩,
 ⟨none, some (.store Za (.tmp 6) (.tmp 14)), none⟩,
 ⟨some 7, some (.assign (.const (.int .i64 0))), none⟩])
  .ret)
  .skip))
  (.seq (.reg [] [⟨some 15, some (.move (.tmp 2)), none⟩,
 ⟨some 16, some (.indexAddr Zp (.tmp 15) (.const (.int .i64 2))), none⟩,
 ⟨some 17, some (.load Za (.tmp 16)), none⟩,
 ⟨none, some (.store Za (.tmp 6) (.tmp 17)), none⟩,
 ⟨some 7, some (.assign (.const (.int .i64 0))), none⟩])
  .ret)))
theorem Zjc {a0 a1 a2 : AV} {H : AHeap} : R Zd7 [a0, a1, a2] H = fnK Try.prog [] H [(.cell 6 Za), (.tmp 7)] (evalL Try.prog KT R Zhk (Env.args [a0, a1, a2] 0) H) :=
  runs_body (D := DT) (f := Zd7) Try.func72 (by kernel_rfl) (by kernel_rfl) (by kernel_rfl) (by kernel_rfl) (by kernel_rfl) (Nat.le_of_ble_eq_true rfl)
def Zc4 : LCode := (.seq (.reg [] [⟨some 7, some (.alloc Za), none⟩,
 ⟨some 8, some (.assign (.const (.int .i64 0))), none⟩])
  (.seq (.seq (.reg [] [⟨some 9, some (.load Zd (.tmp 3)), none⟩])
  (.block 0 (.seq (.seq (.reg [] [⟨some 11, some (.binOp .eql Zd (.tmp 9) (.const (.int .i64 10)) Zd), none⟩,
 ⟨some 10, some (.assign (.tmp 11)), none⟩])
  (.cond (.tmp 10) .skip
  (.reg [] [⟨some 12, some (.binOp .eql Zd (.tmp 9) (.const (.int .i64 11)) Zd), none⟩,
 ⟨some 10, some (.assign (.tmp 12)), none⟩])))
  (.cond (.tmp 10) (.seq (.reg [] [⟨some 13, some (.load Zd (.tmp 3)), none⟩,
 ⟨some 14, some (.move (.tmp 2)), none⟩,
 ⟨some 15, some (.indexAddr Zp (.tmp 14) (.const (.int .i64 0))), none⟩,
 ⟨some 16, some (.load Za (.tmp 15)), none⟩,
 ⟨some 17, some (.call ⟨(.value (.func Zhc)), #[.tmp 13, .tmp 16], #[Zd, Za]⟩), none⟩,
 ⟨some 18, some (.extract (.tmp 17) 0), none⟩,
 ⟨some 19, some (.extract (.tmp 17) 1), none⟩,
 ⟨none, some (.store Za (.tmp 7) (.tmp 18)), none⟩,
 ⟨some 8, some (.assign (.tmp 19)), none⟩])
  .ret)
  (.seq (.reg [] [⟨some 21, some (.binOp .eql Zd (.tmp 9) (.const (.int .i64 38)) Zd), none⟩,
 ⟨some 20, some (.assign (.tmp 21)), none⟩])
  (.cond (.tmp 20) (.seq (.reg [] [⟨some 22, some (.move (.tmp 2)), none⟩,
 ⟨some 23, some (.indexAddr Zp (.tmp 22) (.const (.int .i64 0))), none⟩,
 ⟨some 24, some (.load Za (.tmp 23)), none⟩,
 ⟨some 25, some (.move (.tmp 2)), none⟩,
 ⟨some 26, some (.indexAddr Zp (.tmp 25) (.const (.int .i64 1))), none⟩,
 ⟨some 27, some (.load Za (.tmp 26)), none⟩,
 ⟨some 28, some (.call ⟨(.value (.func Zec)), #[.tmp 24, .tmp 27], #[Za, Za]⟩), none⟩,
 ⟨some 29, some (.extract (.tmp 28) 0), none⟩,
 ⟨some 30, some (.extract (.tmp 28) 1), none⟩,
 ⟨none, some (.store Za (.tmp 7) (.tmp 29)), none⟩,
 ⟨some 8, some (.assign (.tmp 30)), none⟩])
  .ret)
  (.seq (.reg [] [⟨some 32, some (.binOp .eql Zd (.tmp 9) (.const (.int .i64 39)) Zd), none⟩,
 ⟨some 31, some (.assign (.tmp 32)), none⟩])
  (.cond (.tmp 31) (.seq (.reg [] [⟨some 33, some (.move (.tmp 2)), none⟩,
 ⟨some 34, some (.indexAddr Zp (.tmp 33) (.const (.int .i64 0))), none⟩,
 ⟨some 35, some (.load Za (.tmp 34)), none⟩,
 ⟨some 36, some (.move (.tmp 0)), none⟩,
 ⟨some 37, some (.move (.tmp 1)), none⟩,
 ⟨some 38, some (.call ⟨(.value (.func Zfl)), #[.tmp 35, .tmp 36, .tmp 37], #[Za, Zd, Zd]⟩), none⟩,
 ⟨some 39, some (.extract (.tmp 38) 0), none⟩,
 ⟨some 40, some (.extract (.tmp 38) 1), none⟩,
 ⟨none, some (.store Za (.tmp 7) (.tmp 39)), none⟩,
 ⟨some 8, some (.assign (.tmp 40)), none⟩])
  .ret)
  (.seq (.seq (.reg [] [⟨some 42, some (.binOp .eql Zd (.tmp 9) (.const (.int .i64 40)) Zd), none⟩,
 ⟨some 41, some (.assign (.tmp 42)), none⟩])
  (.cond (.tmp 41) .skip
  (.reg [] [⟨some 43, some (.binOp .eql Zd (.tmp 9) (.const (.int .i64 41)) Zd), none⟩,
 ⟨some 41, some (.assign (.tmp 43)), none⟩])))
  (.cond (.tmp 41) (.seq (.reg [] [⟨some 44, some (.move (.tmp 2)), none⟩,
 ⟨some 45, some (.indexAddr Zp (.tmp 44) (.const (.int .i64 0))), none⟩,
 ⟨some 46, some (.load Za (.tmp 45)), none⟩,
 ⟨some 47, some (.move (.tmp 0)), none⟩,
 ⟨some 48, some (.load Zd (.tmp 3)), none⟩,
 ⟨some 49, some (.binOp .eql Zd (.tmp 48) (.const (.int .i64 41)) Zd), none⟩,
 ⟨some 50, some (.call ⟨(.value (.func Zf6)), #[.tmp 46, .tmp 47, .tmp 49], #[Za, Zd, Z8]⟩), none⟩,
 ⟨some 51, some (.extract (.tmp 50) 0), none⟩,
 ⟨some 52, some (.extract (.tmp 50) 1), none⟩,
 ⟨none, some (.store Za (.tmp 7) (.tmp 51)), none⟩,
 ⟨some 8, some (.assign (.tmp 52)), none⟩])
  .ret)
  (.seq (.seq (.reg [] [⟨some 54, some (.binOp .eql Zd (.tmp 9) (.const (.int .i64 42)) Zd), none⟩,
 ⟨some 53, some (.assign (.tmp 54)), none⟩])
  (.cond (.tmp 53) .skip
  (.reg [] [⟨some 55, some (.binOp .eql Zd (.tmp 9) (.const (.int .i64 43)) Zd), none⟩,
 ⟨some 53, some (.assign (.tmp 55)), none⟩])))
  (.cond (.tmp 53) (.seq (.reg [] [⟨some 56, some (.move (.tmp 2)), none⟩,
 ⟨some 57, some (.indexAddr Zp (.tmp 56) (.const (.int .i64 0))), none⟩,
 ⟨some 58, some (.load Za (.tmp 57)), none⟩,
 ⟨some 59, some (.move (.tmp 0)), none⟩,
 ⟨some 60, some (.load Zd (.tmp 3)), none⟩,
 ⟨some 61, some (.binOp .eql Zd (.tmp 60) (.const (.int .i64 42)) Zd), none⟩,
 ⟨some 62, some (.call ⟨(.value (.func Zey)), #[.tmp 58, .tmp 59, .tmp 61], #[Za, Zd, Z8]⟩), none⟩,
 ⟨some 63, some (.extract (.tmp 62) 0), none⟩,
 ⟨some 64, some (.extract (.tmp 62) 1), none⟩,
 ⟨none, some (.store Za (.tmp 7) (.tmp 63)), none⟩,
 ⟨some 8, some (.assign (.tmp 64)), none⟩])
  .ret)
  (.seq (.reg [] [⟨some 66, some (.binOp .eql Zd (.tmp 9) (.const (.int .i64 44)) Zd), none⟩,
 ⟨some 65, some (.assign (.tmp 66)), none⟩])
  (.cond (.tmp 65) (.seq (.reg [] [⟨some 67, some (.move (.tmp 2)), none⟩,
 ⟨some 68, some (.indexAddr Zp (.tmp 67) (.const (.int .i64 0))), none⟩,
 ⟨some 69, some (.load Za (.tmp 68)), none⟩,
 ⟨some 70, some (.move (.tmp 0)), none⟩,
 ⟨some 71, some (.call ⟨(.value (.func Zf7)), #[.tmp 69, .tmp 70], #[Za, Zd]⟩), none⟩,
 ⟨some 72, some (.extract (.tmp 71) 0), none⟩,
 ⟨some 73, some (.extract (.tmp 71) 1), none⟩,
 ⟨none, some (.store Za (.tmp 7) (.tmp 72)), none⟩,
 ⟨some 8, some (.assign (.tmp 73)), none⟩])
  .ret)
  .skip))))))))))))))
  (.seq (.reg [] [⟨some 74, some (.load Zd (.tmp 3)), none⟩,
 ⟨some 75, some (.move (.tmp 2)), none⟩,
 ⟨some 76, some (.indexAddr Zp (.tmp 75) (.const (.int .i64 0))), none⟩,
 ⟨some 77, some (.load Za (.tmp 76)), none⟩,
 ⟨some 78, some (.move (.tmp 2)), none⟩,
 ⟨some 79, some (.indexAddr Zp (.tmp 78) (.const (.int .i64 1))), none⟩,
 ⟨some 80, some (.load Za (.tmp 79)), none⟩,
 ⟨some 81, some (.call ⟨(.value (.func Zgp)), #[.tmp 74, .tmp 77, .tmp 80], #[Zd, Za, Za]⟩), none⟩,
 ⟨some 82, some (.extract (.tmp 81) 0), none⟩,
 ⟨some 83, some (.extract (.tmp 81) 1), none⟩,
 ⟨none, some (.store Za (.tmp 7) (.tmp 82)), none⟩,
 ⟨some 8, some (.assign (.tmp 83)), none⟩])
  .ret)))
theorem Zdk {a0 a1 a2 a3 : AV} {H : AHeap} : R Zbt [a0, a1, a2, a3] H = fnK Try.prog [] H [(.cell 7 Za), (.tmp 8)] (evalL Try.prog KT R Zc4 (Env.args [a0, a1, a2, a3] 0) H) :=
  runs_body (D := DT) (f := Zbt) Try.func73 (by kernel_rfl) (by kernel_rfl) (by kernel_rfl) (by kernel_rfl) (by kernel_rfl) (Nat.le_of_ble_eq_true rfl)
def Zik : LCode := (.seq (.reg [] [⟨some 3, some (.box Za (.tmp 1)), none⟩,
 ⟨some 4, some (.alloc Za), none⟩,
 ⟨some 5, some (.assign (.const (.int .i64 0))), none⟩])
  (.seq (.block 0 (.seq (.reg [] [⟨some 7, some (.load Za (.tmp 3)), none⟩,
 ⟨some 8, some (.call ⟨(.value (.func Zde)), #[.tmp 7], #[Za]⟩), none⟩,
 ⟨some 9, some (.unOp .not Z8 (.tmp 8)), none⟩,
 ⟨some 6, some (.assign (.tmp 9)), none⟩])
  (.cond (.tmp 6) (.seq (.reg [] [⟨some 10, some (.build Za #[]), none⟩,
 ⟨none, some (.store Za (.tmp 4) (.tmp 10)), none⟩,
 ⟨some 5, some (.assign (.const (.int .i64 10))), none⟩])
  .ret)
  (.seq (.reg [] [⟨some 12, some (.move (.tmp 0)), none⟩,
 ⟨some 13, some (.binOp .eql Zd (.tmp 12) (.const (.int .i64 10)) Zd), none⟩,
 ⟨some 11, some (.assign (.tmp 13)), none⟩])
  (.cond (.tmp 11) (.seq (.reg [3, 4] [⟨some 14, some (.fieldAddr Za (.tmp 3) 0), none⟩,
 ⟨some 15, some (.load Zd (.tmp 14)), none⟩,
 ⟨some 16, some (.load Za (.tmp 3)), none⟩,
 ⟨some 17, some (.call ⟨(.value (.func Zcp)), #[.tmp 16], #[Za]⟩), none⟩,
 ⟨some 18, some (.call ⟨(.value (.func Zbe)), #[.tmp 17], #[Zb]⟩), none⟩,
 ⟨some 19, some (.call ⟨(.value (.func Zcw)), #[.tmp 15, .tmp 18], #[Zd, Zb]⟩), none⟩,
 ⟨none, some (.store Za (.tmp 4) (.tmp 19)), none⟩,
 ⟨some 5, some (.assign (.const (.int .i64 0))), none⟩])
  .ret)
  (.seq (.reg [] [⟨some 21, some (.move (.tmp 0)), none⟩,
 ⟨some 22, some (.binOp .eql Zd (.tmp 21) (.const (.int .i64 11)) Zd), none⟩,
 ⟨some 20, some (.assign (.tmp 22)), none⟩])
  (.cond (.tmp 20) (.seq (.reg [3, 4] [⟨some 23, some (.fieldAddr Za (.tmp 3) 0), none⟩,
 ⟨some 24, some (.load Zd (.tmp 23)), none⟩,
 ⟨some 25, some (.load Za (.tmp 3)), none⟩,
 ⟨some 26, some (.call ⟨(.value (.func Zcp)), #[.tmp 25], #[Za]⟩), none⟩,
 ⟨some 27, some (.call ⟨(.value (.func Zbg)), #[.tmp 26], #[Zb]⟩), none⟩,
 ⟨some 28, some (.call ⟨(.value (.func Zcw)), #[.tmp 24, .tmp 27], #[Zd, Zb]⟩), none⟩,
 ⟨none, some (.store Za (.tmp 4) (.tmp 28)), none⟩,
 ⟨some 5, some (.assign (.const (.int .i64 0))), none⟩])
  .ret)
  .skip)))))))
  (.seq (.reg [] [⟨some 29, some (.build Za #[]), none⟩,
 ⟨none, some (.store Za (.tmp 4) (.tmp 29)), none⟩,
 ⟨some 5, some (.assign (.const (.int .i64 11))), none⟩])
  .ret)))
theorem Zk3 {a0 a1 : AV} {H : AHeap} : R Zhc [a0, a1] H = fnK Try.prog [] H [(.cell 4 Za), (.tmp 5)] (evalL Try.prog KT R Zik (Env.args [a0, a1] 0) H) :=
  runs_body (D := DT) (f := Zhc) Try.func74 (by kernel_rfl) (by kernel_rfl) (by kernel_rfl) (by kernel_rfl) (by kernel_rfl) (Nat.le_of_ble_eq_true rfl)
def Ziy : LCode := (.seq (.reg [] [⟨some 2, some (.box Za (.tmp 0)), none⟩,
 ⟨some 3, some (.box Za (.tmp 1)), none⟩,
 ⟨some 4, some (.alloc Za), none⟩,
 ⟨some 5, some (.assign (.const (.int .i64 0))), none⟩])
  (.seq (.seq (.reg [] [⟨some 7, some (.load Za (.tmp 2)), none⟩,
 ⟨some 8, some (.call ⟨(.value (.func Zde)), #[.tmp 7], #[Za]⟩), none⟩,
 ⟨some 9, some (.unOp .not Z8 (.tmp 8)), none⟩,
 ⟨some 10, some (.move (.tmp 9)), none⟩,
 ⟨some 11, some (.load Za (.tmp 3)), some (some 10, false)⟩,
 ⟨some 12, some (.call ⟨(.value (.func Zde)), #[.tmp 11], #[Za]⟩), some (some 10, false)⟩,
 ⟨some 13, some (.unOp .not Z8 (.tmp 12)), some (some 10, false)⟩,
 ⟨some 14, some (.pick (.tmp 10) (.const (.bool true)) (.tmp 13)), none⟩,
 ⟨some 15, some (.move (.tmp 14)), none⟩,
 ⟨some 16, some (.fieldAddr Za (.tmp 2) 0), some (some 15, false)⟩,
 ⟨some 17, some (.load Zd (.tmp 16)), some (some 15, false)⟩,
 ⟨some 18, some (.fieldAddr Za (.tmp 3) 0), some (some 15, false)⟩,
 ⟨some 19, some (.load Zd (.tmp 18)), some (some 15, false)⟩,
 ⟨some 20, some (.binOp .add Zd (.tmp 17) (.tmp 19) Zd), some (some 15, false)⟩,
 ⟨some 21, some (.binOp .gtr Zd (.tmp 20) (.const (.int .i64 128)) Zd), some (some 15, false)⟩,
 ⟨some 22, some (.pick (.tmp 15) (.const (.bool true)) (.tmp 21)), none⟩])
  (.cond (.tmp 22) (.seq (.reg [] [⟨some 23, some (.build Za #[]), none⟩,
 ⟨none, some (.store Za (.tmp 4) (.tmp 23)), none⟩,
 ⟨some 5, some (.assign (.const (.int .i64 10))), none⟩])
  .ret)
  .skip))
  (.seq (.reg [1, 5] [⟨some 24, some (.load Za (.tmp 2)), none⟩,
 ⟨some 25, some (.call ⟨(.value (.func Zcp)), #[.tmp 24], #[Za]⟩), none⟩,
 ⟨some 26, some (.fieldAddr Za (.tmp 3) 0), none⟩,
 ⟨some 27, some (.load Zd (.tmp 26)), none⟩,
 ⟨some 28, some (.call ⟨(.value (.func Zba)), #[.tmp 25, .tmp 27], #[Zb, Zd]⟩), none⟩,
 ⟨some 6, some (.alloc Zb), none⟩,
 ⟨none, some (.store Zb (.tmp 6) (.tmp 28)), none⟩])
  (.seq (.reg [] [⟨some 29, some (.fieldAddr Za (.tmp 2) 0), none⟩,
 ⟨some 30, some (.load Zd (.tmp 29)), none⟩,
 ⟨some 31, some (.fieldAddr Za (.tmp 3) 0), none⟩,
 ⟨some 32, some (.load Zd (.tmp 31)), none⟩,
 ⟨some 33, some (.binOp .add Zd (.tmp 30) (.tmp 32) Zd), none⟩,
 ⟨some 34, some (.fieldAddr Zb (.tmp 6) 0), none⟩,
 ⟨some 35, some (.load Zf (.tmp 34)), none⟩,
 ⟨some 36, some (.fieldAddr Za (.tmp 3) 1), none⟩,
 ⟨some 37, some (.load Zf (.tmp 36)), none⟩,
 ⟨some 38, some (.binOp .or Zf (.tmp 35) (.tmp 37) Zf), none⟩,
 ⟨some 39, some (.fieldAddr Zb (.tmp 6) 1), none⟩,
 ⟨some 40, some (.load Zf (.tmp 39)), none⟩,
 ⟨some 41, some (.fieldAddr Za (.tmp 3) 2), none⟩,
 ⟨some 42, some (.load Zf (.tmp 41)), none⟩,
 ⟨some 43, some (.binOp .or Zf (.tmp 40) (.tmp 42) Zf), none⟩,
 ⟨some 44, some (.build Zb #[(0, (.tmp 38)), (1, (.tmp 43))]), none⟩,
 ⟨some 45, some (.call ⟨(.value (.func Zcw)), #[.tmp 33, .tmp 44], #[Zd, Zb]⟩), none⟩,
 ⟨none, some (.store Za (.tmp 4) (.tmp 45)), none⟩,
 ⟨some 5, some (.assign (.const (.int .i64 0))), none⟩])
  .ret))))
theorem Zkg {a0 a1 : AV} {H : AHeap} : R Zec [a0, a1] H = fnK Try.prog [] H [(.cell 4 Za), (.tmp 5)] (evalL Try.prog KT R Ziy (Env.args [a0, a1] 0) H) :=
  runs_body (D := DT) (f := Zec) Try.func75 (by kernel_rfl) (by kernel_rfl) (by kernel_rfl) (by kernel_rfl) (by kernel_rfl) (Nat.le_of_ble_eq_true rfl)
def Zh8 : LCode := (.seq (.reg [] [⟨some 3, some (.box Za (.tmp 0)), none⟩,
 ⟨some 6, some (.alloc Za), none⟩,
 ⟨some 7, some (.assign (.const (.int .i64 0))), none⟩])
  (.seq (.block 0 (.seq (.reg [] [⟨some 9, some (.load Za (.tmp 3)), none⟩,
 ⟨some 10, some (.call ⟨(.value (.func Zde)), #[.tmp 9], #[Za]⟩), none⟩,
 ⟨some 11, some (.unOp .not Z8 (.tmp 10)), none⟩,
 ⟨some 8, some (.assign (.tmp 11)), none⟩])
  (.cond (.tmp 8) (.seq (.reg [] [⟨some 12, some (.build Za #[]), none⟩,
 ⟨none, some (.store Za (.tmp 6) (.tmp 12)), none⟩,
 ⟨some 7, some (.assign (.const (.int .i64 10))), none⟩])
  .ret)
  (.seq (.reg [] [⟨some 14, some (.move (.tmp 2)), none⟩,
 ⟨some 15, some (.binOp .lss Zd (.tmp 14) (.const (.int .i64 0)) Zd), none⟩,
 ⟨some 16, some (.move (.tmp 15)), none⟩,
 ⟨some 17, some (.move (.tmp 1)), some (some 16, false)⟩,
 ⟨some 18, some (.move (.tmp 2)), some (some 16, false)⟩,
 ⟨some 19, some (.binOp .lss Zd (.tmp 17) (.tmp 18) Zd), some (some 16, false)⟩,
 ⟨some 20, some (.pick (.tmp 16) (.const (.bool true)) (.tmp 19)), none⟩,
 ⟨some 21, some (.move (.tmp 20)), none⟩,
 ⟨some 22, some (.move (.tmp 1)), some (some 21, false)⟩,
 ⟨some 23, some (.fieldAddr Za (.tmp 3) 0), some (some 21, false)⟩,
 ⟨some 24, some (.load Zd (.tmp 23)), some (some 21, false)⟩,
 ⟨some 25, some (.binOp .geq Zd (.tmp 22) (.tmp 24) Zd), some (some 21, false)⟩,
 ⟨some 26, some (.pick (.tmp 21) (.const (.bool true)) (.tmp 25)), none⟩,
 ⟨some 13, some (.assign (.tmp 26)), none⟩])
  (.cond (.tmp 13) (.seq (.reg [] [⟨some 27, some (.build Za #[]), none⟩,
 ⟨none, some (.store Za (.tmp 6) (.tmp 27)), none⟩,
 ⟨some 7, some (.assign (.const (.int .i64 12))), none⟩])
  .ret)
  .skip)))))
  (.seq (.reg [] [⟨some 28, some (.move (.tmp 1)), none⟩,
 ⟨some 29, some (.move (.tmp 2)), none⟩,
 ⟨some 30, some (.binOp .sub Zd (.tmp 28) (.tmp 29) Zd), none⟩,
 ⟨some 31, some (.binOp .add Zd (.tmp 30) (.const (.int .i64 1)) Zd), none⟩,
 ⟨some 32, some (.load Za (.tmp 3)), none⟩,
 ⟨some 33, some (.call ⟨(.value (.func Zcp)), #[.tmp 32], #[Za]⟩), none⟩,
 ⟨some 34, some (.move (.tmp 2)), none⟩,
 ⟨some 35, some (.call ⟨(.value (.func Z7)), #[.tmp 33, .tmp 34], #[Zb, Zd]⟩), none⟩,
 ⟨some 36, some (.call ⟨(.value (.func Zcw)), #[.tmp 31, .tmp 35], #[Zd, Zb]⟩), none⟩,
 ⟨none, some (.store Za (.tmp 6) (.tmp 36)), none⟩,
 ⟨some 7, some (.assign (.const (.int .i64 0))), none⟩])
  .ret)))
theorem Zj1 {a0 a1 a2 : AV} {H : AHeap} : R Zfl [a0, a1, a2] H = fnK Try.prog [] H [(.cell 6 Za), (.tmp 7)] (evalL Try.prog KT R Zh8 (Env.args [a0, a1, a2] 0) H) :=
  runs_body (D := DT) (f := Zfl) Try.func76 (by kernel_rfl) (by kernel_rfl) (by kernel_rfl) (by kernel_rfl) (by kernel_rfl) (Nat.le_of_ble_eq_true rfl)
def Ziz : LCode := (.seq (.reg [] [⟨some 3, some (.box Za (.tmp 0)), none⟩,
 ⟨some 6, some (.alloc Za), none⟩,
 ⟨some 7, some (.assign (.const (.int .i64 0))), none⟩])
  (.seq (.block 0 (.seq (.reg [] [⟨some 11, some (.load Za (.tmp 3)), none⟩,
 ⟨some 12, some (.call ⟨(.value (.func Zde)), #[.tmp 11], #[Za]⟩), none⟩,
 ⟨some 13, some (.unOp .not Z8 (.tmp 12)), none⟩,
 ⟨some 10, some (.assign (.tmp 13)), none⟩])
  (.cond (.tmp 10) (.seq (.reg [] [⟨some 14, some (.build Za #[]), none⟩,
 ⟨none, some (.store Za (.tmp 6) (.tmp 14)), none⟩,
 ⟨some 7, some (.assign (.const (.int .i64 10))), none⟩])
  .ret)
  (.seq (.reg [] [⟨some 16, some (.move (.tmp 1)), none⟩,
 ⟨some 17, some (.binOp .lss Zd (.tmp 16) (.const (.int .i64 0)) Zd), none⟩,
 ⟨some 15, some (.assign (.tmp 17)), none⟩])
  (.cond (.tmp 15) (.seq (.reg [] [⟨some 18, some (.build Za #[]), none⟩,
 ⟨none, some (.store Za (.tmp 6) (.tmp 18)), none⟩,
 ⟨some 7, some (.assign (.const (.int .i64 12))), none⟩])
  .ret)
  (.seq (.reg [] [⟨some 20, some (.move (.tmp 1)), none⟩,
 ⟨some 21, some (.fieldAddr Za (.tmp 3) 0), none⟩,
 ⟨some 22, some (.load Zd (.tmp 21)), none⟩,
 ⟨some 23, some (.binOp .sub Zd (.const (.int .i64 128)) (.tmp 22) Zd), none⟩,
 ⟨some 24, some (.binOp .gtr Zd (.tmp 20) (.tmp 23) Zd), none⟩,
 ⟨some 19, some (.assign (.tmp 24)), none⟩])
  (.cond (.tmp 19) (.seq (.reg [] [⟨some 25, some (.build Za #[]), none⟩,
 ⟨none, some (.store Za (.tmp 6) (.tmp 25)), none⟩,
 ⟨some 7, some (.assign (.const (.int .i64 10))), none⟩])
  .ret)
  .skip)))))))
  (.seq (.reg [] [⟨some 26, some (.load Za (.tmp 3)), none⟩,
 ⟨some 27, some (.call ⟨(.value (.func Zcp)), #[.tmp 26], #[Za]⟩), none⟩,
 ⟨some 8, some (.alloc Zb), none⟩,
 ⟨none, some (.store Zb (.tmp 8) (.tmp 27)), none⟩])
  (.seq (.seq (.reg [] [⟨some 28, some (.move (.tmp 2)), none⟩,
 ⟨some 29, some (.move (.tmp 28)), none⟩,
 ⟨some 30, some (.load Za (.tmp 3)), some (some 29, true)⟩,
 ⟨some 31, some (.call ⟨(.value (.func Zck)), #[.tmp 30], #[Za]⟩), some (some 29, true)⟩,
 ⟨some 32, some (.pick (.tmp 29) (.tmp 31) (.const (.bool false))), none⟩])
  (.cond (.tmp 32) (.seq (.reg [] [⟨some 33, some (.fieldAddr Za (.tmp 3) 0), none⟩,
 ⟨some 34, some (.load Zd (.tmp 33)), none⟩,
 ⟨some 35, some (.call ⟨(.value (.func Ze6)), #[.tmp 34], #[Zd]⟩), none⟩,
 ⟨some 36, some (.call ⟨(.value (.func Zbe)), #[.tmp 35], #[Zb]⟩), none⟩,
 ⟨some 9, some (.alloc Zb), none⟩,
 ⟨none, some (.store Zb (.tmp 9) (.tmp 36)), none⟩])
  (.reg [] [⟨some 37, some (.fieldAddr Zb (.tmp 8) 0), none⟩,
 ⟨some 38, some (.load Zf (.tmp 37)), none⟩,
 ⟨some 39, some (.fieldAddr Zb (.tmp 9) 0), none⟩,
 ⟨some 40, some (.load Zf (.tmp 39)), none⟩,
 ⟨some 41, some (.binOp .or Zf (.tmp 38) (.tmp 40) Zf), none⟩,
 ⟨some 42, some (.fieldAddr Zb (.tmp 8) 1), none⟩,
 ⟨some 43, some (.load Zf (.tmp 42)), none⟩,
 ⟨some 44, some (.fieldAddr Zb (.tmp 9) 1), none⟩,
 ⟨some 45, some (.load Zf (.tmp 44)), none⟩,
 ⟨some 46, some (.binOp .or Zf (.tmp 43) (.tmp 45) Zf), none⟩,
 ⟨some 47, some (.build Zb #[(0, (.tmp 41)), (1, (.tmp 46))]), none⟩,
 ⟨none, some (.store Zb (.tmp 8) (.tmp 47)), none⟩]))
  .skip))
  (.seq (.reg [] [⟨some 48, some (.fieldAddr Za (.tmp 3) 0), none⟩,
 ⟨some 49, some (.load Zd (.tmp 48)), none⟩,
 ⟨some 50, some (.move (.tmp 1)), none⟩,
 ⟨some 51, some (.binOp .add Zd (.tmp 49) (.tmp 50) Zd), none⟩,
 ⟨some 52, some (.load Zb (.tmp 8)), none⟩,
 ⟨some 53, some (.call ⟨(.value (.func Zcw)), #[.tmp 51, .tmp 52], #[Zd, Zb]⟩), none⟩,
 ⟨none, some (.store Za (.tmp 6) (.tmp 53)), none⟩,
 ⟨some 7, some (.assign (.const (.int .i64 0))), none⟩])
  .ret)))))
theorem Zkh {a0 a1 a2 : AV} {H : AHeap} : R Zf6 [a0, a1, a2] H = fnK Try.prog [] H [(.cell 6 Za), (.tmp 7)] (evalL Try.prog KT R Ziz (Env.args [a0, a1, a2] 0) H) :=
  runs_body (D := DT) (f := Zf6) Try.func77 (by kernel_rfl) (by kernel_rfl) (by kernel_rfl) (by kernel_rfl) (by kernel_rfl) (Nat.le_of_ble_eq_true rfl)
def Zhm : LCode := (.seq (.reg [] [⟨some 3, some (.box Za (.tmp 0)), none⟩,
 ⟨some 6, some (.alloc Za), none⟩,
 ⟨some 7, some (.assign (.const (.int .i64 0))), none⟩])
  (.seq (.block 0 (.seq (.reg [] [⟨some 11, some (.load Za (.tmp 3)), none⟩,
 ⟨some 12, some (.call ⟨(.value (.func Zde)), #[.tmp 11], #[Za]⟩), none⟩,
 ⟨some 13, some (.unOp .not Z8 (.tmp 12)), none⟩,
 ⟨some 10, some (.assign (.tmp 13)), none⟩])
  (.cond (.tmp 10) (.seq (.reg [] [⟨some 14, some (.build Za #[]), none⟩,
 ⟨none, some (.store Za (.tmp 6) (.tmp 14)), none⟩,
 ⟨some 7, some (.assign (.const (.int .i64 10))), none⟩])
  .ret)
  (.seq (.reg [] [⟨some 16, some (.move (.tmp 1)), none⟩,
 ⟨some 17, some (.binOp .lss Zd (.tmp 16) (.const (.int .i64 0)) Zd), none⟩,
 ⟨some 15, some (.assign (.tmp 17)), none⟩])
  (.cond (.tmp 15) (.seq (.reg [] [⟨some 18, some (.build Za #[]), none⟩,
 ⟨none, some (.store Za (.tmp 6) (.tmp 18)), none⟩,
 ⟨some 7, some (.assign (.const (.int .i64 12))), none⟩])
  .ret)
  .skip)))))
  (.seq (.reg [] [⟨some 19, some (.move (.tmp 1)), none⟩,
 ⟨some 20, some (.fieldAddr Za (.tmp 3) 0), none⟩,
 ⟨some 21, some (.load Zd (.tmp 20)), none⟩,
 ⟨some 22, some (.binOp .rem Zd (.tmp 19) (.tmp 21) Zd), none⟩,
 ⟨some 1, some (.assign (.tmp 22)), none⟩])
  (.seq (.seq (.reg [] [⟨some 23, some (.move (.tmp 2)), none⟩,
 ⟨some 24, some (.unOp .not Z8 (.tmp 23)), none⟩])
  (.cond (.tmp 24) (.reg [] [⟨some 25, some (.fieldAddr Za (.tmp 3) 0), none⟩,
 ⟨some 26, some (.load Zd (.tmp 25)), none⟩,
 ⟨some 27, some (.move (.tmp 1)), none⟩,
 ⟨some 28, some (.binOp .sub Zd (.tmp 26) (.tmp 27) Zd), none⟩,
 ⟨some 29, some (.fieldAddr Za (.tmp 3) 0), none⟩,
 ⟨some 30, some (.load Zd (.tmp 29)), none⟩,
 ⟨some 31, some (.binOp .rem Zd (.tmp 28) (.tmp 30) Zd), none⟩,
 ⟨some 1, some (.assign (.tmp 31)), none⟩])
  .skip))
  (.seq (.reg [1, 3, 5, 11, 12] [⟨some 32, some (.load Za (.tmp 3)), none⟩,
 ⟨some 33, some (.call ⟨(.value (.func Zcp)), #[.tmp 32], #[Za]⟩), none⟩,
 ⟨some 34, some (.move (.tmp 1)), none⟩,
 ⟨some 35, some (.call ⟨(.value (.func Zba)), #[.tmp 33, .tmp 34], #[Zb, Zd]⟩), none⟩,
 ⟨some 36, some (.load Za (.tmp 3)), none⟩,
 ⟨some 37, some (.call ⟨(.value (.func Zcp)), #[.tmp 36], #[Za]⟩), none⟩,
 ⟨some 38, some (.fieldAddr Za (.tmp 3) 0), none⟩,
 ⟨some 39, some (.load Zd (.tmp 38)), none⟩,
 ⟨some 40, some (.move (.tmp 1)), none⟩,
 ⟨some 41, some (.binOp .sub Zd (.tmp 39) (.tmp 40) Zd), none⟩,
 ⟨some 42, some (.call ⟨(.value (.func Z7)), #[.tmp 37, .tmp 41], #[Zb, Zd]⟩), none⟩,
 ⟨some 8, some (.alloc Zb), none⟩,
 ⟨some 9, some (.alloc Zb), none⟩,
 ⟨none, some (.store Zb (.tmp 8) (.tmp 35)), none⟩,
 ⟨none, some (.store Zb (.tmp 9) (.tmp 42)), none⟩])
  (.seq (.reg [] [⟨some 43, some (.fieldAddr Za (.tmp 3) 0), none⟩,
 ⟨some 44, some (.load Zd (.tmp 43)), none⟩,
 ⟨some 45, some (.fieldAddr Zb (.tmp 8) 0), none⟩,
 ⟨some 46, some (.load Zf (.tmp 45)), none⟩,
 ⟨some 47, some (.fieldAddr Zb (.tmp 9) 0), none⟩,
 ⟨some 48, some (.load Zf (.tmp 47)), none⟩,
 ⟨some 49, some (.binOp .or Zf (.tmp 46) (.tmp 48) Zf), none⟩,
 ⟨some 50, some (.fieldAddr Zb (.tmp 8) 1), none⟩,
 ⟨some 51, some (.load Zf (.tmp 50)), none⟩,
 ⟨some 52, some (.fieldAddr Zb (.tmp 9) 1), none⟩,
 ⟨some 53, some (.load Zf (.tmp 52)), none⟩,
 ⟨some 54, some (.binOp .or Zf (.tmp 51) (.tmp 53) Zf), none⟩,
 ⟨some 55, some (.build Zb #[(0, (.tmp 49)), (1, (.tmp 54))]), none⟩,
 ⟨some 56, some (.call ⟨(.value (.func Zcw)), #[.tmp 44, .tmp 55], #[Zd, Zb]⟩), none⟩,
 ⟨none, some (.store Za (.tmp 6) (.tmp 56)), none⟩,
 ⟨some 7, some (.assign (.const (.int .i64 0))), none⟩])
  .ret))))))
theorem Zi0 {a0 a1 a2 : AV} {H : AHeap} : R Zey [a0, a1, a2] H = fnK Try.prog [] H [(.cell 6 Za), (.tmp 7)] (evalL Try.prog KT R Zhm (Env.args [a0, a1, a2] 0) H) :=
  runs_body (D := DT) (f := Zey) Try.func78 (by kernel_rfl) (by kernel_rfl) (by kernel_rfl) (by kernel_rfl) (by kernel_rfl) (Nat.le_of_ble_eq_true rfl)
def Zfa : LCode := (.seq (.reg [] [⟨some 27, some (.binOp .lss Zd (.tmp 26) (.tmp 25) Zd), none⟩])
  (.seq (.cond (.tmp 27) .skip
  (.exit 1))
  (.seq (.block 2 (.reg [] [⟨some 29, some (.load Za (.tmp 6)), none⟩,
 ⟨some 30, some (.load Za (.tmp 2)), none⟩,
 ⟨some 31, some (.call ⟨(.value (.func Zec)), #[.tmp 29, .tmp 30], #[Za, Za]⟩), none⟩,
 ⟨some 28, some (.move (.tmp 31)), none⟩,
 ⟨some 32, some (.extract (.tmp 28) 0), none⟩,
 ⟨some 33, some (.extract (.tmp 28) 1), none⟩,
 ⟨none, some (.store Za (.tmp 6) (.tmp 32)), none⟩]))
  (.reg [] [⟨some 34, some (.binOp .add Zd (.tmp 26) (.const (.int .i64 1)) Zd), none⟩,
 ⟨some 26, some (.move (.tmp 34)), none⟩]))))
@[simp] theorem Zkx : defs Zfa = [27, 29, 30, 31, 28, 32, 33, 34, 26] := by rfl
def Zi1 : LCode := (.seq (.reg [] [⟨some 2, some (.box Za (.tmp 0)), none⟩,
 ⟨some 4, some (.alloc Za), none⟩,
 ⟨some 5, some (.assign (.const (.int .i64 0))), none⟩])
  (.seq (.block 0 (.seq (.reg [] [⟨some 8, some (.load Za (.tmp 2)), none⟩,
 ⟨some 9, some (.call ⟨(.value (.func Zde)), #[.tmp 8], #[Za]⟩), none⟩,
 ⟨some 10, some (.unOp .not Z8 (.tmp 9)), none⟩,
 ⟨some 7, some (.assign (.tmp 10)), none⟩])
  (.cond (.tmp 7) (.seq (.reg [] [⟨some 11, some (.build Za #[]), none⟩,
 ⟨none, some (.store Za (.tmp 4) (.tmp 11)), none⟩,
 ⟨some 5, some (.assign (.const (.int .i64 10))), none⟩])
  .ret)
  (.seq (.reg [] [⟨some 13, some (.move (.tmp 1)), none⟩,
 ⟨some 14, some (.binOp .lss Zd (.tmp 13) (.const (.int .i64 1)) Zd), none⟩,
 ⟨some 12, some (.assign (.tmp 14)), none⟩])
  (.cond (.tmp 12) (.seq (.reg [] [⟨some 15, some (.build Za #[]), none⟩,
 ⟨none, some (.store Za (.tmp 4) (.tmp 15)), none⟩,
 ⟨some 5, some (.assign (.const (.int .i64 12))), none⟩])
  .ret)
  (.seq (.reg [] [⟨some 17, some (.move (.tmp 1)), none⟩,
 ⟨some 18, some (.fieldAddr Za (.tmp 2) 0), none⟩,
 ⟨some 19, some (.load Zd (.tmp 18)), none⟩,
 ⟨some 20, some (.binOp .quo Zd (.const (.int .i64 128)) (.tmp 19) Zd), none⟩,
 ⟨some 21, some (.binOp .gtr Zd (.tmp 17) (.tmp 20) Zd), none⟩,
 ⟨some 16, some (.assign (.tmp 21)), none⟩])
  (.cond (.tmp 16) (.seq (.reg [] [⟨some 22, some (.build Za #[]), none⟩,
 ⟨none, some (.store Za (.tmp 4) (.tmp 22)), none⟩,
 ⟨some 5, some (.assign (.const (.int .i64 10))), none⟩])
  .ret)
  .skip)))))))
  (.seq (.reg [] [⟨some 23, some (.load Za (.tmp 2)), none⟩,
 ⟨some 6, some (.alloc Za), none⟩,
 ⟨none, some (.store Za (.tmp 6) (.tmp 23)), none⟩])
  (.seq (.seq (.reg [] [⟨some 24, some (.move (.tmp 1)), none⟩,
 ⟨some 25, some (.binOp .sub Zd (.tmp 24) (.const (.int .i64 1)) Zd), none⟩,
 ⟨some 26, some (.move (.const (.int .i64 0))), none⟩])
  (.block 1 (.loop Zfa)))
  (.seq (.reg [] [⟨some 35, some (.load Za (.tmp 6)), none⟩,
 ⟨none, some (.store Za (.tmp 4) (.tmp 35)), none⟩,
 ⟨some 5, some (.assign (.const (.int .i64 0))), none⟩])
  .ret)))))
theorem Zki {a0 a1 : AV} {H : AHeap} : R Zf7 [a0, a1] H = fnK Try.prog [] H [(.cell 4 Za), (.tmp 5)] (evalL Try.prog KT R Zi1 (Env.args [a0, a1] 0) H) :=
  runs_body (D := DT) (f := Zf7) Try.func79 (by kernel_rfl) (by kernel_rfl) (by kernel_rfl) (by kernel_rfl) (by kernel_rfl) (Nat.le_of_ble_eq_true rfl)
def Zfi : LCode := (.seq (.reg [] [⟨some 4, some (.box Za (.tmp 1)), none⟩,
 ⟨some 5, some (.box Za (.tmp 2)), none⟩,
 ⟨some 6, some (.alloc Za), none⟩,
 ⟨some 7, some (.assign (.const (.int .i64 0))), none⟩])
  (.seq (.block 0 (.seq (.reg [] [⟨some 9, some (.load Za (.tmp 4)), none⟩,
 ⟨some 10, some (.call ⟨(.value (.func Zde)), #[.tmp 9], #[Za]⟩), none⟩,
 ⟨some 11, some (.unOp .not Z8 (.tmp 10)), none⟩,
 ⟨some 12, some (.move (.tmp 11)), none⟩,
 ⟨some 13, some (.load Za (.tmp 5)), some (some 12, false)⟩,
 ⟨some 14, some (.call ⟨(.value (.func Zde)), #[.tmp 13], #[Za]⟩), some (some 12, false)⟩,
 ⟨some 15, some (.unOp .not Z8 (.tmp 14)), some (some 12, false)⟩,
 ⟨some 16, some (.pick (.tmp 12) (.const (.bool true)) (.tmp 15)), none⟩,
 ⟨some 17, some (.move (.tmp 16)), none⟩,
 ⟨some 18, some (.fieldAddr Za (.tmp 4) 0), some (some 17, false)⟩,
 ⟨some 19, some (.load Zd (.tmp 18)), some (some 17, false)⟩,
 ⟨some 20, some (.fieldAddr Za (.tmp 5) 0), some (some 17, false)⟩,
 ⟨some 21, some (.load Zd (.tmp 20)), some (some 17, false)⟩,
 ⟨some 22, some (.binOp .neq Zd (.tmp 19) (.tmp 21) Zd), some (some 17, false)⟩,
 ⟨some 23, some (.pick (.tmp 17) (.const (.bool true)) (.tmp 22)), none⟩,
 ⟨some 8, some (.assign (.tmp 23)), none⟩])
  (.cond (.tmp 8) (.seq (.reg [] [⟨some 24, some (.build Za #[]), none⟩,
 ⟨none, some (.store Za (.tmp 6) (.tmp 24)), none⟩,
 ⟨some 7, some (.assign (.const (.int .i64 10))), none⟩])
  .ret)
  (.seq (.reg [] [⟨some 26, some (.move (.tmp 0)), none⟩,
 ⟨some 27, some (.binOp .geq Zd (.tmp 26) (.const (.int .i64 12)) Zd), none⟩,
 ⟨some 28, some (.move (.tmp 27)), none⟩,
 ⟨some 29, some (.move (.tmp 0)), some (some 28, true)⟩,
 ⟨some 30, some (.binOp .leq Zd (.tmp 29) (.const (.int .i64 17)) Zd), some (some 28, true)⟩,
 ⟨some 31, some (.pick (.tmp 28) (.tmp 30) (.const (.bool false))), none⟩,
 ⟨some 25, some (.assign (.tmp 31)), none⟩])
  (.cond (.tmp 25) (.seq (.reg [4, 6, 7] [⟨some 32, some (.fieldAddr Za (.tmp 4) 0), none⟩,
 ⟨some 33, some (.load Zd (.tmp 32)), none⟩,
 ⟨some 34, some (.move (.tmp 0)), none⟩,
 ⟨some 35, some (.load Za (.tmp 4)), none⟩,
 ⟨some 36, some (.call ⟨(.value (.func Zcp)), #[.tmp 35], #[Za]⟩), none⟩,
 ⟨some 37, some (.load Za (.tmp 5)), none⟩,
 ⟨some 38, some (.call ⟨(.value (.func Zcp)), #[.tmp 37], #[Za]⟩), none⟩,
 ⟨some 39, some (.call ⟨(.value (.func Ze1)), #[.tmp 34, .tmp 36, .tmp 38], #[Zd, Zb, Zb]⟩), none⟩,
 ⟨some 40, some (.call ⟨(.value (.func Zcw)), #[.tmp 33, .tmp 39], #[Zd, Zb]⟩), none⟩,
 ⟨none, some (.store Za (.tmp 6) (.tmp 40)), none⟩,
 ⟨some 7, some (.assign (.const (.int .i64 0))), none⟩])
  .ret)
  (.seq (.reg [] [⟨some 42, some (.move (.tmp 0)), none⟩,
 ⟨some 43, some (.binOp .geq Zd (.tmp 42) (.const (.int .i64 18)) Zd), none⟩,
 ⟨some 44, some (.move (.tmp 43)), none⟩,
 ⟨some 45, some (.move (.tmp 0)), some (some 44, true)⟩,
 ⟨some 46, some (.binOp .leq Zd (.tmp 45) (.const (.int .i64 25)) Zd), some (some 44, true)⟩,
 ⟨some 47, some (.pick (.tmp 44) (.tmp 46) (.const (.bool false))), none⟩,
 ⟨some 41, some (.assign (.tmp 47)), none⟩])
  (.cond (.tmp 41) (.seq (.reg [5] [⟨some 48, some (.fieldAddr Za (.tmp 4) 0), none⟩,
 ⟨some 49, some (.load Zd (.tmp 48)), none⟩,
 ⟨some 50, some (.move (.tmp 0)), none⟩,
 ⟨some 51, some (.load Za (.tmp 4)), none⟩,
 ⟨some 52, some (.load Za (.tmp 5)), none⟩,
 ⟨some 53, some (.call ⟨(.value (.func Zdu)), #[.tmp 50, .tmp 51, .tmp 52], #[Zd, Za, Za]⟩), none⟩,
 ⟨some 54, some (.call ⟨(.value (.func Zcw)), #[.tmp 49, .tmp 53], #[Zd, Zb]⟩), none⟩,
 ⟨none, some (.store Za (.tmp 6) (.tmp 54)), none⟩,
 ⟨some 7, some (.assign (.const (.int .i64 0))), none⟩])
  .ret)
  (.seq (.reg [] [⟨some 56, some (.move (.tmp 0)), none⟩,
 ⟨some 57, some (.binOp .geq Zd (.tmp 56) (.const (.int .i64 26)) Zd), none⟩,
 ⟨some 58, some (.move (.tmp 57)), none⟩,
 ⟨some 59, some (.move (.tmp 0)), some (some 58, true)⟩,
 ⟨some 60, some (.binOp .leq Zd (.tmp 59) (.const (.int .i64 28)) Zd), some (some 58, true)⟩,
 ⟨some 61, some (.pick (.tmp 58) (.tmp 60) (.const (.bool false))), none⟩,
 ⟨some 55, some (.assign (.tmp 61)), none⟩])
  (.cond (.tmp 55) (.seq (.reg [5] [⟨some 62, some (.fieldAddr Za (.tmp 4) 0), none⟩,
 ⟨some 63, some (.load Zd (.tmp 62)), none⟩,
 ⟨some 64, some (.move (.tmp 0)), none⟩,
 ⟨some 65, some (.load Za (.tmp 4)), none⟩,
 ⟨some 66, some (.load Za (.tmp 5)), none⟩,
 ⟨some 67, some (.call ⟨(.value (.func Ze2)), #[.tmp 64, .tmp 65, .tmp 66], #[Zd, Za, Za]⟩), none⟩,
 ⟨some 68, some (.call ⟨(.value (.func Zcw)), #[.tmp 63, .tmp 67], #[Zd, Zb]⟩), none⟩,
 ⟨none, some (.store Za (.tmp 6) (.tmp 68)), none⟩,
 ⟨some 7, some (.assign (.const (.int .i64 0))), none⟩])
  .ret)
  (.seq (.reg [] [⟨some 70, some (.move (.tmp 0)), none⟩,
 ⟨some 71, some (.binOp .geq Zd (.tmp 70) (.const (.int .i64 29)) Zd), none⟩,
 ⟨some 72, some (.move (.tmp 71)), none⟩,
 ⟨some 73, some (.move (.tmp 0)), some (some 72, true)⟩,
 ⟨some 74, some (.binOp .leq Zd (.tmp 73) (.const (.int .i64 36)) Zd), some (some 72, true)⟩,
 ⟨some 75, some (.pick (.tmp 72) (.tmp 74) (.const (.bool false))), none⟩,
 ⟨some 69, some (.assign (.tmp 75)), none⟩])
  (.cond (.tmp 69) (.seq (.reg [] [⟨some 76, some (.move (.tmp 0)), none⟩,
 ⟨some 77, some (.load Za (.tmp 4)), none⟩,
 ⟨some 78, some (.load Za (.tmp 5)), none⟩,
 ⟨some 79, some (.call ⟨(.value (.func Zej)), #[.tmp 76, .tmp 77, .tmp 78], #[Zd, Za, Za]⟩), none⟩,
 ⟨some 80, some (.call ⟨(.value (.func Zeb)), #[.tmp 79], #[Z8]⟩), none⟩,
 ⟨none, some (.store Za (.tmp 6) (.tmp 80)), none⟩,
 ⟨some 7, some (.assign (.const (.int .i64 0))), none⟩])
  .ret)
  (.seq (.reg [] [⟨some 82, some (.move (.tmp 0)), none⟩,
 ⟨some 83, some (.binOp .eql Zd (.tmp 82) (.const (.int .i64 8)) Zd), none⟩,
 ⟨some 81, some (.assign (.tmp 83)), none⟩])
  (.cond (.tmp 81) (.seq (.reg [] [⟨some 84, some (.load Za (.tmp 4)), none⟩,
 ⟨some 85, some (.load Za (.tmp 5)), none⟩,
 ⟨some 86, some (.binOp .eql Za (.tmp 84) (.tmp 85) Za), none⟩,
 ⟨some 87, some (.call ⟨(.value (.func Zeb)), #[.tmp 86], #[Z8]⟩), none⟩,
 ⟨none, some (.store Za (.tmp 6) (.tmp 87)), none⟩,
 ⟨some 7, some (.assign (.const (.int .i64 0))), none⟩])
  .ret)
  (.seq (.reg [] [⟨some 89, some (.move (.tmp 0)), none⟩,
 ⟨some 90, some (.binOp .eql Zd (.tmp 89) (.const (.int .i64 37)) Zd), none⟩,
 ⟨some 88, some (.assign (.tmp 90)), none⟩])
  (.cond (.tmp 88) (.seq (.reg [] [⟨some 91, some (.load Za (.tmp 4)), none⟩,
 ⟨some 92, some (.load Za (.tmp 5)), none⟩,
 ⟨some 93, some (.binOp .eql Za (.tmp 91) (.tmp 92) Za), none⟩,
 ⟨some 94, some (.call ⟨(.value (.func Zeb)), #[.tmp 93], #[Z8]⟩), none⟩,
 ⟨some 95, some (.field Za (.tmp 94) 1), none⟩,
 ⟨some 96, some (.build Zb #[(0, (.tmp 95))]), none⟩,
 ⟨some 97, some (.call ⟨(.value (.func Zcw)), #[(.const (.int .i64 1)), (.tmp 96)], #[Zd, Zb]⟩), none⟩,
 ⟨none, some (.store Za (.tmp 6) (.tmp 97)), none⟩,
 ⟨some 7, some (.assign (.const (.int .i64 0))), none⟩])
  .ret)
  .skip)))))))))))))))
  (.seq (.reg [] [⟨some 98, some (.build Za #[]), none⟩,
 ⟨none, some (.store Za (.tmp 6) (.tmp 98)), none⟩,
 ⟨some 7, some (.assign (.const (.int .i64 11))), none⟩])
  .ret)))
theorem Zk4 {a0 a1 a2 : AV} {H : AHeap} : R Zgp [a0, a1, a2] H = fnK Try.prog [] H [(.cell 6 Za), (.tmp 7)] (evalL Try.prog KT R Zfi (Env.args [a0, a1, a2] 0) H) :=
  runs_body (D := DT) (f := Zgp) Try.func80 (by kernel_rfl) (by kernel_rfl) (by kernel_rfl) (by kernel_rfl) (by kernel_rfl) (Nat.le_of_ble_eq_true rfl)
def Zkm : LCode := (.seq (.reg [] [⟨some 6, some (.alloc Za), none⟩,
 ⟨some 7, some (.assign (.const (.int .i64 0))), none⟩])
  (.seq (.seq (.reg [] [⟨some 8, some (.move (.tmp 0)), none⟩,
 ⟨some 9, some (.binOp .lss Zd (.tmp 8) (.const (.int .i64 1)) Zd), none⟩,
 ⟨some 10, some (.move (.tmp 9)), none⟩,
 ⟨some 11, some (.move (.tmp 0)), some (some 10, false)⟩,
 ⟨some 12, some (.binOp .gtr Zd (.tmp 11) (.const (.int .i64 128)) Zd), some (some 10, false)⟩,
 ⟨some 13, some (.pick (.tmp 10) (.const (.bool true)) (.tmp 12)), none⟩])
  (.cond (.tmp 13) (.seq (.reg [] [⟨some 14, some (.build Za #[]), none⟩,
 ⟨none, some (.store Za (.tmp 6) (.tmp 14)), none⟩,
 ⟨some 7, some (.assign (.const (.int .i64 10))), none⟩])
  .ret)
  .skip))
  (.seq (.reg [] [⟨some 15, some (.move (.tmp 0)), none⟩,
 ⟨some 16, some (.move (.tmp 1)), none⟩,
 ⟨some 17, some (.move (.tmp 2)), none⟩,
 ⟨some 18, some (.build Zb #[(0, (.tmp 16)), (1, (.tmp 17))]), none⟩,
 ⟨some 19, some (.call ⟨(.value (.func Zcw)), #[.tmp 15, .tmp 18], #[Zd, Zb]⟩), none⟩,
 ⟨none, some (.store Za (.tmp 6) (.tmp 19)), none⟩,
 ⟨some 7, some (.assign (.const (.int .i64 0))), none⟩])
  .ret)))
theorem Zk5 {a0 a1 a2 : AV} {H : AHeap} : R Zhd [a0, a1, a2] H = fnK Try.prog [] H [(.cell 6 Za), (.tmp 7)] (evalL Try.prog KT R Zkm (Env.args [a0, a1, a2] 0) H) :=
  runs_body (D := DT) (f := Zhd) Try.func81 (by kernel_rfl) (by kernel_rfl) (by kernel_rfl) (by kernel_rfl) (by kernel_rfl) (Nat.le_of_ble_eq_true rfl)
def Zhv : LCode := (.seq (.reg [] [⟨some 2, some (.box Za (.tmp 0)), none⟩,
 ⟨some 4, some (.alloc Za), none⟩])
  (.seq (.reg [] [⟨some 10, some (.fieldAddr Za (.tmp 2) 0), none⟩,
 ⟨some 11, some (.load Zd (.tmp 10)), none⟩,
 ⟨some 12, some (.move (.tmp 1)), none⟩,
 ⟨some 13, some (.convert Zd Zf (.tmp 12)), none⟩,
 ⟨some 14, some (.call ⟨(.value (.func Zhd)), #[(.tmp 11), (.tmp 13), (.const (.int .u64 0))], #[Zd, Zf, Zf]⟩), none⟩,
 ⟨some 9, some (.move (.tmp 14)), none⟩,
 ⟨some 15, some (.extract (.tmp 9) 0), none⟩,
 ⟨some 16, some (.extract (.tmp 9) 1), none⟩,
 ⟨some 5, some (.alloc Za), none⟩,
 ⟨none, some (.store Za (.tmp 5) (.tmp 15)), none⟩,
 ⟨some 6, some (.assign (.tmp 16)), none⟩])
  (.seq (.reg [] [⟨some 18, some (.load Za (.tmp 2)), none⟩,
 ⟨some 19, some (.load Za (.tmp 5)), none⟩,
 ⟨some 20, some (.call ⟨(.value (.func Zgp)), #[(.const (.int .i64 26)), (.tmp 18), (.tmp 19)], #[Zd, Za, Za]⟩), none⟩,
 ⟨some 17, some (.move (.tmp 20)), none⟩,
 ⟨some 21, some (.extract (.tmp 17) 0), none⟩,
 ⟨some 22, some (.extract (.tmp 17) 1), none⟩,
 ⟨some 7, some (.alloc Za), none⟩,
 ⟨none, some (.store Za (.tmp 7) (.tmp 21)), none⟩,
 ⟨some 8, some (.assign (.tmp 22)), none⟩])
  (.seq (.reg [] [⟨some 23, some (.load Za (.tmp 7)), none⟩,
 ⟨none, some (.store Za (.tmp 4) (.tmp 23)), none⟩])
  .ret))))
theorem Zjm {a0 a1 : AV} {H : AHeap} : R Zfz [a0, a1] H = fnK Try.prog [] H [(.cell 4 Za)] (evalL Try.prog KT R Zhv (Env.args [a0, a1] 0) H) :=
  runs_body (D := DT) (f := Zfz) Try.func82 (by kernel_rfl) (by kernel_rfl) (by kernel_rfl) (by kernel_rfl) (by kernel_rfl) (Nat.le_of_ble_eq_true rfl)
def Zfn : LCode := (.seq (.reg [] [⟨some 1, some (.box Zb (.tmp 0)), none⟩,
 ⟨some 2, some (.alloc Zb), none⟩])
  (.seq (.reg [] [⟨some 3, some (.fieldAddr Zb (.tmp 1) 0), none⟩,
 ⟨some 4, some (.load Zf (.tmp 3)), none⟩,
 ⟨some 5, some (.unOp .xor Zf (.tmp 4)), none⟩,
 ⟨some 6, some (.fieldAddr Zb (.tmp 1) 1), none⟩,
 ⟨some 7, some (.load Zf (.tmp 6)), none⟩,
 ⟨some 8, some (.unOp .xor Zf (.tmp 7)), none⟩,
 ⟨some 9, some (.build Zb #[(0, (.tmp 5)), (1, (.tmp 8))]), none⟩,
 ⟨none, some (.store Zb (.tmp 2) (.tmp 9)), none⟩])
  .ret))
theorem Zg4 {a0 : AV} {H : AHeap} : R Zbe [a0] H = fnK Try.prog [] H [(.cell 2 Zb)] (evalL Try.prog KT R Zfn (Env.args [a0] 0) H) :=
  runs_body (D := DT) (f := Zbe) Try.func83 (by kernel_rfl) (by kernel_rfl) (by kernel_rfl) (by kernel_rfl) (by kernel_rfl) (Nat.le_of_ble_eq_true rfl)
def Zdw : LCode := (.seq (.reg [] [⟨some 2, some (.box Zb (.tmp 0)), none⟩,
 ⟨some 4, some (.alloc Zb), none⟩])
  (.seq (.seq (.reg [] [⟨some 5, some (.move (.tmp 1)), none⟩,
 ⟨some 6, some (.binOp .geq Zd (.tmp 5) (.const (.int .i64 64)) Zd), none⟩])
  (.cond (.tmp 6) (.seq (.reg [] [⟨some 7, some (.fieldAddr Zb (.tmp 2) 1), none⟩,
 ⟨some 8, some (.load Zf (.tmp 7)), none⟩,
 ⟨some 9, some (.move (.tmp 1)), none⟩,
 ⟨some 10, some (.binOp .sub Zd (.tmp 9) (.const (.int .i64 64)) Zd), none⟩,
 ⟨some 11, some (.convert Zd Zem (.tmp 10)), none⟩,
 ⟨some 12, some (.binOp .shr Zf (.tmp 8) (.tmp 11) Zem), none⟩,
 ⟨some 13, some (.build Zb #[(0, (.tmp 12)), (1, (.const (.int .u64 0)))]), none⟩,
 ⟨none, some (.store Zb (.tmp 4) (.tmp 13)), none⟩])
  .ret)
  .skip))
  (.seq (.reg [] [⟨some 14, some (.fieldAddr Zb (.tmp 2) 0), none⟩,
 ⟨some 15, some (.load Zf (.tmp 14)), none⟩,
 ⟨some 16, some (.move (.tmp 1)), none⟩,
 ⟨some 17, some (.convert Zd Zem (.tmp 16)), none⟩,
 ⟨some 18, some (.binOp .shr Zf (.tmp 15) (.tmp 17) Zem), none⟩,
 ⟨some 19, some (.fieldAddr Zb (.tmp 2) 1), none⟩,
 ⟨some 20, some (.load Zf (.tmp 19)), none⟩,
 ⟨some 21, some (.move (.tmp 1)), none⟩,
 ⟨some 22, some (.binOp .sub Zd (.const (.int .i64 64)) (.tmp 21) Zd), none⟩,
 ⟨some 23, some (.convert Zd Zem (.tmp 22)), none⟩,
 ⟨some 24, some (.binOp .shl Zf (.tmp 20) (.tmp 23) Zem), none⟩,
 ⟨some 25, some (.binOp .or Zf (.tmp 18) (.tmp 24) Zf), none⟩,
 ⟨some 26, some (.fieldAddr Zb (.tmp 2) 1), none⟩,
 ⟨some 27, some (.load Zf (.tmp 26)), none⟩,
 ⟨some 28, some (.move (.tmp 1)), none⟩,
 ⟨some 29, some (.convert Zd Zem (.tmp 28)), none⟩,
 ⟨some 30, some (.binOp .shr Zf (.tmp 27) (.tmp 29) Zem), none⟩,
 ⟨some 31, some (.build Zb #[(0, (.tmp 25)), (1, (.tmp 30))]), none⟩,
 ⟨none, some (.store Zb (.tmp 4) (.tmp 31)), none⟩])
  .ret)))
theorem Zgv {a0 a1 : AV} {H : AHeap} : R Z7 [a0, a1] H = fnK Try.prog [] H [(.cell 4 Zb)] (evalL Try.prog KT R Zdw (Env.args [a0, a1] 0) H) :=
  runs_body (D := DT) (f := Z7) Try.func84 (by kernel_rfl) (by kernel_rfl) (by kernel_rfl) (by kernel_rfl) (by kernel_rfl) (Nat.le_of_ble_eq_true rfl)
def Zhl : LCode := (.seq (.reg [] [⟨some 7, some (.alloc Za), none⟩,
 ⟨some 8, some (.assign (.const (.int .i64 0))), none⟩])
  (.seq (.reg [] [⟨some 9, some (.load Zhp (.tmp 3)), none⟩,
 ⟨some 10, some (.move (.tmp 2)), none⟩,
 ⟨some 11, some (.call ⟨(.value (.tmp 9)), #[.tmp 10], #[Zp]⟩), none⟩,
 ⟨some 12, some (.call ⟨(.value (.func Zeb)), #[.tmp 11], #[Z8]⟩), none⟩,
 ⟨none, some (.store Za (.tmp 7) (.tmp 12)), none⟩,
 ⟨some 8, some (.assign (.const (.int .i64 0))), none⟩])
  .ret))
theorem Zjd {a0 a1 a2 a3 : AV} {H : AHeap} : R Zb6 [a0, a1, a2, a3] H = fnK Try.prog [] H [(.cell 7 Za), (.tmp 8)] (evalL Try.prog KT R Zhl (Env.args [a0, a1, a2, a3] 0) H) :=
  runs_body (D := DT) (f := Zb6) Try.func85 (by kernel_rfl) (by kernel_rfl) (by kernel_rfl) (by kernel_rfl) (by kernel_rfl) (Nat.le_of_ble_eq_true rfl)
def Zj2 : LCode := (.seq (.reg [] [⟨some 1, some (.box Za (.tmp 0)), none⟩,
 ⟨some 2, some (.assign (.const (.bool false))), none⟩])
  (.seq (.reg [] [⟨some 3, some (.fieldAddr Za (.tmp 1) 0), none⟩,
 ⟨some 4, some (.load Zd (.tmp 3)), none⟩,
 ⟨some 5, some (.binOp .neq Zd (.tmp 4) (.const (.int .i64 0)) Zd), none⟩,
 ⟨some 6, some (.move (.tmp 5)), none⟩,
 ⟨some 7, some (.load Za (.tmp 1)), some (some 6, true)⟩,
 ⟨some 8, some (.call ⟨(.value (.func Zd1)), #[.tmp 7], #[Za]⟩), some (some 6, true)⟩,
 ⟨some 9, some (.pick (.tmp 6) (.tmp 8) (.const (.bool false))), none⟩,
 ⟨some 2, some (.assign (.tmp 9)), none⟩])
  .ret))
theorem Zky {a0 : AV} {H : AHeap} : R Zde [a0] H = fnK Try.prog [] H [(.tmp 2)] (evalL Try.prog KT R Zj2 (Env.args [a0] 0) H) :=
  runs_body (D := DT) (f := Zde) Try.func86 (by kernel_rfl) (by kernel_rfl) (by kernel_rfl) (by kernel_rfl) (by kernel_rfl) (Nat.le_of_ble_eq_true rfl)
def Zfo : LCode := (.seq (.reg [] [⟨some 1, some (.box Zb (.tmp 0)), none⟩,
 ⟨some 2, some (.alloc Zb), none⟩])
  (.seq (.reg [] [⟨some 3, some (.load Zb (.tmp 1)), none⟩,
 ⟨some 4, some (.call ⟨(.value (.func Zbe)), #[.tmp 3], #[Zb]⟩), none⟩,
 ⟨some 5, some (.build Zb #[(0, (.const (.int .u64 1)))]), none⟩,
 ⟨some 6, some (.call ⟨(.value (.func Zbh)), #[.tmp 4, .tmp 5], #[Zb, Zb]⟩), none⟩,
 ⟨none, some (.store Zb (.tmp 2) (.tmp 6)), none⟩])
  .ret))
theorem Zg5 {a0 : AV} {H : AHeap} : R Zbg [a0] H = fnK Try.prog [] H [(.cell 2 Zb)] (evalL Try.prog KT R Zfo (Env.args [a0] 0) H) :=
  runs_body (D := DT) (f := Zbg) Try.func87 (by kernel_rfl) (by kernel_rfl) (by kernel_rfl) (by kernel_rfl) (by kernel_rfl) (Nat.le_of_ble_eq_true rfl)
def Zd8 : LCode := (.seq (.reg [] [⟨some 2, some (.box Zb (.tmp 0)), none⟩,
 ⟨some 4, some (.alloc Zb), none⟩])
  (.seq (.seq (.reg [] [⟨some 5, some (.move (.tmp 1)), none⟩,
 ⟨some 6, some (.binOp .geq Zd (.tmp 5) (.const (.int .i64 64)) Zd), none⟩])
  (.cond (.tmp 6) (.seq (.reg [] [⟨some 7, some (.fieldAddr Zb (.tmp 2) 0), none⟩,
 ⟨some 8, some (.load Zf (.tmp 7)), none⟩,
 ⟨some 9, some (.move (.tmp 1)), none⟩,
 ⟨some 10, some (.binOp .sub Zd (.tmp 9) (.const (.int .i64 64)) Zd), none⟩,
 ⟨some 11, some (.convert Zd Zem (.tmp 10)), none⟩,
 ⟨some 12, some (.binOp .shl Zf (.tmp 8) (.tmp 11) Zem), none⟩,
 ⟨some 13, some (.build Zb #[(0, (.const (.int .u64 0))), (1, (.tmp 12))]), none⟩,
 ⟨none, some (.store Zb (.tmp 4) (.tmp 13)), none⟩])
  .ret)
  .skip))
  (.seq (.reg [] [⟨some 14, some (.fieldAddr Zb (.tmp 2) 0), none⟩,
 ⟨some 15, some (.load Zf (.tmp 14)), none⟩,
 ⟨some 16, some (.move (.tmp 1)), none⟩,
 ⟨some 17, some (.convert Zd Zem (.tmp 16)), none⟩,
 ⟨some 18, some (.binOp .shl Zf (.tmp 15) (.tmp 17) Zem), none⟩,
 ⟨some 19, some (.fieldAddr Zb (.tmp 2) 1), none⟩,
 ⟨some 20, some (.load Zf (.tmp 19)), none⟩,
 ⟨some 21, some (.move (.tmp 1)), none⟩,
 ⟨some 22, some (.convert Zd Zem (.tmp 21)), none⟩,
 ⟨some 23, some (.binOp .shl Zf (.tmp 20) (.tmp 22) Zem), none⟩,
 ⟨some 24, some (.fieldAddr Zb (.tmp 2) 0), none⟩,
 ⟨some 25, some (.load Zf (.tmp 24)), none⟩,
 ⟨some 26, some (.move (.tmp 1)), none⟩,
 ⟨some 27, some (.binOp .sub Zd (.const (.int .i64 64)) (.tmp 26) Zd), none⟩,
 ⟨some 28, some (.convert Zd Zem (.tmp 27)), none⟩,
 ⟨some 29, some (.binOp .shr Zf (.tmp 25) (.tmp 28) Zem), none⟩,
 ⟨some 30, some (.binOp .or Zf (.tmp 23) (.tmp 29) Zf), none⟩,
 ⟨some 31, some (.build Zb #[(0, (.tmp 18)), (1, (.tmp 30))]), none⟩,
 ⟨none, some (.store Zb (.tmp 4) (.tmp 31)), none⟩])
  .ret)))
theorem Zgy {a0 a1 : AV} {H : AHeap} : R Zba [a0, a1] H = fnK Try.prog [] H [(.cell 4 Zb)] (evalL Try.prog KT R Zd8 (Env.args [a0, a1] 0) H) :=
  runs_body (D := DT) (f := Zba) Try.func88 (by kernel_rfl) (by kernel_rfl) (by kernel_rfl) (by kernel_rfl) (by kernel_rfl) (Nat.le_of_ble_eq_true rfl)
def Zjj : LCode := (.seq (.reg [] [⟨some 1, some (.box Za (.tmp 0)), none⟩,
 ⟨some 2, some (.assign (.const (.bool false))), none⟩])
  (.seq (.reg [1] [⟨some 3, some (.load Za (.tmp 1)), none⟩,
 ⟨some 4, some (.call ⟨(.value (.func Zcp)), #[.tmp 3], #[Za]⟩), none⟩,
 ⟨some 5, some (.fieldAddr Za (.tmp 1) 0), none⟩,
 ⟨some 6, some (.load Zd (.tmp 5)), none⟩,
 ⟨some 7, some (.binOp .sub Zd (.tmp 6) (.const (.int .i64 1)) Zd), none⟩,
 ⟨some 8, some (.call ⟨(.value (.func Zce)), #[.tmp 4, .tmp 7], #[Zb, Zd]⟩), none⟩,
 ⟨some 2, some (.assign (.tmp 8)), none⟩])
  .ret))
theorem Zkq {a0 : AV} {H : AHeap} : R Zck [a0] H = fnK Try.prog [] H [(.tmp 2)] (evalL Try.prog KT R Zjj (Env.args [a0] 0) H) :=
  runs_body (D := DT) (f := Zck) Try.func89 (by kernel_rfl) (by kernel_rfl) (by kernel_rfl) (by kernel_rfl) (by kernel_rfl) (Nat.le_of_ble_eq_true rfl)
def Zeh : LCode := (.seq (.reg [] [⟨some 4, some (.box Zb (.tmp 1)), none⟩,
 ⟨some 5, some (.box Zb (.tmp 2)), none⟩,
 ⟨some 6, some (.alloc Zb), none⟩])
  (.seq (.reg [] [⟨some 7, some (.assign (.const (.bool false))), none⟩])
  (.seq (.reg [] [⟨some 8, some (.alloc Zb), none⟩])
  (.seq (.seq (.reg [] [⟨some 9, some (.move (.tmp 0)), none⟩])
  (.block 0 (.seq (.block 6 (.seq (.block 5 (.seq (.block 4 (.seq (.block 3 (.seq (.block 2 (.seq (.block 1 (.seq (.seq (.seq (.reg [] [⟨some 11, some (.binOp .eql Zd (.tmp 9) (.const (.int .i64 15)) Zd), none⟩,
 ⟨some 10, some (.assign (.tmp 11)), none⟩])
  (.cond (.tmp 10) (.exit 1)
  .skip))
  (.seq (.seq (.reg [] [⟨some 13, some (.binOp .eql Zd (.tmp 9) (.const (.int .i64 12)) Zd), none⟩,
 ⟨some 12, some (.assign (.tmp 13)), none⟩])
  (.cond (.tmp 12) (.exit 2)
  .skip))
  (.seq (.seq (.reg [] [⟨some 15, some (.binOp .eql Zd (.tmp 9) (.const (.int .i64 16)) Zd), none⟩,
 ⟨some 14, some (.assign (.tmp 15)), none⟩])
  (.cond (.tmp 14) (.exit 3)
  .skip))
  (.seq (.seq (.reg [] [⟨some 17, some (.binOp .eql Zd (.tmp 9) (.const (.int .i64 13)) Zd), none⟩,
 ⟨some 16, some (.assign (.tmp 17)), none⟩])
  (.cond (.tmp 16) (.exit 4)
  .skip))
  (.seq (.reg [] [⟨some 19, some (.binOp .eql Zd (.tmp 9) (.const (.int .i64 17)) Zd), none⟩,
 ⟨some 18, some (.assign (.tmp 19)), none⟩])
  (.cond (.tmp 18) (.exit 5)
  .skip))))))
  (.exit 6)))
  (.reg [] [⟨some 7, some (.assign (.const (.bool true))), none⟩])))
  (.seq (.reg [] [⟨some 20, some (.fieldAddr Zb (.tmp 4) 0), none⟩,
 ⟨some 21, some (.load Zf (.tmp 20)), none⟩,
 ⟨some 22, some (.fieldAddr Zb (.tmp 5) 0), none⟩,
 ⟨some 23, some (.load Zf (.tmp 22)), none⟩,
 ⟨some 24, some (.binOp .and Zf (.tmp 21) (.tmp 23) Zf), none⟩,
 ⟨some 25, some (.fieldAddr Zb (.tmp 4) 1), none⟩,
 ⟨some 26, some (.load Zf (.tmp 25)), none⟩,
 ⟨some 27, some (.fieldAddr Zb (.tmp 5) 1), none⟩,
 ⟨some 28, some (.load Zf (.tmp 27)), none⟩,
 ⟨some 29, some (.binOp .and Zf (.tmp 26) (.tmp 28) Zf), none⟩,
 ⟨some 30, some (.build Zb #[(0, (.tmp 24)), (1, (.tmp 29))]), none⟩,
 ⟨none, some (.store Zb (.tmp 8) (.tmp 30)), none⟩])
  (.exit 0))))
  (.reg [] [⟨some 7, some (.assign (.const (.bool true))), none⟩])))
  (.seq (.reg [] [⟨some 31, some (.fieldAddr Zb (.tmp 4) 0), none⟩,
 ⟨some 32, some (.load Zf (.tmp 31)), none⟩,
 ⟨some 33, some (.fieldAddr Zb (.tmp 5) 0), none⟩,
 ⟨some 34, some (.load Zf (.tmp 33)), none⟩,
 ⟨some 35, some (.binOp .or Zf (.tmp 32) (.tmp 34) Zf), none⟩,
 ⟨some 36, some (.fieldAddr Zb (.tmp 4) 1), none⟩,
 ⟨some 37, some (.load Zf (.tmp 36)), none⟩,
 ⟨some 38, some (.fieldAddr Zb (.tmp 5) 1), none⟩,
 ⟨some 39, some (.load Zf (.tmp 38)), none⟩,
 ⟨some 40, some (.binOp .or Zf (.tmp 37) (.tmp 39) Zf), none⟩,
 ⟨some 41, some (.build Zb #[(0, (.tmp 35)), (1, (.tmp 40))]), none⟩,
 ⟨none, some (.store Zb (.tmp 8) (.tmp 41)), none⟩])
  (.exit 0))))
  (.reg [] [⟨some 7, some (.assign (.const (.bool true))), none⟩])))
  (.seq (.reg [] [⟨some 42, some (.fieldAddr Zb (.tmp 4) 0), none⟩,
 ⟨some 43, some (.load Zf (.tmp 42)), none⟩,
 ⟨some 44, some (.fieldAddr Zb (.tmp 5) 0), none⟩,
 ⟨some 45, some (.load Zf (.tmp 44)), none⟩,
 ⟨some 46, some (.binOp .xor Zf (.tmp 43) (.tmp 45) Zf), none⟩,
 ⟨some 47, some (.fieldAddr Zb (.tmp 4) 1), none⟩,
 ⟨some 48, some (.load Zf (.tmp 47)), none⟩,
 ⟨some 49, some (.fieldAddr Zb (.tmp 5) 1), none⟩,
 ⟨some 50, some (.load Zf (.tmp 49)), none⟩,
 ⟨some 51, some (.binOp .xor Zf (.tmp 48) (.tmp 50) Zf), none⟩,
 ⟨some 52, some (.build Zb #[(0, (.tmp 46)), (1, (.tmp 51))]), none⟩,
 ⟨none, some (.store Zb (.tmp 8) (.tmp 52)), none⟩])
  (.exit 0)))))
  (.seq (.seq (.reg [] [⟨some 53, some (.move (.tmp 7)), none⟩])
  (.cond (.tmp 53) (.seq (.reg [] [⟨some 54, some (.load Zb (.tmp 8)), none⟩,
 ⟨some 55, some (.call ⟨(.value (.func Zbe)), #[.tmp 54], #[Zb]⟩), none⟩,
 ⟨none, some (.store Zb (.tmp 6) (.tmp 55)), none⟩])
  .ret)
  .skip))
  (.seq (.reg [] [⟨some 56, some (.load Zb (.tmp 8)), none⟩,
 ⟨none, some (.store Zb (.tmp 6) (.tmp 56)), none⟩])
  .ret))))))
theorem Zj3 {a0 a1 a2 : AV} {H : AHeap} : R Ze1 [a0, a1, a2] H = fnK Try.prog [] H [(.cell 6 Zb)] (evalL Try.prog KT R Zeh (Env.args [a0, a1, a2] 0) H) :=
  runs_body (D := DT) (f := Ze1) Try.func90 (by kernel_rfl) (by kernel_rfl) (by kernel_rfl) (by kernel_rfl) (by kernel_rfl) (Nat.le_of_ble_eq_true rfl)
def Zcz : LCode := (.seq (.reg [] [⟨some 4, some (.box Za (.tmp 1)), none⟩,
 ⟨some 5, some (.box Za (.tmp 2)), none⟩,
 ⟨some 6, some (.alloc Zb), none⟩])
  (.seq (.reg [1, 4, 5] [⟨some 17, some (.load Za (.tmp 4)), none⟩,
 ⟨some 18, some (.call ⟨(.value (.func Zcp)), #[.tmp 17], #[Za]⟩), none⟩,
 ⟨some 19, some (.load Za (.tmp 5)), none⟩,
 ⟨some 20, some (.call ⟨(.value (.func Zcp)), #[.tmp 19], #[Za]⟩), none⟩,
 ⟨some 7, some (.alloc Zb), none⟩,
 ⟨some 8, some (.alloc Zb), none⟩,
 ⟨none, some (.store Zb (.tmp 7) (.tmp 18)), none⟩,
 ⟨none, some (.store Zb (.tmp 8) (.tmp 20)), none⟩])
  (.seq (.seq (.reg [] [⟨some 21, some (.move (.tmp 0)), none⟩])
  (.block 0 (.seq (.reg [] [⟨some 23, some (.binOp .eql Zd (.tmp 21) (.const (.int .i64 18)) Zd), none⟩,
 ⟨some 22, some (.assign (.tmp 23)), none⟩])
  (.cond (.tmp 22) (.seq (.reg [] [⟨some 24, some (.load Zb (.tmp 7)), none⟩,
 ⟨some 25, some (.load Zb (.tmp 8)), none⟩,
 ⟨some 26, some (.call ⟨(.value (.func Zbh)), #[.tmp 24, .tmp 25], #[Zb, Zb]⟩), none⟩,
 ⟨none, some (.store Zb (.tmp 6) (.tmp 26)), none⟩])
  .ret)
  (.seq (.reg [] [⟨some 28, some (.binOp .eql Zd (.tmp 21) (.const (.int .i64 19)) Zd), none⟩,
 ⟨some 27, some (.assign (.tmp 28)), none⟩])
  (.cond (.tmp 27) (.seq (.reg [] [⟨some 29, some (.load Zb (.tmp 7)), none⟩,
 ⟨some 30, some (.load Zb (.tmp 8)), none⟩,
 ⟨some 31, some (.call ⟨(.value (.func Zbl)), #[.tmp 29, .tmp 30], #[Zb, Zb]⟩), none⟩,
 ⟨none, some (.store Zb (.tmp 6) (.tmp 31)), none⟩])
  .ret)
  (.seq (.reg [] [⟨some 33, some (.binOp .eql Zd (.tmp 21) (.const (.int .i64 20)) Zd), none⟩,
 ⟨some 32, some (.assign (.tmp 33)), none⟩])
  (.cond (.tmp 32) (.seq (.reg [] [⟨some 34, some (.load Zb (.tmp 7)), none⟩,
 ⟨some 35, some (.load Zb (.tmp 8)), none⟩,
 ⟨some 36, some (.call ⟨(.value (.func Zcf)), #[.tmp 34, .tmp 35], #[Zb, Zb]⟩), none⟩,
 ⟨none, some (.store Zb (.tmp 6) (.tmp 36)), none⟩])
  .ret)
  (.seq (.reg [] [⟨some 38, some (.binOp .eql Zd (.tmp 21) (.const (.int .i64 21)) Zd), none⟩,
 ⟨some 37, some (.assign (.tmp 38)), none⟩])
  (.cond (.tmp 37) (.seq (.reg [] [⟨some 40, some (.fieldAddr Za (.tmp 4) 0), none⟩,
 ⟨some 41, some (.load Zd (.tmp 40)), none⟩,
 ⟨some 42, some (.load Zb (.tmp 7)), none⟩,
 ⟨some 43, some (.load Zb (.tmp 8)), none⟩,
 ⟨some 44, some (.call ⟨(.value (.func Zcs)), #[.tmp 41, .tmp 42, .tmp 43], #[Zd, Zb, Zb]⟩), none⟩,
 ⟨some 39, some (.move (.tmp 44)), none⟩,
 ⟨some 45, some (.extract (.tmp 39) 0), none⟩,
 ⟨some 46, some (.extract (.tmp 39) 1), none⟩,
 ⟨some 9, some (.alloc Zb), none⟩,
 ⟨some 10, some (.alloc Zb), none⟩,
 ⟨none, some (.store Zb (.tmp 9) (.tmp 45)), none⟩,
 ⟨none, some (.store Zb (.tmp 10) (.tmp 46)), none⟩])
  (.seq (.reg [] [⟨some 47, some (.load Zb (.tmp 9)), none⟩,
 ⟨none, some (.store Zb (.tmp 6) (.tmp 47)), none⟩])
  .ret))
  (.seq (.reg [] [⟨some 49, some (.binOp .eql Zd (.tmp 21) (.const (.int .i64 22)) Zd), none⟩,
 ⟨some 48, some (.assign (.tmp 49)), none⟩])
  (.cond (.tmp 48) (.seq (.reg [] [⟨some 51, some (.fieldAddr Za (.tmp 4) 0), none⟩,
 ⟨some 52, some (.load Zd (.tmp 51)), none⟩,
 ⟨some 53, some (.load Zb (.tmp 7)), none⟩,
 ⟨some 54, some (.load Zb (.tmp 8)), none⟩,
 ⟨some 55, some (.call ⟨(.value (.func Zcs)), #[.tmp 52, .tmp 53, .tmp 54], #[Zd, Zb, Zb]⟩), none⟩,
 ⟨some 50, some (.move (.tmp 55)), none⟩,
 ⟨some 56, some (.extract (.tmp 50) 0), none⟩,
 ⟨some 57, some (.extract (.tmp 50) 1), none⟩,
 ⟨some 11, some (.alloc Zb), none⟩,
 ⟨some 12, some (.alloc Zb), none⟩,
 ⟨none, some (.store Zb (.tmp 11) (.tmp 56)), none⟩,
 ⟨none, some (.store Zb (.tmp 12) (.tmp 57)), none⟩])
  (.seq (.reg [] [⟨some 58, some (.load Zb (.tmp 12)), none⟩,
 ⟨none, some (.store Zb (.tmp 6) (.tmp 58)), none⟩])
  .ret))
  (.seq (.reg [] [⟨some 60, some (.binOp .eql Zd (.tmp 21) (.const (.int .i64 23)) Zd), none⟩,
 ⟨some 59, some (.assign (.tmp 60)), none⟩])
  (.cond (.tmp 59) (.seq (.reg [3, 5, 10, 11] [⟨some 62, some (.fieldAddr Za (.tmp 4) 0), none⟩,
 ⟨some 63, some (.load Zd (.tmp 62)), none⟩,
 ⟨some 64, some (.load Za (.tmp 4)), none⟩,
 ⟨some 65, some (.call ⟨(.value (.func Zdx)), #[.tmp 64], #[Za]⟩), none⟩,
 ⟨some 66, some (.load Za (.tmp 5)), none⟩,
 ⟨some 67, some (.call ⟨(.value (.func Zdx)), #[.tmp 66], #[Za]⟩), none⟩,
 ⟨some 68, some (.call ⟨(.value (.func Zcs)), #[.tmp 63, .tmp 65, .tmp 67], #[Zd, Zb, Zb]⟩), none⟩,
 ⟨some 61, some (.move (.tmp 68)), none⟩,
 ⟨some 69, some (.extract (.tmp 61) 0), none⟩,
 ⟨some 70, some (.extract (.tmp 61) 1), none⟩,
 ⟨some 13, some (.alloc Zb), none⟩,
 ⟨some 14, some (.alloc Zb), none⟩,
 ⟨none, some (.store Zb (.tmp 13) (.tmp 69)), none⟩,
 ⟨none, some (.store Zb (.tmp 14) (.tmp 70)), none⟩])
  (.seq (.reg [1, 3] [⟨some 71, some (.load Za (.tmp 4)), none⟩,
 ⟨some 72, some (.call ⟨(.value (.func Zck)), #[.tmp 71], #[Za]⟩), none⟩,
 ⟨some 73, some (.load Za (.tmp 5)), none⟩,
 ⟨some 74, some (.call ⟨(.value (.func Zck)), #[.tmp 73], #[Za]⟩), none⟩,
 ⟨some 75, some (.binOp .neq Z8 (.tmp 72) (.tmp 74) Z8), none⟩,
 ⟨some 76, some (.load Zb (.tmp 13)), none⟩,
 ⟨some 77, some (.call ⟨(.value (.func Zdv)), #[.tmp 75, .tmp 76], #[Z8, Zb]⟩), none⟩,
 ⟨none, some (.store Zb (.tmp 6) (.tmp 77)), none⟩])
  .ret))
  (.seq (.reg [] [⟨some 79, some (.binOp .eql Zd (.tmp 21) (.const (.int .i64 24)) Zd), none⟩,
 ⟨some 78, some (.assign (.tmp 79)), none⟩])
  (.cond (.tmp 78) (.seq (.reg [3, 5, 10, 11] [⟨some 81, some (.fieldAddr Za (.tmp 4) 0), none⟩,
 ⟨some 82, some (.load Zd (.tmp 81)), none⟩,
 ⟨some 83, some (.load Za (.tmp 4)), none⟩,
 ⟨some 84, some (.call ⟨(.value (.func Zdx)), #[.tmp 83], #[Za]⟩), none⟩,
 ⟨some 85, some (.load Za (.tmp 5)), none⟩,
 ⟨some 86, some (.call ⟨(.value (.func Zdx)), #[.tmp 85], #[Za]⟩), none⟩,
 ⟨some 87, some (.call ⟨(.value (.func Zcs)), #[.tmp 82, .tmp 84, .tmp 86], #[Zd, Zb, Zb]⟩), none⟩,
 ⟨some 80, some (.move (.tmp 87)), none⟩,
 ⟨some 88, some (.extract (.tmp 80) 0), none⟩,
 ⟨some 89, some (.extract (.tmp 80) 1), none⟩,
 ⟨some 15, some (.alloc Zb), none⟩,
 ⟨some 16, some (.alloc Zb), none⟩,
 ⟨none, some (.store Zb (.tmp 15) (.tmp 88)), none⟩,
 ⟨none, some (.store Zb (.tmp 16) (.tmp 89)), none⟩])
  (.seq (.reg [1] [⟨some 90, some (.load Za (.tmp 4)), none⟩,
 ⟨some 91, some (.call ⟨(.value (.func Zck)), #[.tmp 90], #[Za]⟩), none⟩,
 ⟨some 92, some (.load Zb (.tmp 16)), none⟩,
 ⟨some 93, some (.call ⟨(.value (.func Zdv)), #[.tmp 91, .tmp 92], #[Z8, Zb]⟩), none⟩,
 ⟨none, some (.store Zb (.tmp 6) (.tmp 93)), none⟩])
  .ret))
  .skip))))))))))))))))
  (.seq (.reg [] [⟨some 94, some (.load Za (.tmp 4)), none⟩,
 ⟨some 95, some (.load Za (.tmp 5)), none⟩,
 ⟨some 96, some (.call ⟨(.value (.func Zgi)), #[.tmp 94, .tmp 95], #[Za, Za]⟩), none⟩,
 ⟨none, some (.store Zb (.tmp 6) (.tmp 96)), none⟩])
  .ret))))
theorem Zjn {a0 a1 a2 : AV} {H : AHeap} : R Zdu [a0, a1, a2] H = fnK Try.prog [] H [(.cell 6 Zb)] (evalL Try.prog KT R Zcz (Env.args [a0, a1, a2] 0) H) :=
  runs_body (D := DT) (f := Zdu) Try.func91 (by kernel_rfl) (by kernel_rfl) (by kernel_rfl) (by kernel_rfl) (by kernel_rfl) (Nat.le_of_ble_eq_true rfl)
def Zc5 : LCode := (.seq (.reg [] [⟨some 4, some (.box Za (.tmp 1)), none⟩,
 ⟨some 5, some (.box Za (.tmp 2)), none⟩,
 ⟨some 6, some (.alloc Zb), none⟩])
  (.seq (.reg [] [⟨some 10, some (.fieldAddr Za (.tmp 4) 0), none⟩,
 ⟨some 11, some (.load Zd (.tmp 10)), none⟩,
 ⟨some 7, some (.assign (.tmp 11)), none⟩])
  (.seq (.seq (.reg [] [⟨some 12, some (.fieldAddr Za (.tmp 5) 2), none⟩,
 ⟨some 13, some (.load Zf (.tmp 12)), none⟩,
 ⟨some 14, some (.binOp .eql Zf (.tmp 13) (.const (.int .u64 0)) Zf), none⟩,
 ⟨some 15, some (.move (.tmp 14)), none⟩,
 ⟨some 16, some (.fieldAddr Za (.tmp 5) 1), some (some 15, true)⟩,
 ⟨some 17, some (.load Zf (.tmp 16)), some (some 15, true)⟩,
 ⟨some 18, some (.fieldAddr Za (.tmp 4) 0), some (some 15, true)⟩,
 ⟨some 19, some (.load Zd (.tmp 18)), some (some 15, true)⟩,
 ⟨some 20, some (.convert Zd Zf (.tmp 19)), some (some 15, true)⟩,
 ⟨some 21, some (.binOp .lss Zf (.tmp 17) (.tmp 20) Zf), some (some 15, true)⟩,
 ⟨some 22, some (.pick (.tmp 15) (.tmp 21) (.const (.bool false))), none⟩])
  (.cond (.tmp 22) (.reg [] [⟨some 23, some (.fieldAddr Za (.tmp 5) 1), none⟩,
 ⟨some 24, some (.load Zf (.tmp 23)), none⟩,
 ⟨some 25, some (.convert Zf Zd (.tmp 24)), none⟩,
 ⟨some 7, some (.assign (.tmp 25)), none⟩])
  .skip))
  (.seq (.seq (.reg [] [⟨some 26, some (.move (.tmp 0)), none⟩,
 ⟨some 27, some (.binOp .eql Zd (.tmp 26) (.const (.int .i64 26)) Zd), none⟩])
  (.cond (.tmp 27) (.seq (.reg [] [⟨some 28, some (.load Za (.tmp 4)), none⟩,
 ⟨some 29, some (.call ⟨(.value (.func Zcp)), #[.tmp 28], #[Za]⟩), none⟩,
 ⟨some 30, some (.move (.tmp 7)), none⟩,
 ⟨some 31, some (.call ⟨(.value (.func Zba)), #[.tmp 29, .tmp 30], #[Zb, Zd]⟩), none⟩,
 ⟨none, some (.store Zb (.tmp 6) (.tmp 31)), none⟩])
  .ret)
  .skip))
  (.seq (.reg [] [⟨some 32, some (.load Za (.tmp 4)), none⟩,
 ⟨some 33, some (.call ⟨(.value (.func Zcp)), #[.tmp 32], #[Za]⟩), none⟩,
 ⟨some 34, some (.move (.tmp 7)), none⟩,
 ⟨some 35, some (.call ⟨(.value (.func Z7)), #[.tmp 33, .tmp 34], #[Zb, Zd]⟩), none⟩,
 ⟨some 8, some (.alloc Zb), none⟩,
 ⟨none, some (.store Zb (.tmp 8) (.tmp 35)), none⟩])
  (.seq (.seq (.reg [] [⟨some 36, some (.move (.tmp 0)), none⟩,
 ⟨some 37, some (.binOp .eql Zd (.tmp 36) (.const (.int .i64 28)) Zd), none⟩,
 ⟨some 38, some (.move (.tmp 37)), none⟩,
 ⟨some 39, some (.load Za (.tmp 4)), some (some 38, true)⟩,
 ⟨some 40, some (.call ⟨(.value (.func Zck)), #[.tmp 39], #[Za]⟩), some (some 38, true)⟩,
 ⟨some 41, some (.pick (.tmp 38) (.tmp 40) (.const (.bool false))), none⟩])
  (.cond (.tmp 41) (.seq (.reg [] [⟨some 42, some (.fieldAddr Za (.tmp 4) 0), none⟩,
 ⟨some 43, some (.load Zd (.tmp 42)), none⟩,
 ⟨some 44, some (.call ⟨(.value (.func Ze6)), #[.tmp 43], #[Zd]⟩), none⟩,
 ⟨some 45, some (.move (.tmp 7)), none⟩,
 ⟨some 46, some (.call ⟨(.value (.func Z7)), #[.tmp 44, .tmp 45], #[Zb, Zd]⟩), none⟩,
 ⟨some 47, some (.call ⟨(.value (.func Zbe)), #[.tmp 46], #[Zb]⟩), none⟩,
 ⟨some 9, some (.alloc Zb), none⟩,
 ⟨none, some (.store Zb (.tmp 9) (.tmp 47)), none⟩])
  (.reg [] [⟨some 48, some (.fieldAddr Zb (.tmp 8) 0), none⟩,
 ⟨some 49, some (.load Zf (.tmp 48)), none⟩,
 ⟨some 50, some (.fieldAddr Zb (.tmp 9) 0), none⟩,
 ⟨some 51, some (.load Zf (.tmp 50)), none⟩,
 ⟨some 52, some (.binOp .or Zf (.tmp 49) (.tmp 51) Zf), none⟩,
 ⟨some 53, some (.fieldAddr Zb (.tmp 8) 1), none⟩,
 ⟨some 54, some (.load Zf (.tmp 53)), none⟩,
 ⟨some 55, some (.fieldAddr Zb (.tmp 9) 1), none⟩,
 ⟨some 56, some (.load Zf (.tmp 55)), none⟩,
 ⟨some 57, some (.binOp .or Zf (.tmp 54) (.tmp 56) Zf), none⟩,
 ⟨some 58, some (.build Zb #[(0, (.tmp 52)), (1, (.tmp 57))]), none⟩,
 ⟨none, some (.store Zb (.tmp 8) (.tmp 58)), none⟩]))
  .skip))
  (.seq (.reg [] [⟨some 59, some (.load Zb (.tmp 8)), none⟩,
 ⟨none, some (.store Zb (.tmp 6) (.tmp 59)), none⟩])
  .ret)))))))
theorem Zj4 {a0 a1 a2 : AV} {H : AHeap} : R Ze2 [a0, a1, a2] H = fnK Try.prog [] H [(.cell 6 Zb)] (evalL Try.prog KT R Zc5 (Env.args [a0, a1, a2] 0) H) :=
  runs_body (D := DT) (f := Ze2) Try.func92 (by kernel_rfl) (by kernel_rfl) (by kernel_rfl) (by kernel_rfl) (by kernel_rfl) (Nat.le_of_ble_eq_true rfl)
def Zc0 : LCode := (.seq (.reg [] [⟨some 4, some (.box Za (.tmp 1)), none⟩,
 ⟨some 5, some (.box Za (.tmp 2)), none⟩,
 ⟨some 6, some (.assign (.const (.bool false))), none⟩])
  (.seq (.reg [1, 4, 5] [⟨some 10, some (.load Za (.tmp 4)), none⟩,
 ⟨some 11, some (.call ⟨(.value (.func Zcp)), #[.tmp 10], #[Za]⟩), none⟩,
 ⟨some 12, some (.load Za (.tmp 5)), none⟩,
 ⟨some 13, some (.call ⟨(.value (.func Zcp)), #[.tmp 12], #[Za]⟩), none⟩,
 ⟨some 7, some (.alloc Zb), none⟩,
 ⟨some 8, some (.alloc Zb), none⟩,
 ⟨none, some (.store Zb (.tmp 7) (.tmp 11)), none⟩,
 ⟨none, some (.store Zb (.tmp 8) (.tmp 13)), none⟩])
  (.seq (.seq (.reg [] [⟨some 14, some (.move (.tmp 0)), none⟩])
  (.block 0 (.seq (.seq (.reg [] [⟨some 16, some (.binOp .eql Zd (.tmp 14) (.const (.int .i64 33)) Zd), none⟩,
 ⟨some 15, some (.assign (.tmp 16)), none⟩])
  (.cond (.tmp 15) .skip
  (.seq (.reg [] [⟨some 17, some (.binOp .eql Zd (.tmp 14) (.const (.int .i64 34)) Zd), none⟩,
 ⟨some 15, some (.assign (.tmp 17)), none⟩])
  (.cond (.tmp 15) .skip
  (.seq (.reg [] [⟨some 18, some (.binOp .eql Zd (.tmp 14) (.const (.int .i64 35)) Zd), none⟩,
 ⟨some 15, some (.assign (.tmp 18)), none⟩])
  (.cond (.tmp 15) .skip
  (.reg [] [⟨some 19, some (.binOp .eql Zd (.tmp 14) (.const (.int .i64 36)) Zd), none⟩,
 ⟨some 15, some (.assign (.tmp 19)), none⟩])))))))
  (.cond (.tmp 15) (.seq (.reg [] [⟨some 20, some (.build Zb #[(0, (.const (.int .u64 1)))]), none⟩,
 ⟨some 21, some (.fieldAddr Za (.tmp 4) 0), none⟩,
 ⟨some 22, some (.load Zd (.tmp 21)), none⟩,
 ⟨some 23, some (.binOp .sub Zd (.tmp 22) (.const (.int .i64 1)) Zd), none⟩,
 ⟨some 24, some (.call ⟨(.value (.func Zba)), #[.tmp 20, .tmp 23], #[Zb, Zd]⟩), none⟩,
 ⟨some 9, some (.alloc Zb), none⟩,
 ⟨none, some (.store Zb (.tmp 9) (.tmp 24)), none⟩])
  (.seq (.reg [] [⟨some 25, some (.fieldAddr Zb (.tmp 7) 0), none⟩,
 ⟨some 26, some (.load Zf (.tmp 25)), none⟩,
 ⟨some 27, some (.fieldAddr Zb (.tmp 9) 0), none⟩,
 ⟨some 28, some (.load Zf (.tmp 27)), none⟩,
 ⟨some 29, some (.binOp .xor Zf (.tmp 26) (.tmp 28) Zf), none⟩,
 ⟨some 30, some (.fieldAddr Zb (.tmp 7) 1), none⟩,
 ⟨some 31, some (.load Zf (.tmp 30)), none⟩,
 ⟨some 32, some (.fieldAddr Zb (.tmp 9) 1), none⟩,
 ⟨some 33, some (.load Zf (.tmp 32)), none⟩,
 ⟨some 34, some (.binOp .xor Zf (.tmp 31) (.tmp 33) Zf), none⟩,
 ⟨some 35, some (.build Zb #[(0, (.tmp 29)), (1, (.tmp 34))]), none⟩,
 ⟨none, some (.store Zb (.tmp 7) (.tmp 35)), none⟩])
  (.reg [] [⟨some 36, some (.fieldAddr Zb (.tmp 8) 0), none⟩,
 ⟨some 37, some (.load Zf (.tmp 36)), none⟩,
 ⟨some 38, some (.fieldAddr Zb (.tmp 9) 0), none⟩,
 ⟨some 39, some (.load Zf (.tmp 38)), none⟩,
 ⟨some 40, some (.binOp .xor Zf (.tmp 37) (.tmp 39) Zf), none⟩,
 ⟨some 41, some (.fieldAddr Zb (.tmp 8) 1), none⟩,
 ⟨some 42, some (.load Zf (.tmp 41)), none⟩,
 ⟨some 43, some (.fieldAddr Zb (.tmp 9) 1), none⟩,
 ⟨some 44, some (.load Zf (.tmp 43)), none⟩,
 ⟨some 45, some (.binOp .xor Zf (.tmp 42) (.tmp 44) Zf), none⟩,
 ⟨some 46, some (.build Zb #[(0, (.tmp 40)), (1, (.tmp 45))]), none⟩,
 ⟨none, some (.store Zb (.tmp 8) (.tmp 46)), none⟩])))
  .skip))))
  (.seq (.seq (.reg [] [⟨some 47, some (.move (.tmp 0)), none⟩])
  (.block 1 (.seq (.seq (.reg [] [⟨some 49, some (.binOp .eql Zd (.tmp 47) (.const (.int .i64 29)) Zd), none⟩,
 ⟨some 48, some (.assign (.tmp 49)), none⟩])
  (.cond (.tmp 48) .skip
  (.reg [] [⟨some 50, some (.binOp .eql Zd (.tmp 47) (.const (.int .i64 33)) Zd), none⟩,
 ⟨some 48, some (.assign (.tmp 50)), none⟩])))
  (.cond (.tmp 48) (.seq (.reg [] [⟨some 51, some (.load Zb (.tmp 7)), none⟩,
 ⟨some 52, some (.load Zb (.tmp 8)), none⟩,
 ⟨some 53, some (.call ⟨(.value (.func Zbf)), #[.tmp 51, .tmp 52], #[Zb, Zb]⟩), none⟩,
 ⟨some 6, some (.assign (.tmp 53)), none⟩])
  .ret)
  (.seq (.seq (.reg [] [⟨some 55, some (.binOp .eql Zd (.tmp 47) (.const (.int .i64 30)) Zd), none⟩,
 ⟨some 54, some (.assign (.tmp 55)), none⟩])
  (.cond (.tmp 54) .skip
  (.reg [] [⟨some 56, some (.binOp .eql Zd (.tmp 47) (.const (.int .i64 34)) Zd), none⟩,
 ⟨some 54, some (.assign (.tmp 56)), none⟩])))
  (.cond (.tmp 54) (.seq (.reg [] [⟨some 57, some (.load Zb (.tmp 8)), none⟩,
 ⟨some 58, some (.load Zb (.tmp 7)), none⟩,
 ⟨some 59, some (.call ⟨(.value (.func Zbf)), #[.tmp 57, .tmp 58], #[Zb, Zb]⟩), none⟩,
 ⟨some 60, some (.unOp .not Z8 (.tmp 59)), none⟩,
 ⟨some 6, some (.assign (.tmp 60)), none⟩])
  .ret)
  (.seq (.seq (.reg [] [⟨some 62, some (.binOp .eql Zd (.tmp 47) (.const (.int .i64 31)) Zd), none⟩,
 ⟨some 61, some (.assign (.tmp 62)), none⟩])
  (.cond (.tmp 61) .skip
  (.reg [] [⟨some 63, some (.binOp .eql Zd (.tmp 47) (.const (.int .i64 35)) Zd), none⟩,
 ⟨some 61, some (.assign (.tmp 63)), none⟩])))
  (.cond (.tmp 61) (.seq (.reg [] [⟨some 64, some (.load Zb (.tmp 8)), none⟩,
 ⟨some 65, some (.load Zb (.tmp 7)), none⟩,
 ⟨some 66, some (.call ⟨(.value (.func Zbf)), #[.tmp 64, .tmp 65], #[Zb, Zb]⟩), none⟩,
 ⟨some 6, some (.assign (.tmp 66)), none⟩])
  .ret)
  .skip))))))))
  (.seq (.reg [] [⟨some 67, some (.load Zb (.tmp 7)), none⟩,
 ⟨some 68, some (.load Zb (.tmp 8)), none⟩,
 ⟨some 69, some (.call ⟨(.value (.func Zbf)), #[.tmp 67, .tmp 68], #[Zb, Zb]⟩), none⟩,
 ⟨some 70, some (.unOp .not Z8 (.tmp 69)), none⟩,
 ⟨some 6, some (.assign (.tmp 70)), none⟩])
  .ret)))))
theorem Zjo {a0 a1 a2 : AV} {H : AHeap} : R Zej [a0, a1, a2] H = fnK Try.prog [] H [(.tmp 6)] (evalL Try.prog KT R Zc0 (Env.args [a0, a1, a2] 0) H) :=
  runs_body (D := DT) (f := Zej) Try.func93 (by kernel_rfl) (by kernel_rfl) (by kernel_rfl) (by kernel_rfl) (by kernel_rfl) (Nat.le_of_ble_eq_true rfl)
def Zfp : LCode := (.seq (.reg [] [⟨some 2, some (.box Zb (.tmp 0)), none⟩,
 ⟨some 3, some (.box Zb (.tmp 1)), none⟩,
 ⟨some 4, some (.alloc Zb), none⟩])
  (.seq (.reg [] [⟨some 10, some (.fieldAddr Zb (.tmp 2) 0), none⟩,
 ⟨some 11, some (.load Zf (.tmp 10)), none⟩,
 ⟨some 12, some (.fieldAddr Zb (.tmp 3) 0), none⟩,
 ⟨some 13, some (.load Zf (.tmp 12)), none⟩,
 ⟨some 14, some (.call ⟨(.value (.func Zek)), #[(.tmp 11), (.tmp 13), (.const (.int .u64 0))], #[Zf, Zf, Zf]⟩), none⟩,
 ⟨some 9, some (.move (.tmp 14)), none⟩,
 ⟨some 15, some (.extract (.tmp 9) 0), none⟩,
 ⟨some 16, some (.extract (.tmp 9) 1), none⟩,
 ⟨some 5, some (.assign (.tmp 15)), none⟩,
 ⟨some 6, some (.assign (.tmp 16)), none⟩])
  (.seq (.reg [] [⟨some 18, some (.fieldAddr Zb (.tmp 2) 1), none⟩,
 ⟨some 19, some (.load Zf (.tmp 18)), none⟩,
 ⟨some 20, some (.fieldAddr Zb (.tmp 3) 1), none⟩,
 ⟨some 21, some (.load Zf (.tmp 20)), none⟩,
 ⟨some 22, some (.move (.tmp 6)), none⟩,
 ⟨some 23, some (.call ⟨(.value (.func Zek)), #[.tmp 19, .tmp 21, .tmp 22], #[Zf, Zf, Zf]⟩), none⟩,
 ⟨some 17, some (.move (.tmp 23)), none⟩,
 ⟨some 24, some (.extract (.tmp 17) 0), none⟩,
 ⟨some 25, some (.extract (.tmp 17) 1), none⟩,
 ⟨some 7, some (.assign (.tmp 24)), none⟩,
 ⟨some 8, some (.assign (.tmp 25)), none⟩])
  (.seq (.reg [] [⟨some 26, some (.move (.tmp 5)), none⟩,
 ⟨some 27, some (.move (.tmp 7)), none⟩,
 ⟨some 28, some (.build Zb #[(0, (.tmp 26)), (1, (.tmp 27))]), none⟩,
 ⟨none, some (.store Zb (.tmp 4) (.tmp 28)), none⟩])
  .ret))))
theorem Zg6 {a0 a1 : AV} {H : AHeap} : R Zbh [a0, a1] H = fnK Try.prog [] H [(.cell 4 Zb)] (evalL Try.prog KT R Zfp (Env.args [a0, a1] 0) H) :=
  runs_body (D := DT) (f := Zbh) Try.func94 (by kernel_rfl) (by kernel_rfl) (by kernel_rfl) (by kernel_rfl) (by kernel_rfl) (Nat.le_of_ble_eq_true rfl)
def Zfq : LCode := (.seq (.reg [] [⟨some 2, some (.box Zb (.tmp 0)), none⟩,
 ⟨some 4, some (.assign (.const (.bool false))), none⟩])
  (.seq (.reg [] [⟨some 5, some (.load Zb (.tmp 2)), none⟩,
 ⟨some 6, some (.move (.tmp 1)), none⟩,
 ⟨some 7, some (.call ⟨(.value (.func Z7)), #[.tmp 5, .tmp 6], #[Zb, Zd]⟩), none⟩,
 ⟨some 8, some (.field Zb (.tmp 7) 0), none⟩,
 ⟨some 9, some (.binOp .and Zf (.tmp 8) (.const (.int .u64 1)) Zf), none⟩,
 ⟨some 10, some (.binOp .eql Zf (.tmp 9) (.const (.int .u64 1)) Zf), none⟩,
 ⟨some 4, some (.assign (.tmp 10)), none⟩])
  .ret))
theorem Zg7 {a0 a1 : AV} {H : AHeap} : R Zce [a0, a1] H = fnK Try.prog [] H [(.tmp 4)] (evalL Try.prog KT R Zfq (Env.args [a0, a1] 0) H) :=
  runs_body (D := DT) (f := Zce) Try.func95 (by kernel_rfl) (by kernel_rfl) (by kernel_rfl) (by kernel_rfl) (by kernel_rfl) (Nat.le_of_ble_eq_true rfl)
def Zfr : LCode := (.seq (.reg [] [⟨some 2, some (.box Zb (.tmp 0)), none⟩,
 ⟨some 3, some (.box Zb (.tmp 1)), none⟩,
 ⟨some 4, some (.alloc Zb), none⟩])
  (.seq (.reg [2] [⟨some 5, some (.load Zb (.tmp 2)), none⟩,
 ⟨some 6, some (.load Zb (.tmp 3)), none⟩,
 ⟨some 7, some (.call ⟨(.value (.func Zbg)), #[.tmp 6], #[Zb]⟩), none⟩,
 ⟨some 8, some (.call ⟨(.value (.func Zbh)), #[.tmp 5, .tmp 7], #[Zb, Zb]⟩), none⟩,
 ⟨none, some (.store Zb (.tmp 4) (.tmp 8)), none⟩])
  .ret))
theorem Zg8 {a0 a1 : AV} {H : AHeap} : R Zbl [a0, a1] H = fnK Try.prog [] H [(.cell 4 Zb)] (evalL Try.prog KT R Zfr (Env.args [a0, a1] 0) H) :=
  runs_body (D := DT) (f := Zbl) Try.func96 (by kernel_rfl) (by kernel_rfl) (by kernel_rfl) (by kernel_rfl) (by kernel_rfl) (Nat.le_of_ble_eq_true rfl)
def Zfs : LCode := (.seq (.reg [] [⟨some 2, some (.box Zb (.tmp 0)), none⟩,
 ⟨some 3, some (.box Zb (.tmp 1)), none⟩,
 ⟨some 4, some (.alloc Zb), none⟩])
  (.seq (.reg [] [⟨some 8, some (.fieldAddr Zb (.tmp 2) 0), none⟩,
 ⟨some 9, some (.load Zf (.tmp 8)), none⟩,
 ⟨some 10, some (.fieldAddr Zb (.tmp 3) 0), none⟩,
 ⟨some 11, some (.load Zf (.tmp 10)), none⟩,
 ⟨some 12, some (.call ⟨(.value (.func Zel)), #[.tmp 9, .tmp 11], #[Zf, Zf]⟩), none⟩,
 ⟨some 7, some (.move (.tmp 12)), none⟩,
 ⟨some 13, some (.extract (.tmp 7) 0), none⟩,
 ⟨some 14, some (.extract (.tmp 7) 1), none⟩,
 ⟨some 5, some (.assign (.tmp 13)), none⟩,
 ⟨some 6, some (.assign (.tmp 14)), none⟩])
  (.seq (.reg [] [⟨some 15, some (.move (.tmp 6)), none⟩,
 ⟨some 16, some (.move (.tmp 5)), none⟩,
 ⟨some 17, some (.fieldAddr Zb (.tmp 2) 1), none⟩,
 ⟨some 18, some (.load Zf (.tmp 17)), none⟩,
 ⟨some 19, some (.fieldAddr Zb (.tmp 3) 0), none⟩,
 ⟨some 20, some (.load Zf (.tmp 19)), none⟩,
 ⟨some 21, some (.binOp .mul Zf (.tmp 18) (.tmp 20) Zf), none⟩,
 ⟨some 22, some (.binOp .add Zf (.tmp 16) (.tmp 21) Zf), none⟩,
 ⟨some 23, some (.fieldAddr Zb (.tmp 2) 0), none⟩,
 ⟨some 24, some (.load Zf (.tmp 23)), none⟩,
 ⟨some 25, some (.fieldAddr Zb (.tmp 3) 1), none⟩,
 ⟨some 26, some (.load Zf (.tmp 25)), none⟩,
 ⟨some 27, some (.binOp .mul Zf (.tmp 24) (.tmp 26) Zf), none⟩,
 ⟨some 28, some (.binOp .add Zf (.tmp 22) (.tmp 27) Zf), none⟩,
 ⟨some 29, some (.build Zb #[(0, (.tmp 15)), (1, (.tmp 28))]), none⟩,
 ⟨none, some (.store Zb (.tmp 4) (.tmp 29)), none⟩])
  .ret)))
theorem Zg9 {a0 a1 : AV} {H : AHeap} : R Zcf [a0, a1] H = fnK Try.prog [] H [(.cell 4 Zb)] (evalL Try.prog KT R Zfs (Env.args [a0, a1] 0) H) :=
  runs_body (D := DT) (f := Zcf) Try.func97 (by kernel_rfl) (by kernel_rfl) (by kernel_rfl) (by kernel_rfl) (by kernel_rfl) (Nat.le_of_ble_eq_true rfl)
def Zha : LCode := (.seq (.reg [] [⟨some 4, some (.box Zb (.tmp 1)), none⟩,
 ⟨some 5, some (.box Zb (.tmp 2)), none⟩,
 ⟨some 6, some (.alloc Zb), none⟩,
 ⟨some 7, some (.alloc Zb), none⟩])
  (.seq (.seq (.reg [] [⟨some 8, some (.load Zb (.tmp 5)), none⟩,
 ⟨some 9, some (.build Zb #[]), none⟩,
 ⟨some 10, some (.binOp .eql Zb (.tmp 8) (.tmp 9) Zb), none⟩])
  (.cond (.tmp 10) (.seq (.reg [1, 2, 3, 1006] [⟨some 11, some (.move (.tmp 0)), none⟩,
 ⟨some 12, some (.call ⟨(.value (.func Ze6)), #[.tmp 11], #[Zd]⟩), none⟩,
 ⟨some 13, some (.load Zb (.tmp 4)), none⟩,
 ⟨none, some (.store Zb (.tmp 6) (.tmp 12)), none⟩,
 ⟨none, some (.store Zb (.tmp 7) (.tmp 13)), none⟩])
  .ret)
  .skip))
  (.seq (.reg [] [⟨some 14, some (.load Zb (.tmp 4)), none⟩,
 ⟨some 15, some (.load Zb (.tmp 5)), none⟩,
 ⟨some 16, some (.call ⟨(.value (.func Zct)), #[.tmp 14, .tmp 15], #[Zb, Zb]⟩), none⟩,
 ⟨some 17, some (.extract (.tmp 16) 0), none⟩,
 ⟨some 18, some (.extract (.tmp 16) 1), none⟩,
 ⟨none, some (.store Zb (.tmp 6) (.tmp 17)), none⟩,
 ⟨none, some (.store Zb (.tmp 7) (.tmp 18)), none⟩])
  .ret)))
theorem Zh9 {a0 a1 a2 : AV} {H : AHeap} : R Zcs [a0, a1, a2] H = fnK Try.prog [] H [(.cell 6 Zb), (.cell 7 Zb)] (evalL Try.prog KT R Zha (Env.args [a0, a1, a2] 0) H) :=
  runs_body (D := DT) (f := Zcs) Try.func98 (by kernel_rfl) (by kernel_rfl) (by kernel_rfl) (by kernel_rfl) (by kernel_rfl) (Nat.le_of_ble_eq_true rfl)
def Zj5 : LCode := (.seq (.reg [] [⟨some 1, some (.box Za (.tmp 0)), none⟩,
 ⟨some 2, some (.alloc Zb), none⟩])
  (.seq (.seq (.reg [] [⟨some 3, some (.load Za (.tmp 1)), none⟩,
 ⟨some 4, some (.call ⟨(.value (.func Zck)), #[.tmp 3], #[Za]⟩), none⟩])
  (.cond (.tmp 4) (.seq (.reg [3, 4] [⟨some 5, some (.fieldAddr Za (.tmp 1) 0), none⟩,
 ⟨some 6, some (.load Zd (.tmp 5)), none⟩,
 ⟨some 7, some (.load Za (.tmp 1)), none⟩,
 ⟨some 8, some (.call ⟨(.value (.func Zcp)), #[.tmp 7], #[Za]⟩), none⟩,
 ⟨some 9, some (.call ⟨(.value (.func Zbg)), #[.tmp 8], #[Zb]⟩), none⟩,
 ⟨some 10, some (.call ⟨(.value (.func Zcw)), #[.tmp 6, .tmp 9], #[Zd, Zb]⟩), none⟩,
 ⟨some 11, some (.call ⟨(.value (.func Zcp)), #[.tmp 10], #[Za]⟩), none⟩,
 ⟨none, some (.store Zb (.tmp 2) (.tmp 11)), none⟩])
  .ret)
  .skip))
  (.seq (.reg [] [⟨some 12, some (.load Za (.tmp 1)), none⟩,
 ⟨some 13, some (.call ⟨(.value (.func Zcp)), #[.tmp 12], #[Za]⟩), none⟩,
 ⟨none, some (.store Zb (.tmp 2) (.tmp 13)), none⟩])
  .ret)))
theorem Zkz {a0 : AV} {H : AHeap} : R Zdx [a0] H = fnK Try.prog [] H [(.cell 2 Zb)] (evalL Try.prog KT R Zj5 (Env.args [a0] 0) H) :=
  runs_body (D := DT) (f := Zdx) Try.func99 (by kernel_rfl) (by kernel_rfl) (by kernel_rfl) (by kernel_rfl) (by kernel_rfl) (Nat.le_of_ble_eq_true rfl)
def Zhw : LCode := (.seq (.reg [] [⟨some 3, some (.box Zb (.tmp 1)), none⟩,
 ⟨some 4, some (.alloc Zb), none⟩])
  (.seq (.seq (.reg [] [⟨some 5, some (.move (.tmp 0)), none⟩])
  (.cond (.tmp 5) (.seq (.reg [] [⟨some 6, some (.load Zb (.tmp 3)), none⟩,
 ⟨some 7, some (.call ⟨(.value (.func Zbg)), #[.tmp 6], #[Zb]⟩), none⟩,
 ⟨none, some (.store Zb (.tmp 4) (.tmp 7)), none⟩])
  .ret)
  .skip))
  (.seq (.reg [] [⟨some 8, some (.load Zb (.tmp 3)), none⟩,
 ⟨none, some (.store Zb (.tmp 4) (.tmp 8)), none⟩])
  .ret)))
theorem Zjp {a0 a1 : AV} {H : AHeap} : R Zdv [a0, a1] H = fnK Try.prog [] H [(.cell 4 Zb)] (evalL Try.prog KT R Zhw (Env.args [a0, a1] 0) H) :=
  runs_body (D := DT) (f := Zdv) Try.func100 (by kernel_rfl) (by kernel_rfl) (by kernel_rfl) (by kernel_rfl) (by kernel_rfl) (Nat.le_of_ble_eq_true rfl)
def Zi2 : LCode := (.seq (.reg [] [⟨some 2, some (.box Za (.tmp 0)), none⟩,
 ⟨some 3, some (.box Za (.tmp 1)), none⟩,
 ⟨some 4, some (.alloc Zb), none⟩])
  (.seq (.reg [3, 5, 10, 11] [⟨some 8, some (.fieldAddr Za (.tmp 2) 0), none⟩,
 ⟨some 9, some (.load Zd (.tmp 8)), none⟩,
 ⟨some 10, some (.load Za (.tmp 2)), none⟩,
 ⟨some 11, some (.call ⟨(.value (.func Zdx)), #[.tmp 10], #[Za]⟩), none⟩,
 ⟨some 12, some (.load Za (.tmp 3)), none⟩,
 ⟨some 13, some (.call ⟨(.value (.func Zdx)), #[.tmp 12], #[Za]⟩), none⟩,
 ⟨some 14, some (.call ⟨(.value (.func Zcs)), #[.tmp 9, .tmp 11, .tmp 13], #[Zd, Zb, Zb]⟩), none⟩,
 ⟨some 7, some (.move (.tmp 14)), none⟩,
 ⟨some 15, some (.extract (.tmp 7) 0), none⟩,
 ⟨some 16, some (.extract (.tmp 7) 1), none⟩,
 ⟨some 5, some (.alloc Zb), none⟩,
 ⟨some 6, some (.alloc Zb), none⟩,
 ⟨none, some (.store Zb (.tmp 5) (.tmp 15)), none⟩,
 ⟨none, some (.store Zb (.tmp 6) (.tmp 16)), none⟩])
  (.seq (.block 0 (.seq (.reg [] [⟨some 18, some (.load Zb (.tmp 6)), none⟩,
 ⟨some 19, some (.build Zb #[]), none⟩,
 ⟨some 20, some (.binOp .eql Zb (.tmp 18) (.tmp 19) Zb), none⟩,
 ⟨some 21, some (.move (.tmp 20)), none⟩,
 ⟨some 22, some (.load Za (.tmp 2)), some (some 21, false)⟩,
 ⟨some 23, some (.call ⟨(.value (.func Zck)), #[.tmp 22], #[Za]⟩), some (some 21, false)⟩,
 ⟨some 24, some (.unOp .not Z8 (.tmp 23)), some (some 21, false)⟩,
 ⟨some 25, some (.move (.tmp 24)), some (some 21, false)⟩,
 ⟨some 26, some (.load Za (.tmp 3)), some (some 25, true)⟩,
 ⟨some 27, some (.call ⟨(.value (.func Zck)), #[.tmp 26], #[Za]⟩), some (some 25, true)⟩,
 ⟨some 28, some (.unOp .not Z8 (.tmp 27)), some (some 25, true)⟩,
 ⟨some 29, some (.pick (.tmp 25) (.tmp 28) (.const (.bool false))), some (some 21, false)⟩,
 ⟨some 30, some (.pick (.tmp 21) (.const (.bool true)) (.tmp 29)), none⟩,
 ⟨some 17, some (.assign (.tmp 30)), none⟩])
  (.cond (.tmp 17) (.seq (.reg [] [⟨some 31, some (.load Zb (.tmp 6)), none⟩,
 ⟨none, some (.store Zb (.tmp 4) (.tmp 31)), none⟩])
  .ret)
  (.seq (.reg [] [⟨some 33, some (.load Za (.tmp 3)), none⟩,
 ⟨some 34, some (.call ⟨(.value (.func Zck)), #[.tmp 33], #[Za]⟩), none⟩,
 ⟨some 35, some (.unOp .not Z8 (.tmp 34)), none⟩,
 ⟨some 32, some (.assign (.tmp 35)), none⟩])
  (.cond (.tmp 32) (.seq (.reg [1] [⟨some 36, some (.load Za (.tmp 3)), none⟩,
 ⟨some 37, some (.call ⟨(.value (.func Zcp)), #[.tmp 36], #[Za]⟩), none⟩,
 ⟨some 38, some (.load Zb (.tmp 6)), none⟩,
 ⟨some 39, some (.call ⟨(.value (.func Zbl)), #[.tmp 37, .tmp 38], #[Zb, Zb]⟩), none⟩,
 ⟨none, some (.store Zb (.tmp 4) (.tmp 39)), none⟩])
  .ret)
  (.seq (.reg [] [⟨some 41, some (.load Za (.tmp 2)), none⟩,
 ⟨some 42, some (.call ⟨(.value (.func Zck)), #[.tmp 41], #[Za]⟩), none⟩,
 ⟨some 43, some (.unOp .not Z8 (.tmp 42)), none⟩,
 ⟨some 40, some (.assign (.tmp 43)), none⟩])
  (.cond (.tmp 40) (.seq (.reg [2] [⟨some 44, some (.load Zb (.tmp 6)), none⟩,
 ⟨some 45, some (.load Za (.tmp 3)), none⟩,
 ⟨some 46, some (.call ⟨(.value (.func Zcp)), #[.tmp 45], #[Za]⟩), none⟩,
 ⟨some 47, some (.call ⟨(.value (.func Zbh)), #[.tmp 44, .tmp 46], #[Zb, Zb]⟩), none⟩,
 ⟨none, some (.store Zb (.tmp 4) (.tmp 47)), none⟩])
  .ret)
  .skip)))))))
  (.seq (.reg [] [⟨some 48, some (.load Zb (.tmp 6)), none⟩,
 ⟨some 49, some (.call ⟨(.value (.func Zbg)), #[.tmp 48], #[Zb]⟩), none⟩,
 ⟨none, some (.store Zb (.tmp 4) (.tmp 49)), none⟩])
  .ret))))
theorem Zk0 {a0 a1 : AV} {H : AHeap} : R Zgi [a0, a1] H = fnK Try.prog [] H [(.cell 4 Zb)] (evalL Try.prog KT R Zi2 (Env.args [a0, a1] 0) H) :=
  runs_body (D := DT) (f := Zgi) Try.func101 (by kernel_rfl) (by kernel_rfl) (by kernel_rfl) (by kernel_rfl) (by kernel_rfl) (Nat.le_of_ble_eq_true rfl)
def Zdb : LCode := (.seq (.reg [] [⟨some 2, some (.box Zb (.tmp 0)), none⟩,
 ⟨some 3, some (.box Zb (.tmp 1)), none⟩,
 ⟨some 4, some (.assign (.const (.bool false))), none⟩])
  (.seq (.reg [] [⟨some 5, some (.fieldAddr Zb (.tmp 2) 1), none⟩,
 ⟨some 6, some (.load Zf (.tmp 5)), none⟩,
 ⟨some 7, some (.fieldAddr Zb (.tmp 3) 1), none⟩,
 ⟨some 8, some (.load Zf (.tmp 7)), none⟩,
 ⟨some 9, some (.binOp .lss Zf (.tmp 6) (.tmp 8) Zf), none⟩,
 ⟨some 10, some (.move (.tmp 9)), none⟩,
 ⟨some 11, some (.fieldAddr Zb (.tmp 2) 1), some (some 10, false)⟩,
 ⟨some 12, some (.load Zf (.tmp 11)), some (some 10, false)⟩,
 ⟨some 13, some (.fieldAddr Zb (.tmp 3) 1), some (some 10, false)⟩,
 ⟨some 14, some (.load Zf (.tmp 13)), some (some 10, false)⟩,
 ⟨some 15, some (.binOp .eql Zf (.tmp 12) (.tmp 14) Zf), some (some 10, false)⟩,
 ⟨some 16, some (.move (.tmp 15)), some (some 10, false)⟩,
 ⟨some 17, some (.fieldAddr Zb (.tmp 2) 0), some (some 16, true)⟩,
 ⟨some 18, some (.load Zf (.tmp 17)), some (some 16, true)⟩,
 ⟨some 19, some (.fieldAddr Zb (.tmp 3) 0), some (some 16, true)⟩,
 ⟨some 20, some (.load Zf (.tmp 19)), some (some 16, true)⟩,
 ⟨some 21, some (.binOp .lss Zf (.tmp 18) (.tmp 20) Zf), some (some 16, true)⟩,
 ⟨some 22, some (.pick (.tmp 16) (.tmp 21) (.const (.bool false))), some (some 10, false)⟩,
 ⟨some 23, some (.pick (.tmp 10) (.const (.bool true)) (.tmp 22)), none⟩,
 ⟨some 4, some (.assign (.tmp 23)), none⟩])
  .ret))
theorem Zgz {a0 a1 : AV} {H : AHeap} : R Zbf [a0, a1] H = fnK Try.prog [] H [(.tmp 4)] (evalL Try.prog KT R Zdb (Env.args [a0, a1] 0) H) :=
  runs_body (D := DT) (f := Zbf) Try.func102 (by kernel_rfl) (by kernel_rfl) (by kernel_rfl) (by kernel_rfl) (by kernel_rfl) (Nat.le_of_ble_eq_true rfl)
theorem Zh1 {x y c : BitVec 64} (hc : c.toNat ≤ 1) {H : AHeap} : R Zek [u x, u y, u c] H = some (.tup [.int .u64 (((x.toNat : Int) + y.toNat + c.toNat) % 18446744073709551616), .int .u64 (((x.toNat : Int) + y.toNat + c.toNat) / 18446744073709551616)], H) :=
  runs_ext Try.func103 (by kernel_rfl) (ext_add64 (by kernel_rfl) (by kernel_rfl) (by kernel_rfl) (by kernel_rfl) (by omega) (by omega) (by omega) (by omega))
def Zgn : LCode := (.seq (.reg [] [⟨some 4, some (.assign (.const (.int .u64 0))), none⟩,
 ⟨some 5, some (.assign (.const (.int .u64 0))), none⟩])
  (.seq (.reg [] [⟨some 14, some (.move (.tmp 0)), none⟩,
 ⟨some 15, some (.binOp .and Zf (.tmp 14) (.const (.int .u64 4294967295)) Zf), none⟩,
 ⟨some 6, some (.assign (.tmp 15)), none⟩])
  (.seq (.reg [] [⟨some 16, some (.move (.tmp 0)), none⟩,
 ⟨some 17, some (.binOp .shr Zf (.tmp 16) (.const (.int .u64 32)) Zem), none⟩,
 ⟨some 7, some (.assign (.tmp 17)), none⟩])
  (.seq (.reg [] [⟨some 18, some (.move (.tmp 1)), none⟩,
 ⟨some 19, some (.binOp .and Zf (.tmp 18) (.const (.int .u64 4294967295)) Zf), none⟩,
 ⟨some 8, some (.assign (.tmp 19)), none⟩])
  (.seq (.reg [] [⟨some 20, some (.move (.tmp 1)), none⟩,
 ⟨some 21, some (.binOp .shr Zf (.tmp 20) (.const (.int .u64 32)) Zem), none⟩,
 ⟨some 9, some (.assign (.tmp 21)), none⟩])
  (.seq (.reg [] [⟨some 22, some (.move (.tmp 6)), none⟩,
 ⟨some 23, some (.move (.tmp 8)), none⟩,
 ⟨some 24, some (.binOp .mul Zf (.tmp 22) (.tmp 23) Zf), none⟩,
 ⟨some 10, some (.assign (.tmp 24)), none⟩])
  (.seq (.reg [] [⟨some 25, some (.move (.tmp 7)), none⟩,
 ⟨some 26, some (.move (.tmp 8)), none⟩,
 ⟨some 27, some (.binOp .mul Zf (.tmp 25) (.tmp 26) Zf), none⟩,
 ⟨some 28, some (.move (.tmp 10)), none⟩,
 ⟨some 29, some (.binOp .shr Zf (.tmp 28) (.const (.int .u64 32)) Zem), none⟩,
 ⟨some 30, some (.binOp .add Zf (.tmp 27) (.tmp 29) Zf), none⟩,
 ⟨some 11, some (.assign (.tmp 30)), none⟩])
  (.seq (.reg [] [⟨some 31, some (.move (.tmp 11)), none⟩,
 ⟨some 32, some (.binOp .and Zf (.tmp 31) (.const (.int .u64 4294967295)) Zf), none⟩,
 ⟨some 12, some (.assign (.tmp 32)), none⟩])
  (.seq (.reg [] [⟨some 33, some (.move (.tmp 11)), none⟩,
 ⟨some 34, some (.binOp .shr Zf (.tmp 33) (.const (.int .u64 32)) Zem), none⟩,
 ⟨some 13, some (.assign (.tmp 34)), none⟩])
  (.seq (.reg [] [⟨some 35, some (.move (.tmp 12)), none⟩,
 ⟨some 36, some (.move (.tmp 6)), none⟩,
 ⟨some 37, some (.move (.tmp 9)), none⟩,
 ⟨some 38, some (.binOp .mul Zf (.tmp 36) (.tmp 37) Zf), none⟩,
 ⟨some 39, some (.binOp .add Zf (.tmp 35) (.tmp 38) Zf), none⟩,
 ⟨some 12, some (.assign (.tmp 39)), none⟩])
  (.seq (.reg [] [⟨some 40, some (.move (.tmp 7)), none⟩,
 ⟨some 41, some (.move (.tmp 9)), none⟩,
 ⟨some 42, some (.binOp .mul Zf (.tmp 40) (.tmp 41) Zf), none⟩,
 ⟨some 43, some (.move (.tmp 13)), none⟩,
 ⟨some 44, some (.binOp .add Zf (.tmp 42) (.tmp 43) Zf), none⟩,
 ⟨some 45, some (.move (.tmp 12)), none⟩,
 ⟨some 46, some (.binOp .shr Zf (.tmp 45) (.const (.int .u64 32)) Zem), none⟩,
 ⟨some 47, some (.binOp .add Zf (.tmp 44) (.tmp 46) Zf), none⟩,
 ⟨some 4, some (.assign (.tmp 47)), none⟩])
  (.seq (.reg [] [⟨some 48, some (.move (.tmp 0)), none⟩,
 ⟨some 49, some (.move (.tmp 1)), none⟩,
 ⟨some 50, some (.binOp .mul Zf (.tmp 48) (.tmp 49) Zf), none⟩,
 ⟨some 5, some (.assign (.tmp 50)), none⟩])
  .ret))))))))))))
theorem Zh2 {a0 a1 : AV} {H : AHeap} : R Zel [a0, a1] H = fnK Try.prog [] H [(.tmp 4), (.tmp 5)] (evalL Try.prog KT R Zgn (Env.args [a0, a1] 0) H) :=
  runs_body (D := DT) (f := Zel) Try.func104 (by kernel_rfl) (by kernel_rfl) (by kernel_rfl) (by kernel_rfl) (by kernel_rfl) (Nat.le_of_ble_eq_true rfl)
def Zcj : LCode := (.seq (.seq (.reg [] [⟨some 8, some (.move (.tmp 6)), none⟩,
 ⟨some 9, some (.binOp .geq Zd (.tmp 8) (.const (.int .i64 0)) Zd), none⟩])
  (.cond (.tmp 9) .skip
  (.exit 0)))
  (.seq (.block 1 (.seq (.reg [] [⟨some 12, some (.load Zb (.tmp 5)), none⟩,
 ⟨some 13, some (.call ⟨(.value (.func Zce)), #[(.tmp 12), (.const (.int .i64 127))], #[Zb, Zd]⟩), none⟩,
 ⟨some 7, some (.assign (.tmp 13)), none⟩])
  (.seq (.reg [] [⟨some 14, some (.load Zb (.tmp 5)), none⟩,
 ⟨some 15, some (.call ⟨(.value (.func Zba)), #[(.tmp 14), (.const (.int .i64 1))], #[Zb, Zd]⟩), none⟩,
 ⟨none, some (.store Zb (.tmp 5) (.tmp 15)), none⟩])
  (.seq (.seq (.reg [] [⟨some 16, some (.load Zb (.tmp 2)), none⟩,
 ⟨some 17, some (.move (.tmp 6)), none⟩,
 ⟨some 18, some (.call ⟨(.value (.func Zce)), #[.tmp 16, .tmp 17], #[Zb, Zd]⟩), none⟩])
  (.cond (.tmp 18) (.reg [] [⟨some 19, some (.fieldAddr Zb (.tmp 5) 0), none⟩,
 ⟨some 20, some (.load Zf (.tmp 19)), none⟩,
 ⟨some 21, some (.binOp .or Zf (.tmp 20) (.const (.int .u64 1)) Zf), none⟩,
 ⟨some 22, some (.fieldAddr Zb (.tmp 5) 0), none⟩,
 ⟨none, some (.store Zf (.tmp 22) (.tmp 21)), none⟩])
  .skip))
  (.seq (.reg [] [⟨some 23, some (.move (.tmp 7)), none⟩,
 ⟨some 24, some (.move (.tmp 23)), none⟩,
 ⟨some 25, some (.load Zb (.tmp 5)), some (some 24, false)⟩,
 ⟨some 26, some (.load Zb (.tmp 3)), some (some 24, false)⟩,
 ⟨some 27, some (.call ⟨(.value (.func Zbf)), #[.tmp 25, .tmp 26], #[Zb, Zb]⟩), some (some 24, false)⟩,
 ⟨some 28, some (.unOp .not Z8 (.tmp 27)), some (some 24, false)⟩,
 ⟨some 29, some (.pick (.tmp 24) (.const (.bool true)) (.tmp 28)), none⟩])
  (.cond (.tmp 29) (.seq (.reg [] [⟨some 30, some (.load Zb (.tmp 5)), none⟩,
 ⟨some 31, some (.load Zb (.tmp 3)), none⟩,
 ⟨some 32, some (.call ⟨(.value (.func Zbl)), #[.tmp 30, .tmp 31], #[Zb, Zb]⟩), none⟩,
 ⟨none, some (.store Zb (.tmp 5) (.tmp 32)), none⟩])
  (.reg [3] [⟨some 33, some (.load Zb (.tmp 4)), none⟩,
 ⟨some 34, some (.build Zb #[(0, (.const (.int .u64 1)))]), none⟩,
 ⟨some 35, some (.move (.tmp 6)), none⟩,
 ⟨some 36, some (.call ⟨(.value (.func Zba)), #[.tmp 34, .tmp 35], #[Zb, Zd]⟩), none⟩,
 ⟨some 37, some (.call ⟨(.value (.func Zbh)), #[.tmp 33, .tmp 36], #[Zb, Zb]⟩), none⟩,
 ⟨none, some (.store Zb (.tmp 4) (.tmp 37)), none⟩]))
  .skip))))))
  (.reg [] [⟨some 10, some (.move (.tmp 6)), none⟩,
 ⟨some 11, some (.binOp .sub Zd (.tmp 10) (.const (.int .i64 1)) Zd), none⟩,
 ⟨some 6, some (.assign (.tmp 11)), none⟩])))
@[simp] theorem Zje : defs Zcj = [8, 9, 12, 13, 7, 14, 15, 16, 17, 18, 19, 20, 21, 22, 23, 24, 25, 26, 27, 28, 29, 30, 31, 32, 33, 34, 35, 36, 37, 10, 11, 6] := by rfl
def Zft : LCode := (.seq (.reg [] [⟨some 2, some (.box Zb (.tmp 0)), none⟩,
 ⟨some 3, some (.box Zb (.tmp 1)), none⟩,
 ⟨some 4, some (.alloc Zb), none⟩,
 ⟨some 5, some (.alloc Zb), none⟩])
  (.seq (.seq (.reg [] [⟨some 6, some (.assign (.const (.int .i64 127))), none⟩])
  (.block 0 (.loop Zcj)))
  (.seq (.reg [1, 2, 999, 1005] [⟨some 38, some (.load Zb (.tmp 4)), none⟩,
 ⟨some 39, some (.load Zb (.tmp 5)), none⟩,
 ⟨none, some (.store Zb (.tmp 4) (.tmp 38)), none⟩,
 ⟨none, some (.store Zb (.tmp 5) (.tmp 39)), none⟩])
  .ret)))
theorem Zhb {a0 a1 : AV} {H : AHeap} : R Zct [a0, a1] H = fnK Try.prog [] H [(.cell 4 Zb), (.cell 5 Zb)] (evalL Try.prog KT R Zft (Env.args [a0, a1] 0) H) :=
  runs_body (D := DT) (f := Zct) Try.func105 (by kernel_rfl) (by kernel_rfl) (by kernel_rfl) (by kernel_rfl) (by kernel_rfl) (Nat.le_of_ble_eq_true rfl)
end Go.Proofs.Ytiobohfiaapgeaa
end
section
namespace Go.Proofs.Ytiobohfiaapgeaa
set_option maxRecDepth 100000
def RI (H : AHeap) (v : AV) (l : List Int) : Prop := Reads H v 1 l.length (l.map (.int .i64))
theorem RI.len {H : AHeap} {v : AV} {l : List Int} (h : RI H v l) : sliceLen v = some l.length := Reads.len h
theorem RI.keep {H H' : AHeap} {v : AV} {l : List Int} (h : RI H v l) (k : Keeps H H') : RI H' v l := Reads.keep h k
def IL (l : List Int) : AV := .lst 1 l.length (l.map (.int .i64))
theorem RI.lst {H : AHeap} {l : List Int} : RI H (IL l) l := Reads.lst (by simp)
theorem RI.nils {H : AHeap} : RI H .nils [] := Reads.nils
theorem RI.row {H : AHeap} {o n : Nat} {full : Bool} {l : List Int} (ho : o < H.size) (h : H.obj o = .cells (l.map (.int .i64))) (hl : n = l.length) : RI H (.row o 0 1 n full) l := by
  subst hl; exact Reads.row' ho h (by simp)
theorem RI.ix {P : Program} {H : AHeap} {v : AV} {l : List Int} (h : RI H v l) {t : TypeId} (ht : eszS P t = some 1) {i : Nat} (hi : i < l.length) : aindexAddr P t v (i : Int) = some (ixp v 1 i) := Reads.addr h ht hi
theorem RI.at {P : Program} {H : AHeap} {v : AV} {l : List Int} (h : RI H v l) {t : TypeId} (hl : ldS P t = some none) {i : Nat} {x : Int} (hi : l[i]? = some x) : aload P H t (ixp v 1 i) = some (.int .i64 x) := by
  have hlt := (List.getElem?_eq_some_iff.1 hi).1
  rw [Reads.at h hl rfl hlt]; simp [hi]
theorem RI.at0 {P : Program} {H : AHeap} {v : AV} {l : List Int} (h : RI H v l) {t s : TypeId} (ht : eszS P t = some 1) (hl : ldS P s = some none) {i : Nat} {x : Int} (hi : l[i]? = some x) : aindexAddr P t v (i : Int) = some (ixp v 1 i) ∧ aload P H s (ixp v 1 i) = some (.int .i64 x) :=
  ⟨h.ix ht (List.getElem?_eq_some_iff.1 hi).1, h.at hl hi⟩
def arity (op : Int) : Int := if op < 1 ∨ 44 < op then -1 else if op ≤ 2 then 0 else if op = 3 ∨ op = 10 ∨ op = 11 ∨ 39 ≤ op then 1 else if op = 9 then 3 else 2
theorem arity_run {op : Int} {H : AHeap} : R Zdr [.int .i64 op] H = some (.int .i64 (arity op), H) := by
  rw [Zju]
  unfold arity
  by_cases a1 : op < 1
  · simp [Zc3, a1]
  by_cases a2 : 44 < op
  · simp [Zc3, a1, a2]
  by_cases a3 : op ≤ 2
  · simp [Zc3, a1, a2, a3]
  by_cases a4 : op = 3
  · simp [Zc3, a4]
  by_cases a5 : op = 10
  · simp [Zc3, a5]
  by_cases a6 : op = 11
  · simp [Zc3, a6]
  by_cases a7 : 39 ≤ op
  · simp [Zc3, a1, a2, a3, a4, a5, a6, a7]
  by_cases a8 : op = 9
  · simp [Zc3, a8]
  · simp [Zc3, a1, a2, a3, a4, a5, a6, a7, a8]
def isSort (n : Int) : Bool := decide (0 ≤ n ∧ n ≤ 128)
theorem sort_run {n : Int} {H : AHeap} : R Zf5 [.int .i64 n] H = some (.bool (isSort n), H) := by
  rw [Zkd]
  unfold isSort
  by_cases a : 0 ≤ n <;> simp [Ziv, a]
theorem notsort_run {n : Int} {H : AHeap} : R Zdt [.int .i64 n] H = some (.bool (!isSort n), H) := by
  rw [Zjl]
  simp [Zhu, sort_run]
def numV (op p q w : Int) : Int := if op = 39 then p - q + 1 else if op = 42 ∨ op = 43 then w else if op = 44 then w * min p 129 else w + min (max p 0) 128
def numB (op p q w : Int) : Bool := if op = 39 then decide (0 ≤ q ∧ q ≤ p ∧ p < w) else if op = 44 then decide (1 ≤ p ∧ q = 0) else decide (0 ≤ p ∧ q = 0)
theorem num_run {op p q w : Int} {H : AHeap} : ∃ n, (numB op p q w = true → 0 ≤ w → w ≤ 128 → n = numV op p q w) ∧ R Ze7 [.int .i64 op, .int .i64 p, .int .i64 q, .int .i64 w] H = some (.tup [.int .i64 n, .bool (numB op p q w)], H) := by
  unfold numB numV
  rw [Zix]
  by_cases a1 : op = 39
  · subst a1
    by_cases b1 : 0 ≤ q
    · by_cases b2 : q ≤ p
      · by_cases b3 : p < w
        · simp [Zb1, b1, b2, b3]
          intro h0 h1
          rw [i64w (n := p - q) (by omega) (by omega), i64w (by omega) (by omega)]
        · simp [Zb1, b1, b2, b3]
      · simp [Zb1, b1, b2]
    · simp [Zb1, b1]
  by_cases a2 : op = 42
  · subst a2
    by_cases b1 : 0 ≤ p <;> simp [Zb1, b1]
  by_cases a3 : op = 43
  · subst a3
    by_cases b1 : 0 ≤ p <;> simp [Zb1, b1]
  by_cases a4 : op = 44
  · subst a4
    by_cases b1 : 1 ≤ p
    · simp [Zb1, b1]
      intro _ h0 h1
      have h2 : 0 ≤ w * min p 129 := Int.mul_nonneg h0 (by omega)
      have h3 : w * min p 129 ≤ 128 * 129 := Int.mul_le_mul h1 (by omega) (by omega) (by omega)
      exact i64w (by omega) (by omega)
    · simp [Zb1, b1]
  · by_cases b1 : 0 ≤ p
    · simp [Zb1, a1, a2, a3, a4, b1]
      intro _ h0 h1
      exact i64w (by omega) (by omega)
    · simp [Zb1, a1, a2, a3, a4, b1]
end Go.Proofs.Ytiobohfiaapgeaa
end
section
namespace Go.Proofs.Ytiobohfiaapgeaa
set_option maxRecDepth 100000
theorem index_loop {H : AHeap} {v : AV} {l : List Int} (hv : RI H v l) (hm : l.length ≤ 9223372036854775807) {e : Env} {r : Rn} (hL : loopL Try.prog KT R Zbu e H = r)
    (e0 : e 0 = some v) (e1 : e 1 = some (.fn (.func Zdt) [] [])) (e7 : e 7 = some (.int .i64 l.length)) (e8 : e 8 = some (.int .i64 0)) :
    ∃ y e' H', r = some (y, e', H') ∧ (H' = H ∧ ((y = .exit 0 ∧ l.all isSort = true) ∨ (y = .ret ∧ l.all isSort = false ∧ ∃ n, 0 ≤ n ∧ e' 4 = some (.int .i64 n)))) ∧ ∀ t, t ∉ defs Zbu → e' t = e t := by
  refine loop_count Zbu.eq_1 hL l.length (fun i e1 H1 => e1 8 = some (.int .i64 i) ∧ H1 = H ∧ (l.take i).all isSort = true) _ 0 (by omega) ⟨e8, rfl, by simp⟩ ?_ ?_
  · rintro i f H1 hf - hi ⟨f8, rfl, hall⟩
    have hw1 := i64w (n := (i : Int) + 1) (by omega) (by omega)
    obtain ⟨x, hx⟩ : ∃ x, l[i]? = some x := ⟨l[i], by simp [hi]⟩
    obtain ⟨a1, a2⟩ := hv.at0 (P := Try.prog) (t := Z0) (s := Zd) (by simp) (by simp) hx
    have hc : (i : Int) < l.length := by omega
    have ht : l.take (i + 1) = l.take i ++ [x] := by rw [List.take_add_one, hx]; rfl
    cases hs : isSort x with
    | true =>
      have hall' : (l.take (i + 1)).all isSort = true := by rw [ht, List.all_append, hall]; simp [hs]
      simp [hf, e0, e1, e7, f8, a1, a2, hc, notsort_run, hs, hw1, hall']
    | false =>
      have hall' : l.all isSort = false := by
        rw [Bool.eq_false_iff]
        intro h
        rw [List.all_eq_true] at h
        have := h x (List.mem_of_getElem? hx)
        rw [hs] at this; cases this
      simp [hf, e0, e1, e7, f8, a1, a2, hc, notsort_run, hs, hall']
  · rintro f H1 hf ⟨f8, rfl, hall⟩
    simp [hf, e7, f8]
    simpa using hall
theorem contains_run {H : AHeap} {v : AV} {l : List Int} (hv : RI H v l) (hm : l.length ≤ 9223372036854775807) : R Zcb [v, .fn (.func Zdt) [] []] H = some (.bool (!l.all isSort), H) := by
  have h : ∃ n, R Zcn [v, .fn (.func Zdt) [] []] H = some (.int .i64 n, H) ∧ (decide (0 ≤ n) = !l.all isSort) := by
    rw [Zgb]
    simp [Zep, hv.len]
    generalize hL : loopL _ _ _ _ _ _ = q
    obtain ⟨y, e1, H1, rfl, ⟨rfl, h⟩, fr⟩ := index_loop hv hm hL (by simp) (by simp) (by simp) (by simp)
    rcases h with ⟨rfl, h⟩ | ⟨rfl, h, n, h1, h2⟩
    · simp [h]
    · simp [h, h1, h2]
  obtain ⟨n, h1, h2⟩ := h
  rw [Zfx]
  simp [Zd0, h1, h2]
def toldB (op p q a z m : Int) : Bool :=
  if op ≤ 7 then decide (p = 0 ∧ q = 0 ∧ a = 0 ∧ z = 0) else if op = 8 then decide (p = 0 ∧ q = 0 ∧ a = z) else if op = 9 then decide (p = 0 ∧ q = 0 ∧ a = 0 ∧ m = z) else if op = 38 then decide (p = 0 ∧ q = 0 ∧ 0 < a ∧ 0 < z)
  else if 39 ≤ op then numB op p q a && decide (0 < a) else decide (p = 0 ∧ q = 0 ∧ a = z ∧ 0 < a)
def toldV (op p q a z : Int) : Int :=
  if op ≤ 7 then 0 else if op = 8 then 0 else if op = 9 then z else if op = 38 then a + z else if 39 ≤ op then numV op p q a else if op = 37 then 1 else if 29 ≤ op then 0 else a
set_option maxHeartbeats 8000000 in
theorem told_run {H : AHeap} {v : AV} {l : List Int} (hv : RI H v l) {a z m : Int} (h0 : l[0]? = some a) (hz : l[l.length - 1]? = some z) {op p q : Int} (h1 : op = 9 → l[1]? = some m) (ha : 0 ≤ a ∧ a ≤ 128) (hzz : 0 ≤ z ∧ z ≤ 128) (hl : l.length ≤ 9223372036854775807) :
    ∃ n, (toldB op p q a z m = true → n = toldV op p q a z) ∧ R Zgo [.int .i64 op, .int .i64 p, .int .i64 q, v] H = some (.tup [.int .i64 n, .bool (toldB op p q a z m)], H) := by
  have hpos : 0 < l.length := (List.getElem?_eq_some_iff.1 h0).1
  obtain ⟨x0, y0⟩ := hv.at0 (P := Try.prog) (t := Z0) (s := Zd) (by simp) (by simp) h0
  obtain ⟨xz, yz⟩ := hv.at0 (P := Try.prog) (t := Z0) (s := Zd) (by simp) (by simp) hz
  have x0' : aindexAddr Try.prog Z0 v 0 = some (ixp v 1 0) := x0
  have w1 : IntKind.i64.wrap ((l.length : Int) - 1) = ((l.length - 1 : Nat) : Int) := by rw [i64w (by omega) (by omega)]; omega
  have hlen := hv.len
  have w2 : IntKind.i64.wrap (a + z) = a + z := i64w (by omega) (by omega)
  unfold toldB toldV
  rw [Zkf]
  by_cases c1 : op ≤ 7
  · skip
    by_cases d0 : p = 0
    rotate_left
    · simp [Zw, hlen, x0', y0, xz, yz, w1, c1, d0]
    by_cases d1 : q = 0
    rotate_left
    · simp [Zw, hlen, x0', y0, xz, yz, w1, c1, d0, d1]
    by_cases d2 : a = 0
    rotate_left
    · simp [Zw, hlen, x0', y0, xz, yz, w1, c1, d0, d1, d2]
    by_cases d3 : z = 0
    rotate_left
    · simp [Zw, hlen, x0', y0, xz, yz, w1, c1, d0, d1, d2, d3]
    simp [Zw, hlen, x0', y0, xz, yz, w1, c1, d0, d1, d2, d3]
  by_cases c2 : op = 8
  · skip
    by_cases d0 : p = 0
    rotate_left
    · simp [Zw, hlen, x0', y0, xz, yz, w1, c2, d0]
    by_cases d1 : q = 0
    rotate_left
    · simp [Zw, hlen, x0', y0, xz, yz, w1, c2, d0, d1]
    by_cases d2 : a = z
    rotate_left
    · simp [Zw, hlen, x0', y0, xz, yz, w1, c2, d0, d1, d2]
    simp [Zw, hlen, x0', y0, xz, yz, w1, c2, d0, d1, d2]
  by_cases c3 : op = 9
  · obtain ⟨x1, y1⟩ := hv.at0 (P := Try.prog) (t := Z0) (s := Zd) (by simp) (by simp) (h1 c3)
    have x1' : aindexAddr Try.prog Z0 v 1 = some (ixp v 1 1) := x1
    by_cases d0 : p = 0
    rotate_left
    · simp [Zw, hlen, x0', y0, xz, yz, w1, c3, d0]
    by_cases d1 : q = 0
    rotate_left
    · simp [Zw, hlen, x0', y0, xz, yz, w1, c3, d0, d1]
    by_cases d2 : a = 0
    rotate_left
    · simp [Zw, hlen, x0', y0, xz, yz, w1, c3, d0, d1, d2]
    by_cases d3 : m = z
    rotate_left
    · simp [Zw, hlen, x0', y0, xz, yz, w1, c3, x1', y1, d0, d1, d2, d3]
    simp [Zw, hlen, x0', y0, xz, yz, w1, c3, x1', y1, d0, d1, d2, d3]
  by_cases c4 : op = 38
  · skip
    by_cases d0 : p = 0
    rotate_left
    · simp [Zw, hlen, x0', y0, xz, yz, w1, w2, c4, d0]
    by_cases d1 : q = 0
    rotate_left
    · simp [Zw, hlen, x0', y0, xz, yz, w1, w2, c4, d0, d1]
    by_cases d2 : 0 < a
    rotate_left
    · simp [Zw, hlen, x0', y0, xz, yz, w1, w2, c4, d0, d1, d2]
    by_cases d3 : 0 < z
    rotate_left
    · simp [Zw, hlen, x0', y0, xz, yz, w1, w2, c4, d0, d1, d2, d3]
    simp [Zw, hlen, x0', y0, xz, yz, w1, w2, c4, d0, d1, d2, d3]
  by_cases c5 : 39 ≤ op
  · obtain ⟨n, hn1, hn2⟩ := num_run (op := op) (p := p) (q := q) (w := a) (H := H)
    have d4 : ¬ op = 38 := c4
    cases hb : numB op p q a with
    | false =>
      rw [hb] at hn2
      by_cases dp : p = 0
      · by_cases dq : q = 0
        · simp [Zw, hlen, x0', y0, xz, yz, w1, c1, c2, c3, c4, c5, hn2, eq_true dp, eq_true dq]
        · simp [Zw, hlen, x0', y0, xz, yz, w1, c1, c2, c3, c4, c5, hn2, eq_true dp, dq]
      · simp [Zw, hlen, x0', y0, xz, yz, w1, c1, c2, c3, c4, c5, hn2, dp]
    | true =>
      have hn := hn1 hb ha.1 ha.2
      rw [hb, hn] at hn2
      by_cases dp : p = 0
      · by_cases dq : q = 0
        · by_cases da : 0 < a <;> simp [Zw, hlen, x0', y0, xz, yz, w1, c1, c2, c3, c4, c5, hn2, eq_true dp, eq_true dq, da]
        · by_cases da : 0 < a <;> simp [Zw, hlen, x0', y0, xz, yz, w1, c1, c2, c3, c4, c5, hn2, eq_true dp, dq, da]
      · by_cases da : 0 < a <;> simp [Zw, hlen, x0', y0, xz, yz, w1, c1, c2, c3, c4, c5, hn2, dp, da]
  by_cases c6 : op = 37
  · skip
    by_cases d0 : p = 0
    rotate_left
    · simp [Zw, hlen, x0', y0, xz, yz, w1, c6, d0]
    by_cases d1 : q = 0
    rotate_left
    · simp [Zw, hlen, x0', y0, xz, yz, w1, c6, d0, d1]
    by_cases d2 : a = z
    rotate_left
    · simp [Zw, hlen, x0', y0, xz, yz, w1, c6, d0, d1, d2]
    by_cases d3 : 0 < a
    rotate_left
    · simp [Zw, hlen, x0', y0, xz, yz, w1, c6, d0, d1, d2]
    simp [Zw, hlen, x0', y0, xz, yz, w1, c6, d0, d1, d2]
  by_cases c7 : 29 ≤ op
  · skip
    by_cases d0 : p = 0
    rotate_left
    · simp [Zw, hlen, x0', y0, xz, yz, w1, c1, c2, c3, c4, c5, c6, c7, d0]
    by_cases d1 : q = 0
    rotate_left
    · simp [Zw, hlen, x0', y0, xz, yz, w1, c1, c2, c3, c4, c5, c6, c7, d0, d1]
    by_cases d2 : a = z
    rotate_left
    · simp [Zw, hlen, x0', y0, xz, yz, w1, c1, c2, c3, c4, c5, c6, c7, d0, d1, d2]
    by_cases d3 : 0 < a
    rotate_left
    · simp [Zw, hlen, x0', y0, xz, yz, w1, c1, c2, c3, c4, c5, c6, c7, d0, d1, d2]
    simp [Zw, hlen, x0', y0, xz, yz, w1, c1, c2, c3, c4, c5, c6, c7, d0, d1, d2]
  · skip
    by_cases d0 : p = 0
    rotate_left
    · simp [Zw, hlen, x0', y0, xz, yz, w1, c1, c2, c3, c4, c5, c6, c7, d0]
    by_cases d1 : q = 0
    rotate_left
    · simp [Zw, hlen, x0', y0, xz, yz, w1, c1, c2, c3, c4, c5, c6, c7, d0, d1]
    by_cases d2 : a = z
    rotate_left
    · simp [Zw, hlen, x0', y0, xz, yz, w1, c1, c2, c3, c4, c5, c6, c7, d0, d1, d2]
    by_cases d3 : 0 < a
    rotate_left
    · simp [Zw, hlen, x0', y0, xz, yz, w1, c1, c2, c3, c4, c5, c6, c7, d0, d1, d2]
    simp [Zw, hlen, x0', y0, xz, yz, w1, c1, c2, c3, c4, c5, c6, c7, d0, d1, d2]
end Go.Proofs.Ytiobohfiaapgeaa
end
section
namespace Go.Proofs.Ytiobohfiaapgeaa
set_option maxRecDepth 100000
def sortS (op p q : Int) (l : List Int) : Int × Int :=
  if arity op < 1 then (0, 32) else if ¬ (l.length : Int) = arity op then (0, 30) else if l.all isSort = false then (0, 30) else
    if toldB op p q (l.getD 0 0) (l.getD (l.length - 1) 0) (l.getD 1 0) = false then (0, 30) else if 128 < toldV op p q (l.getD 0 0) (l.getD (l.length - 1) 0) then (0, 31) else (toldV op p q (l.getD 0 0) (l.getD (l.length - 1) 0), 0)
theorem arity_le (op : Int) : arity op ≤ 3 := by unfold arity; repeat' split <;> omega
theorem arity9 : arity 9 = 3 := by decide
theorem all_at {l : List Int} (h : l.all isSort = true) {i : Nat} (hi : i < l.length) : 0 ≤ l.getD i 0 ∧ l.getD i 0 ≤ 128 := by
  rw [List.all_eq_true] at h
  have := h (l.getD i 0) (by simp [hi])
  simpa [isSort] using this
theorem getD_some {l : List Int} {i : Nat} (h : i < l.length) : l[i]? = some (l.getD i 0) := by simp [h]
theorem termSort_run {H : AHeap} {v : AV} {l : List Int} (hv : RI H v l) (hl : l.length ≤ 9223372036854775807) {op p q : Int} : R Zfe [.int .i64 op, .int .i64 p, .int .i64 q, v] H = some (.tup [.int .i64 (sortS op p q l).1, .int .i64 (sortS op p q l).2], H) := by
  unfold sortS
  rw [Zke]
  by_cases a1 : arity op < 1
  · simp [Zfg, arity_run, a1]
  by_cases a2 : (l.length : Int) = arity op
  · cases a3 : l.all isSort with
    | false => simp [Zfg, arity_run, a1, a2, hv.len, contains_run hv hl, a3]
    | true =>
      have hp : 0 < l.length := by omega
      have h3 := arity_le op
      obtain ⟨n, h4, h5⟩ := told_run hv (a := l.getD 0 0) (z := l.getD (l.length - 1) 0) (m := l.getD 1 0) (op := op) (p := p) (q := q) (getD_some hp) (getD_some (by omega)) (fun h => by
        subst h; rw [arity9] at a2
        exact getD_some (by omega)) (all_at a3 hp) (all_at a3 (by omega)) hl
      generalize l.getD 0 0 = a at *
      generalize l.getD (l.length - 1) 0 = z at *
      generalize l.getD 1 0 = m at *
      cases b1 : toldB op p q a z m with
      | false =>
        rw [b1] at h5
        simp [Zfg, arity_run, a1, a2, hv.len, contains_run hv hl, a3, h5]
      | true =>
        rw [b1, h4 b1] at h5
        by_cases b2 : 128 < toldV op p q a z <;> simp [Zfg, arity_run, a1, a2, hv.len, contains_run hv hl, a3, h5, b2]
  · simp [Zfg, arity_run, a1, a2, hv.len]
def pair (x : Int × Int) : AV := .tup [.int .i64 x.1, .int .i64 x.2]
theorem termSort_pair {H : AHeap} {v : AV} {l : List Int} (hv : RI H v l) (hl : l.length ≤ 9223372036854775807) {op p q : Int} : R Zfe [.int .i64 op, .int .i64 p, .int .i64 q, v] H = some (pair (sortS op p q l), H) := termSort_run hv hl
end Go.Proofs.Ytiobohfiaapgeaa
end
section
namespace Go.Proofs.Ytiobohfiaapgeaa
abbrev W128 := BitVec 128
def lo (x : W128) : BitVec 64 := x.setWidth 64
def hi (x : W128) : BitVec 64 := (x >>> 64).setWidth 64
def N (x : W128) : AV := .agg [u (lo x), u (hi x)]
@[simp] theorem lo_zero : lo (0#128) = 0#64 := by decide
@[simp] theorem hi_zero : hi (0#128) = 0#64 := by decide
@[simp] theorem lo_one : lo (1#128) = 1#64 := by decide
@[simp] theorem hi_one : hi (1#128) = 0#64 := by decide
theorem lo_nat (x : W128) : (lo x).toNat = x.toNat % 18446744073709551616 := by simp [lo]
theorem hi_nat (x : W128) : (hi x).toNat = x.toNat / 18446744073709551616 := by
  have := x.isLt
  simp [hi, BitVec.toNat_ushiftRight, Nat.shiftRight_eq_div_pow]
  omega
theorem lo_bit (x : W128) (i : Nat) : (lo x).getLsbD i = (decide (i < 64) && x.getLsbD i) := by simp [lo]
theorem hi_bit (x : W128) (i : Nat) : (hi x).getLsbD i = (decide (i < 64) && x.getLsbD (64 + i)) := by simp [hi]
theorem pair_ext {x y : W128} (h1 : lo x = lo y) (h2 : hi x = hi y) : x = y := by
  apply BitVec.eq_of_toNat_eq
  have a := congrArg BitVec.toNat h1
  have b := congrArg BitVec.toNat h2
  rw [lo_nat, lo_nat] at a
  rw [hi_nat, hi_nat] at b
  omega
def mkN (l h : BitVec 64) : W128 := h ++ l
theorem lo_mk (l h : BitVec 64) : lo (mkN l h) = l := by
  apply BitVec.eq_of_getLsbD_eq
  intro i hi
  rw [lo_bit, mkN, BitVec.getLsbD_append]
  simp [hi]
theorem hi_mk (l h : BitVec 64) : hi (mkN l h) = h := by
  apply BitVec.eq_of_getLsbD_eq
  intro i hi
  rw [hi_bit, mkN, BitVec.getLsbD_append]
  simp [hi]
theorem lo_not (x : W128) : lo (~~~x) = ~~~lo x := by
  apply BitVec.eq_of_getLsbD_eq
  intro i hi
  rw [lo_bit, BitVec.getLsbD_not, BitVec.getLsbD_not, lo_bit]
  have : i < 128 := by omega
  simp [hi, this]
theorem hi_not (x : W128) : hi (~~~x) = ~~~hi x := by
  apply BitVec.eq_of_getLsbD_eq
  intro i hi
  rw [hi_bit, BitVec.getLsbD_not, BitVec.getLsbD_not, hi_bit]
  have : 64 + i < 128 := by omega
  simp [hi, this]
theorem lo_or (x y : W128) : lo (x ||| y) = lo x ||| lo y := by
  apply BitVec.eq_of_getLsbD_eq; intro i h; rw [lo_bit, BitVec.getLsbD_or, BitVec.getLsbD_or, lo_bit, lo_bit]; simp [h]
theorem hi_or (x y : W128) : hi (x ||| y) = hi x ||| hi y := by
  apply BitVec.eq_of_getLsbD_eq; intro i h; rw [hi_bit, BitVec.getLsbD_or, BitVec.getLsbD_or, hi_bit, hi_bit]; simp [h]
theorem lo_and (x y : W128) : lo (x &&& y) = lo x &&& lo y := by
  apply BitVec.eq_of_getLsbD_eq; intro i h; rw [lo_bit, BitVec.getLsbD_and, BitVec.getLsbD_and, lo_bit, lo_bit]; simp [h]
theorem hi_and (x y : W128) : hi (x &&& y) = hi x &&& hi y := by
  apply BitVec.eq_of_getLsbD_eq; intro i h; rw [hi_bit, BitVec.getLsbD_and, BitVec.getLsbD_and, hi_bit, hi_bit]; simp [h]
theorem lo_xor (x y : W128) : lo (x ^^^ y) = lo x ^^^ lo y := by
  apply BitVec.eq_of_getLsbD_eq; intro i h; rw [lo_bit, BitVec.getLsbD_xor, BitVec.getLsbD_xor, lo_bit, lo_bit]; simp [h]
theorem hi_xor (x y : W128) : hi (x ^^^ y) = hi x ^^^ hi y := by
  apply BitVec.eq_of_getLsbD_eq; intro i h; rw [hi_bit, BitVec.getLsbD_xor, BitVec.getLsbD_xor, hi_bit, hi_bit]; simp [h]
theorem lo_add (x y : W128) : lo (x + y) = lo x + lo y := by
  apply BitVec.eq_of_toNat_eq
  rw [lo_nat, BitVec.toNat_add, BitVec.toNat_add, lo_nat, lo_nat]
  omega
theorem hi_add (x y : W128) : (hi (x + y)).toNat = ((hi x).toNat + (hi y).toNat + ((lo x).toNat + (lo y).toNat) / 18446744073709551616) % 18446744073709551616 := by
  rw [hi_nat, BitVec.toNat_add, hi_nat, hi_nat, lo_nat, lo_nat]
  have := x.isLt
  have := y.isLt
  omega
theorem less_hl (x y : W128) : (x < y) ↔ (hi x < hi y ∨ hi x = hi y ∧ lo x < lo y) := by
  rw [BitVec.lt_def, BitVec.lt_def, BitVec.lt_def, hi_nat, hi_nat, lo_nat, lo_nat]
  have e : hi x = hi y ↔ x.toNat / 18446744073709551616 = y.toNat / 18446744073709551616 := by
    rw [← hi_nat, ← hi_nat]
    exact ⟨congrArg _, BitVec.eq_of_toNat_eq⟩
  rw [e]
  omega
theorem shl_hi {x : W128} {n : Nat} (h : 64 ≤ n) : lo (x <<< n) = 0#64 ∧ hi (x <<< n) = lo x <<< (n - 64) := by
  constructor
  · apply BitVec.eq_of_getLsbD_eq
    intro i hi
    rw [lo_bit, BitVec.getLsbD_shiftLeft]
    have : i < n := by omega
    simp [this]
  · apply BitVec.eq_of_getLsbD_eq
    intro i hi
    rw [hi_bit, BitVec.getLsbD_shiftLeft, BitVec.getLsbD_shiftLeft, lo_bit]
    by_cases h1 : i < n - 64
    · have : 64 + i < n := by omega
      simp [h1, this]
    · have h2 : ¬ 64 + i < n := by omega
      have h3 : 64 + i - n = i - (n - 64) := by omega
      have h4 : i - (n - 64) < 64 := by omega
      have h5 : 64 + i < 128 := by omega
      simp [h1, h2, h3, h4, h5, hi]
theorem shl_lo {x : W128} {n : Nat} (h : n < 64) : lo (x <<< n) = lo x <<< n ∧ hi (x <<< n) = hi x <<< n ||| lo x >>> (64 - n) := by
  constructor
  · apply BitVec.eq_of_getLsbD_eq
    intro i hi
    rw [lo_bit, BitVec.getLsbD_shiftLeft, BitVec.getLsbD_shiftLeft, lo_bit]
    have h1 : i < 128 := by omega
    have h2 : i - n < 64 := by omega
    simp [hi, h1, h2]
  · apply BitVec.eq_of_getLsbD_eq
    intro i hi
    rw [hi_bit, BitVec.getLsbD_shiftLeft, BitVec.getLsbD_or, BitVec.getLsbD_shiftLeft, BitVec.getLsbD_ushiftRight, hi_bit, lo_bit]
    have h5 : 64 + i < 128 := by omega
    have h6 : ¬ 64 + i < n := by omega
    by_cases h1 : i < n
    · have h2 : 64 - n + i < 64 := by omega
      have h3 : 64 + i - n = 64 - n + i := by omega
      simp [h1, h2, h3, h5, h6, hi]
    · have h2 : ¬ 64 - n + i < 64 := by omega
      have h3 : 64 + i - n = 64 + (i - n) := by omega
      have h4 : i - n < 64 := by omega
      simp [h1, h2, h3, h4, h5, h6, hi]
theorem shr_hi {x : W128} {n : Nat} (h : 64 ≤ n) : lo (x >>> n) = hi x >>> (n - 64) ∧ hi (x >>> n) = 0#64 := by
  constructor
  · apply BitVec.eq_of_getLsbD_eq
    intro i hi
    rw [lo_bit, BitVec.getLsbD_ushiftRight, BitVec.getLsbD_ushiftRight, hi_bit]
    have h1 : 64 + (n - 64 + i) = n + i := by omega
    rw [h1]
    by_cases h2 : n - 64 + i < 64
    · simp [hi, h2]
    · have : 128 ≤ n + i := by omega
      simp [hi, h2, BitVec.getLsbD_of_ge x _ this]
  · apply BitVec.eq_of_getLsbD_eq
    intro i hi
    rw [hi_bit, BitVec.getLsbD_ushiftRight]
    have : 128 ≤ n + (64 + i) := by omega
    simp [BitVec.getLsbD_of_ge x _ this]
theorem shr_lo {x : W128} {n : Nat} (h : n < 64) : lo (x >>> n) = lo x >>> n ||| hi x <<< (64 - n) ∧ hi (x >>> n) = hi x >>> n := by
  constructor
  · apply BitVec.eq_of_getLsbD_eq
    intro i hi
    rw [lo_bit, BitVec.getLsbD_ushiftRight, BitVec.getLsbD_or, BitVec.getLsbD_ushiftRight, BitVec.getLsbD_shiftLeft, lo_bit, hi_bit]
    by_cases h1 : n + i < 64
    · have h2 : i < 64 - n := by omega
      simp [hi, h1, h2]
    · have h2 : ¬ i < 64 - n := by omega
      have h3 : i - (64 - n) < 64 := by omega
      have h4 : 64 + (i - (64 - n)) = n + i := by omega
      simp [hi, h1, h2, h3, h4]
  · apply BitVec.eq_of_getLsbD_eq
    intro i hi
    rw [hi_bit, BitVec.getLsbD_ushiftRight, BitVec.getLsbD_ushiftRight, hi_bit]
    have h1 : 64 + (n + i) = n + (64 + i) := by omega
    rw [h1]
    by_cases h2 : n + i < 64
    · simp [hi, h2]
    · have : 128 ≤ n + (64 + i) := by omega
      simp [hi, h2, BitVec.getLsbD_of_ge x _ this]
def mulHi (x y : BitVec 64) : BitVec 64 :=
  let x0 := x &&& 4294967295#64
  let x1 := x >>> 32
  let y0 := y &&& 4294967295#64
  let y1 := y >>> 32
  let t := x1 * y0 + (x0 * y0) >>> 32
  x1 * y1 + t >>> 32 + ((t &&& 4294967295#64) + x0 * y1) >>> 32
theorem low32 (x : BitVec 64) : (x &&& 4294967295#64).toNat = x.toNat % 4294967296 := by
  rw [BitVec.toNat_and, show (4294967295#64).toNat = 2 ^ 32 - 1 from by decide, Nat.and_two_pow_sub_one_eq_mod]
theorem high32 (x : BitVec 64) : (x >>> 32).toNat = x.toNat / 4294967296 := by
  rw [BitVec.toNat_ushiftRight, Nat.shiftRight_eq_div_pow]
theorem mulHi_nat (x y : BitVec 64) : (mulHi x y).toNat = x.toNat * y.toNat / 18446744073709551616 := by
  have hx := x.isLt
  have hy := y.isLt
  obtain ⟨x0, e0⟩ : ∃ a, a = x.toNat % 4294967296 := ⟨_, rfl⟩
  obtain ⟨x1, e1⟩ : ∃ a, a = x.toNat / 4294967296 := ⟨_, rfl⟩
  obtain ⟨y0, e2⟩ : ∃ a, a = y.toNat % 4294967296 := ⟨_, rfl⟩
  obtain ⟨y1, e3⟩ : ∃ a, a = y.toNat / 4294967296 := ⟨_, rfl⟩
  have b0 : x0 ≤ 4294967295 := by omega
  have b1 : x1 ≤ 4294967295 := by omega
  have b2 : y0 ≤ 4294967295 := by omega
  have b3 : y1 ≤ 4294967295 := by omega
  have ex : x.toNat = x1 * 4294967296 + x0 := by omega
  have ey : y.toNat = y1 * 4294967296 + y0 := by omega
  have p00 : x0 * y0 ≤ 4294967295 * 4294967295 := Nat.mul_le_mul b0 b2
  have p01 : x0 * y1 ≤ 4294967295 * 4294967295 := Nat.mul_le_mul b0 b3
  have p10 : x1 * y0 ≤ 4294967295 * 4294967295 := Nat.mul_le_mul b1 b2
  have p11 : x1 * y1 ≤ 4294967295 * 4294967295 := Nat.mul_le_mul b1 b3
  have eprod : x.toNat * y.toNat = x1 * y1 * 18446744073709551616 + (x1 * y0 + x0 * y1) * 4294967296 + x0 * y0 := by
    rw [ex, ey]
    simp only [Nat.add_mul, Nat.mul_add]
    have a1 : x1 * 4294967296 * (y1 * 4294967296) = x1 * y1 * 18446744073709551616 := by
      rw [Nat.mul_mul_mul_comm]
    have a2 : x1 * 4294967296 * y0 = x1 * y0 * 4294967296 := by rw [Nat.mul_right_comm]
    have a3 : x0 * (y1 * 4294967296) = x0 * y1 * 4294967296 := by rw [Nat.mul_assoc]
    rw [a1, a2, a3]; omega
  rw [eprod]
  unfold mulHi
  simp only [BitVec.toNat_add, BitVec.toNat_mul, low32, high32, ← e0, ← e1, ← e2, ← e3]
  generalize x0 * y0 = q00 at *
  generalize x0 * y1 = q01 at *
  generalize x1 * y0 = q10 at *
  generalize x1 * y1 = q11 at *
  omega
theorem lo_mul (x y : W128) : lo (x * y) = lo x * lo y := by
  apply BitVec.eq_of_toNat_eq
  rw [lo_nat, BitVec.toNat_mul, BitVec.toNat_mul, lo_nat, lo_nat]
  rw [show (2 : Nat) ^ 128 = 18446744073709551616 * 18446744073709551616 from by decide, Nat.mod_mul_left_mod, Nat.mul_mod]
theorem hi_mul (x y : W128) : hi (x * y) = mulHi (lo x) (lo y) + hi x * lo y + lo x * hi y := by
  apply BitVec.eq_of_toNat_eq
  have hx := x.isLt
  have hy := y.isLt
  rw [hi_nat]
  simp only [BitVec.toNat_add, BitVec.toNat_mul, mulHi_nat]
  obtain ⟨a, ea⟩ : ∃ a, a = (lo x).toNat := ⟨_, rfl⟩
  obtain ⟨b, eb⟩ : ∃ a, a = (hi x).toNat := ⟨_, rfl⟩
  obtain ⟨c, ec⟩ : ∃ a, a = (lo y).toNat := ⟨_, rfl⟩
  obtain ⟨d, ed⟩ : ∃ a, a = (hi y).toNat := ⟨_, rfl⟩
  have ex : x.toNat = b * 18446744073709551616 + a := by rw [eb, ea, hi_nat, lo_nat]; omega
  have ey : y.toNat = d * 18446744073709551616 + c := by rw [ed, ec, hi_nat, lo_nat]; omega
  rw [ex, ey, ← ea, ← eb, ← ec, ← ed]
  have eprod : (b * 18446744073709551616 + a) * (d * 18446744073709551616 + c) = b * d * 340282366920938463463374607431768211456 + (b * c + a * d) * 18446744073709551616 + a * c := by
    simp only [Nat.add_mul, Nat.mul_add]
    have a1 : b * 18446744073709551616 * (d * 18446744073709551616) = b * d * 340282366920938463463374607431768211456 := by rw [Nat.mul_mul_mul_comm]
    have a2 : b * 18446744073709551616 * c = b * c * 18446744073709551616 := by rw [Nat.mul_right_comm]
    have a3 : a * (d * 18446744073709551616) = a * d * 18446744073709551616 := by rw [Nat.mul_assoc]
    rw [a1, a2, a3]; omega
  rw [eprod]
  generalize b * d = q1
  generalize b * c = q2
  generalize a * d = q3
  generalize a * c = q4
  omega
end Go.Proofs.Ytiobohfiaapgeaa
namespace Go.Proofs.Ytiobohfiaapgeaa
set_option maxRecDepth 100000
theorem u_nat {n : Int} {x : BitVec 64} (h : n = (x.toNat : Int)) : AV.int .u64 n = u x := by rw [h]; rfl
theorem add64_run {x y c : BitVec 64} (hc : c.toNat ≤ 1) {H : AHeap} : R Zek [u x, u y, u c] H = some (.tup [u (x + y + c), u (BitVec.ofNat 64 ((x.toNat + y.toNat + c.toNat) / 18446744073709551616))], H) := by
  rw [Zh1 hc]
  have hx := x.isLt
  have hy := y.isLt
  rw [u_nat (x := x + y + c), u_nat (x := BitVec.ofNat 64 ((x.toNat + y.toNat + c.toNat) / 18446744073709551616))]
  · rw [BitVec.toNat_ofNat]; omega
  · rw [BitVec.toNat_add, BitVec.toNat_add]; omega
theorem nadd_run {x y : W128} {H : AHeap} : Pure R Zbh [N x, N y] H (N (x + y)) := by
  unfold Pure
  rw [Zg6]
  have h1 := fun H => add64_run (x := lo x) (y := lo y) (c := 0#64) (by decide) (H := H)
  have hc : (BitVec.ofNat 64 (((lo x).toNat + (lo y).toNat + (0#64 : BitVec 64).toNat) / 18446744073709551616)).toNat ≤ 1 := by
    have := (lo x).isLt
    have := (lo y).isLt
    rw [BitVec.toNat_ofNat]
    have : (0#64 : BitVec 64).toNat = 0 := rfl
    omega
  have h2 := fun H => add64_run (x := hi x) (y := hi y) hc (H := H)
  have e1 : lo (x + y) = lo x + lo y := lo_add x y
  have e2 : hi (x + y) = hi x + hi y + BitVec.ofNat 64 (((lo x).toNat + (lo y).toNat) / 18446744073709551616) := by
    apply BitVec.eq_of_toNat_eq
    rw [hi_add, BitVec.toNat_add, BitVec.toNat_add, BitVec.toNat_ofNat]
    omega
  simp only [BitVec.add_zero, show (0#64 : BitVec 64).toNat = 0 from rfl, Nat.add_zero] at h1 h2
  simp (maxDischargeDepth := 9) [Zfp, N, h1, h2, e1, e2]
theorem nnot_run {x : W128} {H : AHeap} : Pure R Zbe [N x] H (N (~~~x)) := by
  unfold Pure
  rw [Zg4]
  simp (maxDischargeDepth := 9) [Zfn, N, lo_not, hi_not]
theorem nneg_run {x : W128} {H : AHeap} : Pure R Zbg [N x] H (N (-x)) := by
  have h1 := fun H => (nnot_run (x := x) (H := H)).run
  have h2 := fun H => (nadd_run (x := ~~~x) (y := 1#128) (H := H)).run
  rw [← BitVec.neg_eq_not_add x] at h2
  simp only [N, show lo (1#128) = 1#64 from rfl, show hi (1#128) = 0#64 from rfl] at h1 h2
  unfold Pure
  rw [Zg5]
  simp (maxDischargeDepth := 9) [Zfo, N, h1, h2]
theorem nleft_run {x : W128} {n : Nat} (hn : n ≤ 128) {H : AHeap} : Pure R Zba [N x, .int .i64 n] H (N (x <<< n)) := by
  unfold Pure
  rw [Zgy]
  have hc : (64 : Int) ≤ n ↔ 64 ≤ n := by omega
  by_cases h : 64 ≤ n
  · obtain ⟨e1, e2⟩ := shl_hi (x := x) h
    have w1 : IntKind.i64.wrap ((n : Int) - 64) = (n : Int) - 64 := i64w (by omega) (by omega)
    have t1 : (BitVec.ofInt 64 ((n : Int) - 64)).toNat = n - 64 := by rw [BitVec.toNat_ofInt]; omega
    simp (maxDischargeDepth := 9) [Zd8, N, hc, h, w1, t1, e1, e2]
  · obtain ⟨e1, e2⟩ := shl_lo (x := x) (n := n) (by omega)
    have w1 : IntKind.i64.wrap (64 - (n : Int)) = 64 - (n : Int) := i64w (by omega) (by omega)
    have t1 : (BitVec.ofInt 64 (64 - (n : Int))).toNat = 64 - n := by rw [BitVec.toNat_ofInt]; omega
    have t2 : n % 18446744073709551616 = n := by omega
    simp (maxDischargeDepth := 9) [Zd8, N, hc, h, w1, t1, t2, e1, e2]
theorem nright_run {x : W128} {n : Nat} (hn : n ≤ 128) {H : AHeap} : Pure R Z7 [N x, .int .i64 n] H (N (x >>> n)) := by
  unfold Pure
  rw [Zgv]
  have hc : (64 : Int) ≤ n ↔ 64 ≤ n := by omega
  by_cases h : 64 ≤ n
  · obtain ⟨e1, e2⟩ := shr_hi (x := x) h
    have w1 : IntKind.i64.wrap ((n : Int) - 64) = (n : Int) - 64 := i64w (by omega) (by omega)
    have t1 : (BitVec.ofInt 64 ((n : Int) - 64)).toNat = n - 64 := by rw [BitVec.toNat_ofInt]; omega
    simp (maxDischargeDepth := 9) [Zdw, N, hc, h, w1, t1, e1, e2]
  · obtain ⟨e1, e2⟩ := shr_lo (x := x) (n := n) (by omega)
    have w1 : IntKind.i64.wrap (64 - (n : Int)) = 64 - (n : Int) := i64w (by omega) (by omega)
    have t1 : (BitVec.ofInt 64 (64 - (n : Int))).toNat = 64 - n := by rw [BitVec.toNat_ofInt]; omega
    have t2 : n % 18446744073709551616 = n := by omega
    simp (maxDischargeDepth := 9) [Zdw, N, hc, h, w1, t1, t2, e1, e2]
theorem nless_run {x y : W128} {H : AHeap} : Pure R Zbf [N x, N y] H (.bool (decide (x < y))) := by
  unfold Pure
  rw [Zgz]
  have h := less_hl x y
  by_cases h1 : hi x < hi y
  · have : x < y := h.2 (.inl h1)
    simp (maxDischargeDepth := 9) [Zdb, N, h1, this]
  · by_cases h2 : hi x = hi y
    · have e : (x < y) = (lo x < lo y) := propext ⟨fun q => by rcases h.1 q with q | q; exact absurd q h1; exact q.2, fun q => h.2 (.inr ⟨h2, q⟩)⟩
      simp (maxDischargeDepth := 9) [Zdb, N, h2, e]
    · have e : ¬ x < y := fun q => by rcases h.1 q with q | q; exact h1 q; exact h2 q.1
      simp (maxDischargeDepth := 9) [Zdb, N, h1, h2, e]
theorem mul64_run {x y : BitVec 64} {H : AHeap} : R Zel [u x, u y] H = some (.tup [u (mulHi x y), u (x * y)], H) := by
  rw [Zh2]
  simp [Zgn, mulHi]
theorem nsub_run {x y : W128} {H : AHeap} : Pure R Zbl [N x, N y] H (N (x - y)) := by
  have h1 := fun H => (nneg_run (x := y) (H := H)).run
  have h2 := fun H => (nadd_run (x := x) (y := -y) (H := H)).run
  rw [← BitVec.sub_eq_add_neg] at h2
  simp only [N] at h1 h2
  unfold Pure
  rw [Zg8]
  simp (maxDischargeDepth := 9) [Zfr, N, h1, h2]
theorem nmul_run {x y : W128} {H : AHeap} : Pure R Zcf [N x, N y] H (N (x * y)) := by
  unfold Pure
  rw [Zg9]
  have h1 := fun H => mul64_run (x := lo x) (y := lo y) (H := H)
  simp (maxDischargeDepth := 9) [Zfs, N, h1, lo_mul, hi_mul]
def maskN (w : Nat) : W128 := BitVec.allOnes 128 >>> (128 - w)
theorem maskN_bit (w i : Nat) (hw : w ≤ 128) : (maskN w).getLsbD i = decide (i < w) := by
  rw [maskN, BitVec.getLsbD_ushiftRight, BitVec.getLsbD_allOnes]
  congr 1
  exact propext ⟨fun h => by omega, fun h => by omega⟩
theorem mask_run {w : Nat} (hw : w ≤ 128) {H : AHeap} : Pure R Ze6 [.int .i64 w] H (N (maskN w)) := by
  have w1 : IntKind.i64.wrap (128 - (w : Int)) = ((128 - w : Nat) : Int) := by rw [i64w (by omega) (by omega)]; omega
  have h1 := fun H => (nnot_run (x := 0#128) (H := H)).run
  have h2 := fun H => (nright_run (x := ~~~0#128) (n := 128 - w) (by omega) (H := H)).run
  have e : ~~~0#128 >>> (128 - w) = maskN w := by rw [maskN, show BitVec.allOnes 128 = ~~~0#128 from by simp]
  rw [e] at h2
  simp only [N, show lo (0#128) = 0#64 from rfl, show hi (0#128) = 0#64 from rfl, show (~~~0#128 : W128) = 340282366920938463463374607431768211455#128 from by decide] at h1 h2
  unfold Pure
  rw [Zkw]
  simp (maxDischargeDepth := 9) [Zjz, N, w1, h1, h2]
theorem and1_bit (x : BitVec 64) : decide (x &&& 1#64 = 1#64) = x.getLsbD 0 := by
  have h : x &&& 1#64 = if x.getLsbD 0 = true then 1#64 else 0#64 := by
    apply BitVec.eq_of_getLsbD_eq
    intro i hi
    rw [BitVec.getLsbD_and, BitVec.getLsbD_one]
    by_cases h0 : i = 0
    · subst h0; cases hx : x.getLsbD 0 <;> simp
    · split <;> simp [h0, BitVec.getLsbD_one]
  rw [h]
  cases x.getLsbD 0 <;> decide
theorem bit_run {x : W128} {i : Nat} (hi : i ≤ 127) {H : AHeap} : Pure R Zce [N x, .int .i64 i] H (.bool (x.getLsbD i)) := by
  have h1 := fun H => (nright_run (x := x) (n := i) (by omega) (H := H)).run
  simp only [N] at h1
  have e : decide (lo (x >>> i) &&& 1#64 = 1#64) = x.getLsbD i := by
    rw [and1_bit, lo_bit, BitVec.getLsbD_ushiftRight]; simp
  unfold Pure
  rw [Zg7]
  simp (maxDischargeDepth := 9) [Zfq, N, h1, e]
theorem of_run {a : AV} {x : W128} {H : AHeap} : Pure R Zcp [.agg [a, u (lo x), u (hi x)]] H (N x) := by
  unfold Pure
  rw [Zk7]
  simp (maxDischargeDepth := 9) [Zkv, N]
def Bt (w : Nat) (x : W128) : AV := .agg [.int .i64 w, u (lo x), u (hi x)]
theorem cut_run {w : Nat} (hw : w ≤ 128) {x : W128} {H : AHeap} : Pure R Zcw [.int .i64 w, N x] H (Bt w (x &&& maskN w)) := by
  have h1 := fun H => (mask_run hw (H := H)).run
  simp only [N] at h1
  unfold Pure
  rw [Zk2]
  simp (maxDischargeDepth := 9) [Zkl, N, Bt, h1, lo_and, hi_and]
end Go.Proofs.Ytiobohfiaapgeaa
namespace Go.Proofs.Ytiobohfiaapgeaa
set_option maxRecDepth 100000
def E {w : Nat} (x : BitVec w) : W128 := x.setWidth 128
def B {w : Nat} (x : BitVec w) : AV := Bt w (E x)
theorem cut_E {w : Nat} (hw : w ≤ 128) (z : W128) : z &&& maskN w = E (z.setWidth w) := by
  apply BitVec.eq_of_getLsbD_eq
  intro i hi
  rw [BitVec.getLsbD_and, maskN_bit w i hw, E, BitVec.getLsbD_setWidth, BitVec.getLsbD_setWidth]
  simp [hi, Bool.and_comm]
theorem E_set {w : Nat} (hw : w ≤ 128) (x : BitVec w) : (E x).setWidth w = x := by
  apply BitVec.eq_of_getLsbD_eq
  intro i hi
  rw [BitVec.getLsbD_setWidth, E, BitVec.getLsbD_setWidth]
  have : i < 128 := by omega
  simp [hi, this]
theorem E_nat {w : Nat} (hw : w ≤ 128) (x : BitVec w) : (E x).toNat = x.toNat := by
  rw [E, BitVec.toNat_setWidth]
  have := x.isLt
  have : 2 ^ w ≤ 2 ^ 128 := Nat.pow_le_pow_right (by decide) hw
  exact Nat.mod_eq_of_lt (by omega)
theorem E_inj {w : Nat} (hw : w ≤ 128) {x y : BitVec w} (h : E x = E y) : x = y := by rw [← E_set hw x, ← E_set hw y, h]
theorem E_bit {w : Nat} (hw : w ≤ 128) (x : BitVec w) (i : Nat) : (E x).getLsbD i = x.getLsbD i := by
  rw [E, BitVec.getLsbD_setWidth]
  by_cases h : i < 128
  · simp [h]
  · have : w ≤ i := by omega
    simp [h, BitVec.getLsbD_of_ge x i this]
theorem cutB_run {w : Nat} (hw : w ≤ 128) {z : W128} {H : AHeap} : Pure R Zcw [.int .i64 w, N z] H (B (z.setWidth w)) := by
  have := cut_run hw (x := z) (H := H)
  rw [cut_E hw] at this
  exact this
theorem rightB_run {w : Nat} (h1 : 1 ≤ w) (hw : w ≤ 128) {x : BitVec w} {H : AHeap} : Pure R Zd1 [B x] H (.bool true) := by
  have c0 : ¬ (w : Int) = 0 := by omega
  have c1 : 0 < w := by omega
  have c2 : (w : Int) ≤ 128 := by omega
  have c3 : ¬ w = 0 := by omega
  have g1 := fun H => (of_run (a := .int .i64 w) (x := E x) (H := H)).run
  have g2 := fun H => (cutB_run hw (z := E x) (H := H)).run
  rw [E_set hw] at g2
  simp only [N, B, Bt] at g1 g2
  unfold Pure
  rw [Zjh]
  simp (maxDischargeDepth := 9) [Zf3, B, Bt, c1, c2, c3, g1, g2]
theorem wordB_run {w : Nat} (h1 : 1 ≤ w) (hw : w ≤ 128) {x : BitVec w} {H : AHeap} : Pure R Zde [B x] H (.bool true) := by
  have c3 : ¬ w = 0 := by omega
  have g1 := fun H => (rightB_run h1 hw (x := x) (H := H)).run
  simp only [B, Bt] at g1
  unfold Pure
  rw [Zky]
  simp (maxDischargeDepth := 9) [Zj2, B, Bt, c3, g1]
theorem below_run {w : Nat} (h1 : 1 ≤ w) (hw : w ≤ 128) {x : BitVec w} {H : AHeap} : Pure R Zck [B x] H (.bool x.msb) := by
  have w1 : IntKind.i64.wrap ((w : Int) - 1) = ((w - 1 : Nat) : Int) := by rw [i64w (by omega) (by omega)]; omega
  have g1 := fun H => (of_run (a := .int .i64 w) (x := E x) (H := H)).run
  have g2 := fun H => (bit_run (x := E x) (i := w - 1) (by omega) (H := H)).run
  rw [E_bit hw, ← BitVec.msb_eq_getLsbD_last] at g2
  simp only [N] at g1 g2
  unfold Pure
  rw [Zkq]
  simp (maxDischargeDepth := 9) [Zjj, B, Bt, w1, g1, g2]
theorem boolB_run {b : Bool} {H : AHeap} : Pure R Zeb [.bool b] H (Bt 0 (if b = true then 1#128 else 0#128)) := by
  unfold Pure
  rw [Zjw]
  cases b <;> simp (maxDischargeDepth := 9) [Ziw, Bt, show lo (1#128) = 1#64 from rfl, show hi (1#128) = 0#64 from rfl, show hi (0#128 : W128) = 0#64 from rfl, show lo (0#128 : W128) = 0#64 from rfl]
end Go.Proofs.Ytiobohfiaapgeaa
namespace Go.Proofs.Ytiobohfiaapgeaa
set_option maxRecDepth 100000
@[simp] theorem s_nadd {x y : W128} {H : AHeap} : R Zbh [.agg [u (lo x), u (hi x)], .agg [u (lo y), u (hi y)]] H = some (.agg [u (lo (x + y)), u (hi (x + y))], H) := (nadd_run : Pure R Zbh [.agg [u (lo x), u (hi x)], .agg [u (lo y), u (hi y)]] H (.agg [u (lo (x + y)), u (hi (x + y))]))
@[simp] theorem s_nsub {x y : W128} {H : AHeap} : R Zbl [.agg [u (lo x), u (hi x)], .agg [u (lo y), u (hi y)]] H = some (.agg [u (lo (x - y)), u (hi (x - y))], H) := (nsub_run : Pure R Zbl [.agg [u (lo x), u (hi x)], .agg [u (lo y), u (hi y)]] H (.agg [u (lo (x - y)), u (hi (x - y))]))
@[simp] theorem s_nmul {x y : W128} {H : AHeap} : R Zcf [.agg [u (lo x), u (hi x)], .agg [u (lo y), u (hi y)]] H = some (.agg [u (lo (x * y)), u (hi (x * y))], H) := (nmul_run : Pure R Zcf [.agg [u (lo x), u (hi x)], .agg [u (lo y), u (hi y)]] H (.agg [u (lo (x * y)), u (hi (x * y))]))
@[simp] theorem s_nneg {x : W128} {H : AHeap} : R Zbg [.agg [u (lo x), u (hi x)]] H = some (.agg [u (lo (-x)), u (hi (-x))], H) := (nneg_run : Pure R Zbg [.agg [u (lo x), u (hi x)]] H (.agg [u (lo (-x)), u (hi (-x))]))
@[simp] theorem s_nnot {x : W128} {H : AHeap} : R Zbe [.agg [u (lo x), u (hi x)]] H = some (.agg [u (lo (~~~x)), u (hi (~~~x))], H) := (nnot_run : Pure R Zbe [.agg [u (lo x), u (hi x)]] H (.agg [u (lo (~~~x)), u (hi (~~~x))]))
@[simp] theorem s_nleft {x : W128} {n : Nat} (hn : n ≤ 128) {H : AHeap} : R Zba [.agg [u (lo x), u (hi x)], .int .i64 (n : Nat)] H = some (.agg [u (lo (x <<< n)), u (hi (x <<< n))], H) := ((nleft_run hn) : Pure R Zba [.agg [u (lo x), u (hi x)], .int .i64 (n : Nat)] H (.agg [u (lo (x <<< n)), u (hi (x <<< n))]))
@[simp] theorem s_nright {x : W128} {n : Nat} (hn : n ≤ 128) {H : AHeap} : R Z7 [.agg [u (lo x), u (hi x)], .int .i64 (n : Nat)] H = some (.agg [u (lo (x >>> n)), u (hi (x >>> n))], H) := ((nright_run hn) : Pure R Z7 [.agg [u (lo x), u (hi x)], .int .i64 (n : Nat)] H (.agg [u (lo (x >>> n)), u (hi (x >>> n))]))
@[simp] theorem s_nless {x y : W128} {H : AHeap} : R Zbf [.agg [u (lo x), u (hi x)], .agg [u (lo y), u (hi y)]] H = some (.bool (decide (x < y)), H) := (nless_run : Pure R Zbf [.agg [u (lo x), u (hi x)], .agg [u (lo y), u (hi y)]] H (.bool (decide (x < y))))
@[simp] theorem s_mask {w : Nat} (hw : w ≤ 128) {H : AHeap} : R Ze6 [.int .i64 (w : Nat)] H = some (.agg [u (lo (maskN w)), u (hi (maskN w))], H) := ((mask_run hw) : Pure R Ze6 [.int .i64 (w : Nat)] H (.agg [u (lo (maskN w)), u (hi (maskN w))]))
@[simp] theorem s_of {a : AV} {x : W128} {H : AHeap} : R Zcp [.agg [a, u (lo x), u (hi x)]] H = some (.agg [u (lo x), u (hi x)], H) := (of_run : Pure R Zcp [.agg [a, u (lo x), u (hi x)]] H (.agg [u (lo x), u (hi x)]))
@[simp] theorem s_cut {w : Nat} (hw : w ≤ 128) {z : W128} {H : AHeap} : R Zcw [.int .i64 (w : Nat), .agg [u (lo z), u (hi z)]] H = some (.agg [.int .i64 (w : Nat), u (lo (E (z.setWidth w))), u (hi (E (z.setWidth w)))], H) := ((cutB_run hw) : Pure R Zcw [.int .i64 (w : Nat), .agg [u (lo z), u (hi z)]] H (.agg [.int .i64 (w : Nat), u (lo (E (z.setWidth w))), u (hi (E (z.setWidth w)))]))
@[simp] theorem s_word {w : Nat} (h1 : 1 ≤ w) (hw : w ≤ 128) {x : BitVec w} {H : AHeap} : R Zde [.agg [.int .i64 (w : Nat), u (lo (E x)), u (hi (E x))]] H = some (.bool true, H) := ((wordB_run h1 hw) : Pure R Zde [.agg [.int .i64 (w : Nat), u (lo (E x)), u (hi (E x))]] H (.bool true))
@[simp] theorem s_below {w : Nat} (h1 : 1 ≤ w) (hw : w ≤ 128) {x : BitVec w} {H : AHeap} : R Zck [.agg [.int .i64 (w : Nat), u (lo (E x)), u (hi (E x))]] H = some (.bool x.msb, H) := ((below_run h1 hw) : Pure R Zck [.agg [.int .i64 (w : Nat), u (lo (E x)), u (hi (E x))]] H (.bool x.msb))
end Go.Proofs.Ytiobohfiaapgeaa
end
