/- Texts AT TA TB of this claim, one behind the other. -/
import Derived.Test.YtiaoojghohfkjaaGreatK4
section
namespace Go.Proofs.YtiaoojghohfkjaaGreat
open Go.RowKit
def Zkr : LCode := (.seq (.reg [] [⟨some 2, some (.assign (.const (.bool false))), none⟩])
  (.seq (.reg [] [⟨some 3, some (.move (.tmp 0)), none⟩,
 ⟨some 4, some (.binOp .geq Zc (.tmp 3) (.const (.int .i64 0)) Zc), none⟩,
 ⟨some 5, some (.move (.tmp 4)), none⟩,
 ⟨some 6, some (.move (.tmp 0)), some (some 5, true)⟩,
 ⟨some 7, some (.binOp .leq Zc (.tmp 6) (.const (.int .i64 128)) Zc), some (some 5, true)⟩,
 ⟨some 8, some (.pick (.tmp 5) (.tmp 7) (.const (.bool false))), none⟩,
 ⟨some 2, some (.assign (.tmp 8)), none⟩])
  .ret))
theorem Zml {a0 : AV} {H : AHeap} : R Zha [a0] H = fnK Tryz.prog [] H [(.tmp 2)] (evalL Tryz.prog KT R Zkr (Env.args [a0] 0) H) :=
  runs_body (D := DT) (f := Zha) Tryz.func51 (by kernel_rfl) (by kernel_rfl) (by kernel_rfl) (by kernel_rfl) (by kernel_rfl) (Nat.le_of_ble_eq_true rfl)
def Zmr : LCode := (.seq (.reg [] [⟨some 3, some (.box Zb (.tmp 1)), none⟩,
 ⟨some 4, some (.alloc Za), none⟩])
  (.seq (.reg [] [⟨some 6, some (.move (.tmp 0)), none⟩,
 ⟨some 7, some (.call ⟨(.value (.func Zf8)), #[.tmp 6], #[Zc]⟩), none⟩,
 ⟨some 5, some (.alloc Zb), none⟩,
 ⟨none, some (.store Zb (.tmp 5) (.tmp 7)), none⟩])
  (.seq (.reg [] [⟨some 8, some (.move (.tmp 0)), none⟩,
 ⟨some 9, some (.fieldAddr Zb (.tmp 3) 0), none⟩,
 ⟨some 10, some (.load Ze (.tmp 9)), none⟩,
 ⟨some 11, some (.fieldAddr Zb (.tmp 5) 0), none⟩,
 ⟨some 12, some (.load Ze (.tmp 11)), none⟩,
 ⟨some 13, some (.binOp .and Ze (.tmp 10) (.tmp 12) Ze), none⟩,
 ⟨some 14, some (.fieldAddr Zb (.tmp 3) 1), none⟩,
 ⟨some 15, some (.load Ze (.tmp 14)), none⟩,
 ⟨some 16, some (.fieldAddr Zb (.tmp 5) 1), none⟩,
 ⟨some 17, some (.load Ze (.tmp 16)), none⟩,
 ⟨some 18, some (.binOp .and Ze (.tmp 15) (.tmp 17) Ze), none⟩,
 ⟨some 19, some (.build Za #[(0, (.tmp 8)), (1, (.tmp 13)), (2, (.tmp 18))]), none⟩,
 ⟨none, some (.store Za (.tmp 4) (.tmp 19)), none⟩])
  .ret)))
theorem Zm8 {a0 a1 : AV} {H : AHeap} : R Zd2 [a0, a1] H = fnK Tryz.prog [] H [(.cell 4 Za)] (evalL Tryz.prog KT R Zmr (Env.args [a0, a1] 0) H) :=
  runs_body (D := DT) (f := Zd2) Tryz.func52 (by kernel_rfl) (by kernel_rfl) (by kernel_rfl) (by kernel_rfl) (by kernel_rfl) (Nat.le_of_ble_eq_true rfl)
def Zm2 : LCode := (.seq (.reg [] [⟨some 1, some (.box Za (.tmp 0)), none⟩,
 ⟨some 2, some (.alloc Zb), none⟩])
  (.seq (.reg [] [⟨some 3, some (.fieldAddr Za (.tmp 1) 1), none⟩,
 ⟨some 4, some (.load Ze (.tmp 3)), none⟩,
 ⟨some 5, some (.fieldAddr Za (.tmp 1) 2), none⟩,
 ⟨some 6, some (.load Ze (.tmp 5)), none⟩,
 ⟨some 7, some (.build Zb #[(0, (.tmp 4)), (1, (.tmp 6))]), none⟩,
 ⟨none, some (.store Zb (.tmp 2) (.tmp 7)), none⟩])
  .ret))
theorem Zm9 {a0 : AV} {H : AHeap} : R Zcv [a0] H = fnK Tryz.prog [] H [(.cell 2 Zb)] (evalL Tryz.prog KT R Zm2 (Env.args [a0] 0) H) :=
  runs_body (D := DT) (f := Zcv) Tryz.func53 (by kernel_rfl) (by kernel_rfl) (by kernel_rfl) (by kernel_rfl) (by kernel_rfl) (Nat.le_of_ble_eq_true rfl)
def Zez : LCode := (.seq (.reg [] [⟨some 4, some (.assign (.const (.bool false))), none⟩])
  (.seq (.reg [] [⟨some 5, some (.move (.tmp 0)), none⟩,
 ⟨some 6, some (.move (.tmp 1)), none⟩,
 ⟨some 7, some (.call ⟨(.value (.func Zcs)), #[.tmp 5, .tmp 6], #[Zk, Znb]⟩), none⟩,
 ⟨some 8, some (.binOp .geq Zc (.tmp 7) (.const (.int .i64 0)) Zc), none⟩,
 ⟨some 4, some (.assign (.tmp 8)), none⟩])
  .ret))
theorem Zg1 {a0 a1 : AV} {H : AHeap} : R Zcb [a0, a1] H = fnK Tryz.prog [] H [(.tmp 4)] (evalL Tryz.prog KT R Zez (Env.args [a0, a1] 0) H) :=
  runs_body (D := DT) (f := Zcb) Tryz.func54 (by kernel_rfl) (by kernel_rfl) (by kernel_rfl) (by kernel_rfl) (by kernel_rfl) (Nat.le_of_ble_eq_true rfl)
def Zjc : LCode := (.seq (.reg [] [⟨some 2, some (.assign (.const (.bool false))), none⟩])
  (.seq (.reg [] [⟨some 3, some (.move (.tmp 0)), none⟩,
 ⟨some 4, some (.call ⟨(.value (.func Zha)), #[.tmp 3], #[Zc]⟩), none⟩,
 ⟨some 5, some (.unOp .not Zi (.tmp 4)), none⟩,
 ⟨some 2, some (.assign (.tmp 5)), none⟩])
  .ret))
theorem Zlk {a0 : AV} {H : AHeap} : R Zep [a0] H = fnK Tryz.prog [] H [(.tmp 2)] (evalL Tryz.prog KT R Zjc (Env.args [a0] 0) H) :=
  runs_body (D := DT) (f := Zep) Tryz.func55 (by kernel_rfl) (by kernel_rfl) (by kernel_rfl) (by kernel_rfl) (by kernel_rfl) (Nat.le_of_ble_eq_true rfl)
def Zo : LCode := (.seq (.reg [] [⟨some 8, some (.assign (.const (.int .i64 0))), none⟩,
 ⟨some 9, some (.assign (.const (.bool false))), none⟩])
  (.seq (.reg [] [⟨some 15, some (.move (.tmp 1)), none⟩,
 ⟨some 16, some (.binOp .eql Zc (.tmp 15) (.const (.int .i64 0)) Zc), none⟩,
 ⟨some 17, some (.move (.tmp 16)), none⟩,
 ⟨some 18, some (.move (.tmp 2)), some (some 17, true)⟩,
 ⟨some 19, some (.binOp .eql Zc (.tmp 18) (.const (.int .i64 0)) Zc), some (some 17, true)⟩,
 ⟨some 20, some (.pick (.tmp 17) (.tmp 19) (.const (.bool false))), none⟩,
 ⟨some 10, some (.assign (.tmp 20)), none⟩])
  (.seq (.reg [] [⟨some 21, some (.move (.tmp 3)), none⟩,
 ⟨some 22, some (.indexAddr Zk (.tmp 21) (.const (.int .i64 0))), none⟩,
 ⟨some 23, some (.load Zc (.tmp 22)), none⟩,
 ⟨some 24, some (.move (.tmp 3)), none⟩,
 ⟨some 25, some (.move (.tmp 3)), none⟩,
 ⟨some 26, some (.call ⟨(.builtin .len), #[.tmp 25], #[Zk]⟩), none⟩,
 ⟨some 27, some (.binOp .sub Zc (.tmp 26) (.const (.int .i64 1)) Zc), none⟩,
 ⟨some 28, some (.indexAddr Zk (.tmp 24) (.tmp 27)), none⟩,
 ⟨some 29, some (.load Zc (.tmp 28)), none⟩,
 ⟨some 11, some (.assign (.tmp 23)), none⟩,
 ⟨some 12, some (.assign (.tmp 29)), none⟩])
  (.seq (.block 0 (.seq (.reg [] [⟨some 31, some (.move (.tmp 0)), none⟩,
 ⟨some 32, some (.binOp .leq Zc (.tmp 31) (.const (.int .i64 7)) Zc), none⟩,
 ⟨some 30, some (.assign (.tmp 32)), none⟩])
  (.cond (.tmp 30) (.seq (.reg [] [⟨some 33, some (.move (.tmp 10)), none⟩,
 ⟨some 34, some (.move (.tmp 33)), none⟩,
 ⟨some 35, some (.move (.tmp 11)), some (some 34, true)⟩,
 ⟨some 36, some (.binOp .eql Zc (.tmp 35) (.const (.int .i64 0)) Zc), some (some 34, true)⟩,
 ⟨some 37, some (.pick (.tmp 34) (.tmp 36) (.const (.bool false))), none⟩,
 ⟨some 38, some (.move (.tmp 37)), none⟩,
 ⟨some 39, some (.move (.tmp 12)), some (some 38, true)⟩,
 ⟨some 40, some (.binOp .eql Zc (.tmp 39) (.const (.int .i64 0)) Zc), some (some 38, true)⟩,
 ⟨some 41, some (.pick (.tmp 38) (.tmp 40) (.const (.bool false))), none⟩,
 ⟨some 8, some (.assign (.const (.int .i64 0))), none⟩,
 ⟨some 9, some (.assign (.tmp 41)), none⟩])
  .ret)
  (.seq (.reg [] [⟨some 43, some (.move (.tmp 0)), none⟩,
 ⟨some 44, some (.binOp .eql Zc (.tmp 43) (.const (.int .i64 8)) Zc), none⟩,
 ⟨some 42, some (.assign (.tmp 44)), none⟩])
  (.cond (.tmp 42) (.seq (.reg [] [⟨some 45, some (.move (.tmp 10)), none⟩,
 ⟨some 46, some (.move (.tmp 45)), none⟩,
 ⟨some 47, some (.move (.tmp 11)), some (some 46, true)⟩,
 ⟨some 48, some (.move (.tmp 12)), some (some 46, true)⟩,
 ⟨some 49, some (.binOp .eql Zc (.tmp 47) (.tmp 48) Zc), some (some 46, true)⟩,
 ⟨some 50, some (.pick (.tmp 46) (.tmp 49) (.const (.bool false))), none⟩,
 ⟨some 8, some (.assign (.const (.int .i64 0))), none⟩,
 ⟨some 9, some (.assign (.tmp 50)), none⟩])
  .ret)
  (.seq (.reg [] [⟨some 52, some (.move (.tmp 0)), none⟩,
 ⟨some 53, some (.binOp .eql Zc (.tmp 52) (.const (.int .i64 9)) Zc), none⟩,
 ⟨some 51, some (.assign (.tmp 53)), none⟩])
  (.cond (.tmp 51) (.seq (.reg [] [⟨some 54, some (.move (.tmp 12)), none⟩,
 ⟨some 55, some (.move (.tmp 10)), none⟩,
 ⟨some 56, some (.move (.tmp 55)), none⟩,
 ⟨some 57, some (.move (.tmp 11)), some (some 56, true)⟩,
 ⟨some 58, some (.binOp .eql Zc (.tmp 57) (.const (.int .i64 0)) Zc), some (some 56, true)⟩,
 ⟨some 59, some (.pick (.tmp 56) (.tmp 58) (.const (.bool false))), none⟩,
 ⟨some 60, some (.move (.tmp 59)), none⟩,
 ⟨some 61, some (.move (.tmp 3)), some (some 60, true)⟩,
 ⟨some 62, some (.indexAddr Zk (.tmp 61) (.const (.int .i64 1))), some (some 60, true)⟩,
 ⟨some 63, some (.load Zc (.tmp 62)), some (some 60, true)⟩,
 ⟨some 64, some (.move (.tmp 12)), some (some 60, true)⟩,
 ⟨some 65, some (.binOp .eql Zc (.tmp 63) (.tmp 64) Zc), some (some 60, true)⟩,
 ⟨some 66, some (.pick (.tmp 60) (.tmp 65) (.const (.bool false))), none⟩,
 ⟨some 8, some (.assign (.tmp 54)), none⟩,
 ⟨some 9, some (.assign (.tmp 66)), none⟩])
  .ret)
  (.seq (.reg [] [⟨some 68, some (.move (.tmp 0)), none⟩,
 ⟨some 69, some (.binOp .eql Zc (.tmp 68) (.const (.int .i64 38)) Zc), none⟩,
 ⟨some 67, some (.assign (.tmp 69)), none⟩])
  (.cond (.tmp 67) (.seq (.reg [] [⟨some 70, some (.move (.tmp 11)), none⟩,
 ⟨some 71, some (.move (.tmp 12)), none⟩,
 ⟨some 72, some (.binOp .add Zc (.tmp 70) (.tmp 71) Zc), none⟩,
 ⟨some 73, some (.move (.tmp 10)), none⟩,
 ⟨some 74, some (.move (.tmp 73)), none⟩,
 ⟨some 75, some (.move (.tmp 11)), some (some 74, true)⟩,
 ⟨some 76, some (.binOp .gtr Zc (.tmp 75) (.const (.int .i64 0)) Zc), some (some 74, true)⟩,
 ⟨some 77, some (.pick (.tmp 74) (.tmp 76) (.const (.bool false))), none⟩,
 ⟨some 78, some (.move (.tmp 77)), none⟩,
 ⟨some 79, some (.move (.tmp 12)), some (some 78, true)⟩,
 ⟨some 80, some (.binOp .gtr Zc (.tmp 79) (.const (.int .i64 0)) Zc), some (some 78, true)⟩,
 ⟨some 81, some (.pick (.tmp 78) (.tmp 80) (.const (.bool false))), none⟩,
 ⟨some 8, some (.assign (.tmp 72)), none⟩,
 ⟨some 9, some (.assign (.tmp 81)), none⟩])
  .ret)
  (.seq (.reg [] [⟨some 83, some (.move (.tmp 0)), none⟩,
 ⟨some 84, some (.binOp .geq Zc (.tmp 83) (.const (.int .i64 39)) Zc), none⟩,
 ⟨some 82, some (.assign (.tmp 84)), none⟩])
  (.cond (.tmp 82) (.seq (.reg [] [⟨some 86, some (.move (.tmp 0)), none⟩,
 ⟨some 87, some (.move (.tmp 1)), none⟩,
 ⟨some 88, some (.move (.tmp 2)), none⟩,
 ⟨some 89, some (.move (.tmp 11)), none⟩,
 ⟨some 90, some (.call ⟨(.value (.func Zf9)), #[.tmp 86, .tmp 87, .tmp 88, .tmp 89], #[Zc, Zc, Zc, Zc]⟩), none⟩,
 ⟨some 85, some (.move (.tmp 90)), none⟩,
 ⟨some 91, some (.extract (.tmp 85) 0), none⟩,
 ⟨some 92, some (.extract (.tmp 85) 1), none⟩,
 ⟨some 13, some (.assign (.tmp 91)), none⟩,
 ⟨some 14, some (.assign (.tmp 92)), none⟩])
  (.seq (.reg [] [⟨some 93, some (.move (.tmp 13)), none⟩,
 ⟨some 94, some (.move (.tmp 14)), none⟩,
 ⟨some 95, some (.move (.tmp 94)), none⟩,
 ⟨some 96, some (.move (.tmp 11)), some (some 95, true)⟩,
 ⟨some 97, some (.binOp .gtr Zc (.tmp 96) (.const (.int .i64 0)) Zc), some (some 95, true)⟩,
 ⟨some 98, some (.pick (.tmp 95) (.tmp 97) (.const (.bool false))), none⟩,
 ⟨some 8, some (.assign (.tmp 93)), none⟩,
 ⟨some 9, some (.assign (.tmp 98)), none⟩])
  .ret))
  (.seq (.reg [] [⟨some 100, some (.move (.tmp 0)), none⟩,
 ⟨some 101, some (.binOp .eql Zc (.tmp 100) (.const (.int .i64 37)) Zc), none⟩,
 ⟨some 99, some (.assign (.tmp 101)), none⟩])
  (.cond (.tmp 99) (.seq (.reg [] [⟨some 102, some (.move (.tmp 10)), none⟩,
 ⟨some 103, some (.move (.tmp 102)), none⟩,
 ⟨some 104, some (.move (.tmp 11)), some (some 103, true)⟩,
 ⟨some 105, some (.move (.tmp 12)), some (some 103, true)⟩,
 ⟨some 106, some (.binOp .eql Zc (.tmp 104) (.tmp 105) Zc), some (some 103, true)⟩,
 ⟨some 107, some (.pick (.tmp 103) (.tmp 106) (.const (.bool false))), none⟩,
 ⟨some 108, some (.move (.tmp 107)), none⟩,
 ⟨some 109, some (.move (.tmp 11)), some (some 108, true)⟩,
 ⟨some 110, some (.binOp .gtr Zc (.tmp 109) (.const (.int .i64 0)) Zc), some (some 108, true)⟩,
 ⟨some 111, some (.pick (.tmp 108) (.tmp 110) (.const (.bool false))), none⟩,
 ⟨some 8, some (.assign (.const (.int .i64 1))), none⟩,
 ⟨some 9, some (.assign (.tmp 111)), none⟩])
  .ret)
  (.seq (.reg [] [⟨some 113, some (.move (.tmp 0)), none⟩,
 ⟨some 114, some (.binOp .geq Zc (.tmp 113) (.const (.int .i64 29)) Zc), none⟩,
 ⟨some 112, some (.assign (.tmp 114)), none⟩])
  (.cond (.tmp 112) (.seq (.reg [] [⟨some 115, some (.move (.tmp 10)), none⟩,
 ⟨some 116, some (.move (.tmp 115)), none⟩,
 ⟨some 117, some (.move (.tmp 11)), some (some 116, true)⟩,
 ⟨some 118, some (.move (.tmp 12)), some (some 116, true)⟩,
 ⟨some 119, some (.binOp .eql Zc (.tmp 117) (.tmp 118) Zc), some (some 116, true)⟩,
 ⟨some 120, some (.pick (.tmp 116) (.tmp 119) (.const (.bool false))), none⟩,
 ⟨some 121, some (.move (.tmp 120)), none⟩,
 ⟨some 122, some (.move (.tmp 11)), some (some 121, true)⟩,
 ⟨some 123, some (.binOp .gtr Zc (.tmp 122) (.const (.int .i64 0)) Zc), some (some 121, true)⟩,
 ⟨some 124, some (.pick (.tmp 121) (.tmp 123) (.const (.bool false))), none⟩,
 ⟨some 8, some (.assign (.const (.int .i64 0))), none⟩,
 ⟨some 9, some (.assign (.tmp 124)), none⟩])
  .ret)
  .skip)))))))))))))))
  (.seq (.reg [] [⟨some 125, some (.move (.tmp 11)), none⟩,
 ⟨some 126, some (.move (.tmp 10)), none⟩,
 ⟨some 127, some (.move (.tmp 126)), none⟩,
 ⟨some 128, some (.move (.tmp 11)), some (some 127, true)⟩,
 ⟨some 129, some (.move (.tmp 12)), some (some 127, true)⟩,
 ⟨some 130, some (.binOp .eql Zc (.tmp 128) (.tmp 129) Zc), some (some 127, true)⟩,
 ⟨some 131, some (.pick (.tmp 127) (.tmp 130) (.const (.bool false))), none⟩,
 ⟨some 132, some (.move (.tmp 131)), none⟩,
 ⟨some 133, some (.move (.tmp 11)), some (some 132, true)⟩,
 ⟨some 134, some (.binOp .gtr Zc (.tmp 133) (.const (.int .i64 0)) Zc), some (some 132, true)⟩,
 ⟨some 135, some (.pick (.tmp 132) (.tmp 134) (.const (.bool false))), none⟩,
 ⟨some 8, some (.assign (.tmp 125)), none⟩,
 ⟨some 9, some (.assign (.tmp 135)), none⟩])
  .ret)))))
theorem Zmm {a0 a1 a2 a3 : AV} {H : AHeap} : R Zhy [a0, a1, a2, a3] H = fnK Tryz.prog [] H [(.tmp 8), (.tmp 9)] (evalL Tryz.prog KT R Zo (Env.args [a0, a1, a2, a3] 0) H) :=
  runs_body (D := DT) (f := Zhy) Tryz.func56 (by kernel_rfl) (by kernel_rfl) (by kernel_rfl) (by kernel_rfl) (by kernel_rfl) (Nat.le_of_ble_eq_true rfl)
def Zj2 : LCode := (.seq (.reg [] [⟨some 1, some (.box Zjb (.tmp 0)), none⟩,
 ⟨some 2, some (.alloc Zn), none⟩])
  (.seq (.reg [] [⟨some 3, some (.makeFunc (.func Zb4) #[] #[.tmp 1]), none⟩,
 ⟨some 4, some (.build Zn #[(0, (.tmp 3))]), none⟩,
 ⟨none, some (.store Zn (.tmp 2) (.tmp 4)), none⟩])
  .ret))
theorem Zlz {a0 : AV} {H : AHeap} : R Zdl [a0] H = fnK Tryz.prog [] H [(.cell 2 Zn)] (evalL Tryz.prog KT R Zj2 (Env.args [a0] 0) H) :=
  runs_body (D := DT) (f := Zdl) Tryz.func57 (by kernel_rfl) (by kernel_rfl) (by kernel_rfl) (by kernel_rfl) (by kernel_rfl) (Nat.le_of_ble_eq_true rfl)
def Zi2 : LCode := (.seq (.reg [] [⟨some 2, some (.assign (.const (.bool false))), none⟩])
  (.seq (.reg [] [⟨some 3, some (.move (.tmp 0)), none⟩,
 ⟨some 4, some (.indexAddr Zf (.tmp 3) (.const (.int .i64 0))), none⟩,
 ⟨some 5, some (.load Za (.tmp 4)), none⟩,
 ⟨some 6, some (.call ⟨(.value (.func Zdq)), #[.tmp 5], #[Za]⟩), none⟩,
 ⟨some 7, some (.unOp .not Zi (.tmp 6)), none⟩,
 ⟨some 2, some (.assign (.tmp 7)), none⟩])
  .ret))
theorem Zk4 {a0 : AV} {H : AHeap} : R Ze2 [a0] H = fnK Tryz.prog [] H [(.tmp 2)] (evalL Tryz.prog KT R Zi2 (Env.args [a0] 0) H) :=
  runs_body (D := DT) (f := Ze2) Tryz.func58 (by kernel_rfl) (by kernel_rfl) (by kernel_rfl) (by kernel_rfl) (by kernel_rfl) (Nat.le_of_ble_eq_true rfl)
def Zli : LCode := (.seq (.reg [] [⟨some 1, some (.box Za (.tmp 0)), none⟩,
 ⟨some 2, some (.assign (.const (.bool false))), none⟩])
  (.seq (.reg [] [⟨some 3, some (.fieldAddr Za (.tmp 1) 1), none⟩,
 ⟨some 4, some (.load Ze (.tmp 3)), none⟩,
 ⟨some 5, some (.binOp .eql Ze (.tmp 4) (.const (.int .u64 1)) Ze), none⟩,
 ⟨some 2, some (.assign (.tmp 5)), none⟩])
  .ret))
theorem Zmx {a0 : AV} {H : AHeap} : R Zdq [a0] H = fnK Tryz.prog [] H [(.tmp 2)] (evalL Tryz.prog KT R Zli (Env.args [a0] 0) H) :=
  runs_body (D := DT) (f := Zdq) Tryz.func59 (by kernel_rfl) (by kernel_rfl) (by kernel_rfl) (by kernel_rfl) (by kernel_rfl) (Nat.le_of_ble_eq_true rfl)
def Zi3 : LCode := (.seq (.reg [] [⟨some 2, some (.assign (.const (.bool false))), none⟩])
  (.seq (.reg [] [⟨some 3, some (.move (.tmp 0)), none⟩,
 ⟨some 4, some (.indexAddr Zf (.tmp 3) (.const (.int .i64 0))), none⟩,
 ⟨some 5, some (.load Za (.tmp 4)), none⟩,
 ⟨some 6, some (.call ⟨(.value (.func Zdq)), #[.tmp 5], #[Za]⟩), none⟩,
 ⟨some 7, some (.move (.tmp 6)), none⟩,
 ⟨some 8, some (.move (.tmp 0)), some (some 7, true)⟩,
 ⟨some 9, some (.indexAddr Zf (.tmp 8) (.const (.int .i64 1))), some (some 7, true)⟩,
 ⟨some 10, some (.load Za (.tmp 9)), some (some 7, true)⟩,
 ⟨some 11, some (.call ⟨(.value (.func Zdq)), #[.tmp 10], #[Za]⟩), some (some 7, true)⟩,
 ⟨some 12, some (.pick (.tmp 7) (.tmp 11) (.const (.bool false))), none⟩,
 ⟨some 2, some (.assign (.tmp 12)), none⟩])
  .ret))
theorem Zk5 {a0 : AV} {H : AHeap} : R Ze3 [a0] H = fnK Tryz.prog [] H [(.tmp 2)] (evalL Tryz.prog KT R Zi3 (Env.args [a0] 0) H) :=
  runs_body (D := DT) (f := Ze3) Tryz.func60 (by kernel_rfl) (by kernel_rfl) (by kernel_rfl) (by kernel_rfl) (by kernel_rfl) (Nat.le_of_ble_eq_true rfl)
def Zi4 : LCode := (.seq (.reg [] [⟨some 2, some (.assign (.const (.bool false))), none⟩])
  (.seq (.reg [] [⟨some 3, some (.move (.tmp 0)), none⟩,
 ⟨some 4, some (.indexAddr Zf (.tmp 3) (.const (.int .i64 0))), none⟩,
 ⟨some 5, some (.load Za (.tmp 4)), none⟩,
 ⟨some 6, some (.call ⟨(.value (.func Zdq)), #[.tmp 5], #[Za]⟩), none⟩,
 ⟨some 7, some (.move (.tmp 6)), none⟩,
 ⟨some 8, some (.move (.tmp 0)), some (some 7, false)⟩,
 ⟨some 9, some (.indexAddr Zf (.tmp 8) (.const (.int .i64 1))), some (some 7, false)⟩,
 ⟨some 10, some (.load Za (.tmp 9)), some (some 7, false)⟩,
 ⟨some 11, some (.call ⟨(.value (.func Zdq)), #[.tmp 10], #[Za]⟩), some (some 7, false)⟩,
 ⟨some 12, some (.pick (.tmp 7) (.const (.bool true)) (.tmp 11)), none⟩,
 ⟨some 2, some (.assign (.tmp 12)), none⟩])
  .ret))
theorem Zk6 {a0 : AV} {H : AHeap} : R Ze4 [a0] H = fnK Tryz.prog [] H [(.tmp 2)] (evalL Tryz.prog KT R Zi4 (Env.args [a0] 0) H) :=
  runs_body (D := DT) (f := Ze4) Tryz.func61 (by kernel_rfl) (by kernel_rfl) (by kernel_rfl) (by kernel_rfl) (by kernel_rfl) (Nat.le_of_ble_eq_true rfl)
def Zi5 : LCode := (.seq (.reg [] [⟨some 2, some (.assign (.const (.bool false))), none⟩])
  (.seq (.reg [3] [⟨some 3, some (.move (.tmp 0)), none⟩,
 ⟨some 4, some (.indexAddr Zf (.tmp 3) (.const (.int .i64 0))), none⟩,
 ⟨some 5, some (.load Za (.tmp 4)), none⟩,
 ⟨some 6, some (.call ⟨(.value (.func Zdq)), #[.tmp 5], #[Za]⟩), none⟩,
 ⟨some 7, some (.move (.tmp 0)), none⟩,
 ⟨some 8, some (.indexAddr Zf (.tmp 7) (.const (.int .i64 1))), none⟩,
 ⟨some 9, some (.load Za (.tmp 8)), none⟩,
 ⟨some 10, some (.call ⟨(.value (.func Zdq)), #[.tmp 9], #[Za]⟩), none⟩,
 ⟨some 11, some (.binOp .neq Zi (.tmp 6) (.tmp 10) Zi), none⟩,
 ⟨some 2, some (.assign (.tmp 11)), none⟩])
  .ret))
theorem Zk7 {a0 : AV} {H : AHeap} : R Zei [a0] H = fnK Tryz.prog [] H [(.tmp 2)] (evalL Tryz.prog KT R Zi5 (Env.args [a0] 0) H) :=
  runs_body (D := DT) (f := Zei) Tryz.func62 (by kernel_rfl) (by kernel_rfl) (by kernel_rfl) (by kernel_rfl) (by kernel_rfl) (Nat.le_of_ble_eq_true rfl)
def Zi6 : LCode := (.seq (.reg [] [⟨some 2, some (.assign (.const (.bool false))), none⟩])
  (.seq (.reg [] [⟨some 3, some (.move (.tmp 0)), none⟩,
 ⟨some 4, some (.indexAddr Zf (.tmp 3) (.const (.int .i64 0))), none⟩,
 ⟨some 5, some (.load Za (.tmp 4)), none⟩,
 ⟨some 6, some (.call ⟨(.value (.func Zdq)), #[.tmp 5], #[Za]⟩), none⟩,
 ⟨some 7, some (.unOp .not Zi (.tmp 6)), none⟩,
 ⟨some 8, some (.move (.tmp 7)), none⟩,
 ⟨some 9, some (.move (.tmp 0)), some (some 8, false)⟩,
 ⟨some 10, some (.indexAddr Zf (.tmp 9) (.const (.int .i64 1))), some (some 8, false)⟩,
 ⟨some 11, some (.load Za (.tmp 10)), some (some 8, false)⟩,
 ⟨some 12, some (.call ⟨(.value (.func Zdq)), #[.tmp 11], #[Za]⟩), some (some 8, false)⟩,
 ⟨some 13, some (.pick (.tmp 8) (.const (.bool true)) (.tmp 12)), none⟩,
 ⟨some 2, some (.assign (.tmp 13)), none⟩])
  .ret))
theorem Zk8 {a0 : AV} {H : AHeap} : R Ze5 [a0] H = fnK Tryz.prog [] H [(.tmp 2)] (evalL Tryz.prog KT R Zi6 (Env.args [a0] 0) H) :=
  runs_body (D := DT) (f := Ze5) Tryz.func63 (by kernel_rfl) (by kernel_rfl) (by kernel_rfl) (by kernel_rfl) (by kernel_rfl) (Nat.le_of_ble_eq_true rfl)
def Zi7 : LCode := (.seq (.reg [] [⟨some 2, some (.assign (.const (.bool false))), none⟩])
  (.seq (.reg [] [⟨some 3, some (.move (.tmp 0)), none⟩,
 ⟨some 4, some (.indexAddr Zf (.tmp 3) (.const (.int .i64 0))), none⟩,
 ⟨some 5, some (.load Za (.tmp 4)), none⟩,
 ⟨some 6, some (.move (.tmp 0)), none⟩,
 ⟨some 7, some (.indexAddr Zf (.tmp 6) (.const (.int .i64 1))), none⟩,
 ⟨some 8, some (.load Za (.tmp 7)), none⟩,
 ⟨some 9, some (.binOp .eql Za (.tmp 5) (.tmp 8) Za), none⟩,
 ⟨some 2, some (.assign (.tmp 9)), none⟩])
  .ret))
theorem Zk9 {a0 : AV} {H : AHeap} : R Ze6 [a0] H = fnK Tryz.prog [] H [(.tmp 2)] (evalL Tryz.prog KT R Zi7 (Env.args [a0] 0) H) :=
  runs_body (D := DT) (f := Ze6) Tryz.func64 (by kernel_rfl) (by kernel_rfl) (by kernel_rfl) (by kernel_rfl) (by kernel_rfl) (Nat.le_of_ble_eq_true rfl)
def Zi8 : LCode := (.seq (.reg [] [⟨some 6, some (.alloc Za), none⟩,
 ⟨some 7, some (.assign (.const (.int .i64 0))), none⟩])
  (.seq (.seq (.reg [] [⟨some 8, some (.move (.tmp 2)), none⟩,
 ⟨some 9, some (.indexAddr Zf (.tmp 8) (.const (.int .i64 0))), none⟩,
 ⟨some 10, some (.load Za (.tmp 9)), none⟩,
 ⟨some 11, some (.call ⟨(.value (.func Zdq)), #[.tmp 10], #[Za]⟩), none⟩])
  (.cond (.tmp 11) (.seq (.reg [] [⟨some 12, some (.move (.tmp 2)), none⟩,
 ⟨some 13, some (.indexAddr Zf (.tmp 12) (.const (.int .i64 1))), none⟩,
 ⟨some 14, some (.load Za (.tmp 13)), none⟩,
 ⟨none, some (.store Za (.tmp 6) (.tmp 14)), none⟩,
 ⟨some 7, some (.assign (.const (.int .i64 0))), none⟩])
  .ret)
  .skip))
  (.seq (.reg [] [⟨some 15, some (.move (.tmp 2)), none⟩,
 ⟨some 16, some (.indexAddr Zf (.tmp 15) (.const (.int .i64 2))), none⟩,
 ⟨some 17, some (.load Za (.tmp 16)), none⟩,
 ⟨none, some (.store Za (.tmp 6) (.tmp 17)), none⟩,
 ⟨some 7, some (.assign (.const (.int .i64 0))), none⟩])
  .ret)))
theorem Zla {a0 a1 a2 : AV} {H : AHeap} : R Ze7 [a0, a1, a2] H = fnK Tryz.prog [] H [(.cell 6 Za), (.tmp 7)] (evalL Tryz.prog KT R Zi8 (Env.args [a0, a1, a2] 0) H) :=
  runs_body (D := DT) (f := Ze7) Tryz.func65 (by kernel_rfl) (by kernel_rfl) (by kernel_rfl) (by kernel_rfl) (by kernel_rfl) (Nat.le_of_ble_eq_true rfl)
def Zdn : LCode := (.seq (.reg [] [⟨some 7, some (.alloc Za), none⟩,
 ⟨some 8, some (.assign (.const (.int .i64 0))), none⟩])
  (.seq (.seq (.reg [] [⟨some 9, some (.load Zc (.tmp 3)), none⟩])
  (.block 0 (.seq (.seq (.reg [] [⟨some 11, some (.binOp .eql Zc (.tmp 9) (.const (.int .i64 10)) Zc), none⟩,
 ⟨some 10, some (.assign (.tmp 11)), none⟩])
  (.cond (.tmp 10) .skip
  (.reg [] [⟨some 12, some (.binOp .eql Zc (.tmp 9) (.const (.int .i64 11)) Zc), none⟩,
 ⟨some 10, some (.assign (.tmp 12)), none⟩])))
  (.cond (.tmp 10) (.seq (.reg [] [⟨some 13, some (.load Zc (.tmp 3)), none⟩,
 ⟨some 14, some (.move (.tmp 2)), none⟩,
 ⟨some 15, some (.indexAddr Zf (.tmp 14) (.const (.int .i64 0))), none⟩,
 ⟨some 16, some (.load Za (.tmp 15)), none⟩,
 ⟨some 17, some (.call ⟨(.value (.func Zhl)), #[.tmp 13, .tmp 16], #[Zc, Za]⟩), none⟩,
 ⟨some 18, some (.extract (.tmp 17) 0), none⟩,
 ⟨some 19, some (.extract (.tmp 17) 1), none⟩,
 ⟨none, some (.store Za (.tmp 7) (.tmp 18)), none⟩,
 ⟨some 8, some (.assign (.tmp 19)), none⟩])
  .ret)
  (.seq (.reg [] [⟨some 21, some (.binOp .eql Zc (.tmp 9) (.const (.int .i64 38)) Zc), none⟩,
 ⟨some 20, some (.assign (.tmp 21)), none⟩])
  (.cond (.tmp 20) (.seq (.reg [] [⟨some 22, some (.move (.tmp 2)), none⟩,
 ⟨some 23, some (.indexAddr Zf (.tmp 22) (.const (.int .i64 0))), none⟩,
 ⟨some 24, some (.load Za (.tmp 23)), none⟩,
 ⟨some 25, some (.move (.tmp 2)), none⟩,
 ⟨some 26, some (.indexAddr Zf (.tmp 25) (.const (.int .i64 1))), none⟩,
 ⟨some 27, some (.load Za (.tmp 26)), none⟩,
 ⟨some 28, some (.call ⟨(.value (.func Zeq)), #[.tmp 24, .tmp 27], #[Za, Za]⟩), none⟩,
 ⟨some 29, some (.extract (.tmp 28) 0), none⟩,
 ⟨some 30, some (.extract (.tmp 28) 1), none⟩,
 ⟨none, some (.store Za (.tmp 7) (.tmp 29)), none⟩,
 ⟨some 8, some (.assign (.tmp 30)), none⟩])
  .ret)
  (.seq (.reg [] [⟨some 32, some (.binOp .eql Zc (.tmp 9) (.const (.int .i64 39)) Zc), none⟩,
 ⟨some 31, some (.assign (.tmp 32)), none⟩])
  (.cond (.tmp 31) (.seq (.reg [] [⟨some 33, some (.move (.tmp 2)), none⟩,
 ⟨some 34, some (.indexAddr Zf (.tmp 33) (.const (.int .i64 0))), none⟩,
 ⟨some 35, some (.load Za (.tmp 34)), none⟩,
 ⟨some 36, some (.move (.tmp 0)), none⟩,
 ⟨some 37, some (.move (.tmp 1)), none⟩,
 ⟨some 38, some (.call ⟨(.value (.func Zf3)), #[.tmp 35, .tmp 36, .tmp 37], #[Za, Zc, Zc]⟩), none⟩,
 ⟨some 39, some (.extract (.tmp 38) 0), none⟩,
 ⟨some 40, some (.extract (.tmp 38) 1), none⟩,
 ⟨none, some (.store Za (.tmp 7) (.tmp 39)), none⟩,
 ⟨some 8, some (.assign (.tmp 40)), none⟩])
  .ret)
  (.seq (.seq (.reg [] [⟨some 42, some (.binOp .eql Zc (.tmp 9) (.const (.int .i64 40)) Zc), none⟩,
 ⟨some 41, some (.assign (.tmp 42)), none⟩])
  (.cond (.tmp 41) .skip
  (.reg [] [⟨some 43, some (.binOp .eql Zc (.tmp 9) (.const (.int .i64 41)) Zc), none⟩,
 ⟨some 41, some (.assign (.tmp 43)), none⟩])))
  (.cond (.tmp 41) (.seq (.reg [] [⟨some 44, some (.move (.tmp 2)), none⟩,
 ⟨some 45, some (.indexAddr Zf (.tmp 44) (.const (.int .i64 0))), none⟩,
 ⟨some 46, some (.load Za (.tmp 45)), none⟩,
 ⟨some 47, some (.move (.tmp 0)), none⟩,
 ⟨some 48, some (.load Zc (.tmp 3)), none⟩,
 ⟨some 49, some (.binOp .eql Zc (.tmp 48) (.const (.int .i64 41)) Zc), none⟩,
 ⟨some 50, some (.call ⟨(.value (.func Zgi)), #[.tmp 46, .tmp 47, .tmp 49], #[Za, Zc, Zi]⟩), none⟩,
 ⟨some 51, some (.extract (.tmp 50) 0), none⟩,
 ⟨some 52, some (.extract (.tmp 50) 1), none⟩,
 ⟨none, some (.store Za (.tmp 7) (.tmp 51)), none⟩,
 ⟨some 8, some (.assign (.tmp 52)), none⟩])
  .ret)
  (.seq (.seq (.reg [] [⟨some 54, some (.binOp .eql Zc (.tmp 9) (.const (.int .i64 42)) Zc), none⟩,
 ⟨some 53, some (.assign (.tmp 54)), none⟩])
  (.cond (.tmp 53) .skip
  (.reg [] [⟨some 55, some (.binOp .eql Zc (.tmp 9) (.const (.int .i64 43)) Zc), none⟩,
 ⟨some 53, some (.assign (.tmp 55)), none⟩])))
  (.cond (.tmp 53) (.seq (.reg [] [⟨some 56, some (.move (.tmp 2)), none⟩,
 ⟨some 57, some (.indexAddr Zf (.tmp 56) (.const (.int .i64 0))), none⟩,
 ⟨some 58, some (.load Za (.tmp 57)), none⟩,
 ⟨some 59, some (.move (.tmp 0)), none⟩,
 ⟨some 60, some (.load Zc (.tmp 3)), none⟩,
 ⟨some 61, some (.binOp .eql Zc (.tmp 60) (.const (.int .i64 42)) Zc), none⟩,
 ⟨some 62, some (.call ⟨(.value (.func Zfg)), #[.tmp 58, .tmp 59, .tmp 61], #[Za, Zc, Zi]⟩), none⟩,
 ⟨some 63, some (.extract (.tmp 62) 0), none⟩,
 ⟨some 64, some (.extract (.tmp 62) 1), none⟩,
 ⟨none, some (.store Za (.tmp 7) (.tmp 63)), none⟩,
 ⟨some 8, some (.assign (.tmp 64)), none⟩])
  .ret)
  (.seq (.reg [] [⟨some 66, some (.binOp .eql Zc (.tmp 9) (.const (.int .i64 44)) Zc), none⟩,
 ⟨some 65, some (.assign (.tmp 66)), none⟩])
  (.cond (.tmp 65) (.seq (.reg [] [⟨some 67, some (.move (.tmp 2)), none⟩,
 ⟨some 68, some (.indexAddr Zf (.tmp 67) (.const (.int .i64 0))), none⟩,
 ⟨some 69, some (.load Za (.tmp 68)), none⟩,
 ⟨some 70, some (.move (.tmp 0)), none⟩,
 ⟨some 71, some (.call ⟨(.value (.func Zgj)), #[.tmp 69, .tmp 70], #[Za, Zc]⟩), none⟩,
 ⟨some 72, some (.extract (.tmp 71) 0), none⟩,
 ⟨some 73, some (.extract (.tmp 71) 1), none⟩,
 ⟨none, some (.store Za (.tmp 7) (.tmp 72)), none⟩,
 ⟨some 8, some (.assign (.tmp 73)), none⟩])
  .ret)
  .skip))))))))))))))
  (.seq (.reg [] [⟨some 74, some (.load Zc (.tmp 3)), none⟩,
 ⟨some 75, some (.move (.tmp 2)), none⟩,
 ⟨some 76, some (.indexAddr Zf (.tmp 75) (.const (.int .i64 0))), none⟩,
 ⟨some 77, some (.load Za (.tmp 76)), none⟩,
 ⟨some 78, some (.move (.tmp 2)), none⟩,
 ⟨some 79, some (.indexAddr Zf (.tmp 78) (.const (.int .i64 1))), none⟩,
 ⟨some 80, some (.load Za (.tmp 79)), none⟩,
 ⟨some 81, some (.call ⟨(.value (.func Zhm)), #[.tmp 74, .tmp 77, .tmp 80], #[Zc, Za, Za]⟩), none⟩,
 ⟨some 82, some (.extract (.tmp 81) 0), none⟩,
 ⟨some 83, some (.extract (.tmp 81) 1), none⟩,
 ⟨none, some (.store Za (.tmp 7) (.tmp 82)), none⟩,
 ⟨some 8, some (.assign (.tmp 83)), none⟩])
  .ret)))
theorem Zej {a0 a1 a2 a3 : AV} {H : AHeap} : R Zbq [a0, a1, a2, a3] H = fnK Tryz.prog [] H [(.cell 7 Za), (.tmp 8)] (evalL Tryz.prog KT R Zdn (Env.args [a0, a1, a2, a3] 0) H) :=
  runs_body (D := DT) (f := Zbq) Tryz.func66 (by kernel_rfl) (by kernel_rfl) (by kernel_rfl) (by kernel_rfl) (by kernel_rfl) (Nat.le_of_ble_eq_true rfl)
def Zjd : LCode := (.seq (.reg [] [⟨some 3, some (.box Za (.tmp 1)), none⟩,
 ⟨some 4, some (.alloc Za), none⟩,
 ⟨some 5, some (.assign (.const (.int .i64 0))), none⟩])
  (.seq (.block 0 (.seq (.reg [] [⟨some 7, some (.load Za (.tmp 3)), none⟩,
 ⟨some 8, some (.call ⟨(.value (.func Zdw)), #[.tmp 7], #[Za]⟩), none⟩,
 ⟨some 9, some (.unOp .not Zi (.tmp 8)), none⟩,
 ⟨some 6, some (.assign (.tmp 9)), none⟩])
  (.cond (.tmp 6) (.seq (.reg [] [⟨some 10, some (.build Za #[]), none⟩,
 ⟨none, some (.store Za (.tmp 4) (.tmp 10)), none⟩,
 ⟨some 5, some (.assign (.const (.int .i64 10))), none⟩])
  .ret)
  (.seq (.reg [] [⟨some 12, some (.move (.tmp 0)), none⟩,
 ⟨some 13, some (.binOp .eql Zc (.tmp 12) (.const (.int .i64 10)) Zc), none⟩,
 ⟨some 11, some (.assign (.tmp 13)), none⟩])
  (.cond (.tmp 11) (.seq (.reg [3, 4] [⟨some 14, some (.fieldAddr Za (.tmp 3) 0), none⟩,
 ⟨some 15, some (.load Zc (.tmp 14)), none⟩,
 ⟨some 16, some (.load Za (.tmp 3)), none⟩,
 ⟨some 17, some (.call ⟨(.value (.func Zcv)), #[.tmp 16], #[Za]⟩), none⟩,
 ⟨some 18, some (.call ⟨(.value (.func Z5)), #[.tmp 17], #[Zb]⟩), none⟩,
 ⟨some 19, some (.call ⟨(.value (.func Zd2)), #[.tmp 15, .tmp 18], #[Zc, Zb]⟩), none⟩,
 ⟨none, some (.store Za (.tmp 4) (.tmp 19)), none⟩,
 ⟨some 5, some (.assign (.const (.int .i64 0))), none⟩])
  .ret)
  (.seq (.reg [] [⟨some 21, some (.move (.tmp 0)), none⟩,
 ⟨some 22, some (.binOp .eql Zc (.tmp 21) (.const (.int .i64 11)) Zc), none⟩,
 ⟨some 20, some (.assign (.tmp 22)), none⟩])
  (.cond (.tmp 20) (.seq (.reg [3, 4] [⟨some 23, some (.fieldAddr Za (.tmp 3) 0), none⟩,
 ⟨some 24, some (.load Zc (.tmp 23)), none⟩,
 ⟨some 25, some (.load Za (.tmp 3)), none⟩,
 ⟨some 26, some (.call ⟨(.value (.func Zcv)), #[.tmp 25], #[Za]⟩), none⟩,
 ⟨some 27, some (.call ⟨(.value (.func Zbb)), #[.tmp 26], #[Zb]⟩), none⟩,
 ⟨some 28, some (.call ⟨(.value (.func Zd2)), #[.tmp 24, .tmp 27], #[Zc, Zb]⟩), none⟩,
 ⟨none, some (.store Za (.tmp 4) (.tmp 28)), none⟩,
 ⟨some 5, some (.assign (.const (.int .i64 0))), none⟩])
  .ret)
  .skip)))))))
  (.seq (.reg [] [⟨some 29, some (.build Za #[]), none⟩,
 ⟨none, some (.store Za (.tmp 4) (.tmp 29)), none⟩,
 ⟨some 5, some (.assign (.const (.int .i64 11))), none⟩])
  .ret)))
theorem Zms {a0 a1 : AV} {H : AHeap} : R Zhl [a0, a1] H = fnK Tryz.prog [] H [(.cell 4 Za), (.tmp 5)] (evalL Tryz.prog KT R Zjd (Env.args [a0, a1] 0) H) :=
  runs_body (D := DT) (f := Zhl) Tryz.func67 (by kernel_rfl) (by kernel_rfl) (by kernel_rfl) (by kernel_rfl) (by kernel_rfl) (Nat.le_of_ble_eq_true rfl)
def Zhd : LCode := (.seq (.reg [] [⟨some 2, some (.box Za (.tmp 0)), none⟩,
 ⟨some 3, some (.box Za (.tmp 1)), none⟩,
 ⟨some 4, some (.alloc Za), none⟩,
 ⟨some 5, some (.assign (.const (.int .i64 0))), none⟩])
  (.seq (.seq (.reg [] [⟨some 7, some (.load Za (.tmp 2)), none⟩,
 ⟨some 8, some (.call ⟨(.value (.func Zdw)), #[.tmp 7], #[Za]⟩), none⟩,
 ⟨some 9, some (.unOp .not Zi (.tmp 8)), none⟩,
 ⟨some 10, some (.move (.tmp 9)), none⟩,
 ⟨some 11, some (.load Za (.tmp 3)), some (some 10, false)⟩,
 ⟨some 12, some (.call ⟨(.value (.func Zdw)), #[.tmp 11], #[Za]⟩), some (some 10, false)⟩,
 ⟨some 13, some (.unOp .not Zi (.tmp 12)), some (some 10, false)⟩,
 ⟨some 14, some (.pick (.tmp 10) (.const (.bool true)) (.tmp 13)), none⟩,
 ⟨some 15, some (.move (.tmp 14)), none⟩,
 ⟨some 16, some (.fieldAddr Za (.tmp 2) 0), some (some 15, false)⟩,
 ⟨some 17, some (.load Zc (.tmp 16)), some (some 15, false)⟩,
 ⟨some 18, some (.fieldAddr Za (.tmp 3) 0), some (some 15, false)⟩,
 ⟨some 19, some (.load Zc (.tmp 18)), some (some 15, false)⟩,
 ⟨some 20, some (.binOp .add Zc (.tmp 17) (.tmp 19) Zc), some (some 15, false)⟩,
 ⟨some 21, some (.binOp .gtr Zc (.tmp 20) (.const (.int .i64 128)) Zc), some (some 15, false)⟩,
 ⟨some 22, some (.pick (.tmp 15) (.const (.bool true)) (.tmp 21)), none⟩])
  (.cond (.tmp 22) (.seq (.reg [] [⟨some 23, some (.build Za #[]), none⟩,
 ⟨none, some (.store Za (.tmp 4) (.tmp 23)), none⟩,
 ⟨some 5, some (.assign (.const (.int .i64 10))), none⟩])
  .ret)
  .skip))
  (.seq (.reg [1, 5] [⟨some 24, some (.load Za (.tmp 2)), none⟩,
 ⟨some 25, some (.call ⟨(.value (.func Zcv)), #[.tmp 24], #[Za]⟩), none⟩,
 ⟨some 26, some (.fieldAddr Za (.tmp 3) 0), none⟩,
 ⟨some 27, some (.load Zc (.tmp 26)), none⟩,
 ⟨some 28, some (.call ⟨(.value (.func Z1)), #[.tmp 25, .tmp 27], #[Zb, Zc]⟩), none⟩,
 ⟨some 6, some (.alloc Zb), none⟩,
 ⟨none, some (.store Zb (.tmp 6) (.tmp 28)), none⟩])
  (.seq (.reg [] [⟨some 29, some (.fieldAddr Za (.tmp 2) 0), none⟩,
 ⟨some 30, some (.load Zc (.tmp 29)), none⟩,
 ⟨some 31, some (.fieldAddr Za (.tmp 3) 0), none⟩,
 ⟨some 32, some (.load Zc (.tmp 31)), none⟩,
 ⟨some 33, some (.binOp .add Zc (.tmp 30) (.tmp 32) Zc), none⟩,
 ⟨some 34, some (.fieldAddr Zb (.tmp 6) 0), none⟩,
 ⟨some 35, some (.load Ze (.tmp 34)), none⟩,
 ⟨some 36, some (.fieldAddr Za (.tmp 3) 1), none⟩,
 ⟨some 37, some (.load Ze (.tmp 36)), none⟩,
 ⟨some 38, some (.binOp .or Ze (.tmp 35) (.tmp 37) Ze), none⟩,
 ⟨some 39, some (.fieldAddr Zb (.tmp 6) 1), none⟩,
 ⟨some 40, some (.load Ze (.tmp 39)), none⟩,
 ⟨some 41, some (.fieldAddr Za (.tmp 3) 2), none⟩,
 ⟨some 42, some (.load Ze (.tmp 41)), none⟩,
 ⟨some 43, some (.binOp .or Ze (.tmp 40) (.tmp 42) Ze), none⟩,
 ⟨some 44, some (.build Zb #[(0, (.tmp 38)), (1, (.tmp 43))]), none⟩,
 ⟨some 45, some (.call ⟨(.value (.func Zd2)), #[.tmp 33, .tmp 44], #[Zc, Zb]⟩), none⟩,
 ⟨none, some (.store Za (.tmp 4) (.tmp 45)), none⟩,
 ⟨some 5, some (.assign (.const (.int .i64 0))), none⟩])
  .ret))))
theorem Zh3 {a0 a1 : AV} {H : AHeap} : R Zeq [a0, a1] H = fnK Tryz.prog [] H [(.cell 4 Za), (.tmp 5)] (evalL Tryz.prog KT R Zhd (Env.args [a0, a1] 0) H) :=
  runs_body (D := DT) (f := Zeq) Tryz.func68 (by kernel_rfl) (by kernel_rfl) (by kernel_rfl) (by kernel_rfl) (by kernel_rfl) (Nat.le_of_ble_eq_true rfl)
def Zf6 : LCode := (.seq (.reg [] [⟨some 3, some (.box Za (.tmp 0)), none⟩,
 ⟨some 6, some (.alloc Za), none⟩,
 ⟨some 7, some (.assign (.const (.int .i64 0))), none⟩])
  (.seq (.block 0 (.seq (.reg [] [⟨some 9, some (.load Za (.tmp 3)), none⟩,
 ⟨some 10, some (.call ⟨(.value (.func Zdw)), #[.tmp 9], #[Za]⟩), none⟩,
 ⟨some 11, some (.unOp .not Zi (.tmp 10)), none⟩,
 ⟨some 8, some (.assign (.tmp 11)), none⟩])
  (.cond (.tmp 8) (.seq (.reg [] [⟨some 12, some (.build Za #[]), none⟩,
 ⟨none, some (.store Za (.tmp 6) (.tmp 12)), none⟩,
 ⟨some 7, some (.assign (.const (.int .i64 10))), none⟩])
  .ret)
  (.seq (.reg [] [⟨some 14, some (.move (.tmp 2)), none⟩,
 ⟨some 15, some (.binOp .lss Zc (.tmp 14) (.const (.int .i64 0)) Zc), none⟩,
 ⟨some 16, some (.move (.tmp 15)), none⟩,
 ⟨some 17, some (.move (.tmp 1)), some (some 16, false)⟩,
 ⟨some 18, some (.move (.tmp 2)), some (some 16, false)⟩,
 ⟨some 19, some (.binOp .lss Zc (.tmp 17) (.tmp 18) Zc), some (some 16, false)⟩,
 ⟨some 20, some (.pick (.tmp 16) (.const (.bool true)) (.tmp 19)), none⟩,
 ⟨some 21, some (.move (.tmp 20)), none⟩,
 ⟨some 22, some (.move (.tmp 1)), some (some 21, false)⟩,
 ⟨some 23, some (.fieldAddr Za (.tmp 3) 0), some (some 21, false)⟩,
 ⟨some 24, some (.load Zc (.tmp 23)), some (some 21, false)⟩,
 ⟨some 25, some (.binOp .geq Zc (.tmp 22) (.tmp 24) Zc), some (some 21, false)⟩,
 ⟨some 26, some (.pick (.tmp 21) (.const (.bool true)) (.tmp 25)), none⟩,
 ⟨some 13, some (.assign (.tmp 26)), none⟩])
  (.cond (.tmp 13) (.seq (.reg [] [⟨some 27, some (.build Za #[]), none⟩,
 ⟨none, some (.store Za (.tmp 6) (.tmp 27)), none⟩,
 ⟨some 7, some (.assign (.const (.int .i64 12))), none⟩])
  .ret)
  .skip)))))
  (.seq (.reg [] [⟨some 28, some (.move (.tmp 1)), none⟩,
 ⟨some 29, some (.move (.tmp 2)), none⟩,
 ⟨some 30, some (.binOp .sub Zc (.tmp 28) (.tmp 29) Zc), none⟩,
 ⟨some 31, some (.binOp .add Zc (.tmp 30) (.const (.int .i64 1)) Zc), none⟩,
 ⟨some 32, some (.load Za (.tmp 3)), none⟩,
 ⟨some 33, some (.call ⟨(.value (.func Zcv)), #[.tmp 32], #[Za]⟩), none⟩,
 ⟨some 34, some (.move (.tmp 2)), none⟩,
 ⟨some 35, some (.call ⟨(.value (.func Zx)), #[.tmp 33, .tmp 34], #[Zb, Zc]⟩), none⟩,
 ⟨some 36, some (.call ⟨(.value (.func Zd2)), #[.tmp 31, .tmp 35], #[Zc, Zb]⟩), none⟩,
 ⟨none, some (.store Za (.tmp 6) (.tmp 36)), none⟩,
 ⟨some 7, some (.assign (.const (.int .i64 0))), none⟩])
  .ret)))
theorem Zgr {a0 a1 a2 : AV} {H : AHeap} : R Zf3 [a0, a1, a2] H = fnK Tryz.prog [] H [(.cell 6 Za), (.tmp 7)] (evalL Tryz.prog KT R Zf6 (Env.args [a0, a1, a2] 0) H) :=
  runs_body (D := DT) (f := Zf3) Tryz.func69 (by kernel_rfl) (by kernel_rfl) (by kernel_rfl) (by kernel_rfl) (by kernel_rfl) (Nat.le_of_ble_eq_true rfl)
def Zhe : LCode := (.seq (.reg [] [⟨some 3, some (.box Za (.tmp 0)), none⟩,
 ⟨some 6, some (.alloc Za), none⟩,
 ⟨some 7, some (.assign (.const (.int .i64 0))), none⟩])
  (.seq (.block 0 (.seq (.reg [] [⟨some 11, some (.load Za (.tmp 3)), none⟩,
 ⟨some 12, some (.call ⟨(.value (.func Zdw)), #[.tmp 11], #[Za]⟩), none⟩,
 ⟨some 13, some (.unOp .not Zi (.tmp 12)), none⟩,
 ⟨some 10, some (.assign (.tmp 13)), none⟩])
  (.cond (.tmp 10) (.seq (.reg [] [⟨some 14, some (.build Za #[]), none⟩,
 ⟨none, some (.store Za (.tmp 6) (.tmp 14)), none⟩,
 ⟨some 7, some (.assign (.const (.int .i64 10))), none⟩])
  .ret)
  (.seq (.reg [] [⟨some 16, some (.move (.tmp 1)), none⟩,
 ⟨some 17, some (.binOp .lss Zc (.tmp 16) (.const (.int .i64 0)) Zc), none⟩,
 ⟨some 15, some (.assign (.tmp 17)), none⟩])
  (.cond (.tmp 15) (.seq (.reg [] [⟨some 18, some (.build Za #[]), none⟩,
 ⟨none, some (.store Za (.tmp 6) (.tmp 18)), none⟩,
 ⟨some 7, some (.assign (.const (.int .i64 12))), none⟩])
  .ret)
  (.seq (.reg [] [⟨some 20, some (.move (.tmp 1)), none⟩,
 ⟨some 21, some (.fieldAddr Za (.tmp 3) 0), none⟩,
 ⟨some 22, some (.load Zc (.tmp 21)), none⟩,
 ⟨some 23, some (.binOp .sub Zc (.const (.int .i64 128)) (.tmp 22) Zc), none⟩,
 ⟨some 24, some (.binOp .gtr Zc (.tmp 20) (.tmp 23) Zc), none⟩,
 ⟨some 19, some (.assign (.tmp 24)), none⟩])
  (.cond (.tmp 19) (.seq (.reg [] [⟨some 25, some (.build Za #[]), none⟩,
 ⟨none, some (.store Za (.tmp 6) (.tmp 25)), none⟩,
 ⟨some 7, some (.assign (.const (.int .i64 10))), none⟩])
  .ret)
  .skip)))))))
  (.seq (.reg [] [⟨some 26, some (.load Za (.tmp 3)), none⟩,
 ⟨some 27, some (.call ⟨(.value (.func Zcv)), #[.tmp 26], #[Za]⟩), none⟩,
 ⟨some 8, some (.alloc Zb), none⟩,
 ⟨none, some (.store Zb (.tmp 8) (.tmp 27)), none⟩])
  (.seq (.seq (.reg [] [⟨some 28, some (.move (.tmp 2)), none⟩,
 ⟨some 29, some (.move (.tmp 28)), none⟩,
 ⟨some 30, some (.load Za (.tmp 3)), some (some 29, true)⟩,
 ⟨some 31, some (.call ⟨(.value (.func Zcp)), #[.tmp 30], #[Za]⟩), some (some 29, true)⟩,
 ⟨some 32, some (.pick (.tmp 29) (.tmp 31) (.const (.bool false))), none⟩])
  (.cond (.tmp 32) (.seq (.reg [] [⟨some 33, some (.fieldAddr Za (.tmp 3) 0), none⟩,
 ⟨some 34, some (.load Zc (.tmp 33)), none⟩,
 ⟨some 35, some (.call ⟨(.value (.func Zf8)), #[.tmp 34], #[Zc]⟩), none⟩,
 ⟨some 36, some (.call ⟨(.value (.func Z5)), #[.tmp 35], #[Zb]⟩), none⟩,
 ⟨some 9, some (.alloc Zb), none⟩,
 ⟨none, some (.store Zb (.tmp 9) (.tmp 36)), none⟩])
  (.reg [] [⟨some 37, some (.fieldAddr Zb (.tmp 8) 0), none⟩,
 ⟨some 38, some (.load Ze (.tmp 37)), none⟩,
 ⟨some 39, some (.fieldAddr Zb (.tmp 9) 0), none⟩,
 ⟨some 40, some (.load Ze (.tmp 39)), none⟩,
 ⟨some 41, some (.binOp .or Ze (.tmp 38) (.tmp 40) Ze), none⟩,
 ⟨some 42, some (.fieldAddr Zb (.tmp 8) 1), none⟩,
 ⟨some 43, some (.load Ze (.tmp 42)), none⟩,
 ⟨some 44, some (.fieldAddr Zb (.tmp 9) 1), none⟩,
 ⟨some 45, some (.load Ze (.tmp 44)), none⟩,
 ⟨some 46, some (.binOp .or Ze (.tmp 43) (.tmp 45) Ze), none⟩,
 ⟨some 47, some (.build Zb #[(0, (.tmp 41)), (1, (.tmp 46))]), none⟩,
 ⟨none, some (.store Zb (.tmp 8) (.tmp 47)), none⟩]))
  .skip))
  (.seq (.reg [] [⟨some 48, some (.fieldAddr Za (.tmp 3) 0), none⟩,
 ⟨some 49, some (.load Zc (.tmp 48)), none⟩,
 ⟨some 50, some (.move (.tmp 1)), none⟩,
 ⟨some 51, some (.binOp .add Zc (.tmp 49) (.tmp 50) Zc), none⟩,
 ⟨some 52, some (.load Zb (.tmp 8)), none⟩,
 ⟨some 53, some (.call ⟨(.value (.func Zd2)), #[.tmp 51, .tmp 52], #[Zc, Zb]⟩), none⟩,
 ⟨none, some (.store Za (.tmp 6) (.tmp 53)), none⟩,
 ⟨some 7, some (.assign (.const (.int .i64 0))), none⟩])
  .ret)))))
theorem Zh4 {a0 a1 a2 : AV} {H : AHeap} : R Zgi [a0, a1, a2] H = fnK Tryz.prog [] H [(.cell 6 Za), (.tmp 7)] (evalL Tryz.prog KT R Zhe (Env.args [a0, a1, a2] 0) H) :=
  runs_body (D := DT) (f := Zgi) Tryz.func70 (by kernel_rfl) (by kernel_rfl) (by kernel_rfl) (by kernel_rfl) (by kernel_rfl) (Nat.le_of_ble_eq_true rfl)
def Zhf : LCode := (.seq (.reg [] [⟨some 3, some (.box Za (.tmp 0)), none⟩,
 ⟨some 6, some (.alloc Za), none⟩,
 ⟨some 7, some (.assign (.const (.int .i64 0))), none⟩])
  (.seq (.block 0 (.seq (.reg [] [⟨some 11, some (.load Za (.tmp 3)), none⟩,
 ⟨some 12, some (.call ⟨(.value (.func Zdw)), #[.tmp 11], #[Za]⟩), none⟩,
 ⟨some 13, some (.unOp .not Zi (.tmp 12)), none⟩,
 ⟨some 10, some (.assign (.tmp 13)), none⟩])
  (.cond (.tmp 10) (.seq (.reg [] [⟨some 14, some (.build Za #[]), none⟩,
 ⟨none, some (.store Za (.tmp 6) (.tmp 14)), none⟩,
 ⟨some 7, some (.assign (.const (.int .i64 10))), none⟩])
  .ret)
  (.seq (.reg [] [⟨some 16, some (.move (.tmp 1)), none⟩,
 ⟨some 17, some (.binOp .lss Zc (.tmp 16) (.const (.int .i64 0)) Zc), none⟩,
 ⟨some 15, some (.assign (.tmp 17)), none⟩])
  (.cond (.tmp 15) (.seq (.reg [] [⟨some 18, some (.build Za #[]), none⟩,
 ⟨none, some (.store Za (.tmp 6) (.tmp 18)), none⟩,
 ⟨some 7, some (.assign (.const (.int .i64 12))), none⟩])
  .ret)
  .skip)))))
  (.seq (.reg [] [⟨some 19, some (.move (.tmp 1)), none⟩,
 ⟨some 20, some (.fieldAddr Za (.tmp 3) 0), none⟩,
 ⟨some 21, some (.load Zc (.tmp 20)), none⟩,
 ⟨some 22, some (.binOp .rem Zc (.tmp 19) (.tmp 21) Zc), none⟩,
 ⟨some 1, some (.assign (.tmp 22)), none⟩])
  (.seq (.seq (.reg [] [⟨some 23, some (.move (.tmp 2)), none⟩,
 ⟨some 24, some (.unOp .not Zi (.tmp 23)), none⟩])
  (.cond (.tmp 24) (.reg [] [⟨some 25, some (.fieldAddr Za (.tmp 3) 0), none⟩,
 ⟨some 26, some (.load Zc (.tmp 25)), none⟩,
 ⟨some 27, some (.move (.tmp 1)), none⟩,
 ⟨some 28, some (.binOp .sub Zc (.tmp 26) (.tmp 27) Zc), none⟩,
 ⟨some 29, some (.fieldAddr Za (.tmp 3) 0), none⟩,
 ⟨some 30, some (.load Zc (.tmp 29)), none⟩,
 ⟨some 31, some (.binOp .rem Zc (.tmp 28) (.tmp 30) Zc), none⟩,
 ⟨some 1, some (.assign (.tmp 31)), none⟩])
  .skip))
  (.seq (.reg [1, 3, 5, 11, 12] [⟨some 32, some (.load Za (.tmp 3)), none⟩,
 ⟨some 33, some (.call ⟨(.value (.func Zcv)), #[.tmp 32], #[Za]⟩), none⟩,
 ⟨some 34, some (.move (.tmp 1)), none⟩,
 ⟨some 35, some (.call ⟨(.value (.func Z1)), #[.tmp 33, .tmp 34], #[Zb, Zc]⟩), none⟩,
 ⟨some 36, some (.load Za (.tmp 3)), none⟩,
 ⟨some 37, some (.call ⟨(.value (.func Zcv)), #[.tmp 36], #[Za]⟩), none⟩,
 ⟨some 38, some (.fieldAddr Za (.tmp 3) 0), none⟩,
 ⟨some 39, some (.load Zc (.tmp 38)), none⟩,
 ⟨some 40, some (.move (.tmp 1)), none⟩,
 ⟨some 41, some (.binOp .sub Zc (.tmp 39) (.tmp 40) Zc), none⟩,
 ⟨some 42, some (.call ⟨(.value (.func Zx)), #[.tmp 37, .tmp 41], #[Zb, Zc]⟩), none⟩,
 ⟨some 8, some (.alloc Zb), none⟩,
 ⟨some 9, some (.alloc Zb), none⟩,
 ⟨none, some (.store Zb (.tmp 8) (.tmp 35)), none⟩,
 ⟨none, some (.store Zb (.tmp 9) (.tmp 42)), none⟩])
  (.seq (.reg [] [⟨some 43, some (.fieldAddr Za (.tmp 3) 0), none⟩,
 ⟨some 44, some (.load Zc (.tmp 43)), none⟩,
 ⟨some 45, some (.fieldAddr Zb (.tmp 8) 0), none⟩,
 ⟨some 46, some (.load Ze (.tmp 45)), none⟩,
 ⟨some 47, some (.fieldAddr Zb (.tmp 9) 0), none⟩,
 ⟨some 48, some (.load Ze (.tmp 47)), none⟩,
 ⟨some 49, some (.binOp .or Ze (.tmp 46) (.tmp 48) Ze), none⟩,
 ⟨some 50, some (.fieldAddr Zb (.tmp 8) 1), none⟩,
 ⟨some 51, some (.load Ze (.tmp 50)), none⟩,
 ⟨some 52, some (.fieldAddr Zb (.tmp 9) 1), none⟩,
 ⟨some 53, some (.load Ze (.tmp 52)), none⟩,
 ⟨some 54, some (.binOp .or Ze (.tmp 51) (.tmp 53) Ze), none⟩,
 ⟨some 55, some (.build Zb #[(0, (.tmp 49)), (1, (.tmp 54))]), none⟩,
 ⟨some 56, some (.call ⟨(.value (.func Zd2)), #[.tmp 44, .tmp 55], #[Zc, Zb]⟩), none⟩,
 ⟨none, some (.store Za (.tmp 6) (.tmp 56)), none⟩,
 ⟨some 7, some (.assign (.const (.int .i64 0))), none⟩])
  .ret))))))
theorem Zh5 {a0 a1 a2 : AV} {H : AHeap} : R Zfg [a0, a1, a2] H = fnK Tryz.prog [] H [(.cell 6 Za), (.tmp 7)] (evalL Tryz.prog KT R Zhf (Env.args [a0, a1, a2] 0) H) :=
  runs_body (D := DT) (f := Zfg) Tryz.func71 (by kernel_rfl) (by kernel_rfl) (by kernel_rfl) (by kernel_rfl) (by kernel_rfl) (Nat.le_of_ble_eq_true rfl)
def Zgd : LCode := (.seq (.reg [] [⟨some 27, some (.binOp .lss Zc (.tmp 26) (.tmp 25) Zc), none⟩])
  (.seq (.cond (.tmp 27) .skip
  (.exit 1))
  (.seq (.block 2 (.reg [] [⟨some 29, some (.load Za (.tmp 6)), none⟩,
 ⟨some 30, some (.load Za (.tmp 2)), none⟩,
 ⟨some 31, some (.call ⟨(.value (.func Zeq)), #[.tmp 29, .tmp 30], #[Za, Za]⟩), none⟩,
 ⟨some 28, some (.move (.tmp 31)), none⟩,
 ⟨some 32, some (.extract (.tmp 28) 0), none⟩,
 ⟨some 33, some (.extract (.tmp 28) 1), none⟩,
 ⟨none, some (.store Za (.tmp 6) (.tmp 32)), none⟩]))
  (.reg [] [⟨some 34, some (.binOp .add Zc (.tmp 26) (.const (.int .i64 1)) Zc), none⟩,
 ⟨some 26, some (.move (.tmp 34)), none⟩]))))
@[simp] theorem Zm3 : defs Zgd = [27, 29, 30, 31, 28, 32, 33, 34, 26] := by rfl
def Zhg : LCode := (.seq (.reg [] [⟨some 2, some (.box Za (.tmp 0)), none⟩,
 ⟨some 4, some (.alloc Za), none⟩,
 ⟨some 5, some (.assign (.const (.int .i64 0))), none⟩])
  (.seq (.block 0 (.seq (.reg [] [⟨some 8, some (.load Za (.tmp 2)), none⟩,
 ⟨some 9, some (.call ⟨(.value (.func Zdw)), #[.tmp 8], #[Za]⟩), none⟩,
 ⟨some 10, some (.unOp .not Zi (.tmp 9)), none⟩,
 ⟨some 7, some (.assign (.tmp 10)), none⟩])
  (.cond (.tmp 7) (.seq (.reg [] [⟨some 11, some (.build Za #[]), none⟩,
 ⟨none, some (.store Za (.tmp 4) (.tmp 11)), none⟩,
 ⟨some 5, some (.assign (.const (.int .i64 10))), none⟩])
  .ret)
  (.seq (.reg [] [⟨some 13, some (.move (.tmp 1)), none⟩,
 ⟨some 14, some (.binOp .lss Zc (.tmp 13) (.const (.int .i64 1)) Zc), none⟩,
 ⟨some 12, some (.assign (.tmp 14)), none⟩])
  (.cond (.tmp 12) (.seq (.reg [] [⟨some 15, some (.build Za #[]), none⟩,
 ⟨none, some (.store Za (.tmp 4) (.tmp 15)), none⟩,
 ⟨some 5, some (.assign (.const (.int .i64 12))), none⟩])
  .ret)
  (.seq (.reg [] [⟨some 17, some (.move (.tmp 1)), none⟩,
 ⟨some 18, some (.fieldAddr Za (.tmp 2) 0), none⟩,
 ⟨some 19, some (.load Zc (.tmp 18)), none⟩,
 ⟨some 20, some (.binOp .quo Zc (.const (.int .i64 128)) (.tmp 19) Zc), none⟩,
 ⟨some 21, some (.binOp .gtr Zc (.tmp 17) (.tmp 20) Zc), none⟩,
 ⟨some 16, some (.assign (.tmp 21)), none⟩])
  (.cond (.tmp 16) (.seq (.reg [] [⟨some 22, some (.build Za #[]), none⟩,
 ⟨none, some (.store Za (.tmp 4) (.tmp 22)), none⟩,
 ⟨some 5, some (.assign (.const (.int .i64 10))), none⟩])
  .ret)
  .skip)))))))
  (.seq (.reg [] [⟨some 23, some (.load Za (.tmp 2)), none⟩,
 ⟨some 6, some (.alloc Za), none⟩,
 ⟨none, some (.store Za (.tmp 6) (.tmp 23)), none⟩])
  (.seq (.seq (.reg [] [⟨some 24, some (.move (.tmp 1)), none⟩,
 ⟨some 25, some (.binOp .sub Zc (.tmp 24) (.const (.int .i64 1)) Zc), none⟩,
 ⟨some 26, some (.move (.const (.int .i64 0))), none⟩])
  (.block 1 (.loop Zgd)))
  (.seq (.reg [] [⟨some 35, some (.load Za (.tmp 6)), none⟩,
 ⟨none, some (.store Za (.tmp 4) (.tmp 35)), none⟩,
 ⟨some 5, some (.assign (.const (.int .i64 0))), none⟩])
  .ret)))))
theorem Zh6 {a0 a1 : AV} {H : AHeap} : R Zgj [a0, a1] H = fnK Tryz.prog [] H [(.cell 4 Za), (.tmp 5)] (evalL Tryz.prog KT R Zhg (Env.args [a0, a1] 0) H) :=
  runs_body (D := DT) (f := Zgj) Tryz.func72 (by kernel_rfl) (by kernel_rfl) (by kernel_rfl) (by kernel_rfl) (by kernel_rfl) (Nat.le_of_ble_eq_true rfl)
def Zfn : LCode := (.seq (.reg [] [⟨some 4, some (.box Za (.tmp 1)), none⟩,
 ⟨some 5, some (.box Za (.tmp 2)), none⟩,
 ⟨some 6, some (.alloc Za), none⟩,
 ⟨some 7, some (.assign (.const (.int .i64 0))), none⟩])
  (.seq (.block 0 (.seq (.reg [] [⟨some 9, some (.load Za (.tmp 4)), none⟩,
 ⟨some 10, some (.call ⟨(.value (.func Zdw)), #[.tmp 9], #[Za]⟩), none⟩,
 ⟨some 11, some (.unOp .not Zi (.tmp 10)), none⟩,
 ⟨some 12, some (.move (.tmp 11)), none⟩,
 ⟨some 13, some (.load Za (.tmp 5)), some (some 12, false)⟩,
 ⟨some 14, some (.call ⟨(.value (.func Zdw)), #[.tmp 13], #[Za]⟩), some (some 12, false)⟩,
 ⟨some 15, some (.unOp .not Zi (.tmp 14)), some (some 12, false)⟩,
 ⟨some 16, some (.pick (.tmp 12) (.const (.bool true)) (.tmp 15)), none⟩,
 ⟨some 17, some (.move (.tmp 16)), none⟩,
 ⟨some 18, some (.fieldAddr Za (.tmp 4) 0), some (some 17, false)⟩,
 ⟨some 19, some (.load Zc (.tmp 18)), some (some 17, false)⟩,
 ⟨some 20, some (.fieldAddr Za (.tmp 5) 0), some (some 17, false)⟩,
 ⟨some 21, some (.load Zc (.tmp 20)), some (some 17, false)⟩,
 ⟨some 22, some (.binOp .neq Zc (.tmp 19) (.tmp 21) Zc), some (some 17, false)⟩,
 ⟨some 23, some (.pick (.tmp 17) (.const (.bool true)) (.tmp 22)), none⟩,
 ⟨some 8, some (.assign (.tmp 23)), none⟩])
  (.cond (.tmp 8) (.seq (.reg [] [⟨some 24, some (.build Za #[]), none⟩,
 ⟨none, some (.store Za (.tmp 6) (.tmp 24)), none⟩,
 ⟨some 7, some (.assign (.const (.int .i64 10))), none⟩])
  .ret)
  (.seq (.reg [] [⟨some 26, some (.move (.tmp 0)), none⟩,
 ⟨some 27, some (.binOp .geq Zc (.tmp 26) (.const (.int .i64 12)) Zc), none⟩,
 ⟨some 28, some (.move (.tmp 27)), none⟩,
 ⟨some 29, some (.move (.tmp 0)), some (some 28, true)⟩,
 ⟨some 30, some (.binOp .leq Zc (.tmp 29) (.const (.int .i64 17)) Zc), some (some 28, true)⟩,
 ⟨some 31, some (.pick (.tmp 28) (.tmp 30) (.const (.bool false))), none⟩,
 ⟨some 25, some (.assign (.tmp 31)), none⟩])
  (.cond (.tmp 25) (.seq (.reg [4, 6, 7] [⟨some 32, some (.fieldAddr Za (.tmp 4) 0), none⟩,
 ⟨some 33, some (.load Zc (.tmp 32)), none⟩,
 ⟨some 34, some (.move (.tmp 0)), none⟩,
 ⟨some 35, some (.load Za (.tmp 4)), none⟩,
 ⟨some 36, some (.call ⟨(.value (.func Zcv)), #[.tmp 35], #[Za]⟩), none⟩,
 ⟨some 37, some (.load Za (.tmp 5)), none⟩,
 ⟨some 38, some (.call ⟨(.value (.func Zcv)), #[.tmp 37], #[Za]⟩), none⟩,
 ⟨some 39, some (.call ⟨(.value (.func Zf4)), #[.tmp 34, .tmp 36, .tmp 38], #[Zc, Zb, Zb]⟩), none⟩,
 ⟨some 40, some (.call ⟨(.value (.func Zd2)), #[.tmp 33, .tmp 39], #[Zc, Zb]⟩), none⟩,
 ⟨none, some (.store Za (.tmp 6) (.tmp 40)), none⟩,
 ⟨some 7, some (.assign (.const (.int .i64 0))), none⟩])
  .ret)
  (.seq (.reg [] [⟨some 42, some (.move (.tmp 0)), none⟩,
 ⟨some 43, some (.binOp .geq Zc (.tmp 42) (.const (.int .i64 18)) Zc), none⟩,
 ⟨some 44, some (.move (.tmp 43)), none⟩,
 ⟨some 45, some (.move (.tmp 0)), some (some 44, true)⟩,
 ⟨some 46, some (.binOp .leq Zc (.tmp 45) (.const (.int .i64 25)) Zc), some (some 44, true)⟩,
 ⟨some 47, some (.pick (.tmp 44) (.tmp 46) (.const (.bool false))), none⟩,
 ⟨some 41, some (.assign (.tmp 47)), none⟩])
  (.cond (.tmp 41) (.seq (.reg [5] [⟨some 48, some (.fieldAddr Za (.tmp 4) 0), none⟩,
 ⟨some 49, some (.load Zc (.tmp 48)), none⟩,
 ⟨some 50, some (.move (.tmp 0)), none⟩,
 ⟨some 51, some (.load Za (.tmp 4)), none⟩,
 ⟨some 52, some (.load Za (.tmp 5)), none⟩,
 ⟨some 53, some (.call ⟨(.value (.func Zer)), #[.tmp 50, .tmp 51, .tmp 52], #[Zc, Za, Za]⟩), none⟩,
 ⟨some 54, some (.call ⟨(.value (.func Zd2)), #[.tmp 49, .tmp 53], #[Zc, Zb]⟩), none⟩,
 ⟨none, some (.store Za (.tmp 6) (.tmp 54)), none⟩,
 ⟨some 7, some (.assign (.const (.int .i64 0))), none⟩])
  .ret)
  (.seq (.reg [] [⟨some 56, some (.move (.tmp 0)), none⟩,
 ⟨some 57, some (.binOp .geq Zc (.tmp 56) (.const (.int .i64 26)) Zc), none⟩,
 ⟨some 58, some (.move (.tmp 57)), none⟩,
 ⟨some 59, some (.move (.tmp 0)), some (some 58, true)⟩,
 ⟨some 60, some (.binOp .leq Zc (.tmp 59) (.const (.int .i64 28)) Zc), some (some 58, true)⟩,
 ⟨some 61, some (.pick (.tmp 58) (.tmp 60) (.const (.bool false))), none⟩,
 ⟨some 55, some (.assign (.tmp 61)), none⟩])
  (.cond (.tmp 55) (.seq (.reg [5] [⟨some 62, some (.fieldAddr Za (.tmp 4) 0), none⟩,
 ⟨some 63, some (.load Zc (.tmp 62)), none⟩,
 ⟨some 64, some (.move (.tmp 0)), none⟩,
 ⟨some 65, some (.load Za (.tmp 4)), none⟩,
 ⟨some 66, some (.load Za (.tmp 5)), none⟩,
 ⟨some 67, some (.call ⟨(.value (.func Zf5)), #[.tmp 64, .tmp 65, .tmp 66], #[Zc, Za, Za]⟩), none⟩,
 ⟨some 68, some (.call ⟨(.value (.func Zd2)), #[.tmp 63, .tmp 67], #[Zc, Zb]⟩), none⟩,
 ⟨none, some (.store Za (.tmp 6) (.tmp 68)), none⟩,
 ⟨some 7, some (.assign (.const (.int .i64 0))), none⟩])
  .ret)
  (.seq (.reg [] [⟨some 70, some (.move (.tmp 0)), none⟩,
 ⟨some 71, some (.binOp .geq Zc (.tmp 70) (.const (.int .i64 29)) Zc), none⟩,
 ⟨some 72, some (.move (.tmp 71)), none⟩,
 ⟨some 73, some (.move (.tmp 0)), some (some 72, true)⟩,
 ⟨some 74, some (.binOp .leq Zc (.tmp 73) (.const (.int .i64 36)) Zc), some (some 72, true)⟩,
 ⟨some 75, some (.pick (.tmp 72) (.tmp 74) (.const (.bool false))), none⟩,
 ⟨some 69, some (.assign (.tmp 75)), none⟩])
  (.cond (.tmp 69) (.seq (.reg [] [⟨some 76, some (.move (.tmp 0)), none⟩,
 ⟨some 77, some (.load Za (.tmp 4)), none⟩,
 ⟨some 78, some (.load Za (.tmp 5)), none⟩,
 ⟨some 79, some (.call ⟨(.value (.func Zfk)), #[.tmp 76, .tmp 77, .tmp 78], #[Zc, Za, Za]⟩), none⟩,
 ⟨some 80, some (.call ⟨(.value (.func Zga)), #[.tmp 79], #[Zi]⟩), none⟩,
 ⟨none, some (.store Za (.tmp 6) (.tmp 80)), none⟩,
 ⟨some 7, some (.assign (.const (.int .i64 0))), none⟩])
  .ret)
  (.seq (.reg [] [⟨some 82, some (.move (.tmp 0)), none⟩,
 ⟨some 83, some (.binOp .eql Zc (.tmp 82) (.const (.int .i64 8)) Zc), none⟩,
 ⟨some 81, some (.assign (.tmp 83)), none⟩])
  (.cond (.tmp 81) (.seq (.reg [] [⟨some 84, some (.load Za (.tmp 4)), none⟩,
 ⟨some 85, some (.load Za (.tmp 5)), none⟩,
 ⟨some 86, some (.binOp .eql Za (.tmp 84) (.tmp 85) Za), none⟩,
 ⟨some 87, some (.call ⟨(.value (.func Zga)), #[.tmp 86], #[Zi]⟩), none⟩,
 ⟨none, some (.store Za (.tmp 6) (.tmp 87)), none⟩,
 ⟨some 7, some (.assign (.const (.int .i64 0))), none⟩])
  .ret)
  (.seq (.reg [] [⟨some 89, some (.move (.tmp 0)), none⟩,
 ⟨some 90, some (.binOp .eql Zc (.tmp 89) (.const (.int .i64 37)) Zc), none⟩,
 ⟨some 88, some (.assign (.tmp 90)), none⟩])
  (.cond (.tmp 88) (.seq (.reg [] [⟨some 91, some (.load Za (.tmp 4)), none⟩,
 ⟨some 92, some (.load Za (.tmp 5)), none⟩,
 ⟨some 93, some (.binOp .eql Za (.tmp 91) (.tmp 92) Za), none⟩,
 ⟨some 94, some (.call ⟨(.value (.func Zga)), #[.tmp 93], #[Zi]⟩), none⟩,
 ⟨some 95, some (.field Za (.tmp 94) 1), none⟩,
 ⟨some 96, some (.build Zb #[(0, (.tmp 95))]), none⟩,
 ⟨some 97, some (.call ⟨(.value (.func Zd2)), #[(.const (.int .i64 1)), (.tmp 96)], #[Zc, Zb]⟩), none⟩,
 ⟨none, some (.store Za (.tmp 6) (.tmp 97)), none⟩,
 ⟨some 7, some (.assign (.const (.int .i64 0))), none⟩])
  .ret)
  .skip)))))))))))))))
  (.seq (.reg [] [⟨some 98, some (.build Za #[]), none⟩,
 ⟨none, some (.store Za (.tmp 6) (.tmp 98)), none⟩,
 ⟨some 7, some (.assign (.const (.int .i64 11))), none⟩])
  .ret)))
theorem Zmt {a0 a1 a2 : AV} {H : AHeap} : R Zhm [a0, a1, a2] H = fnK Tryz.prog [] H [(.cell 6 Za), (.tmp 7)] (evalL Tryz.prog KT R Zfn (Env.args [a0, a1, a2] 0) H) :=
  runs_body (D := DT) (f := Zhm) Tryz.func73 (by kernel_rfl) (by kernel_rfl) (by kernel_rfl) (by kernel_rfl) (by kernel_rfl) (Nat.le_of_ble_eq_true rfl)
def Zq : LCode := (.seq (.reg [] [⟨some 8, some (.assign (.const (.int .i64 0))), none⟩,
 ⟨some 9, some (.assign (.const (.int .i64 0))), none⟩])
  (.seq (.seq (.reg [] [⟨some 10, some (.move (.tmp 3)), none⟩,
 ⟨some 11, some (.binOp .eql Zc (.tmp 10) (.const (.int .i64 0)) Zc), none⟩])
  (.cond (.tmp 11) (.seq (.reg [] [⟨some 8, some (.assign (.const (.int .i64 0))), none⟩,
 ⟨some 9, some (.assign (.const (.int .i64 30))), none⟩])
  .ret)
  .skip))
  (.seq (.seq (.reg [] [⟨some 12, some (.move (.tmp 0)), none⟩,
 ⟨some 13, some (.binOp .eql Zc (.tmp 12) (.const (.int .i64 39)) Zc), none⟩])
  (.cond (.tmp 13) (.seq (.seq (.reg [] [⟨some 14, some (.move (.tmp 2)), none⟩,
 ⟨some 15, some (.binOp .lss Zc (.tmp 14) (.const (.int .i64 0)) Zc), none⟩,
 ⟨some 16, some (.move (.tmp 15)), none⟩,
 ⟨some 17, some (.move (.tmp 1)), some (some 16, false)⟩,
 ⟨some 18, some (.move (.tmp 2)), some (some 16, false)⟩,
 ⟨some 19, some (.binOp .lss Zc (.tmp 17) (.tmp 18) Zc), some (some 16, false)⟩,
 ⟨some 20, some (.pick (.tmp 16) (.const (.bool true)) (.tmp 19)), none⟩,
 ⟨some 21, some (.move (.tmp 20)), none⟩,
 ⟨some 22, some (.move (.tmp 1)), some (some 21, false)⟩,
 ⟨some 23, some (.move (.tmp 3)), some (some 21, false)⟩,
 ⟨some 24, some (.binOp .geq Zc (.tmp 22) (.tmp 23) Zc), some (some 21, false)⟩,
 ⟨some 25, some (.pick (.tmp 21) (.const (.bool true)) (.tmp 24)), none⟩])
  (.cond (.tmp 25) (.seq (.reg [] [⟨some 8, some (.assign (.const (.int .i64 0))), none⟩,
 ⟨some 9, some (.assign (.const (.int .i64 30))), none⟩])
  .ret)
  .skip))
  (.seq (.reg [] [⟨some 26, some (.move (.tmp 1)), none⟩,
 ⟨some 27, some (.move (.tmp 2)), none⟩,
 ⟨some 28, some (.binOp .sub Zc (.tmp 26) (.tmp 27) Zc), none⟩,
 ⟨some 29, some (.binOp .add Zc (.tmp 28) (.const (.int .i64 1)) Zc), none⟩,
 ⟨some 8, some (.assign (.tmp 29)), none⟩,
 ⟨some 9, some (.assign (.const (.int .i64 0))), none⟩])
  .ret))
  .skip))
  (.seq (.seq (.reg [] [⟨some 30, some (.move (.tmp 2)), none⟩,
 ⟨some 31, some (.binOp .neq Zc (.tmp 30) (.const (.int .i64 0)) Zc), none⟩,
 ⟨some 32, some (.move (.tmp 31)), none⟩,
 ⟨some 33, some (.move (.tmp 1)), some (some 32, false)⟩,
 ⟨some 34, some (.binOp .lss Zc (.tmp 33) (.const (.int .i64 0)) Zc), some (some 32, false)⟩,
 ⟨some 35, some (.pick (.tmp 32) (.const (.bool true)) (.tmp 34)), none⟩,
 ⟨some 36, some (.move (.tmp 35)), none⟩,
 ⟨some 37, some (.move (.tmp 0)), some (some 36, false)⟩,
 ⟨some 38, some (.binOp .eql Zc (.tmp 37) (.const (.int .i64 44)) Zc), some (some 36, false)⟩,
 ⟨some 39, some (.move (.tmp 38)), some (some 36, false)⟩,
 ⟨some 40, some (.move (.tmp 1)), some (some 39, true)⟩,
 ⟨some 41, some (.binOp .lss Zc (.tmp 40) (.const (.int .i64 1)) Zc), some (some 39, true)⟩,
 ⟨some 42, some (.pick (.tmp 39) (.tmp 41) (.const (.bool false))), some (some 36, false)⟩,
 ⟨some 43, some (.pick (.tmp 36) (.const (.bool true)) (.tmp 42)), none⟩])
  (.cond (.tmp 43) (.seq (.reg [] [⟨some 8, some (.assign (.const (.int .i64 0))), none⟩,
 ⟨some 9, some (.assign (.const (.int .i64 30))), none⟩])
  .ret)
  .skip))
  (.seq (.seq (.reg [] [⟨some 44, some (.move (.tmp 0)), none⟩])
  (.block 0 (.seq (.seq (.reg [] [⟨some 46, some (.binOp .eql Zc (.tmp 44) (.const (.int .i64 40)) Zc), none⟩,
 ⟨some 45, some (.assign (.tmp 46)), none⟩])
  (.cond (.tmp 45) .skip
  (.reg [] [⟨some 47, some (.binOp .eql Zc (.tmp 44) (.const (.int .i64 41)) Zc), none⟩,
 ⟨some 45, some (.assign (.tmp 47)), none⟩])))
  (.cond (.tmp 45) (.seq (.seq (.reg [] [⟨some 48, some (.move (.tmp 1)), none⟩,
 ⟨some 49, some (.binOp .gtr Zc (.tmp 48) (.const (.int .i64 128)) Zc), none⟩])
  (.cond (.tmp 49) (.seq (.reg [] [⟨some 8, some (.assign (.const (.int .i64 0))), none⟩,
 ⟨some 9, some (.assign (.const (.int .i64 31))), none⟩])
  .ret)
  .skip))
  (.seq (.reg [] [⟨some 50, some (.move (.tmp 3)), none⟩,
 ⟨some 51, some (.move (.tmp 1)), none⟩,
 ⟨some 52, some (.binOp .add Zc (.tmp 50) (.tmp 51) Zc), none⟩,
 ⟨some 53, some (.call ⟨(.value (.func Zd4)), #[.tmp 52], #[Zc]⟩), none⟩,
 ⟨some 54, some (.extract (.tmp 53) 0), none⟩,
 ⟨some 55, some (.extract (.tmp 53) 1), none⟩,
 ⟨some 8, some (.assign (.tmp 54)), none⟩,
 ⟨some 9, some (.assign (.tmp 55)), none⟩])
  .ret))
  (.seq (.reg [] [⟨some 57, some (.binOp .eql Zc (.tmp 44) (.const (.int .i64 44)) Zc), none⟩,
 ⟨some 56, some (.assign (.tmp 57)), none⟩])
  (.cond (.tmp 56) (.seq (.seq (.reg [] [⟨some 58, some (.move (.tmp 1)), none⟩,
 ⟨some 59, some (.binOp .gtr Zc (.tmp 58) (.const (.int .i64 128)) Zc), none⟩])
  (.cond (.tmp 59) (.seq (.reg [] [⟨some 8, some (.assign (.const (.int .i64 0))), none⟩,
 ⟨some 9, some (.assign (.const (.int .i64 31))), none⟩])
  .ret)
  .skip))
  (.seq (.reg [] [⟨some 60, some (.move (.tmp 3)), none⟩,
 ⟨some 61, some (.move (.tmp 1)), none⟩,
 ⟨some 62, some (.binOp .mul Zc (.tmp 60) (.tmp 61) Zc), none⟩,
 ⟨some 63, some (.call ⟨(.value (.func Zd4)), #[.tmp 62], #[Zc]⟩), none⟩,
 ⟨some 64, some (.extract (.tmp 63) 0), none⟩,
 ⟨some 65, some (.extract (.tmp 63) 1), none⟩,
 ⟨some 8, some (.assign (.tmp 64)), none⟩,
 ⟨some 9, some (.assign (.tmp 65)), none⟩])
  .ret))
  .skip))))))
  (.seq (.reg [] [⟨some 66, some (.move (.tmp 3)), none⟩,
 ⟨some 8, some (.assign (.tmp 66)), none⟩,
 ⟨some 9, some (.assign (.const (.int .i64 0))), none⟩])
  .ret))))))
theorem Zi0 {a0 a1 a2 a3 : AV} {H : AHeap} : R Zek [a0, a1, a2, a3] H = fnK Tryz.prog [] H [(.tmp 8), (.tmp 9)] (evalL Tryz.prog KT R Zq (Env.args [a0, a1, a2, a3] 0) H) :=
  runs_body (D := DT) (f := Zek) Tryz.func74 (by kernel_rfl) (by kernel_rfl) (by kernel_rfl) (by kernel_rfl) (by kernel_rfl) (Nat.le_of_ble_eq_true rfl)
def Zd0 : LCode := (.seq (.seq (.reg [] [⟨some 4, some (.move (.tmp 3)), none⟩,
 ⟨some 5, some (.move (.tmp 0)), none⟩,
 ⟨some 6, some (.call ⟨(.builtin .len), #[.tmp 5], #[Zk]⟩), none⟩,
 ⟨some 7, some (.binOp .lss Zc (.tmp 4) (.tmp 6) Zc), none⟩])
  (.cond (.tmp 7) .skip
  (.exit 0)))
  (.seq (.block 1 (.seq (.reg [] [⟨some 10, some (.move (.tmp 0)), none⟩,
 ⟨some 11, some (.move (.tmp 3)), none⟩,
 ⟨some 12, some (.indexAddr Zk (.tmp 10) (.tmp 11)), none⟩,
 ⟨some 13, some (.load Zc (.tmp 12)), none⟩,
 ⟨some 14, some (.move (.tmp 0)), none⟩,
 ⟨some 15, some (.indexAddr Zk (.tmp 14) (.const (.int .i64 0))), none⟩,
 ⟨some 16, some (.load Zc (.tmp 15)), none⟩,
 ⟨some 17, some (.binOp .neq Zc (.tmp 13) (.tmp 16) Zc), none⟩])
  (.cond (.tmp 17) (.seq (.reg [] [⟨some 2, some (.assign (.const (.bool false))), none⟩])
  .ret)
  .skip)))
  (.reg [] [⟨some 8, some (.move (.tmp 3)), none⟩,
 ⟨some 9, some (.binOp .add Zc (.tmp 8) (.const (.int .i64 1)) Zc), none⟩,
 ⟨some 3, some (.assign (.tmp 9)), none⟩])))
@[simp] theorem Zl0 : defs Zd0 = [4, 5, 6, 7, 10, 11, 12, 13, 14, 15, 16, 17, 2, 8, 9, 3] := by rfl
def Zhu : LCode := (.seq (.reg [] [⟨some 2, some (.assign (.const (.bool false))), none⟩])
  (.seq (.seq (.reg [] [⟨some 3, some (.assign (.const (.int .i64 1))), none⟩])
  (.block 0 (.loop Zd0)))
  (.seq (.reg [] [⟨some 2, some (.assign (.const (.bool true))), none⟩])
  .ret)))
theorem Zjt {a0 : AV} {H : AHeap} : R Zdr [a0] H = fnK Tryz.prog [] H [(.tmp 2)] (evalL Tryz.prog KT R Zhu (Env.args [a0] 0) H) :=
  runs_body (D := DT) (f := Zdr) Tryz.func75 (by kernel_rfl) (by kernel_rfl) (by kernel_rfl) (by kernel_rfl) (by kernel_rfl) (Nat.le_of_ble_eq_true rfl)
def Zic : LCode := (.seq (.reg [] [⟨some 2, some (.assign (.const (.int .i64 0))), none⟩,
 ⟨some 3, some (.assign (.const (.int .i64 0))), none⟩])
  (.seq (.seq (.reg [] [⟨some 4, some (.move (.tmp 0)), none⟩,
 ⟨some 5, some (.binOp .gtr Zc (.tmp 4) (.const (.int .i64 128)) Zc), none⟩])
  (.cond (.tmp 5) (.seq (.reg [] [⟨some 2, some (.assign (.const (.int .i64 0))), none⟩,
 ⟨some 3, some (.assign (.const (.int .i64 31))), none⟩])
  .ret)
  .skip))
  (.seq (.reg [] [⟨some 6, some (.move (.tmp 0)), none⟩,
 ⟨some 2, some (.assign (.tmp 6)), none⟩,
 ⟨some 3, some (.assign (.const (.int .i64 0))), none⟩])
  .ret)))
theorem Zkd {a0 : AV} {H : AHeap} : R Zd4 [a0] H = fnK Tryz.prog [] H [(.tmp 2), (.tmp 3)] (evalL Tryz.prog KT R Zic (Env.args [a0] 0) H) :=
  runs_body (D := DT) (f := Zd4) Tryz.func76 (by kernel_rfl) (by kernel_rfl) (by kernel_rfl) (by kernel_rfl) (by kernel_rfl) (Nat.le_of_ble_eq_true rfl)
def Zfx : LCode := (.seq (.reg [] [⟨some 1, some (.box Za (.tmp 0)), none⟩,
 ⟨some 2, some (.assign (.const (.bool false))), none⟩])
  (.seq (.reg [] [⟨some 3, some (.load Za (.tmp 1)), none⟩,
 ⟨some 4, some (.call ⟨(.value (.func Zcd)), #[.tmp 3], #[Za]⟩), none⟩,
 ⟨some 5, some (.move (.tmp 4)), none⟩,
 ⟨some 6, some (.fieldAddr Za (.tmp 1) 0), some (some 5, true)⟩,
 ⟨some 7, some (.load Zc (.tmp 6)), some (some 5, true)⟩,
 ⟨some 8, some (.binOp .gtr Zc (.tmp 7) (.const (.int .i64 0)) Zc), some (some 5, true)⟩,
 ⟨some 9, some (.pick (.tmp 5) (.tmp 8) (.const (.bool false))), none⟩,
 ⟨some 2, some (.assign (.tmp 9)), none⟩])
  .ret))
theorem Zke {a0 : AV} {H : AHeap} : R Zbh [a0] H = fnK Tryz.prog [] H [(.tmp 2)] (evalL Tryz.prog KT R Zfx (Env.args [a0] 0) H) :=
  runs_body (D := DT) (f := Zbh) Tryz.func77 (by kernel_rfl) (by kernel_rfl) (by kernel_rfl) (by kernel_rfl) (by kernel_rfl) (Nat.le_of_ble_eq_true rfl)
def Zgm : LCode := (.seq (.seq (.reg [] [⟨some 8, some (.move (.tmp 4)), none⟩,
 ⟨some 9, some (.move (.tmp 0)), none⟩,
 ⟨some 10, some (.call ⟨(.builtin .len), #[.tmp 9], #[Zg]⟩), none⟩,
 ⟨some 11, some (.binOp .lss Zc (.tmp 8) (.tmp 10) Zc), none⟩])
  (.cond (.tmp 11) .skip
  (.exit 0)))
  (.seq (.block 1 (.reg [] [⟨some 14, some (.move (.tmp 3)), none⟩,
 ⟨some 15, some (.move (.tmp 4)), none⟩,
 ⟨some 16, some (.move (.tmp 0)), none⟩,
 ⟨some 17, some (.move (.tmp 4)), none⟩,
 ⟨some 18, some (.indexAddr Zg (.tmp 16) (.tmp 17)), none⟩,
 ⟨some 19, some (.load Zi (.tmp 18)), none⟩,
 ⟨some 20, some (.unOp .not Zi (.tmp 19)), none⟩,
 ⟨some 21, some (.indexAddr Zg (.tmp 14) (.tmp 15)), none⟩,
 ⟨none, some (.store Zi (.tmp 21) (.tmp 20)), none⟩]))
  (.reg [] [⟨some 12, some (.move (.tmp 4)), none⟩,
 ⟨some 13, some (.binOp .add Zc (.tmp 12) (.const (.int .i64 1)) Zc), none⟩,
 ⟨some 4, some (.assign (.tmp 13)), none⟩])))
@[simp] theorem Zmn : defs Zgm = [8, 9, 10, 11, 14, 15, 16, 17, 18, 19, 20, 21, 12, 13, 4] := by rfl
def Zim : LCode := (.seq (.reg [] [⟨some 2, some (.assign (.const (.slice none 0 0))), none⟩])
  (.seq (.reg [] [⟨some 5, some (.move (.tmp 0)), none⟩,
 ⟨some 6, some (.call ⟨(.builtin .len), #[.tmp 5], #[Zg]⟩), none⟩,
 ⟨some 7, some (.makeSlice Zg (.tmp 6) (.tmp 6)), none⟩,
 ⟨some 3, some (.assign (.tmp 7)), none⟩])
  (.seq (.seq (.reg [] [⟨some 4, some (.assign (.const (.int .i64 0))), none⟩])
  (.block 0 (.loop Zgm)))
  (.seq (.reg [] [⟨some 22, some (.move (.tmp 3)), none⟩,
 ⟨some 2, some (.assign (.tmp 22)), none⟩])
  .ret))))
theorem Zks {a0 : AV} {H : AHeap} : R Zcj [a0] H = fnK Tryz.prog [0] H [(.tmp 2)] (evalL Tryz.prog KT R Zim (Env.args [a0] 0) H) :=
  runs_body (D := DT) (f := Zcj) Tryz.func78 (by kernel_rfl) (by kernel_rfl) (by kernel_rfl) (by kernel_rfl) (by kernel_rfl) (Nat.le_of_ble_eq_true rfl)
def Zin : LCode := (.seq (.reg [] [⟨some 2, some (.assign (.const (.slice none 0 0))), none⟩])
  (.seq (.reg [1, 4] [⟨some 3, some (.move (.tmp 0)), none⟩,
 ⟨some 4, some (.call ⟨(.value (.func Zcj)), #[.tmp 3], #[Zg]⟩), none⟩,
 ⟨some 5, some (.move (.tmp 0)), none⟩,
 ⟨some 6, some (.call ⟨(.builtin .len), #[.tmp 5], #[Zg]⟩), none⟩,
 ⟨some 7, some (.makeSlice Zg (.tmp 6) (.tmp 6)), none⟩,
 ⟨some 8, some (.call ⟨(.value (.func Zb5)), #[(.tmp 4), (.tmp 7), (.const (.bool true))], #[Zg, Zg, Zi]⟩), none⟩,
 ⟨some 2, some (.assign (.tmp 8)), none⟩])
  .ret))
theorem Zkt {a0 : AV} {H : AHeap} : R Zck [a0] H = fnK Tryz.prog [0] H [(.tmp 2)] (evalL Tryz.prog KT R Zin (Env.args [a0] 0) H) :=
  runs_body (D := DT) (f := Zck) Tryz.func79 (by kernel_rfl) (by kernel_rfl) (by kernel_rfl) (by kernel_rfl) (by kernel_rfl) (Nat.le_of_ble_eq_true rfl)
def Zhv : LCode := (.seq (.reg [] [⟨some 2, some (.assign (.const (.bool false))), none⟩])
  (.seq (.reg [] [⟨some 3, some (.move (.tmp 0)), none⟩,
 ⟨some 4, some (.move (.tmp 0)), none⟩,
 ⟨some 5, some (.call ⟨(.builtin .len), #[.tmp 4], #[Zg]⟩), none⟩,
 ⟨some 6, some (.binOp .sub Zc (.tmp 5) (.const (.int .i64 1)) Zc), none⟩,
 ⟨some 7, some (.indexAddr Zg (.tmp 3) (.tmp 6)), none⟩,
 ⟨some 8, some (.load Zi (.tmp 7)), none⟩,
 ⟨some 2, some (.assign (.tmp 8)), none⟩])
  .ret))
theorem Zju {a0 : AV} {H : AHeap} : R Z6 [a0] H = fnK Tryz.prog [] H [(.tmp 2)] (evalL Tryz.prog KT R Zhv (Env.args [a0] 0) H) :=
  runs_body (D := DT) (f := Z6) Tryz.func80 (by kernel_rfl) (by kernel_rfl) (by kernel_rfl) (by kernel_rfl) (by kernel_rfl) (Nat.le_of_ble_eq_true rfl)
def Zd1 : LCode := (.seq (.seq (.reg [] [⟨some 29, some (.move (.tmp 9)), none⟩,
 ⟨some 30, some (.move (.tmp 1)), none⟩,
 ⟨some 31, some (.call ⟨(.builtin .len), #[.tmp 30], #[Zg]⟩), none⟩,
 ⟨some 32, some (.binOp .lss Zc (.tmp 29) (.tmp 31) Zc), none⟩])
  (.cond (.tmp 32) .skip
  (.exit 1)))
  (.seq (.block 2 (.reg [] [⟨some 35, some (.move (.tmp 8)), none⟩,
 ⟨some 36, some (.move (.tmp 9)), none⟩,
 ⟨some 37, some (.move (.tmp 0)), none⟩,
 ⟨some 38, some (.move (.tmp 1)), none⟩,
 ⟨some 39, some (.move (.tmp 9)), none⟩,
 ⟨some 40, some (.indexAddr Zg (.tmp 38) (.tmp 39)), none⟩,
 ⟨some 41, some (.load Zi (.tmp 40)), none⟩,
 ⟨some 42, some (.move (.tmp 2)), none⟩,
 ⟨some 43, some (.move (.tmp 9)), none⟩,
 ⟨some 44, some (.indexAddr Zg (.tmp 42) (.tmp 43)), none⟩,
 ⟨some 45, some (.load Zi (.tmp 44)), none⟩,
 ⟨some 46, some (.call ⟨(.value (.func Zfw)), #[.tmp 37, .tmp 41, .tmp 45], #[Zc, Zi, Zi]⟩), none⟩,
 ⟨some 47, some (.indexAddr Zg (.tmp 35) (.tmp 36)), none⟩,
 ⟨none, some (.store Zi (.tmp 47) (.tmp 46)), none⟩]))
  (.reg [] [⟨some 33, some (.move (.tmp 9)), none⟩,
 ⟨some 34, some (.binOp .add Zc (.tmp 33) (.const (.int .i64 1)) Zc), none⟩,
 ⟨some 9, some (.assign (.tmp 34)), none⟩])))
@[simp] theorem Zl1 : defs Zd1 = [29, 30, 31, 32, 35, 36, 37, 38, 39, 40, 41, 42, 43, 44, 45, 46, 47, 33, 34, 9] := by rfl
def Z7 : LCode := (.seq (.reg [] [⟨some 6, some (.assign (.const (.slice none 0 0))), none⟩,
 ⟨some 7, some (.assign (.const (.bool false))), none⟩])
  (.seq (.seq (.reg [] [⟨some 18, some (.move (.tmp 0)), none⟩])
  (.block 0 (.seq (.seq (.reg [] [⟨some 20, some (.binOp .eql Zc (.tmp 18) (.const (.int .i64 12)) Zc), none⟩,
 ⟨some 19, some (.assign (.tmp 20)), none⟩])
  (.cond (.tmp 19) .skip
  (.seq (.reg [] [⟨some 21, some (.binOp .eql Zc (.tmp 18) (.const (.int .i64 13)) Zc), none⟩,
 ⟨some 19, some (.assign (.tmp 21)), none⟩])
  (.cond (.tmp 19) .skip
  (.seq (.reg [] [⟨some 22, some (.binOp .eql Zc (.tmp 18) (.const (.int .i64 14)) Zc), none⟩,
 ⟨some 19, some (.assign (.tmp 22)), none⟩])
  (.cond (.tmp 19) .skip
  (.seq (.reg [] [⟨some 23, some (.binOp .eql Zc (.tmp 18) (.const (.int .i64 15)) Zc), none⟩,
 ⟨some 19, some (.assign (.tmp 23)), none⟩])
  (.cond (.tmp 19) .skip
  (.seq (.reg [] [⟨some 24, some (.binOp .eql Zc (.tmp 18) (.const (.int .i64 16)) Zc), none⟩,
 ⟨some 19, some (.assign (.tmp 24)), none⟩])
  (.cond (.tmp 19) .skip
  (.reg [] [⟨some 25, some (.binOp .eql Zc (.tmp 18) (.const (.int .i64 17)) Zc), none⟩,
 ⟨some 19, some (.assign (.tmp 25)), none⟩])))))))))))
  (.cond (.tmp 19) (.seq (.reg [] [⟨some 26, some (.move (.tmp 1)), none⟩,
 ⟨some 27, some (.call ⟨(.builtin .len), #[.tmp 26], #[Zg]⟩), none⟩,
 ⟨some 28, some (.makeSlice Zg (.tmp 27) (.tmp 27)), none⟩,
 ⟨some 8, some (.assign (.tmp 28)), none⟩])
  (.seq (.seq (.reg [] [⟨some 9, some (.assign (.const (.int .i64 0))), none⟩])
  (.block 1 (.loop Zd1)))
  (.seq (.reg [] [⟨some 48, some (.move (.tmp 8)), none⟩,
 ⟨some 6, some (.assign (.tmp 48)), none⟩,
 ⟨some 7, some (.assign (.const (.bool true))), none⟩])
  .ret)))
  (.seq (.reg [] [⟨some 50, some (.binOp .eql Zc (.tmp 18) (.const (.int .i64 18)) Zc), none⟩,
 ⟨some 49, some (.assign (.tmp 50)), none⟩])
  (.cond (.tmp 49) (.seq (.reg [] [⟨some 51, some (.move (.tmp 1)), none⟩,
 ⟨some 52, some (.move (.tmp 2)), none⟩,
 ⟨some 53, some (.call ⟨(.value (.func Zb5)), #[(.tmp 51), (.tmp 52), (.const (.bool false))], #[Zg, Zg, Zi]⟩), none⟩,
 ⟨some 6, some (.assign (.tmp 53)), none⟩,
 ⟨some 7, some (.assign (.const (.bool true))), none⟩])
  .ret)
  (.seq (.reg [] [⟨some 55, some (.binOp .eql Zc (.tmp 18) (.const (.int .i64 19)) Zc), none⟩,
 ⟨some 54, some (.assign (.tmp 55)), none⟩])
  (.cond (.tmp 54) (.seq (.reg [] [⟨some 56, some (.move (.tmp 1)), none⟩,
 ⟨some 57, some (.move (.tmp 2)), none⟩,
 ⟨some 58, some (.call ⟨(.value (.func Zdx)), #[.tmp 56, .tmp 57], #[Zg, Zg]⟩), none⟩,
 ⟨some 6, some (.assign (.tmp 58)), none⟩,
 ⟨some 7, some (.assign (.const (.bool true))), none⟩])
  .ret)
  (.seq (.reg [] [⟨some 60, some (.binOp .eql Zc (.tmp 18) (.const (.int .i64 20)) Zc), none⟩,
 ⟨some 59, some (.assign (.tmp 60)), none⟩])
  (.cond (.tmp 59) (.seq (.reg [] [⟨some 61, some (.move (.tmp 1)), none⟩,
 ⟨some 62, some (.move (.tmp 2)), none⟩,
 ⟨some 63, some (.call ⟨(.value (.func Zem)), #[.tmp 61, .tmp 62], #[Zg, Zg]⟩), none⟩,
 ⟨some 6, some (.assign (.tmp 63)), none⟩,
 ⟨some 7, some (.assign (.const (.bool true))), none⟩])
  .ret)
  (.seq (.reg [] [⟨some 65, some (.binOp .eql Zc (.tmp 18) (.const (.int .i64 21)) Zc), none⟩,
 ⟨some 64, some (.assign (.tmp 65)), none⟩])
  (.cond (.tmp 64) (.seq (.reg [] [⟨some 67, some (.move (.tmp 1)), none⟩,
 ⟨some 68, some (.move (.tmp 2)), none⟩,
 ⟨some 69, some (.call ⟨(.value (.func Zb6)), #[.tmp 67, .tmp 68], #[Zg, Zg]⟩), none⟩,
 ⟨some 66, some (.move (.tmp 69)), none⟩,
 ⟨some 70, some (.extract (.tmp 66) 0), none⟩,
 ⟨some 71, some (.extract (.tmp 66) 1), none⟩,
 ⟨some 10, some (.assign (.tmp 70)), none⟩,
 ⟨some 11, some (.assign (.tmp 71)), none⟩])
  (.seq (.reg [] [⟨some 72, some (.move (.tmp 10)), none⟩,
 ⟨some 6, some (.assign (.tmp 72)), none⟩,
 ⟨some 7, some (.assign (.const (.bool true))), none⟩])
  .ret))
  (.seq (.reg [] [⟨some 74, some (.binOp .eql Zc (.tmp 18) (.const (.int .i64 22)) Zc), none⟩,
 ⟨some 73, some (.assign (.tmp 74)), none⟩])
  (.cond (.tmp 73) (.seq (.reg [] [⟨some 76, some (.move (.tmp 1)), none⟩,
 ⟨some 77, some (.move (.tmp 2)), none⟩,
 ⟨some 78, some (.call ⟨(.value (.func Zb6)), #[.tmp 76, .tmp 77], #[Zg, Zg]⟩), none⟩,
 ⟨some 75, some (.move (.tmp 78)), none⟩,
 ⟨some 79, some (.extract (.tmp 75) 0), none⟩,
 ⟨some 80, some (.extract (.tmp 75) 1), none⟩,
 ⟨some 12, some (.assign (.tmp 79)), none⟩,
 ⟨some 13, some (.assign (.tmp 80)), none⟩])
  (.seq (.reg [] [⟨some 81, some (.move (.tmp 13)), none⟩,
 ⟨some 6, some (.assign (.tmp 81)), none⟩,
 ⟨some 7, some (.assign (.const (.bool true))), none⟩])
  .ret))
  (.seq (.reg [] [⟨some 83, some (.binOp .eql Zc (.tmp 18) (.const (.int .i64 23)) Zc), none⟩,
 ⟨some 82, some (.assign (.tmp 83)), none⟩])
  (.cond (.tmp 82) (.seq (.reg [] [⟨some 85, some (.move (.tmp 1)), none⟩,
 ⟨some 86, some (.call ⟨(.value (.func Zb0)), #[.tmp 85], #[Zg]⟩), none⟩,
 ⟨some 87, some (.move (.tmp 2)), none⟩,
 ⟨some 88, some (.call ⟨(.value (.func Zb0)), #[.tmp 87], #[Zg]⟩), none⟩,
 ⟨some 89, some (.call ⟨(.value (.func Zb6)), #[.tmp 86, .tmp 88], #[Zg, Zg]⟩), none⟩,
 ⟨some 84, some (.move (.tmp 89)), none⟩,
 ⟨some 90, some (.extract (.tmp 84) 0), none⟩,
 ⟨some 91, some (.extract (.tmp 84) 1), none⟩,
 ⟨some 14, some (.assign (.tmp 90)), none⟩,
 ⟨some 15, some (.assign (.tmp 91)), none⟩])
  (.seq (.seq (.reg [] [⟨some 92, some (.move (.tmp 1)), none⟩,
 ⟨some 93, some (.call ⟨(.value (.func Z6)), #[.tmp 92], #[Zg]⟩), none⟩,
 ⟨some 94, some (.move (.tmp 2)), none⟩,
 ⟨some 95, some (.call ⟨(.value (.func Z6)), #[.tmp 94], #[Zg]⟩), none⟩,
 ⟨some 96, some (.binOp .neq Zi (.tmp 93) (.tmp 95) Zi), none⟩])
  (.cond (.tmp 96) (.reg [] [⟨some 97, some (.move (.tmp 14)), none⟩,
 ⟨some 98, some (.call ⟨(.value (.func Zck)), #[.tmp 97], #[Zg]⟩), none⟩,
 ⟨some 14, some (.assign (.tmp 98)), none⟩])
  .skip))
  (.seq (.reg [] [⟨some 99, some (.move (.tmp 14)), none⟩,
 ⟨some 6, some (.assign (.tmp 99)), none⟩,
 ⟨some 7, some (.assign (.const (.bool true))), none⟩])
  .ret)))
  (.seq (.reg [] [⟨some 101, some (.binOp .eql Zc (.tmp 18) (.const (.int .i64 24)) Zc), none⟩,
 ⟨some 100, some (.assign (.tmp 101)), none⟩])
  (.cond (.tmp 100) (.seq (.reg [] [⟨some 103, some (.move (.tmp 1)), none⟩,
 ⟨some 104, some (.call ⟨(.value (.func Zb0)), #[.tmp 103], #[Zg]⟩), none⟩,
 ⟨some 105, some (.move (.tmp 2)), none⟩,
 ⟨some 106, some (.call ⟨(.value (.func Zb0)), #[.tmp 105], #[Zg]⟩), none⟩,
 ⟨some 107, some (.call ⟨(.value (.func Zb6)), #[.tmp 104, .tmp 106], #[Zg, Zg]⟩), none⟩,
 ⟨some 102, some (.move (.tmp 107)), none⟩,
 ⟨some 108, some (.extract (.tmp 102) 0), none⟩,
 ⟨some 109, some (.extract (.tmp 102) 1), none⟩,
 ⟨some 16, some (.assign (.tmp 108)), none⟩,
 ⟨some 17, some (.assign (.tmp 109)), none⟩])
  (.seq (.seq (.reg [] [⟨some 110, some (.move (.tmp 1)), none⟩,
 ⟨some 111, some (.call ⟨(.value (.func Z6)), #[.tmp 110], #[Zg]⟩), none⟩])
  (.cond (.tmp 111) (.reg [] [⟨some 112, some (.move (.tmp 17)), none⟩,
 ⟨some 113, some (.call ⟨(.value (.func Zck)), #[.tmp 112], #[Zg]⟩), none⟩,
 ⟨some 17, some (.assign (.tmp 113)), none⟩])
  .skip))
  (.seq (.reg [] [⟨some 114, some (.move (.tmp 17)), none⟩,
 ⟨some 6, some (.assign (.tmp 114)), none⟩,
 ⟨some 7, some (.assign (.const (.bool true))), none⟩])
  .ret)))
  (.seq (.reg [] [⟨some 116, some (.binOp .eql Zc (.tmp 18) (.const (.int .i64 25)) Zc), none⟩,
 ⟨some 115, some (.assign (.tmp 116)), none⟩])
  (.cond (.tmp 115) (.seq (.reg [] [⟨some 117, some (.move (.tmp 1)), none⟩,
 ⟨some 118, some (.move (.tmp 2)), none⟩,
 ⟨some 119, some (.call ⟨(.value (.func Zew)), #[.tmp 117, .tmp 118], #[Zg, Zg]⟩), none⟩,
 ⟨some 6, some (.assign (.tmp 119)), none⟩,
 ⟨some 7, some (.assign (.const (.bool true))), none⟩])
  .ret)
  (.seq (.reg [] [⟨some 121, some (.binOp .eql Zc (.tmp 18) (.const (.int .i64 26)) Zc), none⟩,
 ⟨some 120, some (.assign (.tmp 121)), none⟩])
  (.cond (.tmp 120) (.seq (.reg [] [⟨some 122, some (.move (.tmp 1)), none⟩,
 ⟨some 123, some (.move (.tmp 2)), none⟩,
 ⟨some 124, some (.call ⟨(.value (.func Zcm)), #[.tmp 123], #[Zg]⟩), none⟩,
 ⟨some 125, some (.call ⟨(.value (.func Zcz)), #[.tmp 122, .tmp 124], #[Zg, Zc]⟩), none⟩,
 ⟨some 6, some (.assign (.tmp 125)), none⟩,
 ⟨some 7, some (.assign (.const (.bool true))), none⟩])
  .ret)
  (.seq (.reg [] [⟨some 127, some (.binOp .eql Zc (.tmp 18) (.const (.int .i64 27)) Zc), none⟩,
 ⟨some 126, some (.assign (.tmp 127)), none⟩])
  (.cond (.tmp 126) (.seq (.reg [] [⟨some 128, some (.move (.tmp 1)), none⟩,
 ⟨some 129, some (.move (.tmp 2)), none⟩,
 ⟨some 130, some (.call ⟨(.value (.func Zcm)), #[.tmp 129], #[Zg]⟩), none⟩,
 ⟨some 131, some (.call ⟨(.value (.func Zda)), #[(.tmp 128), (.tmp 130), (.const (.bool false))], #[Zg, Zc, Zi]⟩), none⟩,
 ⟨some 6, some (.assign (.tmp 131)), none⟩,
 ⟨some 7, some (.assign (.const (.bool true))), none⟩])
  .ret)
  (.seq (.reg [] [⟨some 133, some (.binOp .eql Zc (.tmp 18) (.const (.int .i64 28)) Zc), none⟩,
 ⟨some 132, some (.assign (.tmp 133)), none⟩])
  (.cond (.tmp 132) (.seq (.reg [] [⟨some 134, some (.move (.tmp 1)), none⟩,
 ⟨some 135, some (.move (.tmp 2)), none⟩,
 ⟨some 136, some (.call ⟨(.value (.func Zcm)), #[.tmp 135], #[Zg]⟩), none⟩,
 ⟨some 137, some (.move (.tmp 1)), none⟩,
 ⟨some 138, some (.call ⟨(.value (.func Z6)), #[.tmp 137], #[Zg]⟩), none⟩,
 ⟨some 139, some (.call ⟨(.value (.func Zda)), #[.tmp 134, .tmp 136, .tmp 138], #[Zg, Zc, Zi]⟩), none⟩,
 ⟨some 6, some (.assign (.tmp 139)), none⟩,
 ⟨some 7, some (.assign (.const (.bool true))), none⟩])
  .ret)
  .skip))))))))))))))))))))))))))
  (.seq (.reg [] [⟨some 6, some (.assign (.const (.slice none 0 0))), none⟩,
 ⟨some 7, some (.assign (.const (.bool false))), none⟩])
  .ret)))
theorem Zjv {a0 a1 a2 : AV} {H : AHeap} : R Zds [a0, a1, a2] H = fnK Tryz.prog [0, 0] H [(.tmp 6), (.tmp 7)] (evalL Tryz.prog KT R Z7 (Env.args [a0, a1, a2] 0) H) :=
  runs_body (D := DT) (f := Zds) Tryz.func81 (by kernel_rfl) (by kernel_rfl) (by kernel_rfl) (by kernel_rfl) (by kernel_rfl) (Nat.le_of_ble_eq_true rfl)
def Zhn : LCode := (.seq (.reg [] [⟨some 2, some (.assign (.const (.slice none 0 0))), none⟩])
  (.seq (.reg [] [⟨some 4, some (.move (.tmp 0)), none⟩,
 ⟨some 5, some (.call ⟨(.builtin .append), #[(.const (.slice none 0 0)), (.tmp 4)], #[Zg, Zg]⟩), none⟩,
 ⟨some 3, some (.assign (.tmp 5)), none⟩])
  (.seq (.reg [] [⟨some 6, some (.move (.tmp 3)), none⟩,
 ⟨some 7, some (.move (.tmp 3)), none⟩,
 ⟨some 8, some (.call ⟨(.builtin .len), #[.tmp 7], #[Zg]⟩), none⟩,
 ⟨some 9, some (.binOp .sub Zc (.tmp 8) (.const (.int .i64 1)) Zc), none⟩,
 ⟨some 10, some (.move (.tmp 3)), none⟩,
 ⟨some 11, some (.move (.tmp 3)), none⟩,
 ⟨some 12, some (.call ⟨(.builtin .len), #[.tmp 11], #[Zg]⟩), none⟩,
 ⟨some 13, some (.binOp .sub Zc (.tmp 12) (.const (.int .i64 1)) Zc), none⟩,
 ⟨some 14, some (.indexAddr Zg (.tmp 10) (.tmp 13)), none⟩,
 ⟨some 15, some (.load Zi (.tmp 14)), none⟩,
 ⟨some 16, some (.unOp .not Zi (.tmp 15)), none⟩,
 ⟨some 17, some (.indexAddr Zg (.tmp 6) (.tmp 9)), none⟩,
 ⟨none, some (.store Zi (.tmp 17) (.tmp 16)), none⟩])
  (.seq (.reg [] [⟨some 18, some (.move (.tmp 3)), none⟩,
 ⟨some 2, some (.assign (.tmp 18)), none⟩])
  .ret))))
theorem Zje {a0 : AV} {H : AHeap} : R Zcl [a0] H = fnK Tryz.prog [0] H [(.tmp 2)] (evalL Tryz.prog KT R Zhn (Env.args [a0] 0) H) :=
  runs_body (D := DT) (f := Zcl) Tryz.func82 (by kernel_rfl) (by kernel_rfl) (by kernel_rfl) (by kernel_rfl) (by kernel_rfl) (Nat.le_of_ble_eq_true rfl)
def Zfy : LCode := (.seq (.seq (.reg [] [⟨some 9, some (.move (.tmp 5)), none⟩,
 ⟨some 10, some (.binOp .geq Zc (.tmp 9) (.const (.int .i64 0)) Zc), none⟩])
  (.cond (.tmp 10) .skip
  (.exit 0)))
  (.seq (.block 1 (.seq (.reg [] [⟨some 13, some (.move (.tmp 0)), none⟩,
 ⟨some 14, some (.move (.tmp 5)), none⟩,
 ⟨some 15, some (.indexAddr Zg (.tmp 13) (.tmp 14)), none⟩,
 ⟨some 16, some (.load Zi (.tmp 15)), none⟩,
 ⟨some 17, some (.move (.tmp 1)), none⟩,
 ⟨some 18, some (.move (.tmp 5)), none⟩,
 ⟨some 19, some (.indexAddr Zg (.tmp 17) (.tmp 18)), none⟩,
 ⟨some 20, some (.load Zi (.tmp 19)), none⟩,
 ⟨some 21, some (.binOp .neq Zi (.tmp 16) (.tmp 20) Zi), none⟩])
  (.cond (.tmp 21) (.seq (.reg [] [⟨some 22, some (.move (.tmp 1)), none⟩,
 ⟨some 23, some (.move (.tmp 5)), none⟩,
 ⟨some 24, some (.indexAddr Zg (.tmp 22) (.tmp 23)), none⟩,
 ⟨some 25, some (.load Zi (.tmp 24)), none⟩,
 ⟨some 4, some (.assign (.tmp 25)), none⟩])
  .ret)
  .skip)))
  (.reg [] [⟨some 11, some (.move (.tmp 5)), none⟩,
 ⟨some 12, some (.binOp .sub Zc (.tmp 11) (.const (.int .i64 1)) Zc), none⟩,
 ⟨some 5, some (.assign (.tmp 12)), none⟩])))
@[simp] theorem Zl2 : defs Zfy = [9, 10, 13, 14, 15, 16, 17, 18, 19, 20, 21, 22, 23, 24, 25, 4, 11, 12, 5] := by rfl
def Zhw : LCode := (.seq (.reg [] [⟨some 4, some (.assign (.const (.bool false))), none⟩])
  (.seq (.seq (.reg [] [⟨some 6, some (.move (.tmp 0)), none⟩,
 ⟨some 7, some (.call ⟨(.builtin .len), #[.tmp 6], #[Zg]⟩), none⟩,
 ⟨some 8, some (.binOp .sub Zc (.tmp 7) (.const (.int .i64 1)) Zc), none⟩,
 ⟨some 5, some (.assign (.tmp 8)), none⟩])
  (.block 0 (.loop Zfy)))
  (.seq (.reg [] [⟨some 4, some (.assign (.const (.bool false))), none⟩])
  .ret)))
theorem Zjw {a0 a1 : AV} {H : AHeap} : R Zb1 [a0, a1] H = fnK Tryz.prog [] H [(.tmp 4)] (evalL Tryz.prog KT R Zhw (Env.args [a0, a1] 0) H) :=
  runs_body (D := DT) (f := Zb1) Tryz.func83 (by kernel_rfl) (by kernel_rfl) (by kernel_rfl) (by kernel_rfl) (by kernel_rfl) (Nat.le_of_ble_eq_true rfl)
def Zl3 : LCode := (.seq (.reg [] [⟨some 2, some (.alloc Zb), none⟩])
  (.seq (.reg [] [⟨some 3, some (.build Zb #[]), none⟩,
 ⟨some 4, some (.call ⟨(.value (.func Z5)), #[.tmp 3], #[Zb]⟩), none⟩,
 ⟨some 5, some (.move (.tmp 0)), none⟩,
 ⟨some 6, some (.binOp .sub Zc (.const (.int .i64 128)) (.tmp 5) Zc), none⟩,
 ⟨some 7, some (.call ⟨(.value (.func Zx)), #[.tmp 4, .tmp 6], #[Zb, Zc]⟩), none⟩,
 ⟨none, some (.store Zb (.tmp 2) (.tmp 7)), none⟩])
  .ret))
theorem Zm4 {a0 : AV} {H : AHeap} : R Zf8 [a0] H = fnK Tryz.prog [] H [(.cell 2 Zb)] (evalL Tryz.prog KT R Zl3 (Env.args [a0] 0) H) :=
  runs_body (D := DT) (f := Zf8) Tryz.func84 (by kernel_rfl) (by kernel_rfl) (by kernel_rfl) (by kernel_rfl) (by kernel_rfl) (Nat.le_of_ble_eq_true rfl)
def Zbt : LCode := (.seq (.reg [] [⟨some 9, some (.binOp .lss Zc (.tmp 8) (.tmp 7) Zc), none⟩])
  (.seq (.cond (.tmp 9) .skip
  (.exit 0))
  (.seq (.block 1 (.seq (.reg [] [⟨some 10, some (.move (.tmp 8)), none⟩,
 ⟨some 5, some (.assign (.tmp 10)), none⟩])
  (.seq (.reg [] [⟨some 11, some (.move (.tmp 1)), none⟩,
 ⟨some 12, some (.move (.tmp 0)), none⟩,
 ⟨some 13, some (.move (.tmp 5)), none⟩,
 ⟨some 14, some (.indexAddr Zk (.tmp 12) (.tmp 13)), none⟩,
 ⟨some 15, some (.load Zc (.tmp 14)), none⟩,
 ⟨some 16, some (.call ⟨(.value (.tmp 11)), #[.tmp 15], #[Zc]⟩), none⟩])
  (.cond (.tmp 16) (.seq (.reg [] [⟨some 17, some (.move (.tmp 5)), none⟩,
 ⟨some 4, some (.assign (.tmp 17)), none⟩])
  .ret)
  .skip))))
  (.reg [] [⟨some 18, some (.binOp .add Zc (.tmp 8) (.const (.int .i64 1)) Zc), none⟩,
 ⟨some 8, some (.move (.tmp 18)), none⟩]))))
@[simp] theorem Zj3 : defs Zbt = [9, 10, 5, 11, 12, 13, 14, 15, 16, 17, 4, 18, 8] := by rfl
def Zfp : LCode := (.seq (.reg [] [⟨some 4, some (.assign (.const (.int .i64 0))), none⟩])
  (.seq (.seq (.reg [] [⟨some 6, some (.move (.tmp 0)), none⟩,
 ⟨some 7, some (.call ⟨(.builtin .len), #[.tmp 6], #[Zk]⟩), none⟩,
 ⟨some 8, some (.move (.const (.int .i64 0))), none⟩])
  (.block 0 (.loop Zbt)))
  (.seq (.reg [] [⟨some 4, some (.assign (.const (.int .i64 (-1)))), none⟩])
  .ret)))
theorem Zhj {a0 a1 : AV} {H : AHeap} : R Zcs [a0, a1] H = fnK Tryz.prog [] H [(.tmp 4)] (evalL Tryz.prog KT R Zfp (Env.args [a0, a1] 0) H) :=
  runs_body (D := DT) (f := Zcs) Tryz.func85 (by kernel_rfl) (by kernel_rfl) (by kernel_rfl) (by kernel_rfl) (by kernel_rfl) (Nat.le_of_ble_eq_true rfl)
def Zby : LCode := (.seq (.reg [] [⟨some 8, some (.assign (.const (.int .i64 0))), none⟩,
 ⟨some 9, some (.assign (.const (.bool false))), none⟩])
  (.seq (.seq (.reg [] [⟨some 10, some (.move (.tmp 0)), none⟩])
  (.block 0 (.seq (.reg [] [⟨some 12, some (.binOp .eql Zc (.tmp 10) (.const (.int .i64 39)) Zc), none⟩,
 ⟨some 11, some (.assign (.tmp 12)), none⟩])
  (.cond (.tmp 11) (.seq (.reg [] [⟨some 13, some (.move (.tmp 1)), none⟩,
 ⟨some 14, some (.move (.tmp 2)), none⟩,
 ⟨some 15, some (.binOp .sub Zc (.tmp 13) (.tmp 14) Zc), none⟩,
 ⟨some 16, some (.binOp .add Zc (.tmp 15) (.const (.int .i64 1)) Zc), none⟩,
 ⟨some 17, some (.move (.tmp 2)), none⟩,
 ⟨some 18, some (.binOp .geq Zc (.tmp 17) (.const (.int .i64 0)) Zc), none⟩,
 ⟨some 19, some (.move (.tmp 18)), none⟩,
 ⟨some 20, some (.move (.tmp 1)), some (some 19, true)⟩,
 ⟨some 21, some (.move (.tmp 2)), some (some 19, true)⟩,
 ⟨some 22, some (.binOp .geq Zc (.tmp 20) (.tmp 21) Zc), some (some 19, true)⟩,
 ⟨some 23, some (.pick (.tmp 19) (.tmp 22) (.const (.bool false))), none⟩,
 ⟨some 24, some (.move (.tmp 23)), none⟩,
 ⟨some 25, some (.move (.tmp 1)), some (some 24, true)⟩,
 ⟨some 26, some (.move (.tmp 3)), some (some 24, true)⟩,
 ⟨some 27, some (.binOp .lss Zc (.tmp 25) (.tmp 26) Zc), some (some 24, true)⟩,
 ⟨some 28, some (.pick (.tmp 24) (.tmp 27) (.const (.bool false))), none⟩,
 ⟨some 8, some (.assign (.tmp 16)), none⟩,
 ⟨some 9, some (.assign (.tmp 28)), none⟩])
  .ret)
  (.seq (.seq (.reg [] [⟨some 30, some (.binOp .eql Zc (.tmp 10) (.const (.int .i64 42)) Zc), none⟩,
 ⟨some 29, some (.assign (.tmp 30)), none⟩])
  (.cond (.tmp 29) .skip
  (.reg [] [⟨some 31, some (.binOp .eql Zc (.tmp 10) (.const (.int .i64 43)) Zc), none⟩,
 ⟨some 29, some (.assign (.tmp 31)), none⟩])))
  (.cond (.tmp 29) (.seq (.reg [] [⟨some 32, some (.move (.tmp 3)), none⟩,
 ⟨some 33, some (.move (.tmp 1)), none⟩,
 ⟨some 34, some (.binOp .geq Zc (.tmp 33) (.const (.int .i64 0)) Zc), none⟩,
 ⟨some 35, some (.move (.tmp 34)), none⟩,
 ⟨some 36, some (.move (.tmp 2)), some (some 35, true)⟩,
 ⟨some 37, some (.binOp .eql Zc (.tmp 36) (.const (.int .i64 0)) Zc), some (some 35, true)⟩,
 ⟨some 38, some (.pick (.tmp 35) (.tmp 37) (.const (.bool false))), none⟩,
 ⟨some 8, some (.assign (.tmp 32)), none⟩,
 ⟨some 9, some (.assign (.tmp 38)), none⟩])
  .ret)
  (.seq (.reg [] [⟨some 40, some (.binOp .eql Zc (.tmp 10) (.const (.int .i64 44)) Zc), none⟩,
 ⟨some 39, some (.assign (.tmp 40)), none⟩])
  (.cond (.tmp 39) (.seq (.reg [] [⟨some 41, some (.move (.tmp 3)), none⟩,
 ⟨some 42, some (.move (.tmp 1)), none⟩,
 ⟨some 43, some (.call ⟨(.builtin .min), #[(.tmp 42), (.const (.int .i64 129))], #[Zc, Zc]⟩), none⟩,
 ⟨some 44, some (.binOp .mul Zc (.tmp 41) (.tmp 43) Zc), none⟩,
 ⟨some 45, some (.move (.tmp 1)), none⟩,
 ⟨some 46, some (.binOp .geq Zc (.tmp 45) (.const (.int .i64 1)) Zc), none⟩,
 ⟨some 47, some (.move (.tmp 46)), none⟩,
 ⟨some 48, some (.move (.tmp 2)), some (some 47, true)⟩,
 ⟨some 49, some (.binOp .eql Zc (.tmp 48) (.const (.int .i64 0)) Zc), some (some 47, true)⟩,
 ⟨some 50, some (.pick (.tmp 47) (.tmp 49) (.const (.bool false))), none⟩,
 ⟨some 8, some (.assign (.tmp 44)), none⟩,
 ⟨some 9, some (.assign (.tmp 50)), none⟩])
  .ret)
  .skip))))))))
  (.seq (.reg [] [⟨some 51, some (.move (.tmp 3)), none⟩,
 ⟨some 52, some (.move (.tmp 1)), none⟩,
 ⟨some 53, some (.call ⟨(.builtin .max), #[(.tmp 52), (.const (.int .i64 0))], #[Zc, Zc]⟩), none⟩,
 ⟨some 54, some (.call ⟨(.builtin .min), #[(.tmp 53), (.const (.int .i64 128))], #[Zc, Zc]⟩), none⟩,
 ⟨some 55, some (.binOp .add Zc (.tmp 51) (.tmp 54) Zc), none⟩,
 ⟨some 56, some (.move (.tmp 1)), none⟩,
 ⟨some 57, some (.binOp .geq Zc (.tmp 56) (.const (.int .i64 0)) Zc), none⟩,
 ⟨some 58, some (.move (.tmp 57)), none⟩,
 ⟨some 59, some (.move (.tmp 2)), some (some 58, true)⟩,
 ⟨some 60, some (.binOp .eql Zc (.tmp 59) (.const (.int .i64 0)) Zc), some (some 58, true)⟩,
 ⟨some 61, some (.pick (.tmp 58) (.tmp 60) (.const (.bool false))), none⟩,
 ⟨some 8, some (.assign (.tmp 55)), none⟩,
 ⟨some 9, some (.assign (.tmp 61)), none⟩])
  .ret)))
theorem Zku {a0 a1 a2 a3 : AV} {H : AHeap} : R Zf9 [a0, a1, a2, a3] H = fnK Tryz.prog [] H [(.tmp 8), (.tmp 9)] (evalL Tryz.prog KT R Zby (Env.args [a0, a1, a2, a3] 0) H) :=
  runs_body (D := DT) (f := Zf9) Tryz.func86 (by kernel_rfl) (by kernel_rfl) (by kernel_rfl) (by kernel_rfl) (by kernel_rfl) (Nat.le_of_ble_eq_true rfl)
def Zi9 : LCode := (.seq (.reg [] [⟨some 7, some (.alloc Za), none⟩,
 ⟨some 8, some (.assign (.const (.int .i64 0))), none⟩])
  (.seq (.reg [] [⟨some 9, some (.load Zjb (.tmp 3)), none⟩,
 ⟨some 10, some (.move (.tmp 2)), none⟩,
 ⟨some 11, some (.call ⟨(.value (.tmp 9)), #[.tmp 10], #[Zf]⟩), none⟩,
 ⟨some 12, some (.call ⟨(.value (.func Zga)), #[.tmp 11], #[Zi]⟩), none⟩,
 ⟨none, some (.store Za (.tmp 7) (.tmp 12)), none⟩,
 ⟨some 8, some (.assign (.const (.int .i64 0))), none⟩])
  .ret))
theorem Zlb {a0 a1 a2 a3 : AV} {H : AHeap} : R Zb4 [a0, a1, a2, a3] H = fnK Tryz.prog [] H [(.cell 7 Za), (.tmp 8)] (evalL Tryz.prog KT R Zi9 (Env.args [a0, a1, a2, a3] 0) H) :=
  runs_body (D := DT) (f := Zb4) Tryz.func87 (by kernel_rfl) (by kernel_rfl) (by kernel_rfl) (by kernel_rfl) (by kernel_rfl) (Nat.le_of_ble_eq_true rfl)
def Zkv : LCode := (.seq (.reg [] [⟨some 2, some (.alloc Za), none⟩])
  (.seq (.seq (.reg [] [⟨some 3, some (.move (.tmp 0)), none⟩])
  (.cond (.tmp 3) (.seq (.reg [] [⟨some 4, some (.build Za #[(1, (.const (.int .u64 1)))]), none⟩,
 ⟨none, some (.store Za (.tmp 2) (.tmp 4)), none⟩])
  .ret)
  .skip))
  (.seq (.reg [] [⟨some 5, some (.build Za #[]), none⟩,
 ⟨none, some (.store Za (.tmp 2) (.tmp 5)), none⟩])
  .ret)))
theorem Zl4 {a0 : AV} {H : AHeap} : R Zga [a0] H = fnK Tryz.prog [] H [(.cell 2 Za)] (evalL Tryz.prog KT R Zkv (Env.args [a0] 0) H) :=
  runs_body (D := DT) (f := Zga) Tryz.func88 (by kernel_rfl) (by kernel_rfl) (by kernel_rfl) (by kernel_rfl) (by kernel_rfl) (Nat.le_of_ble_eq_true rfl)
def Zjf : LCode := (.seq (.reg [] [⟨some 1, some (.box Za (.tmp 0)), none⟩,
 ⟨some 2, some (.assign (.const (.bool false))), none⟩])
  (.seq (.reg [] [⟨some 3, some (.fieldAddr Za (.tmp 1) 0), none⟩,
 ⟨some 4, some (.load Zc (.tmp 3)), none⟩,
 ⟨some 5, some (.binOp .neq Zc (.tmp 4) (.const (.int .i64 0)) Zc), none⟩,
 ⟨some 6, some (.move (.tmp 5)), none⟩,
 ⟨some 7, some (.load Za (.tmp 1)), some (some 6, true)⟩,
 ⟨some 8, some (.call ⟨(.value (.func Ze1)), #[.tmp 7], #[Za]⟩), some (some 6, true)⟩,
 ⟨some 9, some (.pick (.tmp 6) (.tmp 8) (.const (.bool false))), none⟩,
 ⟨some 2, some (.assign (.tmp 9)), none⟩])
  .ret))
theorem Zl5 {a0 : AV} {H : AHeap} : R Zdw [a0] H = fnK Tryz.prog [] H [(.tmp 2)] (evalL Tryz.prog KT R Zjf (Env.args [a0] 0) H) :=
  runs_body (D := DT) (f := Zdw) Tryz.func89 (by kernel_rfl) (by kernel_rfl) (by kernel_rfl) (by kernel_rfl) (by kernel_rfl) (Nat.le_of_ble_eq_true rfl)
def Zgs : LCode := (.seq (.reg [] [⟨some 1, some (.box Zb (.tmp 0)), none⟩,
 ⟨some 2, some (.alloc Zb), none⟩])
  (.seq (.reg [] [⟨some 3, some (.fieldAddr Zb (.tmp 1) 0), none⟩,
 ⟨some 4, some (.load Ze (.tmp 3)), none⟩,
 ⟨some 5, some (.unOp .xor Ze (.tmp 4)), none⟩,
 ⟨some 6, some (.fieldAddr Zb (.tmp 1) 1), none⟩,
 ⟨some 7, some (.load Ze (.tmp 6)), none⟩,
 ⟨some 8, some (.unOp .xor Ze (.tmp 7)), none⟩,
 ⟨some 9, some (.build Zb #[(0, (.tmp 5)), (1, (.tmp 8))]), none⟩,
 ⟨none, some (.store Zb (.tmp 2) (.tmp 9)), none⟩])
  .ret))
theorem Zio {a0 : AV} {H : AHeap} : R Z5 [a0] H = fnK Tryz.prog [] H [(.cell 2 Zb)] (evalL Tryz.prog KT R Zgs (Env.args [a0] 0) H) :=
  runs_body (D := DT) (f := Z5) Tryz.func90 (by kernel_rfl) (by kernel_rfl) (by kernel_rfl) (by kernel_rfl) (by kernel_rfl) (Nat.le_of_ble_eq_true rfl)
def Zgt : LCode := (.seq (.reg [] [⟨some 1, some (.box Zb (.tmp 0)), none⟩,
 ⟨some 2, some (.alloc Zb), none⟩])
  (.seq (.reg [] [⟨some 3, some (.load Zb (.tmp 1)), none⟩,
 ⟨some 4, some (.call ⟨(.value (.func Z5)), #[.tmp 3], #[Zb]⟩), none⟩,
 ⟨some 5, some (.build Zb #[(0, (.const (.int .u64 1)))]), none⟩,
 ⟨some 6, some (.call ⟨(.value (.func Zbc)), #[.tmp 4, .tmp 5], #[Zb, Zb]⟩), none⟩,
 ⟨none, some (.store Zb (.tmp 2) (.tmp 6)), none⟩])
  .ret))
theorem Zip {a0 : AV} {H : AHeap} : R Zbb [a0] H = fnK Tryz.prog [] H [(.cell 2 Zb)] (evalL Tryz.prog KT R Zgt (Env.args [a0] 0) H) :=
  runs_body (D := DT) (f := Zbb) Tryz.func91 (by kernel_rfl) (by kernel_rfl) (by kernel_rfl) (by kernel_rfl) (by kernel_rfl) (Nat.le_of_ble_eq_true rfl)
def Ze8 : LCode := (.seq (.reg [] [⟨some 2, some (.box Zb (.tmp 0)), none⟩,
 ⟨some 4, some (.alloc Zb), none⟩])
  (.seq (.seq (.reg [] [⟨some 5, some (.move (.tmp 1)), none⟩,
 ⟨some 6, some (.binOp .geq Zc (.tmp 5) (.const (.int .i64 64)) Zc), none⟩])
  (.cond (.tmp 6) (.seq (.reg [] [⟨some 7, some (.fieldAddr Zb (.tmp 2) 0), none⟩,
 ⟨some 8, some (.load Ze (.tmp 7)), none⟩,
 ⟨some 9, some (.move (.tmp 1)), none⟩,
 ⟨some 10, some (.binOp .sub Zc (.tmp 9) (.const (.int .i64 64)) Zc), none⟩,
 ⟨some 11, some (.convert Zc Zfo (.tmp 10)), none⟩,
 ⟨some 12, some (.binOp .shl Ze (.tmp 8) (.tmp 11) Zfo), none⟩,
 ⟨some 13, some (.build Zb #[(0, (.const (.int .u64 0))), (1, (.tmp 12))]), none⟩,
 ⟨none, some (.store Zb (.tmp 4) (.tmp 13)), none⟩])
  .ret)
  .skip))
  (.seq (.reg [] [⟨some 14, some (.fieldAddr Zb (.tmp 2) 0), none⟩,
 ⟨some 15, some (.load Ze (.tmp 14)), none⟩,
 ⟨some 16, some (.move (.tmp 1)), none⟩,
 ⟨some 17, some (.convert Zc Zfo (.tmp 16)), none⟩,
 ⟨some 18, some (.binOp .shl Ze (.tmp 15) (.tmp 17) Zfo), none⟩,
 ⟨some 19, some (.fieldAddr Zb (.tmp 2) 1), none⟩,
 ⟨some 20, some (.load Ze (.tmp 19)), none⟩,
 ⟨some 21, some (.move (.tmp 1)), none⟩,
 ⟨some 22, some (.convert Zc Zfo (.tmp 21)), none⟩,
 ⟨some 23, some (.binOp .shl Ze (.tmp 20) (.tmp 22) Zfo), none⟩,
 ⟨some 24, some (.fieldAddr Zb (.tmp 2) 0), none⟩,
 ⟨some 25, some (.load Ze (.tmp 24)), none⟩,
 ⟨some 26, some (.move (.tmp 1)), none⟩,
 ⟨some 27, some (.binOp .sub Zc (.const (.int .i64 64)) (.tmp 26) Zc), none⟩,
 ⟨some 28, some (.convert Zc Zfo (.tmp 27)), none⟩,
 ⟨some 29, some (.binOp .shr Ze (.tmp 25) (.tmp 28) Zfo), none⟩,
 ⟨some 30, some (.binOp .or Ze (.tmp 23) (.tmp 29) Ze), none⟩,
 ⟨some 31, some (.build Zb #[(0, (.tmp 18)), (1, (.tmp 30))]), none⟩,
 ⟨none, some (.store Zb (.tmp 4) (.tmp 31)), none⟩])
  .ret)))
theorem Zif {a0 a1 : AV} {H : AHeap} : R Z1 [a0, a1] H = fnK Tryz.prog [] H [(.cell 4 Zb)] (evalL Tryz.prog KT R Ze8 (Env.args [a0, a1] 0) H) :=
  runs_body (D := DT) (f := Z1) Tryz.func92 (by kernel_rfl) (by kernel_rfl) (by kernel_rfl) (by kernel_rfl) (by kernel_rfl) (Nat.le_of_ble_eq_true rfl)
def Zet : LCode := (.seq (.reg [] [⟨some 2, some (.box Zb (.tmp 0)), none⟩,
 ⟨some 4, some (.alloc Zb), none⟩])
  (.seq (.seq (.reg [] [⟨some 5, some (.move (.tmp 1)), none⟩,
 ⟨some 6, some (.binOp .geq Zc (.tmp 5) (.const (.int .i64 64)) Zc), none⟩])
  (.cond (.tmp 6) (.seq (.reg [] [⟨some 7, some (.fieldAddr Zb (.tmp 2) 1), none⟩,
 ⟨some 8, some (.load Ze (.tmp 7)), none⟩,
 ⟨some 9, some (.move (.tmp 1)), none⟩,
 ⟨some 10, some (.binOp .sub Zc (.tmp 9) (.const (.int .i64 64)) Zc), none⟩,
 ⟨some 11, some (.convert Zc Zfo (.tmp 10)), none⟩,
 ⟨some 12, some (.binOp .shr Ze (.tmp 8) (.tmp 11) Zfo), none⟩,
 ⟨some 13, some (.build Zb #[(0, (.tmp 12)), (1, (.const (.int .u64 0)))]), none⟩,
 ⟨none, some (.store Zb (.tmp 4) (.tmp 13)), none⟩])
  .ret)
  .skip))
  (.seq (.reg [] [⟨some 14, some (.fieldAddr Zb (.tmp 2) 0), none⟩,
 ⟨some 15, some (.load Ze (.tmp 14)), none⟩,
 ⟨some 16, some (.move (.tmp 1)), none⟩,
 ⟨some 17, some (.convert Zc Zfo (.tmp 16)), none⟩,
 ⟨some 18, some (.binOp .shr Ze (.tmp 15) (.tmp 17) Zfo), none⟩,
 ⟨some 19, some (.fieldAddr Zb (.tmp 2) 1), none⟩,
 ⟨some 20, some (.load Ze (.tmp 19)), none⟩,
 ⟨some 21, some (.move (.tmp 1)), none⟩,
 ⟨some 22, some (.binOp .sub Zc (.const (.int .i64 64)) (.tmp 21) Zc), none⟩,
 ⟨some 23, some (.convert Zc Zfo (.tmp 22)), none⟩,
 ⟨some 24, some (.binOp .shl Ze (.tmp 20) (.tmp 23) Zfo), none⟩,
 ⟨some 25, some (.binOp .or Ze (.tmp 18) (.tmp 24) Ze), none⟩,
 ⟨some 26, some (.fieldAddr Zb (.tmp 2) 1), none⟩,
 ⟨some 27, some (.load Ze (.tmp 26)), none⟩,
 ⟨some 28, some (.move (.tmp 1)), none⟩,
 ⟨some 29, some (.convert Zc Zfo (.tmp 28)), none⟩,
 ⟨some 30, some (.binOp .shr Ze (.tmp 27) (.tmp 29) Zfo), none⟩,
 ⟨some 31, some (.build Zb #[(0, (.tmp 25)), (1, (.tmp 30))]), none⟩,
 ⟨none, some (.store Zb (.tmp 4) (.tmp 31)), none⟩])
  .ret)))
theorem Zh7 {a0 a1 : AV} {H : AHeap} : R Zx [a0, a1] H = fnK Tryz.prog [] H [(.cell 4 Zb)] (evalL Tryz.prog KT R Zet (Env.args [a0, a1] 0) H) :=
  runs_body (D := DT) (f := Zx) Tryz.func93 (by kernel_rfl) (by kernel_rfl) (by kernel_rfl) (by kernel_rfl) (by kernel_rfl) (Nat.le_of_ble_eq_true rfl)
def Zlj : LCode := (.seq (.reg [] [⟨some 1, some (.box Za (.tmp 0)), none⟩,
 ⟨some 2, some (.assign (.const (.bool false))), none⟩])
  (.seq (.reg [1] [⟨some 3, some (.load Za (.tmp 1)), none⟩,
 ⟨some 4, some (.call ⟨(.value (.func Zcv)), #[.tmp 3], #[Za]⟩), none⟩,
 ⟨some 5, some (.fieldAddr Za (.tmp 1) 0), none⟩,
 ⟨some 6, some (.load Zc (.tmp 5)), none⟩,
 ⟨some 7, some (.binOp .sub Zc (.tmp 6) (.const (.int .i64 1)) Zc), none⟩,
 ⟨some 8, some (.call ⟨(.value (.func Zce)), #[.tmp 4, .tmp 7], #[Zb, Zc]⟩), none⟩,
 ⟨some 2, some (.assign (.tmp 8)), none⟩])
  .ret))
theorem Zmy {a0 : AV} {H : AHeap} : R Zcp [a0] H = fnK Tryz.prog [] H [(.tmp 2)] (evalL Tryz.prog KT R Zlj (Env.args [a0] 0) H) :=
  runs_body (D := DT) (f := Zcp) Tryz.func94 (by kernel_rfl) (by kernel_rfl) (by kernel_rfl) (by kernel_rfl) (by kernel_rfl) (Nat.le_of_ble_eq_true rfl)
def Zfj : LCode := (.seq (.reg [] [⟨some 4, some (.box Zb (.tmp 1)), none⟩,
 ⟨some 5, some (.box Zb (.tmp 2)), none⟩,
 ⟨some 6, some (.alloc Zb), none⟩])
  (.seq (.reg [] [⟨some 7, some (.assign (.const (.bool false))), none⟩])
  (.seq (.reg [] [⟨some 8, some (.alloc Zb), none⟩])
  (.seq (.seq (.reg [] [⟨some 9, some (.move (.tmp 0)), none⟩])
  (.block 0 (.seq (.block 6 (.seq (.block 5 (.seq (.block 4 (.seq (.block 3 (.seq (.block 2 (.seq (.block 1 (.seq (.seq (.seq (.reg [] [⟨some 11, some (.binOp .eql Zc (.tmp 9) (.const (.int .i64 15)) Zc), none⟩,
 ⟨some 10, some (.assign (.tmp 11)), none⟩])
  (.cond (.tmp 10) (.exit 1)
  .skip))
  (.seq (.seq (.reg [] [⟨some 13, some (.binOp .eql Zc (.tmp 9) (.const (.int .i64 12)) Zc), none⟩,
 ⟨some 12, some (.assign (.tmp 13)), none⟩])
  (.cond (.tmp 12) (.exit 2)
  .skip))
  (.seq (.seq (.reg [] [⟨some 15, some (.binOp .eql Zc (.tmp 9) (.const (.int .i64 16)) Zc), none⟩,
 ⟨some 14, some (.assign (.tmp 15)), none⟩])
  (.cond (.tmp 14) (.exit 3)
  .skip))
  (.seq (.seq (.reg [] [⟨some 17, some (.binOp .eql Zc (.tmp 9) (.const (.int .i64 13)) Zc), none⟩,
 ⟨some 16, some (.assign (.tmp 17)), none⟩])
  (.cond (.tmp 16) (.exit 4)
  .skip))
  (.seq (.reg [] [⟨some 19, some (.binOp .eql Zc (.tmp 9) (.const (.int .i64 17)) Zc), none⟩,
 ⟨some 18, some (.assign (.tmp 19)), none⟩])
  (.cond (.tmp 18) (.exit 5)
  .skip))))))
  (.exit 6)))
  (.reg [] [⟨some 7, some (.assign (.const (.bool true))), none⟩])))
  (.seq (.reg [] [⟨some 20, some (.fieldAddr Zb (.tmp 4) 0), none⟩,
 ⟨some 21, some (.load Ze (.tmp 20)), none⟩,
 ⟨some 22, some (.fieldAddr Zb (.tmp 5) 0), none⟩,
 ⟨some 23, some (.load Ze (.tmp 22)), none⟩,
 ⟨some 24, some (.binOp .and Ze (.tmp 21) (.tmp 23) Ze), none⟩,
 ⟨some 25, some (.fieldAddr Zb (.tmp 4) 1), none⟩,
 ⟨some 26, some (.load Ze (.tmp 25)), none⟩,
 ⟨some 27, some (.fieldAddr Zb (.tmp 5) 1), none⟩,
 ⟨some 28, some (.load Ze (.tmp 27)), none⟩,
 ⟨some 29, some (.binOp .and Ze (.tmp 26) (.tmp 28) Ze), none⟩,
 ⟨some 30, some (.build Zb #[(0, (.tmp 24)), (1, (.tmp 29))]), none⟩,
 ⟨none, some (.store Zb (.tmp 8) (.tmp 30)), none⟩])
  (.exit 0))))
  (.reg [] [⟨some 7, some (.assign (.const (.bool true))), none⟩])))
  (.seq (.reg [] [⟨some 31, some (.fieldAddr Zb (.tmp 4) 0), none⟩,
 ⟨some 32, some (.load Ze (.tmp 31)), none⟩,
 ⟨some 33, some (.fieldAddr Zb (.tmp 5) 0), none⟩,
 ⟨some 34, some (.load Ze (.tmp 33)), none⟩,
 ⟨some 35, some (.binOp .or Ze (.tmp 32) (.tmp 34) Ze), none⟩,
 ⟨some 36, some (.fieldAddr Zb (.tmp 4) 1), none⟩,
 ⟨some 37, some (.load Ze (.tmp 36)), none⟩,
 ⟨some 38, some (.fieldAddr Zb (.tmp 5) 1), none⟩,
 ⟨some 39, some (.load Ze (.tmp 38)), none⟩,
 ⟨some 40, some (.binOp .or Ze (.tmp 37) (.tmp 39) Ze), none⟩,
 ⟨some 41, some (.build Zb #[(0, (.tmp 35)), (1, (.tmp 40))]), none⟩,
 ⟨none, some (.store Zb (.tmp 8) (.tmp 41)), none⟩])
  (.exit 0))))
  (.reg [] [⟨some 7, some (.assign (.const (.bool true))), none⟩])))
  (.seq (.reg [] [⟨some 42, some (.fieldAddr Zb (.tmp 4) 0), none⟩,
 ⟨some 43, some (.load Ze (.tmp 42)), none⟩,
 ⟨some 44, some (.fieldAddr Zb (.tmp 5) 0), none⟩,
 ⟨some 45, some (.load Ze (.tmp 44)), none⟩,
 ⟨some 46, some (.binOp .xor Ze (.tmp 43) (.tmp 45) Ze), none⟩,
 ⟨some 47, some (.fieldAddr Zb (.tmp 4) 1), none⟩,
 ⟨some 48, some (.load Ze (.tmp 47)), none⟩,
 ⟨some 49, some (.fieldAddr Zb (.tmp 5) 1), none⟩,
 ⟨some 50, some (.load Ze (.tmp 49)), none⟩,
 ⟨some 51, some (.binOp .xor Ze (.tmp 48) (.tmp 50) Ze), none⟩,
 ⟨some 52, some (.build Zb #[(0, (.tmp 46)), (1, (.tmp 51))]), none⟩,
 ⟨none, some (.store Zb (.tmp 8) (.tmp 52)), none⟩])
  (.exit 0)))))
  (.seq (.seq (.reg [] [⟨some 53, some (.move (.tmp 7)), none⟩])
  (.cond (.tmp 53) (.seq (.reg [] [⟨some 54, some (.load Zb (.tmp 8)), none⟩,
 ⟨some 55, some (.call ⟨(.value (.func Z5)), #[.tmp 54], #[Zb]⟩), none⟩,
 ⟨none, some (.store Zb (.tmp 6) (.tmp 55)), none⟩])
  .ret)
  .skip))
  (.seq (.reg [] [⟨some 56, some (.load Zb (.tmp 8)), none⟩,
 ⟨none, some (.store Zb (.tmp 6) (.tmp 56)), none⟩])
  .ret))))))
theorem Zl6 {a0 a1 a2 : AV} {H : AHeap} : R Zf4 [a0, a1, a2] H = fnK Tryz.prog [] H [(.cell 6 Zb)] (evalL Tryz.prog KT R Zfj (Env.args [a0, a1, a2] 0) H) :=
  runs_body (D := DT) (f := Zf4) Tryz.func95 (by kernel_rfl) (by kernel_rfl) (by kernel_rfl) (by kernel_rfl) (by kernel_rfl) (Nat.le_of_ble_eq_true rfl)
def Zdi : LCode := (.seq (.reg [] [⟨some 4, some (.box Za (.tmp 1)), none⟩,
 ⟨some 5, some (.box Za (.tmp 2)), none⟩,
 ⟨some 6, some (.alloc Zb), none⟩])
  (.seq (.reg [1, 4, 5] [⟨some 17, some (.load Za (.tmp 4)), none⟩,
 ⟨some 18, some (.call ⟨(.value (.func Zcv)), #[.tmp 17], #[Za]⟩), none⟩,
 ⟨some 19, some (.load Za (.tmp 5)), none⟩,
 ⟨some 20, some (.call ⟨(.value (.func Zcv)), #[.tmp 19], #[Za]⟩), none⟩,
 ⟨some 7, some (.alloc Zb), none⟩,
 ⟨some 8, some (.alloc Zb), none⟩,
 ⟨none, some (.store Zb (.tmp 7) (.tmp 18)), none⟩,
 ⟨none, some (.store Zb (.tmp 8) (.tmp 20)), none⟩])
  (.seq (.seq (.reg [] [⟨some 21, some (.move (.tmp 0)), none⟩])
  (.block 0 (.seq (.reg [] [⟨some 23, some (.binOp .eql Zc (.tmp 21) (.const (.int .i64 18)) Zc), none⟩,
 ⟨some 22, some (.assign (.tmp 23)), none⟩])
  (.cond (.tmp 22) (.seq (.reg [] [⟨some 24, some (.load Zb (.tmp 7)), none⟩,
 ⟨some 25, some (.load Zb (.tmp 8)), none⟩,
 ⟨some 26, some (.call ⟨(.value (.func Zbc)), #[.tmp 24, .tmp 25], #[Zb, Zb]⟩), none⟩,
 ⟨none, some (.store Zb (.tmp 6) (.tmp 26)), none⟩])
  .ret)
  (.seq (.reg [] [⟨some 28, some (.binOp .eql Zc (.tmp 21) (.const (.int .i64 19)) Zc), none⟩,
 ⟨some 27, some (.assign (.tmp 28)), none⟩])
  (.cond (.tmp 27) (.seq (.reg [] [⟨some 29, some (.load Zb (.tmp 7)), none⟩,
 ⟨some 30, some (.load Zb (.tmp 8)), none⟩,
 ⟨some 31, some (.call ⟨(.value (.func Zbe)), #[.tmp 29, .tmp 30], #[Zb, Zb]⟩), none⟩,
 ⟨none, some (.store Zb (.tmp 6) (.tmp 31)), none⟩])
  .ret)
  (.seq (.reg [] [⟨some 33, some (.binOp .eql Zc (.tmp 21) (.const (.int .i64 20)) Zc), none⟩,
 ⟨some 32, some (.assign (.tmp 33)), none⟩])
  (.cond (.tmp 32) (.seq (.reg [] [⟨some 34, some (.load Zb (.tmp 7)), none⟩,
 ⟨some 35, some (.load Zb (.tmp 8)), none⟩,
 ⟨some 36, some (.call ⟨(.value (.func Zcf)), #[.tmp 34, .tmp 35], #[Zb, Zb]⟩), none⟩,
 ⟨none, some (.store Zb (.tmp 6) (.tmp 36)), none⟩])
  .ret)
  (.seq (.reg [] [⟨some 38, some (.binOp .eql Zc (.tmp 21) (.const (.int .i64 21)) Zc), none⟩,
 ⟨some 37, some (.assign (.tmp 38)), none⟩])
  (.cond (.tmp 37) (.seq (.reg [] [⟨some 40, some (.fieldAddr Za (.tmp 4) 0), none⟩,
 ⟨some 41, some (.load Zc (.tmp 40)), none⟩,
 ⟨some 42, some (.load Zb (.tmp 7)), none⟩,
 ⟨some 43, some (.load Zb (.tmp 8)), none⟩,
 ⟨some 44, some (.call ⟨(.value (.func Zc2)), #[.tmp 41, .tmp 42, .tmp 43], #[Zc, Zb, Zb]⟩), none⟩,
 ⟨some 39, some (.move (.tmp 44)), none⟩,
 ⟨some 45, some (.extract (.tmp 39) 0), none⟩,
 ⟨some 46, some (.extract (.tmp 39) 1), none⟩,
 ⟨some 9, some (.alloc Zb), none⟩,
 ⟨some 10, some (.alloc Zb), none⟩,
 ⟨none, some (.store Zb (.tmp 9) (.tmp 45)), none⟩,
 ⟨none, some (.store Zb (.tmp 10) (.tmp 46)), none⟩])
  (.seq (.reg [] [⟨some 47, some (.load Zb (.tmp 9)), none⟩,
 ⟨none, some (.store Zb (.tmp 6) (.tmp 47)), none⟩])
  .ret))
  (.seq (.reg [] [⟨some 49, some (.binOp .eql Zc (.tmp 21) (.const (.int .i64 22)) Zc), none⟩,
 ⟨some 48, some (.assign (.tmp 49)), none⟩])
  (.cond (.tmp 48) (.seq (.reg [] [⟨some 51, some (.fieldAddr Za (.tmp 4) 0), none⟩,
 ⟨some 52, some (.load Zc (.tmp 51)), none⟩,
 ⟨some 53, some (.load Zb (.tmp 7)), none⟩,
 ⟨some 54, some (.load Zb (.tmp 8)), none⟩,
 ⟨some 55, some (.call ⟨(.value (.func Zc2)), #[.tmp 52, .tmp 53, .tmp 54], #[Zc, Zb, Zb]⟩), none⟩,
 ⟨some 50, some (.move (.tmp 55)), none⟩,
 ⟨some 56, some (.extract (.tmp 50) 0), none⟩,
 ⟨some 57, some (.extract (.tmp 50) 1), none⟩,
 ⟨some 11, some (.alloc Zb), none⟩,
 ⟨some 12, some (.alloc Zb), none⟩,
 ⟨none, some (.store Zb (.tmp 11) (.tmp 56)), none⟩,
 ⟨none, some (.store Zb (.tmp 12) (.tmp 57)), none⟩])
  (.seq (.reg [] [⟨some 58, some (.load Zb (.tmp 12)), none⟩,
 ⟨none, some (.store Zb (.tmp 6) (.tmp 58)), none⟩])
  .ret))
  (.seq (.reg [] [⟨some 60, some (.binOp .eql Zc (.tmp 21) (.const (.int .i64 23)) Zc), none⟩,
 ⟨some 59, some (.assign (.tmp 60)), none⟩])
  (.cond (.tmp 59) (.seq (.reg [3, 5, 10, 11] [⟨some 62, some (.fieldAddr Za (.tmp 4) 0), none⟩,
 ⟨some 63, some (.load Zc (.tmp 62)), none⟩,
 ⟨some 64, some (.load Za (.tmp 4)), none⟩,
 ⟨some 65, some (.call ⟨(.value (.func Zex)), #[.tmp 64], #[Za]⟩), none⟩,
 ⟨some 66, some (.load Za (.tmp 5)), none⟩,
 ⟨some 67, some (.call ⟨(.value (.func Zex)), #[.tmp 66], #[Za]⟩), none⟩,
 ⟨some 68, some (.call ⟨(.value (.func Zc2)), #[.tmp 63, .tmp 65, .tmp 67], #[Zc, Zb, Zb]⟩), none⟩,
 ⟨some 61, some (.move (.tmp 68)), none⟩,
 ⟨some 69, some (.extract (.tmp 61) 0), none⟩,
 ⟨some 70, some (.extract (.tmp 61) 1), none⟩,
 ⟨some 13, some (.alloc Zb), none⟩,
 ⟨some 14, some (.alloc Zb), none⟩,
 ⟨none, some (.store Zb (.tmp 13) (.tmp 69)), none⟩,
 ⟨none, some (.store Zb (.tmp 14) (.tmp 70)), none⟩])
  (.seq (.reg [1, 3] [⟨some 71, some (.load Za (.tmp 4)), none⟩,
 ⟨some 72, some (.call ⟨(.value (.func Zcp)), #[.tmp 71], #[Za]⟩), none⟩,
 ⟨some 73, some (.load Za (.tmp 5)), none⟩,
 ⟨some 74, some (.call ⟨(.value (.func Zcp)), #[.tmp 73], #[Za]⟩), none⟩,
 ⟨some 75, some (.binOp .neq Zi (.tmp 72) (.tmp 74) Zi), none⟩,
 ⟨some 76, some (.load Zb (.tmp 13)), none⟩,
 ⟨some 77, some (.call ⟨(.value (.func Zes)), #[.tmp 75, .tmp 76], #[Zi, Zb]⟩), none⟩,
 ⟨none, some (.store Zb (.tmp 6) (.tmp 77)), none⟩])
  .ret))
  (.seq (.reg [] [⟨some 79, some (.binOp .eql Zc (.tmp 21) (.const (.int .i64 24)) Zc), none⟩,
 ⟨some 78, some (.assign (.tmp 79)), none⟩])
  (.cond (.tmp 78) (.seq (.reg [3, 5, 10, 11] [⟨some 81, some (.fieldAddr Za (.tmp 4) 0), none⟩,
 ⟨some 82, some (.load Zc (.tmp 81)), none⟩,
 ⟨some 83, some (.load Za (.tmp 4)), none⟩,
 ⟨some 84, some (.call ⟨(.value (.func Zex)), #[.tmp 83], #[Za]⟩), none⟩,
 ⟨some 85, some (.load Za (.tmp 5)), none⟩,
 ⟨some 86, some (.call ⟨(.value (.func Zex)), #[.tmp 85], #[Za]⟩), none⟩,
 ⟨some 87, some (.call ⟨(.value (.func Zc2)), #[.tmp 82, .tmp 84, .tmp 86], #[Zc, Zb, Zb]⟩), none⟩,
 ⟨some 80, some (.move (.tmp 87)), none⟩,
 ⟨some 88, some (.extract (.tmp 80) 0), none⟩,
 ⟨some 89, some (.extract (.tmp 80) 1), none⟩,
 ⟨some 15, some (.alloc Zb), none⟩,
 ⟨some 16, some (.alloc Zb), none⟩,
 ⟨none, some (.store Zb (.tmp 15) (.tmp 88)), none⟩,
 ⟨none, some (.store Zb (.tmp 16) (.tmp 89)), none⟩])
  (.seq (.reg [1] [⟨some 90, some (.load Za (.tmp 4)), none⟩,
 ⟨some 91, some (.call ⟨(.value (.func Zcp)), #[.tmp 90], #[Za]⟩), none⟩,
 ⟨some 92, some (.load Zb (.tmp 16)), none⟩,
 ⟨some 93, some (.call ⟨(.value (.func Zes)), #[.tmp 91, .tmp 92], #[Zi, Zb]⟩), none⟩,
 ⟨none, some (.store Zb (.tmp 6) (.tmp 93)), none⟩])
  .ret))
  .skip))))))))))))))))
  (.seq (.reg [] [⟨some 94, some (.load Za (.tmp 4)), none⟩,
 ⟨some 95, some (.load Za (.tmp 5)), none⟩,
 ⟨some 96, some (.call ⟨(.value (.func Zhr)), #[.tmp 94, .tmp 95], #[Za, Za]⟩), none⟩,
 ⟨none, some (.store Zb (.tmp 6) (.tmp 96)), none⟩])
  .ret))))
theorem Zll {a0 a1 a2 : AV} {H : AHeap} : R Zer [a0, a1, a2] H = fnK Tryz.prog [] H [(.cell 6 Zb)] (evalL Tryz.prog KT R Zdi (Env.args [a0, a1, a2] 0) H) :=
  runs_body (D := DT) (f := Zer) Tryz.func96 (by kernel_rfl) (by kernel_rfl) (by kernel_rfl) (by kernel_rfl) (by kernel_rfl) (Nat.le_of_ble_eq_true rfl)
def Zdo : LCode := (.seq (.reg [] [⟨some 4, some (.box Za (.tmp 1)), none⟩,
 ⟨some 5, some (.box Za (.tmp 2)), none⟩,
 ⟨some 6, some (.alloc Zb), none⟩])
  (.seq (.reg [] [⟨some 10, some (.fieldAddr Za (.tmp 4) 0), none⟩,
 ⟨some 11, some (.load Zc (.tmp 10)), none⟩,
 ⟨some 7, some (.assign (.tmp 11)), none⟩])
  (.seq (.seq (.reg [] [⟨some 12, some (.fieldAddr Za (.tmp 5) 2), none⟩,
 ⟨some 13, some (.load Ze (.tmp 12)), none⟩,
 ⟨some 14, some (.binOp .eql Ze (.tmp 13) (.const (.int .u64 0)) Ze), none⟩,
 ⟨some 15, some (.move (.tmp 14)), none⟩,
 ⟨some 16, some (.fieldAddr Za (.tmp 5) 1), some (some 15, true)⟩,
 ⟨some 17, some (.load Ze (.tmp 16)), some (some 15, true)⟩,
 ⟨some 18, some (.fieldAddr Za (.tmp 4) 0), some (some 15, true)⟩,
 ⟨some 19, some (.load Zc (.tmp 18)), some (some 15, true)⟩,
 ⟨some 20, some (.convert Zc Ze (.tmp 19)), some (some 15, true)⟩,
 ⟨some 21, some (.binOp .lss Ze (.tmp 17) (.tmp 20) Ze), some (some 15, true)⟩,
 ⟨some 22, some (.pick (.tmp 15) (.tmp 21) (.const (.bool false))), none⟩])
  (.cond (.tmp 22) (.reg [] [⟨some 23, some (.fieldAddr Za (.tmp 5) 1), none⟩,
 ⟨some 24, some (.load Ze (.tmp 23)), none⟩,
 ⟨some 25, some (.convert Ze Zc (.tmp 24)), none⟩,
 ⟨some 7, some (.assign (.tmp 25)), none⟩])
  .skip))
  (.seq (.seq (.reg [] [⟨some 26, some (.move (.tmp 0)), none⟩,
 ⟨some 27, some (.binOp .eql Zc (.tmp 26) (.const (.int .i64 26)) Zc), none⟩])
  (.cond (.tmp 27) (.seq (.reg [] [⟨some 28, some (.load Za (.tmp 4)), none⟩,
 ⟨some 29, some (.call ⟨(.value (.func Zcv)), #[.tmp 28], #[Za]⟩), none⟩,
 ⟨some 30, some (.move (.tmp 7)), none⟩,
 ⟨some 31, some (.call ⟨(.value (.func Z1)), #[.tmp 29, .tmp 30], #[Zb, Zc]⟩), none⟩,
 ⟨none, some (.store Zb (.tmp 6) (.tmp 31)), none⟩])
  .ret)
  .skip))
  (.seq (.reg [] [⟨some 32, some (.load Za (.tmp 4)), none⟩,
 ⟨some 33, some (.call ⟨(.value (.func Zcv)), #[.tmp 32], #[Za]⟩), none⟩,
 ⟨some 34, some (.move (.tmp 7)), none⟩,
 ⟨some 35, some (.call ⟨(.value (.func Zx)), #[.tmp 33, .tmp 34], #[Zb, Zc]⟩), none⟩,
 ⟨some 8, some (.alloc Zb), none⟩,
 ⟨none, some (.store Zb (.tmp 8) (.tmp 35)), none⟩])
  (.seq (.seq (.reg [] [⟨some 36, some (.move (.tmp 0)), none⟩,
 ⟨some 37, some (.binOp .eql Zc (.tmp 36) (.const (.int .i64 28)) Zc), none⟩,
 ⟨some 38, some (.move (.tmp 37)), none⟩,
 ⟨some 39, some (.load Za (.tmp 4)), some (some 38, true)⟩,
 ⟨some 40, some (.call ⟨(.value (.func Zcp)), #[.tmp 39], #[Za]⟩), some (some 38, true)⟩,
 ⟨some 41, some (.pick (.tmp 38) (.tmp 40) (.const (.bool false))), none⟩])
  (.cond (.tmp 41) (.seq (.reg [] [⟨some 42, some (.fieldAddr Za (.tmp 4) 0), none⟩,
 ⟨some 43, some (.load Zc (.tmp 42)), none⟩,
 ⟨some 44, some (.call ⟨(.value (.func Zf8)), #[.tmp 43], #[Zc]⟩), none⟩,
 ⟨some 45, some (.move (.tmp 7)), none⟩,
 ⟨some 46, some (.call ⟨(.value (.func Zx)), #[.tmp 44, .tmp 45], #[Zb, Zc]⟩), none⟩,
 ⟨some 47, some (.call ⟨(.value (.func Z5)), #[.tmp 46], #[Zb]⟩), none⟩,
 ⟨some 9, some (.alloc Zb), none⟩,
 ⟨none, some (.store Zb (.tmp 9) (.tmp 47)), none⟩])
  (.reg [] [⟨some 48, some (.fieldAddr Zb (.tmp 8) 0), none⟩,
 ⟨some 49, some (.load Ze (.tmp 48)), none⟩,
 ⟨some 50, some (.fieldAddr Zb (.tmp 9) 0), none⟩,
 ⟨some 51, some (.load Ze (.tmp 50)), none⟩,
 ⟨some 52, some (.binOp .or Ze (.tmp 49) (.tmp 51) Ze), none⟩,
 ⟨some 53, some (.fieldAddr Zb (.tmp 8) 1), none⟩,
 ⟨some 54, some (.load Ze (.tmp 53)), none⟩,
 ⟨some 55, some (.fieldAddr Zb (.tmp 9) 1), none⟩,
 ⟨some 56, some (.load Ze (.tmp 55)), none⟩,
 ⟨some 57, some (.binOp .or Ze (.tmp 54) (.tmp 56) Ze), none⟩,
 ⟨some 58, some (.build Zb #[(0, (.tmp 52)), (1, (.tmp 57))]), none⟩,
 ⟨none, some (.store Zb (.tmp 8) (.tmp 58)), none⟩]))
  .skip))
  (.seq (.reg [] [⟨some 59, some (.load Zb (.tmp 8)), none⟩,
 ⟨none, some (.store Zb (.tmp 6) (.tmp 59)), none⟩])
  .ret)))))))
theorem Zl7 {a0 a1 a2 : AV} {H : AHeap} : R Zf5 [a0, a1, a2] H = fnK Tryz.prog [] H [(.cell 6 Zb)] (evalL Tryz.prog KT R Zdo (Env.args [a0, a1, a2] 0) H) :=
  runs_body (D := DT) (f := Zf5) Tryz.func97 (by kernel_rfl) (by kernel_rfl) (by kernel_rfl) (by kernel_rfl) (by kernel_rfl) (Nat.le_of_ble_eq_true rfl)
def Zdj : LCode := (.seq (.reg [] [⟨some 4, some (.box Za (.tmp 1)), none⟩,
 ⟨some 5, some (.box Za (.tmp 2)), none⟩,
 ⟨some 6, some (.assign (.const (.bool false))), none⟩])
  (.seq (.reg [1, 4, 5] [⟨some 10, some (.load Za (.tmp 4)), none⟩,
 ⟨some 11, some (.call ⟨(.value (.func Zcv)), #[.tmp 10], #[Za]⟩), none⟩,
 ⟨some 12, some (.load Za (.tmp 5)), none⟩,
 ⟨some 13, some (.call ⟨(.value (.func Zcv)), #[.tmp 12], #[Za]⟩), none⟩,
 ⟨some 7, some (.alloc Zb), none⟩,
 ⟨some 8, some (.alloc Zb), none⟩,
 ⟨none, some (.store Zb (.tmp 7) (.tmp 11)), none⟩,
 ⟨none, some (.store Zb (.tmp 8) (.tmp 13)), none⟩])
  (.seq (.seq (.reg [] [⟨some 14, some (.move (.tmp 0)), none⟩])
  (.block 0 (.seq (.seq (.reg [] [⟨some 16, some (.binOp .eql Zc (.tmp 14) (.const (.int .i64 33)) Zc), none⟩,
 ⟨some 15, some (.assign (.tmp 16)), none⟩])
  (.cond (.tmp 15) .skip
  (.seq (.reg [] [⟨some 17, some (.binOp .eql Zc (.tmp 14) (.const (.int .i64 34)) Zc), none⟩,
 ⟨some 15, some (.assign (.tmp 17)), none⟩])
  (.cond (.tmp 15) .skip
  (.seq (.reg [] [⟨some 18, some (.binOp .eql Zc (.tmp 14) (.const (.int .i64 35)) Zc), none⟩,
 ⟨some 15, some (.assign (.tmp 18)), none⟩])
  (.cond (.tmp 15) .skip
  (.reg [] [⟨some 19, some (.binOp .eql Zc (.tmp 14) (.const (.int .i64 36)) Zc), none⟩,
 ⟨some 15, some (.assign (.tmp 19)), none⟩])))))))
  (.cond (.tmp 15) (.seq (.reg [] [⟨some 20, some (.build Zb #[(0, (.const (.int .u64 1)))]), none⟩,
 ⟨some 21, some (.fieldAddr Za (.tmp 4) 0), none⟩,
 ⟨some 22, some (.load Zc (.tmp 21)), none⟩,
 ⟨some 23, some (.binOp .sub Zc (.tmp 22) (.const (.int .i64 1)) Zc), none⟩,
 ⟨some 24, some (.call ⟨(.value (.func Z1)), #[.tmp 20, .tmp 23], #[Zb, Zc]⟩), none⟩,
 ⟨some 9, some (.alloc Zb), none⟩,
 ⟨none, some (.store Zb (.tmp 9) (.tmp 24)), none⟩])
  (.seq (.reg [] [⟨some 25, some (.fieldAddr Zb (.tmp 7) 0), none⟩,
 ⟨some 26, some (.load Ze (.tmp 25)), none⟩,
 ⟨some 27, some (.fieldAddr Zb (.tmp 9) 0), none⟩,
 ⟨some 28, some (.load Ze (.tmp 27)), none⟩,
 ⟨some 29, some (.binOp .xor Ze (.tmp 26) (.tmp 28) Ze), none⟩,
 ⟨some 30, some (.fieldAddr Zb (.tmp 7) 1), none⟩,
 ⟨some 31, some (.load Ze (.tmp 30)), none⟩,
 ⟨some 32, some (.fieldAddr Zb (.tmp 9) 1), none⟩,
 ⟨some 33, some (.load Ze (.tmp 32)), none⟩,
 ⟨some 34, some (.binOp .xor Ze (.tmp 31) (.tmp 33) Ze), none⟩,
 ⟨some 35, some (.build Zb #[(0, (.tmp 29)), (1, (.tmp 34))]), none⟩,
 ⟨none, some (.store Zb (.tmp 7) (.tmp 35)), none⟩])
  (.reg [] [⟨some 36, some (.fieldAddr Zb (.tmp 8) 0), none⟩,
 ⟨some 37, some (.load Ze (.tmp 36)), none⟩,
 ⟨some 38, some (.fieldAddr Zb (.tmp 9) 0), none⟩,
 ⟨some 39, some (.load Ze (.tmp 38)), none⟩,
 ⟨some 40, some (.binOp .xor Ze (.tmp 37) (.tmp 39) Ze), none⟩,
 ⟨some 41, some (.fieldAddr Zb (.tmp 8) 1), none⟩,
 ⟨some 42, some (.load Ze (.tmp 41)), none⟩,
 ⟨some 43, some (.fieldAddr Zb (.tmp 9) 1), none⟩,
 ⟨some 44, some (.load Ze (.tmp 43)), none⟩,
 ⟨some 45, some (.binOp .xor Ze (.tmp 42) (.tmp 44) Ze), none⟩,
 ⟨some 46, some (.build Zb #[(0, (.tmp 40)), (1, (.tmp 45))]), none⟩,
 ⟨none, some (.store Zb (.tmp 8) (.tmp 46)), none⟩])))
  .skip))))
  (.seq (.seq (.reg [] [⟨some 47, some (.move (.tmp 0)), none⟩])
  (.block 1 (.seq (.seq (.reg [] [⟨some 49, some (.binOp .eql Zc (.tmp 47) (.const (.int .i64 29)) Zc), none⟩,
 ⟨some 48, some (.assign (.tmp 49)), none⟩])
  (.cond (.tmp 48) .skip
  (.reg [] [⟨some 50, some (.binOp .eql Zc (.tmp 47) (.const (.int .i64 33)) Zc), none⟩,
 ⟨some 48, some (.assign (.tmp 50)), none⟩])))
  (.cond (.tmp 48) (.seq (.reg [] [⟨some 51, some (.load Zb (.tmp 7)), none⟩,
 ⟨some 52, some (.load Zb (.tmp 8)), none⟩,
 ⟨some 53, some (.call ⟨(.value (.func Z8)), #[.tmp 51, .tmp 52], #[Zb, Zb]⟩), none⟩,
 ⟨some 6, some (.assign (.tmp 53)), none⟩])
  .ret)
  (.seq (.seq (.reg [] [⟨some 55, some (.binOp .eql Zc (.tmp 47) (.const (.int .i64 30)) Zc), none⟩,
 ⟨some 54, some (.assign (.tmp 55)), none⟩])
  (.cond (.tmp 54) .skip
  (.reg [] [⟨some 56, some (.binOp .eql Zc (.tmp 47) (.const (.int .i64 34)) Zc), none⟩,
 ⟨some 54, some (.assign (.tmp 56)), none⟩])))
  (.cond (.tmp 54) (.seq (.reg [] [⟨some 57, some (.load Zb (.tmp 8)), none⟩,
 ⟨some 58, some (.load Zb (.tmp 7)), none⟩,
 ⟨some 59, some (.call ⟨(.value (.func Z8)), #[.tmp 57, .tmp 58], #[Zb, Zb]⟩), none⟩,
 ⟨some 60, some (.unOp .not Zi (.tmp 59)), none⟩,
 ⟨some 6, some (.assign (.tmp 60)), none⟩])
  .ret)
  (.seq (.seq (.reg [] [⟨some 62, some (.binOp .eql Zc (.tmp 47) (.const (.int .i64 31)) Zc), none⟩,
 ⟨some 61, some (.assign (.tmp 62)), none⟩])
  (.cond (.tmp 61) .skip
  (.reg [] [⟨some 63, some (.binOp .eql Zc (.tmp 47) (.const (.int .i64 35)) Zc), none⟩,
 ⟨some 61, some (.assign (.tmp 63)), none⟩])))
  (.cond (.tmp 61) (.seq (.reg [] [⟨some 64, some (.load Zb (.tmp 8)), none⟩,
 ⟨some 65, some (.load Zb (.tmp 7)), none⟩,
 ⟨some 66, some (.call ⟨(.value (.func Z8)), #[.tmp 64, .tmp 65], #[Zb, Zb]⟩), none⟩,
 ⟨some 6, some (.assign (.tmp 66)), none⟩])
  .ret)
  .skip))))))))
  (.seq (.reg [] [⟨some 67, some (.load Zb (.tmp 7)), none⟩,
 ⟨some 68, some (.load Zb (.tmp 8)), none⟩,
 ⟨some 69, some (.call ⟨(.value (.func Z8)), #[.tmp 67, .tmp 68], #[Zb, Zb]⟩), none⟩,
 ⟨some 70, some (.unOp .not Zi (.tmp 69)), none⟩,
 ⟨some 6, some (.assign (.tmp 70)), none⟩])
  .ret)))))
theorem Zlm {a0 a1 a2 : AV} {H : AHeap} : R Zfk [a0, a1, a2] H = fnK Tryz.prog [] H [(.tmp 6)] (evalL Tryz.prog KT R Zdj (Env.args [a0, a1, a2] 0) H) :=
  runs_body (D := DT) (f := Zfk) Tryz.func98 (by kernel_rfl) (by kernel_rfl) (by kernel_rfl) (by kernel_rfl) (by kernel_rfl) (Nat.le_of_ble_eq_true rfl)
def Zgn : LCode := (.seq (.seq (.reg [] [⟨some 12, some (.move (.tmp 8)), none⟩,
 ⟨some 13, some (.move (.tmp 0)), none⟩,
 ⟨some 14, some (.call ⟨(.builtin .len), #[.tmp 13], #[Zg]⟩), none⟩,
 ⟨some 15, some (.binOp .lss Zc (.tmp 12) (.tmp 14) Zc), none⟩])
  (.cond (.tmp 15) .skip
  (.exit 0)))
  (.seq (.block 1 (.seq (.reg [] [⟨some 18, some (.move (.tmp 7)), none⟩,
 ⟨some 19, some (.move (.tmp 8)), none⟩,
 ⟨some 20, some (.move (.tmp 0)), none⟩,
 ⟨some 21, some (.move (.tmp 8)), none⟩,
 ⟨some 22, some (.indexAddr Zg (.tmp 20) (.tmp 21)), none⟩,
 ⟨some 23, some (.load Zi (.tmp 22)), none⟩,
 ⟨some 24, some (.move (.tmp 1)), none⟩,
 ⟨some 25, some (.move (.tmp 8)), none⟩,
 ⟨some 26, some (.indexAddr Zg (.tmp 24) (.tmp 25)), none⟩,
 ⟨some 27, some (.load Zi (.tmp 26)), none⟩,
 ⟨some 28, some (.binOp .neq Zi (.tmp 23) (.tmp 27) Zi), none⟩,
 ⟨some 29, some (.move (.tmp 2)), none⟩,
 ⟨some 30, some (.binOp .neq Zi (.tmp 28) (.tmp 29) Zi), none⟩,
 ⟨some 31, some (.indexAddr Zg (.tmp 18) (.tmp 19)), none⟩,
 ⟨none, some (.store Zi (.tmp 31) (.tmp 30)), none⟩])
  (.reg [] [⟨some 32, some (.move (.tmp 0)), none⟩,
 ⟨some 33, some (.move (.tmp 8)), none⟩,
 ⟨some 34, some (.indexAddr Zg (.tmp 32) (.tmp 33)), none⟩,
 ⟨some 35, some (.load Zi (.tmp 34)), none⟩,
 ⟨some 36, some (.move (.tmp 35)), none⟩,
 ⟨some 37, some (.move (.tmp 1)), some (some 36, true)⟩,
 ⟨some 38, some (.move (.tmp 8)), some (some 36, true)⟩,
 ⟨some 39, some (.indexAddr Zg (.tmp 37) (.tmp 38)), some (some 36, true)⟩,
 ⟨some 40, some (.load Zi (.tmp 39)), some (some 36, true)⟩,
 ⟨some 41, some (.pick (.tmp 36) (.tmp 40) (.const (.bool false))), none⟩,
 ⟨some 42, some (.move (.tmp 41)), none⟩,
 ⟨some 43, some (.move (.tmp 2)), some (some 42, false)⟩,
 ⟨some 44, some (.move (.tmp 43)), some (some 42, false)⟩,
 ⟨some 45, some (.move (.tmp 0)), some (some 44, true)⟩,
 ⟨some 46, some (.move (.tmp 8)), some (some 44, true)⟩,
 ⟨some 47, some (.indexAddr Zg (.tmp 45) (.tmp 46)), some (some 44, true)⟩,
 ⟨some 48, some (.load Zi (.tmp 47)), some (some 44, true)⟩,
 ⟨some 49, some (.move (.tmp 48)), some (some 44, true)⟩,
 ⟨some 50, some (.move (.tmp 1)), some (some 49, false)⟩,
 ⟨some 51, some (.move (.tmp 8)), some (some 49, false)⟩,
 ⟨some 52, some (.indexAddr Zg (.tmp 50) (.tmp 51)), some (some 49, false)⟩,
 ⟨some 53, some (.load Zi (.tmp 52)), some (some 49, false)⟩,
 ⟨some 54, some (.pick (.tmp 49) (.const (.bool true)) (.tmp 53)), some (some 44, true)⟩,
 ⟨some 55, some (.pick (.tmp 44) (.tmp 54) (.const (.bool false))), some (some 42, false)⟩,
 ⟨some 56, some (.pick (.tmp 42) (.const (.bool true)) (.tmp 55)), none⟩,
 ⟨some 2, some (.assign (.tmp 56)), none⟩])))
  (.reg [] [⟨some 16, some (.move (.tmp 8)), none⟩,
 ⟨some 17, some (.binOp .add Zc (.tmp 16) (.const (.int .i64 1)) Zc), none⟩,
 ⟨some 8, some (.assign (.tmp 17)), none⟩])))
@[simp] theorem Zmo : defs Zgn = [12, 13, 14, 15, 18, 19, 20, 21, 22, 23, 24, 25, 26, 27, 28, 29, 30, 31, 32, 33, 34, 35, 36, 37, 38, 39, 40, 41, 42, 43, 44, 45, 46, 47, 48, 49, 50, 51, 52, 53, 54, 55, 56, 2, 16, 17, 8] := by rfl
def Ziq : LCode := (.seq (.reg [] [⟨some 6, some (.assign (.const (.slice none 0 0))), none⟩])
  (.seq (.reg [] [⟨some 9, some (.move (.tmp 0)), none⟩,
 ⟨some 10, some (.call ⟨(.builtin .len), #[.tmp 9], #[Zg]⟩), none⟩,
 ⟨some 11, some (.makeSlice Zg (.tmp 10) (.tmp 10)), none⟩,
 ⟨some 7, some (.assign (.tmp 11)), none⟩])
  (.seq (.seq (.reg [] [⟨some 8, some (.assign (.const (.int .i64 0))), none⟩])
  (.block 0 (.loop Zgn)))
  (.seq (.reg [] [⟨some 57, some (.move (.tmp 7)), none⟩,
 ⟨some 6, some (.assign (.tmp 57)), none⟩])
  .ret))))
theorem Zkw {a0 a1 a2 : AV} {H : AHeap} : R Zb5 [a0, a1, a2] H = fnK Tryz.prog [0] H [(.tmp 6)] (evalL Tryz.prog KT R Ziq (Env.args [a0, a1, a2] 0) H) :=
  runs_body (D := DT) (f := Zb5) Tryz.func99 (by kernel_rfl) (by kernel_rfl) (by kernel_rfl) (by kernel_rfl) (by kernel_rfl) (Nat.le_of_ble_eq_true rfl)
def Zdb : LCode := (.seq (.reg [] [⟨some 6, some (.assign (.const (.bool false))), none⟩])
  (.seq (.seq (.reg [] [⟨some 7, some (.move (.tmp 0)), none⟩])
  (.block 0 (.seq (.reg [] [⟨some 9, some (.binOp .eql Zc (.tmp 7) (.const (.int .i64 12)) Zc), none⟩,
 ⟨some 8, some (.assign (.tmp 9)), none⟩])
  (.cond (.tmp 8) (.seq (.reg [] [⟨some 10, some (.move (.tmp 1)), none⟩,
 ⟨some 11, some (.move (.tmp 10)), none⟩,
 ⟨some 12, some (.move (.tmp 2)), some (some 11, true)⟩,
 ⟨some 13, some (.pick (.tmp 11) (.tmp 12) (.const (.bool false))), none⟩,
 ⟨some 6, some (.assign (.tmp 13)), none⟩])
  .ret)
  (.seq (.reg [] [⟨some 15, some (.binOp .eql Zc (.tmp 7) (.const (.int .i64 13)) Zc), none⟩,
 ⟨some 14, some (.assign (.tmp 15)), none⟩])
  (.cond (.tmp 14) (.seq (.reg [] [⟨some 16, some (.move (.tmp 1)), none⟩,
 ⟨some 17, some (.move (.tmp 16)), none⟩,
 ⟨some 18, some (.move (.tmp 2)), some (some 17, false)⟩,
 ⟨some 19, some (.pick (.tmp 17) (.const (.bool true)) (.tmp 18)), none⟩,
 ⟨some 6, some (.assign (.tmp 19)), none⟩])
  .ret)
  (.seq (.reg [] [⟨some 21, some (.binOp .eql Zc (.tmp 7) (.const (.int .i64 14)) Zc), none⟩,
 ⟨some 20, some (.assign (.tmp 21)), none⟩])
  (.cond (.tmp 20) (.seq (.reg [] [⟨some 22, some (.move (.tmp 1)), none⟩,
 ⟨some 23, some (.move (.tmp 2)), none⟩,
 ⟨some 24, some (.binOp .neq Zi (.tmp 22) (.tmp 23) Zi), none⟩,
 ⟨some 6, some (.assign (.tmp 24)), none⟩])
  .ret)
  (.seq (.reg [] [⟨some 26, some (.binOp .eql Zc (.tmp 7) (.const (.int .i64 15)) Zc), none⟩,
 ⟨some 25, some (.assign (.tmp 26)), none⟩])
  (.cond (.tmp 25) (.seq (.reg [] [⟨some 27, some (.move (.tmp 1)), none⟩,
 ⟨some 28, some (.move (.tmp 27)), none⟩,
 ⟨some 29, some (.move (.tmp 2)), some (some 28, true)⟩,
 ⟨some 30, some (.pick (.tmp 28) (.tmp 29) (.const (.bool false))), none⟩,
 ⟨some 31, some (.unOp .not Zi (.tmp 30)), none⟩,
 ⟨some 6, some (.assign (.tmp 31)), none⟩])
  .ret)
  (.seq (.reg [] [⟨some 33, some (.binOp .eql Zc (.tmp 7) (.const (.int .i64 16)) Zc), none⟩,
 ⟨some 32, some (.assign (.tmp 33)), none⟩])
  (.cond (.tmp 32) (.seq (.reg [] [⟨some 34, some (.move (.tmp 1)), none⟩,
 ⟨some 35, some (.move (.tmp 34)), none⟩,
 ⟨some 36, some (.move (.tmp 2)), some (some 35, false)⟩,
 ⟨some 37, some (.pick (.tmp 35) (.const (.bool true)) (.tmp 36)), none⟩,
 ⟨some 38, some (.unOp .not Zi (.tmp 37)), none⟩,
 ⟨some 6, some (.assign (.tmp 38)), none⟩])
  .ret)
  .skip))))))))))))
  (.seq (.reg [] [⟨some 39, some (.move (.tmp 1)), none⟩,
 ⟨some 40, some (.move (.tmp 2)), none⟩,
 ⟨some 41, some (.binOp .eql Zi (.tmp 39) (.tmp 40) Zi), none⟩,
 ⟨some 6, some (.assign (.tmp 41)), none⟩])
  .ret)))
theorem Zkf {a0 a1 a2 : AV} {H : AHeap} : R Zfw [a0, a1, a2] H = fnK Tryz.prog [] H [(.tmp 6)] (evalL Tryz.prog KT R Zdb (Env.args [a0, a1, a2] 0) H) :=
  runs_body (D := DT) (f := Zfw) Tryz.func100 (by kernel_rfl) (by kernel_rfl) (by kernel_rfl) (by kernel_rfl) (by kernel_rfl) (Nat.le_of_ble_eq_true rfl)
def Zir : LCode := (.seq (.reg [] [⟨some 4, some (.assign (.const (.slice none 0 0))), none⟩])
  (.seq (.reg [] [⟨some 5, some (.move (.tmp 0)), none⟩,
 ⟨some 6, some (.move (.tmp 1)), none⟩,
 ⟨some 7, some (.call ⟨(.value (.func Zcj)), #[.tmp 6], #[Zg]⟩), none⟩,
 ⟨some 8, some (.call ⟨(.value (.func Zb5)), #[(.tmp 5), (.tmp 7), (.const (.bool true))], #[Zg, Zg, Zi]⟩), none⟩,
 ⟨some 4, some (.assign (.tmp 8)), none⟩])
  .ret))
theorem Zkx {a0 a1 : AV} {H : AHeap} : R Zdx [a0, a1] H = fnK Tryz.prog [0] H [(.tmp 4)] (evalL Tryz.prog KT R Zir (Env.args [a0, a1] 0) H) :=
  runs_body (D := DT) (f := Zdx) Tryz.func101 (by kernel_rfl) (by kernel_rfl) (by kernel_rfl) (by kernel_rfl) (by kernel_rfl) (Nat.le_of_ble_eq_true rfl)
def Zgo : LCode := (.seq (.seq (.reg [] [⟨some 10, some (.move (.tmp 6)), none⟩,
 ⟨some 11, some (.move (.tmp 1)), none⟩,
 ⟨some 12, some (.call ⟨(.builtin .len), #[.tmp 11], #[Zg]⟩), none⟩,
 ⟨some 13, some (.binOp .lss Zc (.tmp 10) (.tmp 12) Zc), none⟩])
  (.cond (.tmp 13) .skip
  (.exit 0)))
  (.seq (.block 1 (.seq (.reg [] [⟨some 16, some (.move (.tmp 1)), none⟩,
 ⟨some 17, some (.move (.tmp 6)), none⟩,
 ⟨some 18, some (.indexAddr Zg (.tmp 16) (.tmp 17)), none⟩,
 ⟨some 19, some (.load Zi (.tmp 18)), none⟩])
  (.cond (.tmp 19) (.reg [] [⟨some 20, some (.move (.tmp 5)), none⟩,
 ⟨some 21, some (.move (.tmp 0)), none⟩,
 ⟨some 22, some (.move (.tmp 6)), none⟩,
 ⟨some 23, some (.call ⟨(.value (.func Zcz)), #[.tmp 21, .tmp 22], #[Zg, Zc]⟩), none⟩,
 ⟨some 24, some (.call ⟨(.value (.func Zb5)), #[(.tmp 20), (.tmp 23), (.const (.bool false))], #[Zg, Zg, Zi]⟩), none⟩,
 ⟨some 5, some (.assign (.tmp 24)), none⟩])
  .skip)))
  (.reg [] [⟨some 14, some (.move (.tmp 6)), none⟩,
 ⟨some 15, some (.binOp .add Zc (.tmp 14) (.const (.int .i64 1)) Zc), none⟩,
 ⟨some 6, some (.assign (.tmp 15)), none⟩])))
@[simp] theorem Zmp : defs Zgo = [10, 11, 12, 13, 16, 17, 18, 19, 20, 21, 22, 23, 24, 5, 14, 15, 6] := by rfl
def Zis : LCode := (.seq (.reg [] [⟨some 4, some (.assign (.const (.slice none 0 0))), none⟩])
  (.seq (.reg [] [⟨some 7, some (.move (.tmp 0)), none⟩,
 ⟨some 8, some (.call ⟨(.builtin .len), #[.tmp 7], #[Zg]⟩), none⟩,
 ⟨some 9, some (.makeSlice Zg (.tmp 8) (.tmp 8)), none⟩,
 ⟨some 5, some (.assign (.tmp 9)), none⟩])
  (.seq (.seq (.reg [] [⟨some 6, some (.assign (.const (.int .i64 0))), none⟩])
  (.block 0 (.loop Zgo)))
  (.seq (.reg [] [⟨some 25, some (.move (.tmp 5)), none⟩,
 ⟨some 4, some (.assign (.tmp 25)), none⟩])
  .ret))))
theorem Zky {a0 a1 : AV} {H : AHeap} : R Zem [a0, a1] H = fnK Tryz.prog [0] H [(.tmp 4)] (evalL Tryz.prog KT R Zis (Env.args [a0, a1] 0) H) :=
  runs_body (D := DT) (f := Zem) Tryz.func102 (by kernel_rfl) (by kernel_rfl) (by kernel_rfl) (by kernel_rfl) (by kernel_rfl) (Nat.le_of_ble_eq_true rfl)
def Zgp : LCode := (.seq (.seq (.reg [] [⟨some 25, some (.move (.tmp 8)), none⟩,
 ⟨some 26, some (.binOp .geq Zc (.tmp 25) (.const (.int .i64 0)) Zc), none⟩])
  (.cond (.tmp 26) .skip
  (.exit 0)))
  (.seq (.block 1 (.seq (.reg [] [⟨some 29, some (.move (.tmp 7)), none⟩,
 ⟨some 30, some (.move (.tmp 7)), none⟩,
 ⟨some 31, some (.call ⟨(.builtin .len), #[.tmp 30], #[Zg]⟩), none⟩,
 ⟨some 32, some (.binOp .sub Zc (.tmp 31) (.const (.int .i64 1)) Zc), none⟩,
 ⟨some 33, some (.indexAddr Zg (.tmp 29) (.tmp 32)), none⟩,
 ⟨some 34, some (.load Zi (.tmp 33)), none⟩,
 ⟨some 9, some (.assign (.tmp 34)), none⟩])
  (.seq (.reg [] [⟨some 35, some (.move (.tmp 7)), none⟩,
 ⟨some 36, some (.call ⟨(.value (.func Zcz)), #[(.tmp 35), (.const (.int .i64 1))], #[Zg, Zc]⟩), none⟩,
 ⟨some 7, some (.assign (.tmp 36)), none⟩])
  (.seq (.reg [] [⟨some 37, some (.move (.tmp 7)), none⟩,
 ⟨some 38, some (.move (.tmp 0)), none⟩,
 ⟨some 39, some (.move (.tmp 8)), none⟩,
 ⟨some 40, some (.indexAddr Zg (.tmp 38) (.tmp 39)), none⟩,
 ⟨some 41, some (.load Zi (.tmp 40)), none⟩,
 ⟨some 42, some (.indexAddr Zg (.tmp 37) (.const (.int .i64 0))), none⟩,
 ⟨none, some (.store Zi (.tmp 42) (.tmp 41)), none⟩])
  (.seq (.reg [] [⟨some 43, some (.move (.tmp 9)), none⟩,
 ⟨some 44, some (.move (.tmp 43)), none⟩,
 ⟨some 45, some (.move (.tmp 7)), some (some 44, false)⟩,
 ⟨some 46, some (.move (.tmp 1)), some (some 44, false)⟩,
 ⟨some 47, some (.call ⟨(.value (.func Zb1)), #[.tmp 45, .tmp 46], #[Zg, Zg]⟩), some (some 44, false)⟩,
 ⟨some 48, some (.unOp .not Zi (.tmp 47)), some (some 44, false)⟩,
 ⟨some 49, some (.pick (.tmp 44) (.const (.bool true)) (.tmp 48)), none⟩])
  (.cond (.tmp 49) (.seq (.reg [] [⟨some 50, some (.move (.tmp 7)), none⟩,
 ⟨some 51, some (.move (.tmp 1)), none⟩,
 ⟨some 52, some (.call ⟨(.value (.func Zdx)), #[.tmp 50, .tmp 51], #[Zg, Zg]⟩), none⟩,
 ⟨some 7, some (.assign (.tmp 52)), none⟩])
  (.reg [] [⟨some 53, some (.move (.tmp 6)), none⟩,
 ⟨some 54, some (.move (.tmp 8)), none⟩,
 ⟨some 55, some (.indexAddr Zg (.tmp 53) (.tmp 54)), none⟩,
 ⟨none, some (.store Zi (.tmp 55) (.const (.bool true))), none⟩]))
  .skip))))))
  (.reg [] [⟨some 27, some (.move (.tmp 8)), none⟩,
 ⟨some 28, some (.binOp .sub Zc (.tmp 27) (.const (.int .i64 1)) Zc), none⟩,
 ⟨some 8, some (.assign (.tmp 28)), none⟩])))
@[simp] theorem Zmq : defs Zgp = [25, 26, 29, 30, 31, 32, 33, 34, 9, 35, 36, 7, 37, 38, 39, 40, 41, 42, 43, 44, 45, 46, 47, 48, 49, 50, 51, 52, 7, 53, 54, 55, 27, 28, 8] := by rfl
def Zhh : LCode := (.seq (.reg [] [⟨some 4, some (.assign (.const (.slice none 0 0))), none⟩,
 ⟨some 5, some (.assign (.const (.slice none 0 0))), none⟩])
  (.seq (.reg [5] [⟨some 10, some (.move (.tmp 0)), none⟩,
 ⟨some 11, some (.call ⟨(.builtin .len), #[.tmp 10], #[Zg]⟩), none⟩,
 ⟨some 12, some (.makeSlice Zg (.tmp 11) (.tmp 11)), none⟩,
 ⟨some 13, some (.move (.tmp 0)), none⟩,
 ⟨some 14, some (.call ⟨(.builtin .len), #[.tmp 13], #[Zg]⟩), none⟩,
 ⟨some 15, some (.makeSlice Zg (.tmp 14) (.tmp 14)), none⟩,
 ⟨some 6, some (.assign (.tmp 12)), none⟩,
 ⟨some 7, some (.assign (.tmp 15)), none⟩])
  (.seq (.seq (.reg [] [⟨some 16, some (.move (.tmp 1)), none⟩,
 ⟨some 17, some (.call ⟨(.value (.func Zd5)), #[.tmp 16], #[Zg]⟩), none⟩])
  (.cond (.tmp 17) (.seq (.reg [] [⟨some 18, some (.move (.tmp 6)), none⟩,
 ⟨some 19, some (.call ⟨(.value (.func Zcj)), #[.tmp 18], #[Zg]⟩), none⟩,
 ⟨some 20, some (.move (.tmp 0)), none⟩,
 ⟨some 21, some (.call ⟨(.builtin .append), #[(.const (.slice none 0 0)), (.tmp 20)], #[Zg, Zg]⟩), none⟩,
 ⟨some 4, some (.assign (.tmp 19)), none⟩,
 ⟨some 5, some (.assign (.tmp 21)), none⟩])
  .ret)
  .skip))
  (.seq (.seq (.reg [] [⟨some 22, some (.move (.tmp 0)), none⟩,
 ⟨some 23, some (.call ⟨(.builtin .len), #[.tmp 22], #[Zg]⟩), none⟩,
 ⟨some 24, some (.binOp .sub Zc (.tmp 23) (.const (.int .i64 1)) Zc), none⟩,
 ⟨some 8, some (.assign (.tmp 24)), none⟩])
  (.block 0 (.loop Zgp)))
  (.seq (.reg [] [⟨some 56, some (.move (.tmp 6)), none⟩,
 ⟨some 57, some (.move (.tmp 7)), none⟩,
 ⟨some 4, some (.assign (.tmp 56)), none⟩,
 ⟨some 5, some (.assign (.tmp 57)), none⟩])
  .ret)))))
theorem Zkz {a0 a1 : AV} {H : AHeap} : R Zb6 [a0, a1] H = fnK Tryz.prog [0, 0] H [(.tmp 4), (.tmp 5)] (evalL Tryz.prog KT R Zhh (Env.args [a0, a1] 0) H) :=
  runs_body (D := DT) (f := Zb6) Tryz.func103 (by kernel_rfl) (by kernel_rfl) (by kernel_rfl) (by kernel_rfl) (by kernel_rfl) (Nat.le_of_ble_eq_true rfl)
def Zg2 : LCode := (.seq (.reg [] [⟨some 2, some (.assign (.const (.slice none 0 0))), none⟩])
  (.seq (.seq (.reg [] [⟨some 3, some (.move (.tmp 0)), none⟩,
 ⟨some 4, some (.call ⟨(.value (.func Z6)), #[.tmp 3], #[Zg]⟩), none⟩])
  (.cond (.tmp 4) (.seq (.reg [] [⟨some 5, some (.move (.tmp 0)), none⟩,
 ⟨some 6, some (.call ⟨(.value (.func Zck)), #[.tmp 5], #[Zg]⟩), none⟩,
 ⟨some 2, some (.assign (.tmp 6)), none⟩])
  .ret)
  .skip))
  (.seq (.reg [] [⟨some 7, some (.move (.tmp 0)), none⟩,
 ⟨some 2, some (.assign (.tmp 7)), none⟩])
  .ret)))
theorem Zkg {a0 : AV} {H : AHeap} : R Zb0 [a0] H = fnK Tryz.prog [0] H [(.tmp 2)] (evalL Tryz.prog KT R Zg2 (Env.args [a0] 0) H) :=
  runs_body (D := DT) (f := Zb0) Tryz.func104 (by kernel_rfl) (by kernel_rfl) (by kernel_rfl) (by kernel_rfl) (by kernel_rfl) (Nat.le_of_ble_eq_true rfl)
def Zg3 : LCode := (.seq (.reg [] [⟨some 4, some (.assign (.const (.slice none 0 0))), none⟩])
  (.seq (.reg [] [⟨some 8, some (.move (.tmp 0)), none⟩,
 ⟨some 9, some (.call ⟨(.value (.func Zb0)), #[.tmp 8], #[Zg]⟩), none⟩,
 ⟨some 10, some (.move (.tmp 1)), none⟩,
 ⟨some 11, some (.call ⟨(.value (.func Zb0)), #[.tmp 10], #[Zg]⟩), none⟩,
 ⟨some 12, some (.call ⟨(.value (.func Zb6)), #[.tmp 9, .tmp 11], #[Zg, Zg]⟩), none⟩,
 ⟨some 7, some (.move (.tmp 12)), none⟩,
 ⟨some 13, some (.extract (.tmp 7) 0), none⟩,
 ⟨some 14, some (.extract (.tmp 7) 1), none⟩,
 ⟨some 5, some (.assign (.tmp 13)), none⟩,
 ⟨some 6, some (.assign (.tmp 14)), none⟩])
  (.seq (.seq (.reg [] [⟨some 15, some (.move (.tmp 6)), none⟩,
 ⟨some 16, some (.call ⟨(.value (.func Zd5)), #[.tmp 15], #[Zg]⟩), none⟩])
  (.cond (.tmp 16) (.seq (.reg [] [⟨some 17, some (.move (.tmp 6)), none⟩,
 ⟨some 4, some (.assign (.tmp 17)), none⟩])
  .ret)
  .skip))
  (.seq (.seq (.reg [] [⟨some 18, some (.move (.tmp 0)), none⟩,
 ⟨some 19, some (.call ⟨(.value (.func Z6)), #[.tmp 18], #[Zg]⟩), none⟩,
 ⟨some 20, some (.unOp .not Zi (.tmp 19)), none⟩,
 ⟨some 21, some (.move (.tmp 20)), none⟩,
 ⟨some 22, some (.move (.tmp 1)), some (some 21, true)⟩,
 ⟨some 23, some (.call ⟨(.value (.func Z6)), #[.tmp 22], #[Zg]⟩), some (some 21, true)⟩,
 ⟨some 24, some (.unOp .not Zi (.tmp 23)), some (some 21, true)⟩,
 ⟨some 25, some (.pick (.tmp 21) (.tmp 24) (.const (.bool false))), none⟩])
  (.cond (.tmp 25) (.seq (.reg [] [⟨some 26, some (.move (.tmp 6)), none⟩,
 ⟨some 4, some (.assign (.tmp 26)), none⟩])
  .ret)
  .skip))
  (.seq (.seq (.reg [] [⟨some 27, some (.move (.tmp 0)), none⟩,
 ⟨some 28, some (.call ⟨(.value (.func Z6)), #[.tmp 27], #[Zg]⟩), none⟩,
 ⟨some 29, some (.move (.tmp 28)), none⟩,
 ⟨some 30, some (.move (.tmp 1)), some (some 29, true)⟩,
 ⟨some 31, some (.call ⟨(.value (.func Z6)), #[.tmp 30], #[Zg]⟩), some (some 29, true)⟩,
 ⟨some 32, some (.unOp .not Zi (.tmp 31)), some (some 29, true)⟩,
 ⟨some 33, some (.pick (.tmp 29) (.tmp 32) (.const (.bool false))), none⟩])
  (.cond (.tmp 33) (.seq (.reg [] [⟨some 34, some (.move (.tmp 1)), none⟩,
 ⟨some 35, some (.move (.tmp 6)), none⟩,
 ⟨some 36, some (.call ⟨(.value (.func Zdx)), #[.tmp 34, .tmp 35], #[Zg, Zg]⟩), none⟩,
 ⟨some 4, some (.assign (.tmp 36)), none⟩])
  .ret)
  .skip))
  (.seq (.seq (.reg [] [⟨some 37, some (.move (.tmp 0)), none⟩,
 ⟨some 38, some (.call ⟨(.value (.func Z6)), #[.tmp 37], #[Zg]⟩), none⟩,
 ⟨some 39, some (.unOp .not Zi (.tmp 38)), none⟩])
  (.cond (.tmp 39) (.seq (.reg [] [⟨some 40, some (.move (.tmp 6)), none⟩,
 ⟨some 41, some (.move (.tmp 1)), none⟩,
 ⟨some 42, some (.call ⟨(.value (.func Zb5)), #[(.tmp 40), (.tmp 41), (.const (.bool false))], #[Zg, Zg, Zi]⟩), none⟩,
 ⟨some 4, some (.assign (.tmp 42)), none⟩])
  .ret)
  .skip))
  (.seq (.reg [] [⟨some 43, some (.move (.tmp 6)), none⟩,
 ⟨some 44, some (.call ⟨(.value (.func Zck)), #[.tmp 43], #[Zg]⟩), none⟩,
 ⟨some 4, some (.assign (.tmp 44)), none⟩])
  .ret)))))))
theorem Zkh {a0 a1 : AV} {H : AHeap} : R Zew [a0, a1] H = fnK Tryz.prog [0] H [(.tmp 4)] (evalL Tryz.prog KT R Zg3 (Env.args [a0, a1] 0) H) :=
  runs_body (D := DT) (f := Zew) Tryz.func105 (by kernel_rfl) (by kernel_rfl) (by kernel_rfl) (by kernel_rfl) (by kernel_rfl) (Nat.le_of_ble_eq_true rfl)
def Zg4 : LCode := (.seq (.seq (.reg [] [⟨some 11, some (.move (.tmp 6)), none⟩,
 ⟨some 12, some (.move (.tmp 0)), none⟩,
 ⟨some 13, some (.call ⟨(.builtin .len), #[.tmp 12], #[Zg]⟩), none⟩,
 ⟨some 14, some (.binOp .lss Zc (.tmp 11) (.tmp 13) Zc), none⟩])
  (.cond (.tmp 14) .skip
  (.exit 0)))
  (.seq (.block 1 (.reg [] [⟨some 17, some (.move (.tmp 5)), none⟩,
 ⟨some 18, some (.move (.tmp 6)), none⟩,
 ⟨some 19, some (.move (.tmp 0)), none⟩,
 ⟨some 20, some (.move (.tmp 6)), none⟩,
 ⟨some 21, some (.move (.tmp 1)), none⟩,
 ⟨some 22, some (.binOp .sub Zc (.tmp 20) (.tmp 21) Zc), none⟩,
 ⟨some 23, some (.indexAddr Zg (.tmp 19) (.tmp 22)), none⟩,
 ⟨some 24, some (.load Zi (.tmp 23)), none⟩,
 ⟨some 25, some (.indexAddr Zg (.tmp 17) (.tmp 18)), none⟩,
 ⟨none, some (.store Zi (.tmp 25) (.tmp 24)), none⟩]))
  (.reg [] [⟨some 15, some (.move (.tmp 6)), none⟩,
 ⟨some 16, some (.binOp .add Zc (.tmp 15) (.const (.int .i64 1)) Zc), none⟩,
 ⟨some 6, some (.assign (.tmp 16)), none⟩])))
@[simp] theorem Zmu : defs Zg4 = [11, 12, 13, 14, 17, 18, 19, 20, 21, 22, 23, 24, 25, 15, 16, 6] := by rfl
def Zja : LCode := (.seq (.reg [] [⟨some 4, some (.assign (.const (.slice none 0 0))), none⟩])
  (.seq (.reg [] [⟨some 7, some (.move (.tmp 0)), none⟩,
 ⟨some 8, some (.call ⟨(.builtin .len), #[.tmp 7], #[Zg]⟩), none⟩,
 ⟨some 9, some (.makeSlice Zg (.tmp 8) (.tmp 8)), none⟩,
 ⟨some 5, some (.assign (.tmp 9)), none⟩])
  (.seq (.seq (.reg [] [⟨some 10, some (.move (.tmp 1)), none⟩,
 ⟨some 6, some (.assign (.tmp 10)), none⟩])
  (.block 0 (.loop Zg4)))
  (.seq (.reg [] [⟨some 26, some (.move (.tmp 5)), none⟩,
 ⟨some 4, some (.assign (.tmp 26)), none⟩])
  .ret))))
theorem Zlc {a0 a1 : AV} {H : AHeap} : R Zcz [a0, a1] H = fnK Tryz.prog [] H [(.tmp 4)] (evalL Tryz.prog KT R Zja (Env.args [a0, a1] 0) H) :=
  runs_body (D := DT) (f := Zcz) Tryz.func106 (by kernel_rfl) (by kernel_rfl) (by kernel_rfl) (by kernel_rfl) (by kernel_rfl) (Nat.le_of_ble_eq_true rfl)
def Zfq : LCode := (.seq (.seq (.reg [] [⟨some 8, some (.move (.tmp 4)), none⟩,
 ⟨some 9, some (.binOp .geq Zc (.tmp 8) (.const (.int .i64 0)) Zc), none⟩])
  (.cond (.tmp 9) .skip
  (.exit 0)))
  (.seq (.block 1 (.seq (.reg [] [⟨some 12, some (.move (.tmp 3)), none⟩,
 ⟨some 13, some (.binOp .mul Zc (.const (.int .i64 2)) (.tmp 12) Zc), none⟩,
 ⟨some 3, some (.assign (.tmp 13)), none⟩])
  (.seq (.seq (.reg [] [⟨some 14, some (.move (.tmp 0)), none⟩,
 ⟨some 15, some (.move (.tmp 4)), none⟩,
 ⟨some 16, some (.indexAddr Zg (.tmp 14) (.tmp 15)), none⟩,
 ⟨some 17, some (.load Zi (.tmp 16)), none⟩])
  (.cond (.tmp 17) (.reg [] [⟨some 18, some (.move (.tmp 3)), none⟩,
 ⟨some 19, some (.binOp .add Zc (.tmp 18) (.const (.int .i64 1)) Zc), none⟩,
 ⟨some 3, some (.assign (.tmp 19)), none⟩])
  .skip))
  (.seq (.reg [] [⟨some 20, some (.move (.tmp 3)), none⟩,
 ⟨some 21, some (.move (.tmp 0)), none⟩,
 ⟨some 22, some (.call ⟨(.builtin .len), #[.tmp 21], #[Zg]⟩), none⟩,
 ⟨some 23, some (.binOp .gtr Zc (.tmp 20) (.tmp 22) Zc), none⟩])
  (.cond (.tmp 23) (.reg [] [⟨some 24, some (.move (.tmp 0)), none⟩,
 ⟨some 25, some (.call ⟨(.builtin .len), #[.tmp 24], #[Zg]⟩), none⟩,
 ⟨some 3, some (.assign (.tmp 25)), none⟩])
  .skip)))))
  (.reg [] [⟨some 10, some (.move (.tmp 4)), none⟩,
 ⟨some 11, some (.binOp .sub Zc (.tmp 10) (.const (.int .i64 1)) Zc), none⟩,
 ⟨some 4, some (.assign (.tmp 11)), none⟩])))
@[simp] theorem Zlr : defs Zfq = [8, 9, 12, 13, 3, 14, 15, 16, 17, 18, 19, 3, 20, 21, 22, 23, 24, 25, 3, 10, 11, 4] := by rfl
def Zho : LCode := (.seq (.reg [] [⟨some 2, some (.assign (.const (.int .i64 0))), none⟩])
  (.seq (.reg [] [⟨some 3, some (.assign (.const (.int .i64 0))), none⟩])
  (.seq (.seq (.reg [] [⟨some 5, some (.move (.tmp 0)), none⟩,
 ⟨some 6, some (.call ⟨(.builtin .len), #[.tmp 5], #[Zg]⟩), none⟩,
 ⟨some 7, some (.binOp .sub Zc (.tmp 6) (.const (.int .i64 1)) Zc), none⟩,
 ⟨some 4, some (.assign (.tmp 7)), none⟩])
  (.block 0 (.loop Zfq)))
  (.seq (.reg [] [⟨some 26, some (.move (.tmp 3)), none⟩,
 ⟨some 2, some (.assign (.tmp 26)), none⟩])
  .ret))))
theorem Zjg {a0 : AV} {H : AHeap} : R Zcm [a0] H = fnK Tryz.prog [] H [(.tmp 2)] (evalL Tryz.prog KT R Zho (Env.args [a0] 0) H) :=
  runs_body (D := DT) (f := Zcm) Tryz.func107 (by kernel_rfl) (by kernel_rfl) (by kernel_rfl) (by kernel_rfl) (by kernel_rfl) (Nat.le_of_ble_eq_true rfl)
def Zge : LCode := (.seq (.seq (.reg [] [⟨some 12, some (.move (.tmp 8)), none⟩,
 ⟨some 13, some (.move (.tmp 0)), none⟩,
 ⟨some 14, some (.call ⟨(.builtin .len), #[.tmp 13], #[Zg]⟩), none⟩,
 ⟨some 15, some (.binOp .lss Zc (.tmp 12) (.tmp 14) Zc), none⟩])
  (.cond (.tmp 15) .skip
  (.exit 0)))
  (.seq (.block 1 (.seq (.reg [] [⟨some 18, some (.move (.tmp 7)), none⟩,
 ⟨some 19, some (.move (.tmp 8)), none⟩,
 ⟨some 20, some (.move (.tmp 2)), none⟩,
 ⟨some 21, some (.indexAddr Zg (.tmp 18) (.tmp 19)), none⟩,
 ⟨none, some (.store Zi (.tmp 21) (.tmp 20)), none⟩])
  (.seq (.reg [] [⟨some 22, some (.move (.tmp 8)), none⟩,
 ⟨some 23, some (.move (.tmp 1)), none⟩,
 ⟨some 24, some (.binOp .add Zc (.tmp 22) (.tmp 23) Zc), none⟩,
 ⟨some 25, some (.move (.tmp 0)), none⟩,
 ⟨some 26, some (.call ⟨(.builtin .len), #[.tmp 25], #[Zg]⟩), none⟩,
 ⟨some 27, some (.binOp .lss Zc (.tmp 24) (.tmp 26) Zc), none⟩])
  (.cond (.tmp 27) (.reg [] [⟨some 28, some (.move (.tmp 7)), none⟩,
 ⟨some 29, some (.move (.tmp 8)), none⟩,
 ⟨some 30, some (.move (.tmp 0)), none⟩,
 ⟨some 31, some (.move (.tmp 8)), none⟩,
 ⟨some 32, some (.move (.tmp 1)), none⟩,
 ⟨some 33, some (.binOp .add Zc (.tmp 31) (.tmp 32) Zc), none⟩,
 ⟨some 34, some (.indexAddr Zg (.tmp 30) (.tmp 33)), none⟩,
 ⟨some 35, some (.load Zi (.tmp 34)), none⟩,
 ⟨some 36, some (.indexAddr Zg (.tmp 28) (.tmp 29)), none⟩,
 ⟨none, some (.store Zi (.tmp 36) (.tmp 35)), none⟩])
  .skip))))
  (.reg [] [⟨some 16, some (.move (.tmp 8)), none⟩,
 ⟨some 17, some (.binOp .add Zc (.tmp 16) (.const (.int .i64 1)) Zc), none⟩,
 ⟨some 8, some (.assign (.tmp 17)), none⟩])))
@[simp] theorem Zmf : defs Zge = [12, 13, 14, 15, 18, 19, 20, 21, 22, 23, 24, 25, 26, 27, 28, 29, 30, 31, 32, 33, 34, 35, 36, 16, 17, 8] := by rfl
def Zid : LCode := (.seq (.reg [] [⟨some 6, some (.assign (.const (.slice none 0 0))), none⟩])
  (.seq (.reg [] [⟨some 9, some (.move (.tmp 0)), none⟩,
 ⟨some 10, some (.call ⟨(.builtin .len), #[.tmp 9], #[Zg]⟩), none⟩,
 ⟨some 11, some (.makeSlice Zg (.tmp 10) (.tmp 10)), none⟩,
 ⟨some 7, some (.assign (.tmp 11)), none⟩])
  (.seq (.seq (.reg [] [⟨some 8, some (.assign (.const (.int .i64 0))), none⟩])
  (.block 0 (.loop Zge)))
  (.seq (.reg [] [⟨some 37, some (.move (.tmp 7)), none⟩,
 ⟨some 6, some (.assign (.tmp 37)), none⟩])
  .ret))))
theorem Zki {a0 a1 a2 : AV} {H : AHeap} : R Zda [a0, a1, a2] H = fnK Tryz.prog [0] H [(.tmp 6)] (evalL Tryz.prog KT R Zid (Env.args [a0, a1, a2] 0) H) :=
  runs_body (D := DT) (f := Zda) Tryz.func108 (by kernel_rfl) (by kernel_rfl) (by kernel_rfl) (by kernel_rfl) (by kernel_rfl) (Nat.le_of_ble_eq_true rfl)
def Zgu : LCode := (.seq (.reg [] [⟨some 2, some (.box Zb (.tmp 0)), none⟩,
 ⟨some 3, some (.box Zb (.tmp 1)), none⟩,
 ⟨some 4, some (.alloc Zb), none⟩])
  (.seq (.reg [] [⟨some 10, some (.fieldAddr Zb (.tmp 2) 0), none⟩,
 ⟨some 11, some (.load Ze (.tmp 10)), none⟩,
 ⟨some 12, some (.fieldAddr Zb (.tmp 3) 0), none⟩,
 ⟨some 13, some (.load Ze (.tmp 12)), none⟩,
 ⟨some 14, some (.call ⟨(.value (.func Zfl)), #[(.tmp 11), (.tmp 13), (.const (.int .u64 0))], #[Ze, Ze, Ze]⟩), none⟩,
 ⟨some 9, some (.move (.tmp 14)), none⟩,
 ⟨some 15, some (.extract (.tmp 9) 0), none⟩,
 ⟨some 16, some (.extract (.tmp 9) 1), none⟩,
 ⟨some 5, some (.assign (.tmp 15)), none⟩,
 ⟨some 6, some (.assign (.tmp 16)), none⟩])
  (.seq (.reg [] [⟨some 18, some (.fieldAddr Zb (.tmp 2) 1), none⟩,
 ⟨some 19, some (.load Ze (.tmp 18)), none⟩,
 ⟨some 20, some (.fieldAddr Zb (.tmp 3) 1), none⟩,
 ⟨some 21, some (.load Ze (.tmp 20)), none⟩,
 ⟨some 22, some (.move (.tmp 6)), none⟩,
 ⟨some 23, some (.call ⟨(.value (.func Zfl)), #[.tmp 19, .tmp 21, .tmp 22], #[Ze, Ze, Ze]⟩), none⟩,
 ⟨some 17, some (.move (.tmp 23)), none⟩,
 ⟨some 24, some (.extract (.tmp 17) 0), none⟩,
 ⟨some 25, some (.extract (.tmp 17) 1), none⟩,
 ⟨some 7, some (.assign (.tmp 24)), none⟩,
 ⟨some 8, some (.assign (.tmp 25)), none⟩])
  (.seq (.reg [] [⟨some 26, some (.move (.tmp 5)), none⟩,
 ⟨some 27, some (.move (.tmp 7)), none⟩,
 ⟨some 28, some (.build Zb #[(0, (.tmp 26)), (1, (.tmp 27))]), none⟩,
 ⟨none, some (.store Zb (.tmp 4) (.tmp 28)), none⟩])
  .ret))))
theorem Zit {a0 a1 : AV} {H : AHeap} : R Zbc [a0, a1] H = fnK Tryz.prog [] H [(.cell 4 Zb)] (evalL Tryz.prog KT R Zgu (Env.args [a0, a1] 0) H) :=
  runs_body (D := DT) (f := Zbc) Tryz.func109 (by kernel_rfl) (by kernel_rfl) (by kernel_rfl) (by kernel_rfl) (by kernel_rfl) (Nat.le_of_ble_eq_true rfl)
def Zgv : LCode := (.seq (.reg [] [⟨some 2, some (.box Zb (.tmp 0)), none⟩,
 ⟨some 4, some (.assign (.const (.bool false))), none⟩])
  (.seq (.reg [] [⟨some 5, some (.load Zb (.tmp 2)), none⟩,
 ⟨some 6, some (.move (.tmp 1)), none⟩,
 ⟨some 7, some (.call ⟨(.value (.func Zx)), #[.tmp 5, .tmp 6], #[Zb, Zc]⟩), none⟩,
 ⟨some 8, some (.field Zb (.tmp 7) 0), none⟩,
 ⟨some 9, some (.binOp .and Ze (.tmp 8) (.const (.int .u64 1)) Ze), none⟩,
 ⟨some 10, some (.binOp .eql Ze (.tmp 9) (.const (.int .u64 1)) Ze), none⟩,
 ⟨some 4, some (.assign (.tmp 10)), none⟩])
  .ret))
theorem Ziu {a0 a1 : AV} {H : AHeap} : R Zce [a0, a1] H = fnK Tryz.prog [] H [(.tmp 4)] (evalL Tryz.prog KT R Zgv (Env.args [a0, a1] 0) H) :=
  runs_body (D := DT) (f := Zce) Tryz.func110 (by kernel_rfl) (by kernel_rfl) (by kernel_rfl) (by kernel_rfl) (by kernel_rfl) (Nat.le_of_ble_eq_true rfl)
def Zgw : LCode := (.seq (.reg [] [⟨some 2, some (.box Zb (.tmp 0)), none⟩,
 ⟨some 3, some (.box Zb (.tmp 1)), none⟩,
 ⟨some 4, some (.alloc Zb), none⟩])
  (.seq (.reg [2] [⟨some 5, some (.load Zb (.tmp 2)), none⟩,
 ⟨some 6, some (.load Zb (.tmp 3)), none⟩,
 ⟨some 7, some (.call ⟨(.value (.func Zbb)), #[.tmp 6], #[Zb]⟩), none⟩,
 ⟨some 8, some (.call ⟨(.value (.func Zbc)), #[.tmp 5, .tmp 7], #[Zb, Zb]⟩), none⟩,
 ⟨none, some (.store Zb (.tmp 4) (.tmp 8)), none⟩])
  .ret))
theorem Ziv {a0 a1 : AV} {H : AHeap} : R Zbe [a0, a1] H = fnK Tryz.prog [] H [(.cell 4 Zb)] (evalL Tryz.prog KT R Zgw (Env.args [a0, a1] 0) H) :=
  runs_body (D := DT) (f := Zbe) Tryz.func111 (by kernel_rfl) (by kernel_rfl) (by kernel_rfl) (by kernel_rfl) (by kernel_rfl) (Nat.le_of_ble_eq_true rfl)
def Zgx : LCode := (.seq (.reg [] [⟨some 2, some (.box Zb (.tmp 0)), none⟩,
 ⟨some 3, some (.box Zb (.tmp 1)), none⟩,
 ⟨some 4, some (.alloc Zb), none⟩])
  (.seq (.reg [] [⟨some 8, some (.fieldAddr Zb (.tmp 2) 0), none⟩,
 ⟨some 9, some (.load Ze (.tmp 8)), none⟩,
 ⟨some 10, some (.fieldAddr Zb (.tmp 3) 0), none⟩,
 ⟨some 11, some (.load Ze (.tmp 10)), none⟩,
 ⟨some 12, some (.call ⟨(.value (.func Zfm)), #[.tmp 9, .tmp 11], #[Ze, Ze]⟩), none⟩,
 ⟨some 7, some (.move (.tmp 12)), none⟩,
 ⟨some 13, some (.extract (.tmp 7) 0), none⟩,
 ⟨some 14, some (.extract (.tmp 7) 1), none⟩,
 ⟨some 5, some (.assign (.tmp 13)), none⟩,
 ⟨some 6, some (.assign (.tmp 14)), none⟩])
  (.seq (.reg [] [⟨some 15, some (.move (.tmp 6)), none⟩,
 ⟨some 16, some (.move (.tmp 5)), none⟩,
 ⟨some 17, some (.fieldAddr Zb (.tmp 2) 1), none⟩,
 ⟨some 18, some (.load Ze (.tmp 17)), none⟩,
 ⟨some 19, some (.fieldAddr Zb (.tmp 3) 0), none⟩,
 ⟨some 20, some (.load Ze (.tmp 19)), none⟩,
 ⟨some 21, some (.binOp .mul Ze (.tmp 18) (.tmp 20) Ze), none⟩,
 ⟨some 22, some (.binOp .add Ze (.tmp 16) (.tmp 21) Ze), none⟩,
 ⟨some 23, some (.fieldAddr Zb (.tmp 2) 0), none⟩,
 ⟨some 24, some (.load Ze (.tmp 23)), none⟩,
 ⟨some 25, some (.fieldAddr Zb (.tmp 3) 1), none⟩,
 ⟨some 26, some (.load Ze (.tmp 25)), none⟩,
 ⟨some 27, some (.binOp .mul Ze (.tmp 24) (.tmp 26) Ze), none⟩,
 ⟨some 28, some (.binOp .add Ze (.tmp 22) (.tmp 27) Ze), none⟩,
 ⟨some 29, some (.build Zb #[(0, (.tmp 15)), (1, (.tmp 28))]), none⟩,
 ⟨none, some (.store Zb (.tmp 4) (.tmp 29)), none⟩])
  .ret)))
theorem Ziw {a0 a1 : AV} {H : AHeap} : R Zcf [a0, a1] H = fnK Tryz.prog [] H [(.cell 4 Zb)] (evalL Tryz.prog KT R Zgx (Env.args [a0, a1] 0) H) :=
  runs_body (D := DT) (f := Zcf) Tryz.func112 (by kernel_rfl) (by kernel_rfl) (by kernel_rfl) (by kernel_rfl) (by kernel_rfl) (Nat.le_of_ble_eq_true rfl)
def Zix : LCode := (.seq (.reg [] [⟨some 4, some (.box Zb (.tmp 1)), none⟩,
 ⟨some 5, some (.box Zb (.tmp 2)), none⟩,
 ⟨some 6, some (.alloc Zb), none⟩,
 ⟨some 7, some (.alloc Zb), none⟩])
  (.seq (.seq (.reg [] [⟨some 8, some (.load Zb (.tmp 5)), none⟩,
 ⟨some 9, some (.build Zb #[]), none⟩,
 ⟨some 10, some (.binOp .eql Zb (.tmp 8) (.tmp 9) Zb), none⟩])
  (.cond (.tmp 10) (.seq (.reg [1, 2, 3, 1006] [⟨some 11, some (.move (.tmp 0)), none⟩,
 ⟨some 12, some (.call ⟨(.value (.func Zf8)), #[.tmp 11], #[Zc]⟩), none⟩,
 ⟨some 13, some (.load Zb (.tmp 4)), none⟩,
 ⟨none, some (.store Zb (.tmp 6) (.tmp 12)), none⟩,
 ⟨none, some (.store Zb (.tmp 7) (.tmp 13)), none⟩])
  .ret)
  .skip))
  (.seq (.reg [] [⟨some 14, some (.load Zb (.tmp 4)), none⟩,
 ⟨some 15, some (.load Zb (.tmp 5)), none⟩,
 ⟨some 16, some (.call ⟨(.value (.func Zc3)), #[.tmp 14, .tmp 15], #[Zb, Zb]⟩), none⟩,
 ⟨some 17, some (.extract (.tmp 16) 0), none⟩,
 ⟨some 18, some (.extract (.tmp 16) 1), none⟩,
 ⟨none, some (.store Zb (.tmp 6) (.tmp 17)), none⟩,
 ⟨none, some (.store Zb (.tmp 7) (.tmp 18)), none⟩])
  .ret)))
theorem Zj4 {a0 a1 a2 : AV} {H : AHeap} : R Zc2 [a0, a1, a2] H = fnK Tryz.prog [] H [(.cell 6 Zb), (.cell 7 Zb)] (evalL Tryz.prog KT R Zix (Env.args [a0, a1, a2] 0) H) :=
  runs_body (D := DT) (f := Zc2) Tryz.func113 (by kernel_rfl) (by kernel_rfl) (by kernel_rfl) (by kernel_rfl) (by kernel_rfl) (Nat.le_of_ble_eq_true rfl)
def Zl8 : LCode := (.seq (.reg [] [⟨some 1, some (.box Za (.tmp 0)), none⟩,
 ⟨some 2, some (.alloc Zb), none⟩])
  (.seq (.seq (.reg [] [⟨some 3, some (.load Za (.tmp 1)), none⟩,
 ⟨some 4, some (.call ⟨(.value (.func Zcp)), #[.tmp 3], #[Za]⟩), none⟩])
  (.cond (.tmp 4) (.seq (.reg [3, 4] [⟨some 5, some (.fieldAddr Za (.tmp 1) 0), none⟩,
 ⟨some 6, some (.load Zc (.tmp 5)), none⟩,
 ⟨some 7, some (.load Za (.tmp 1)), none⟩,
 ⟨some 8, some (.call ⟨(.value (.func Zcv)), #[.tmp 7], #[Za]⟩), none⟩,
 ⟨some 9, some (.call ⟨(.value (.func Zbb)), #[.tmp 8], #[Zb]⟩), none⟩,
 ⟨some 10, some (.call ⟨(.value (.func Zd2)), #[.tmp 6, .tmp 9], #[Zc, Zb]⟩), none⟩,
 ⟨some 11, some (.call ⟨(.value (.func Zcv)), #[.tmp 10], #[Za]⟩), none⟩,
 ⟨none, some (.store Zb (.tmp 2) (.tmp 11)), none⟩])
  .ret)
  .skip))
  (.seq (.reg [] [⟨some 12, some (.load Za (.tmp 1)), none⟩,
 ⟨some 13, some (.call ⟨(.value (.func Zcv)), #[.tmp 12], #[Za]⟩), none⟩,
 ⟨none, some (.store Zb (.tmp 2) (.tmp 13)), none⟩])
  .ret)))
theorem Zm5 {a0 : AV} {H : AHeap} : R Zex [a0] H = fnK Tryz.prog [] H [(.cell 2 Zb)] (evalL Tryz.prog KT R Zl8 (Env.args [a0] 0) H) :=
  runs_body (D := DT) (f := Zex) Tryz.func114 (by kernel_rfl) (by kernel_rfl) (by kernel_rfl) (by kernel_rfl) (by kernel_rfl) (Nat.le_of_ble_eq_true rfl)
def Zjh : LCode := (.seq (.reg [] [⟨some 3, some (.box Zb (.tmp 1)), none⟩,
 ⟨some 4, some (.alloc Zb), none⟩])
  (.seq (.seq (.reg [] [⟨some 5, some (.move (.tmp 0)), none⟩])
  (.cond (.tmp 5) (.seq (.reg [] [⟨some 6, some (.load Zb (.tmp 3)), none⟩,
 ⟨some 7, some (.call ⟨(.value (.func Zbb)), #[.tmp 6], #[Zb]⟩), none⟩,
 ⟨none, some (.store Zb (.tmp 4) (.tmp 7)), none⟩])
  .ret)
  .skip))
  (.seq (.reg [] [⟨some 8, some (.load Zb (.tmp 3)), none⟩,
 ⟨none, some (.store Zb (.tmp 4) (.tmp 8)), none⟩])
  .ret)))
theorem Zln {a0 a1 : AV} {H : AHeap} : R Zes [a0, a1] H = fnK Tryz.prog [] H [(.cell 4 Zb)] (evalL Tryz.prog KT R Zjh (Env.args [a0, a1] 0) H) :=
  runs_body (D := DT) (f := Zes) Tryz.func115 (by kernel_rfl) (by kernel_rfl) (by kernel_rfl) (by kernel_rfl) (by kernel_rfl) (Nat.le_of_ble_eq_true rfl)
def Zk0 : LCode := (.seq (.reg [] [⟨some 2, some (.box Za (.tmp 0)), none⟩,
 ⟨some 3, some (.box Za (.tmp 1)), none⟩,
 ⟨some 4, some (.alloc Zb), none⟩])
  (.seq (.reg [3, 5, 10, 11] [⟨some 8, some (.fieldAddr Za (.tmp 2) 0), none⟩,
 ⟨some 9, some (.load Zc (.tmp 8)), none⟩,
 ⟨some 10, some (.load Za (.tmp 2)), none⟩,
 ⟨some 11, some (.call ⟨(.value (.func Zex)), #[.tmp 10], #[Za]⟩), none⟩,
 ⟨some 12, some (.load Za (.tmp 3)), none⟩,
 ⟨some 13, some (.call ⟨(.value (.func Zex)), #[.tmp 12], #[Za]⟩), none⟩,
 ⟨some 14, some (.call ⟨(.value (.func Zc2)), #[.tmp 9, .tmp 11, .tmp 13], #[Zc, Zb, Zb]⟩), none⟩,
 ⟨some 7, some (.move (.tmp 14)), none⟩,
 ⟨some 15, some (.extract (.tmp 7) 0), none⟩,
 ⟨some 16, some (.extract (.tmp 7) 1), none⟩,
 ⟨some 5, some (.alloc Zb), none⟩,
 ⟨some 6, some (.alloc Zb), none⟩,
 ⟨none, some (.store Zb (.tmp 5) (.tmp 15)), none⟩,
 ⟨none, some (.store Zb (.tmp 6) (.tmp 16)), none⟩])
  (.seq (.block 0 (.seq (.reg [] [⟨some 18, some (.load Zb (.tmp 6)), none⟩,
 ⟨some 19, some (.build Zb #[]), none⟩,
 ⟨some 20, some (.binOp .eql Zb (.tmp 18) (.tmp 19) Zb), none⟩,
 ⟨some 21, some (.move (.tmp 20)), none⟩,
 ⟨some 22, some (.load Za (.tmp 2)), some (some 21, false)⟩,
 ⟨some 23, some (.call ⟨(.value (.func Zcp)), #[.tmp 22], #[Za]⟩), some (some 21, false)⟩,
 ⟨some 24, some (.unOp .not Zi (.tmp 23)), some (some 21, false)⟩,
 ⟨some 25, some (.move (.tmp 24)), some (some 21, false)⟩,
 ⟨some 26, some (.load Za (.tmp 3)), some (some 25, true)⟩,
 ⟨some 27, some (.call ⟨(.value (.func Zcp)), #[.tmp 26], #[Za]⟩), some (some 25, true)⟩,
 ⟨some 28, some (.unOp .not Zi (.tmp 27)), some (some 25, true)⟩,
 ⟨some 29, some (.pick (.tmp 25) (.tmp 28) (.const (.bool false))), some (some 21, false)⟩,
 ⟨some 30, some (.pick (.tmp 21) (.const (.bool true)) (.tmp 29)), none⟩,
 ⟨some 17, some (.assign (.tmp 30)), none⟩])
  (.cond (.tmp 17) (.seq (.reg [] [⟨some 31, some (.load Zb (.tmp 6)), none⟩,
 ⟨none, some (.store Zb (.tmp 4) (.tmp 31)), none⟩])
  .ret)
  (.seq (.reg [] [⟨some 33, some (.load Za (.tmp 3)), none⟩,
 ⟨some 34, some (.call ⟨(.value (.func Zcp)), #[.tmp 33], #[Za]⟩), none⟩,
 ⟨some 35, some (.unOp .not Zi (.tmp 34)), none⟩,
 ⟨some 32, some (.assign (.tmp 35)), none⟩])
  (.cond (.tmp 32) (.seq (.reg [1] [⟨some 36, some (.load Za (.tmp 3)), none⟩,
 ⟨some 37, some (.call ⟨(.value (.func Zcv)), #[.tmp 36], #[Za]⟩), none⟩,
 ⟨some 38, some (.load Zb (.tmp 6)), none⟩,
 ⟨some 39, some (.call ⟨(.value (.func Zbe)), #[.tmp 37, .tmp 38], #[Zb, Zb]⟩), none⟩,
 ⟨none, some (.store Zb (.tmp 4) (.tmp 39)), none⟩])
  .ret)
  (.seq (.reg [] [⟨some 41, some (.load Za (.tmp 2)), none⟩,
 ⟨some 42, some (.call ⟨(.value (.func Zcp)), #[.tmp 41], #[Za]⟩), none⟩,
 ⟨some 43, some (.unOp .not Zi (.tmp 42)), none⟩,
 ⟨some 40, some (.assign (.tmp 43)), none⟩])
  (.cond (.tmp 40) (.seq (.reg [2] [⟨some 44, some (.load Zb (.tmp 6)), none⟩,
 ⟨some 45, some (.load Za (.tmp 3)), none⟩,
 ⟨some 46, some (.call ⟨(.value (.func Zcv)), #[.tmp 45], #[Za]⟩), none⟩,
 ⟨some 47, some (.call ⟨(.value (.func Zbc)), #[.tmp 44, .tmp 46], #[Zb, Zb]⟩), none⟩,
 ⟨none, some (.store Zb (.tmp 4) (.tmp 47)), none⟩])
  .ret)
  .skip)))))))
  (.seq (.reg [] [⟨some 48, some (.load Zb (.tmp 6)), none⟩,
 ⟨some 49, some (.call ⟨(.value (.func Zbb)), #[.tmp 48], #[Zb]⟩), none⟩,
 ⟨none, some (.store Zb (.tmp 4) (.tmp 49)), none⟩])
  .ret))))
theorem Zm6 {a0 a1 : AV} {H : AHeap} : R Zhr [a0, a1] H = fnK Tryz.prog [] H [(.cell 4 Zb)] (evalL Tryz.prog KT R Zk0 (Env.args [a0, a1] 0) H) :=
  runs_body (D := DT) (f := Zhr) Tryz.func116 (by kernel_rfl) (by kernel_rfl) (by kernel_rfl) (by kernel_rfl) (by kernel_rfl) (Nat.le_of_ble_eq_true rfl)
def Zd3 : LCode := (.seq (.reg [] [⟨some 2, some (.box Zb (.tmp 0)), none⟩,
 ⟨some 3, some (.box Zb (.tmp 1)), none⟩,
 ⟨some 4, some (.assign (.const (.bool false))), none⟩])
  (.seq (.reg [] [⟨some 5, some (.fieldAddr Zb (.tmp 2) 1), none⟩,
 ⟨some 6, some (.load Ze (.tmp 5)), none⟩,
 ⟨some 7, some (.fieldAddr Zb (.tmp 3) 1), none⟩,
 ⟨some 8, some (.load Ze (.tmp 7)), none⟩,
 ⟨some 9, some (.binOp .lss Ze (.tmp 6) (.tmp 8) Ze), none⟩,
 ⟨some 10, some (.move (.tmp 9)), none⟩,
 ⟨some 11, some (.fieldAddr Zb (.tmp 2) 1), some (some 10, false)⟩,
 ⟨some 12, some (.load Ze (.tmp 11)), some (some 10, false)⟩,
 ⟨some 13, some (.fieldAddr Zb (.tmp 3) 1), some (some 10, false)⟩,
 ⟨some 14, some (.load Ze (.tmp 13)), some (some 10, false)⟩,
 ⟨some 15, some (.binOp .eql Ze (.tmp 12) (.tmp 14) Ze), some (some 10, false)⟩,
 ⟨some 16, some (.move (.tmp 15)), some (some 10, false)⟩,
 ⟨some 17, some (.fieldAddr Zb (.tmp 2) 0), some (some 16, true)⟩,
 ⟨some 18, some (.load Ze (.tmp 17)), some (some 16, true)⟩,
 ⟨some 19, some (.fieldAddr Zb (.tmp 3) 0), some (some 16, true)⟩,
 ⟨some 20, some (.load Ze (.tmp 19)), some (some 16, true)⟩,
 ⟨some 21, some (.binOp .lss Ze (.tmp 18) (.tmp 20) Ze), some (some 16, true)⟩,
 ⟨some 22, some (.pick (.tmp 16) (.tmp 21) (.const (.bool false))), some (some 10, false)⟩,
 ⟨some 23, some (.pick (.tmp 10) (.const (.bool true)) (.tmp 22)), none⟩,
 ⟨some 4, some (.assign (.tmp 23)), none⟩])
  .ret))
theorem Zig {a0 a1 : AV} {H : AHeap} : R Z8 [a0, a1] H = fnK Tryz.prog [] H [(.tmp 4)] (evalL Tryz.prog KT R Zd3 (Env.args [a0, a1] 0) H) :=
  runs_body (D := DT) (f := Z8) Tryz.func117 (by kernel_rfl) (by kernel_rfl) (by kernel_rfl) (by kernel_rfl) (by kernel_rfl) (Nat.le_of_ble_eq_true rfl)
def Zgf : LCode := (.seq (.seq (.reg [] [⟨some 4, some (.move (.tmp 3)), none⟩,
 ⟨some 5, some (.move (.tmp 0)), none⟩,
 ⟨some 6, some (.call ⟨(.builtin .len), #[.tmp 5], #[Zg]⟩), none⟩,
 ⟨some 7, some (.binOp .lss Zc (.tmp 4) (.tmp 6) Zc), none⟩])
  (.cond (.tmp 7) .skip
  (.exit 0)))
  (.seq (.block 1 (.seq (.reg [] [⟨some 10, some (.move (.tmp 0)), none⟩,
 ⟨some 11, some (.move (.tmp 3)), none⟩,
 ⟨some 12, some (.indexAddr Zg (.tmp 10) (.tmp 11)), none⟩,
 ⟨some 13, some (.load Zi (.tmp 12)), none⟩])
  (.cond (.tmp 13) (.seq (.reg [] [⟨some 2, some (.assign (.const (.bool false))), none⟩])
  .ret)
  .skip)))
  (.reg [] [⟨some 8, some (.move (.tmp 3)), none⟩,
 ⟨some 9, some (.binOp .add Zc (.tmp 8) (.const (.int .i64 1)) Zc), none⟩,
 ⟨some 3, some (.assign (.tmp 9)), none⟩])))
@[simp] theorem Zmg : defs Zgf = [4, 5, 6, 7, 10, 11, 12, 13, 2, 8, 9, 3] := by rfl
def Zie : LCode := (.seq (.reg [] [⟨some 2, some (.assign (.const (.bool false))), none⟩])
  (.seq (.seq (.reg [] [⟨some 3, some (.assign (.const (.int .i64 0))), none⟩])
  (.block 0 (.loop Zgf)))
  (.seq (.reg [] [⟨some 2, some (.assign (.const (.bool true))), none⟩])
  .ret)))
theorem Zkj {a0 : AV} {H : AHeap} : R Zd5 [a0] H = fnK Tryz.prog [] H [(.tmp 2)] (evalL Tryz.prog KT R Zie (Env.args [a0] 0) H) :=
  runs_body (D := DT) (f := Zd5) Tryz.func118 (by kernel_rfl) (by kernel_rfl) (by kernel_rfl) (by kernel_rfl) (by kernel_rfl) (Nat.le_of_ble_eq_true rfl)
theorem Zjx {x y c : BitVec 64} (hc : c.toNat ≤ 1) {H : AHeap} : R Zfl [u x, u y, u c] H = some (.tup [.int .u64 (((x.toNat : Int) + y.toNat + c.toNat) % 18446744073709551616), .int .u64 (((x.toNat : Int) + y.toNat + c.toNat) / 18446744073709551616)], H) :=
  runs_ext Tryz.func119 (by kernel_rfl) (ext_add64 (by kernel_rfl) (by kernel_rfl) (by kernel_rfl) (by kernel_rfl) (by omega) (by omega) (by omega) (by omega))
def Zhx : LCode := (.seq (.reg [] [⟨some 4, some (.assign (.const (.int .u64 0))), none⟩,
 ⟨some 5, some (.assign (.const (.int .u64 0))), none⟩])
  (.seq (.reg [] [⟨some 14, some (.move (.tmp 0)), none⟩,
 ⟨some 15, some (.binOp .and Ze (.tmp 14) (.const (.int .u64 4294967295)) Ze), none⟩,
 ⟨some 6, some (.assign (.tmp 15)), none⟩])
  (.seq (.reg [] [⟨some 16, some (.move (.tmp 0)), none⟩,
 ⟨some 17, some (.binOp .shr Ze (.tmp 16) (.const (.int .u64 32)) Zfo), none⟩,
 ⟨some 7, some (.assign (.tmp 17)), none⟩])
  (.seq (.reg [] [⟨some 18, some (.move (.tmp 1)), none⟩,
 ⟨some 19, some (.binOp .and Ze (.tmp 18) (.const (.int .u64 4294967295)) Ze), none⟩,
 ⟨some 8, some (.assign (.tmp 19)), none⟩])
  (.seq (.reg [] [⟨some 20, some (.move (.tmp 1)), none⟩,
 ⟨some 21, some (.binOp .shr Ze (.tmp 20) (.const (.int .u64 32)) Zfo), none⟩,
 ⟨some 9, some (.assign (.tmp 21)), none⟩])
  (.seq (.reg [] [⟨some 22, some (.move (.tmp 6)), none⟩,
 ⟨some 23, some (.move (.tmp 8)), none⟩,
 ⟨some 24, some (.binOp .mul Ze (.tmp 22) (.tmp 23) Ze), none⟩,
 ⟨some 10, some (.assign (.tmp 24)), none⟩])
  (.seq (.reg [] [⟨some 25, some (.move (.tmp 7)), none⟩,
 ⟨some 26, some (.move (.tmp 8)), none⟩,
 ⟨some 27, some (.binOp .mul Ze (.tmp 25) (.tmp 26) Ze), none⟩,
 ⟨some 28, some (.move (.tmp 10)), none⟩,
 ⟨some 29, some (.binOp .shr Ze (.tmp 28) (.const (.int .u64 32)) Zfo), none⟩,
 ⟨some 30, some (.binOp .add Ze (.tmp 27) (.tmp 29) Ze), none⟩,
 ⟨some 11, some (.assign (.tmp 30)), none⟩])
  (.seq (.reg [] [⟨some 31, some (.move (.tmp 11)), none⟩,
 ⟨some 32, some (.binOp .and Ze (.tmp 31) (.const (.int .u64 4294967295)) Ze), none⟩,
 ⟨some 12, some (.assign (.tmp 32)), none⟩])
  (.seq (.reg [] [⟨some 33, some (.move (.tmp 11)), none⟩,
 ⟨some 34, some (.binOp .shr Ze (.tmp 33) (.const (.int .u64 32)) Zfo), none⟩,
 ⟨some 13, some (.assign (.tmp 34)), none⟩])
  (.seq (.reg [] [⟨some 35, some (.move (.tmp 12)), none⟩,
 ⟨some 36, some (.move (.tmp 6)), none⟩,
 ⟨some 37, some (.move (.tmp 9)), none⟩,
 ⟨some 38, some (.binOp .mul Ze (.tmp 36) (.tmp 37) Ze), none⟩,
 ⟨some 39, some (.binOp .add Ze (.tmp 35) (.tmp 38) Ze), none⟩,
 ⟨some 12, some (.assign (.tmp 39)), none⟩])
  (.seq (.reg [] [⟨some 40, some (.move (.tmp 7)), none⟩,
 ⟨some 41, some (.move (.tmp 9)), none⟩,
 ⟨some 42, some (.binOp .mul Ze (.tmp 40) (.tmp 41) Ze), none⟩,
 ⟨some 43, some (.move (.tmp 13)), none⟩,
 ⟨some 44, some (.binOp .add Ze (.tmp 42) (.tmp 43) Ze), none⟩,
 ⟨some 45, some (.move (.tmp 12)), none⟩,
 ⟨some 46, some (.binOp .shr Ze (.tmp 45) (.const (.int .u64 32)) Zfo), none⟩,
 ⟨some 47, some (.binOp .add Ze (.tmp 44) (.tmp 46) Ze), none⟩,
 ⟨some 4, some (.assign (.tmp 47)), none⟩])
  (.seq (.reg [] [⟨some 48, some (.move (.tmp 0)), none⟩,
 ⟨some 49, some (.move (.tmp 1)), none⟩,
 ⟨some 50, some (.binOp .mul Ze (.tmp 48) (.tmp 49) Ze), none⟩,
 ⟨some 5, some (.assign (.tmp 50)), none⟩])
  .ret))))))))))))
theorem Zjy {a0 a1 : AV} {H : AHeap} : R Zfm [a0, a1] H = fnK Tryz.prog [] H [(.tmp 4), (.tmp 5)] (evalL Tryz.prog KT R Zhx (Env.args [a0, a1] 0) H) :=
  runs_body (D := DT) (f := Zfm) Tryz.func120 (by kernel_rfl) (by kernel_rfl) (by kernel_rfl) (by kernel_rfl) (by kernel_rfl) (Nat.le_of_ble_eq_true rfl)
def Zco : LCode := (.seq (.seq (.reg [] [⟨some 8, some (.move (.tmp 6)), none⟩,
 ⟨some 9, some (.binOp .geq Zc (.tmp 8) (.const (.int .i64 0)) Zc), none⟩])
  (.cond (.tmp 9) .skip
  (.exit 0)))
  (.seq (.block 1 (.seq (.reg [] [⟨some 12, some (.load Zb (.tmp 5)), none⟩,
 ⟨some 13, some (.call ⟨(.value (.func Zce)), #[(.tmp 12), (.const (.int .i64 127))], #[Zb, Zc]⟩), none⟩,
 ⟨some 7, some (.assign (.tmp 13)), none⟩])
  (.seq (.reg [] [⟨some 14, some (.load Zb (.tmp 5)), none⟩,
 ⟨some 15, some (.call ⟨(.value (.func Z1)), #[(.tmp 14), (.const (.int .i64 1))], #[Zb, Zc]⟩), none⟩,
 ⟨none, some (.store Zb (.tmp 5) (.tmp 15)), none⟩])
  (.seq (.seq (.reg [] [⟨some 16, some (.load Zb (.tmp 2)), none⟩,
 ⟨some 17, some (.move (.tmp 6)), none⟩,
 ⟨some 18, some (.call ⟨(.value (.func Zce)), #[.tmp 16, .tmp 17], #[Zb, Zc]⟩), none⟩])
  (.cond (.tmp 18) (.reg [] [⟨some 19, some (.fieldAddr Zb (.tmp 5) 0), none⟩,
 ⟨some 20, some (.load Ze (.tmp 19)), none⟩,
 ⟨some 21, some (.binOp .or Ze (.tmp 20) (.const (.int .u64 1)) Ze), none⟩,
 ⟨some 22, some (.fieldAddr Zb (.tmp 5) 0), none⟩,
 ⟨none, some (.store Ze (.tmp 22) (.tmp 21)), none⟩])
  .skip))
  (.seq (.reg [] [⟨some 23, some (.move (.tmp 7)), none⟩,
 ⟨some 24, some (.move (.tmp 23)), none⟩,
 ⟨some 25, some (.load Zb (.tmp 5)), some (some 24, false)⟩,
 ⟨some 26, some (.load Zb (.tmp 3)), some (some 24, false)⟩,
 ⟨some 27, some (.call ⟨(.value (.func Z8)), #[.tmp 25, .tmp 26], #[Zb, Zb]⟩), some (some 24, false)⟩,
 ⟨some 28, some (.unOp .not Zi (.tmp 27)), some (some 24, false)⟩,
 ⟨some 29, some (.pick (.tmp 24) (.const (.bool true)) (.tmp 28)), none⟩])
  (.cond (.tmp 29) (.seq (.reg [] [⟨some 30, some (.load Zb (.tmp 5)), none⟩,
 ⟨some 31, some (.load Zb (.tmp 3)), none⟩,
 ⟨some 32, some (.call ⟨(.value (.func Zbe)), #[.tmp 30, .tmp 31], #[Zb, Zb]⟩), none⟩,
 ⟨none, some (.store Zb (.tmp 5) (.tmp 32)), none⟩])
  (.reg [3] [⟨some 33, some (.load Zb (.tmp 4)), none⟩,
 ⟨some 34, some (.build Zb #[(0, (.const (.int .u64 1)))]), none⟩,
 ⟨some 35, some (.move (.tmp 6)), none⟩,
 ⟨some 36, some (.call ⟨(.value (.func Z1)), #[.tmp 34, .tmp 35], #[Zb, Zc]⟩), none⟩,
 ⟨some 37, some (.call ⟨(.value (.func Zbc)), #[.tmp 33, .tmp 36], #[Zb, Zb]⟩), none⟩,
 ⟨none, some (.store Zb (.tmp 4) (.tmp 37)), none⟩]))
  .skip))))))
  (.reg [] [⟨some 10, some (.move (.tmp 6)), none⟩,
 ⟨some 11, some (.binOp .sub Zc (.tmp 10) (.const (.int .i64 1)) Zc), none⟩,
 ⟨some 6, some (.assign (.tmp 11)), none⟩])))
@[simp] theorem Zld : defs Zco = [8, 9, 12, 13, 7, 14, 15, 16, 17, 18, 19, 20, 21, 22, 23, 24, 25, 26, 27, 28, 29, 30, 31, 32, 33, 34, 35, 36, 37, 10, 11, 6] := by rfl
def Zgy : LCode := (.seq (.reg [] [⟨some 2, some (.box Zb (.tmp 0)), none⟩,
 ⟨some 3, some (.box Zb (.tmp 1)), none⟩,
 ⟨some 4, some (.alloc Zb), none⟩,
 ⟨some 5, some (.alloc Zb), none⟩])
  (.seq (.seq (.reg [] [⟨some 6, some (.assign (.const (.int .i64 127))), none⟩])
  (.block 0 (.loop Zco)))
  (.seq (.reg [1, 2, 999, 1005] [⟨some 38, some (.load Zb (.tmp 4)), none⟩,
 ⟨some 39, some (.load Zb (.tmp 5)), none⟩,
 ⟨none, some (.store Zb (.tmp 4) (.tmp 38)), none⟩,
 ⟨none, some (.store Zb (.tmp 5) (.tmp 39)), none⟩])
  .ret)))
theorem Ziy {a0 a1 : AV} {H : AHeap} : R Zc3 [a0, a1] H = fnK Tryz.prog [] H [(.cell 4 Zb), (.cell 5 Zb)] (evalL Tryz.prog KT R Zgy (Env.args [a0, a1] 0) H) :=
  runs_body (D := DT) (f := Zc3) Tryz.func121 (by kernel_rfl) (by kernel_rfl) (by kernel_rfl) (by kernel_rfl) (by kernel_rfl) (Nat.le_of_ble_eq_true rfl)
end Go.Proofs.YtiaoojghohfkjaaGreat
end
section
namespace Go.Proofs.YtiaoojghohfkjaaGreat
set_option maxRecDepth 100000
def RI (H : AHeap) (v : AV) (l : List Int) : Prop := Reads H v 1 l.length (l.map (.int .i64))
theorem RI.len {H : AHeap} {v : AV} {l : List Int} (h : RI H v l) : sliceLen v = some l.length := Reads.len h
theorem RI.keep {H H' : AHeap} {v : AV} {l : List Int} (h : RI H v l) (k : Keeps H H') : RI H' v l := Reads.keep h k
def IL (l : List Int) : AV := .lst 1 l.length (l.map (.int .i64))
theorem RI.lst {H : AHeap} {l : List Int} : RI H (IL l) l := Reads.lst (by simp)
theorem RI.nils {H : AHeap} : RI H .nils [] := Reads.nils
theorem RI.row {H : AHeap} {o n : Nat} {full : Bool} {l : List Int} (ho : o < H.size) (h : H.obj o = .cells (l.map (.int .i64))) (hl : n = l.length) : RI H (.row o 0 1 n full) l := by
  subst hl; exact Reads.row' ho h (by simp)
theorem RI.ix {P : Program} {H : AHeap} {v : AV} {l : List Int} (h : RI H v l) {t : TypeId} (ht : eszS P t = some 1) {i : Nat} (hi : i < l.length) : aindexAddr P t v (i : Int) = some (ixp v 1 i) := Reads.addr h ht hi
theorem RI.at {P : Program} {H : AHeap} {v : AV} {l : List Int} (h : RI H v l) {t : TypeId} (hl : ldS P t = some none) {i : Nat} {x : Int} (hi : l[i]? = some x) : aload P H t (ixp v 1 i) = some (.int .i64 x) := by
  have hlt := (List.getElem?_eq_some_iff.1 hi).1
  rw [Reads.at h hl rfl hlt]; simp [hi]
theorem RI.at0 {P : Program} {H : AHeap} {v : AV} {l : List Int} (h : RI H v l) {t s : TypeId} (ht : eszS P t = some 1) (hl : ldS P s = some none) {i : Nat} {x : Int} (hi : l[i]? = some x) : aindexAddr P t v (i : Int) = some (ixp v 1 i) ∧ aload P H s (ixp v 1 i) = some (.int .i64 x) :=
  ⟨h.ix ht (List.getElem?_eq_some_iff.1 hi).1, h.at hl hi⟩
def arity (op : Int) : Int := if op < 1 ∨ 44 < op then -1 else if op ≤ 2 then 0 else if op = 3 ∨ op = 10 ∨ op = 11 ∨ 39 ≤ op then 1 else if op = 9 then 3 else 2
theorem arity_run {op : Int} {H : AHeap} : R Zf2 [.int .i64 op] H = some (.int .i64 (arity op), H) := by
  rw [Zly]
  unfold arity
  by_cases a1 : op < 1
  · simp [Zdm, a1]
  by_cases a2 : 44 < op
  · simp [Zdm, a1, a2]
  by_cases a3 : op ≤ 2
  · simp [Zdm, a1, a2, a3]
  by_cases a4 : op = 3
  · simp [Zdm, a4]
  by_cases a5 : op = 10
  · simp [Zdm, a5]
  by_cases a6 : op = 11
  · simp [Zdm, a6]
  by_cases a7 : 39 ≤ op
  · simp [Zdm, a1, a2, a3, a4, a5, a6, a7]
  by_cases a8 : op = 9
  · simp [Zdm, a8]
  · simp [Zdm, a1, a2, a3, a4, a5, a6, a7, a8]
theorem arityR_run {op : Int} {H : AHeap} : R Zdp [.int .i64 op] H = some (.int .i64 (arity op), H) := by
  rw [Zjq]
  by_cases a1 : op = 1
  · subst a1; simp [Zz, arity]
  by_cases a2 : op = 2
  · subst a2; simp [Zz, arity]
  by_cases a3 : op = 3
  · subst a3; simp [Zz, arity]
  by_cases a4 : op = 10
  · subst a4; simp [Zz, arity]
  by_cases a5 : op = 11
  · subst a5; simp [Zz, arity]
  by_cases b1 : op = 39
  · subst b1; simp [Zz, arity]
  by_cases b2 : op = 40
  · subst b2; simp [Zz, arity]
  by_cases b3 : op = 41
  · subst b3; simp [Zz, arity]
  by_cases b4 : op = 42
  · subst b4; simp [Zz, arity]
  by_cases b5 : op = 43
  · subst b5; simp [Zz, arity]
  by_cases b6 : op = 44
  · subst b6; simp [Zz, arity]
  by_cases b7 : op = 9
  · subst b7; simp [Zz, arity]
  by_cases c1 : op < 1
  · simp [Zz, arity, a1, a2, a3, a4, a5, b1, b2, b3, b4, b5, b6, b7, c1]
  by_cases c2 : 44 < op
  · simp [Zz, arity, a1, a2, a3, a4, a5, b1, b2, b3, b4, b5, b6, b7, c1, c2]
  · have d1 : ¬ op ≤ 2 := by omega
    have d2 : ¬ 39 ≤ op := by omega
    simp [Zz, arity, a1, a2, a3, a4, a5, b1, b2, b3, b4, b5, b6, b7, c1, c2, d1, d2]
def isSort (n : Int) : Bool := decide (0 ≤ n ∧ n ≤ 128)
theorem sort_run {n : Int} {H : AHeap} : R Zha [.int .i64 n] H = some (.bool (isSort n), H) := by
  rw [Zml]
  unfold isSort
  by_cases a : 0 ≤ n <;> simp [Zkr, a]
theorem isR_run {n : Int} {H : AHeap} : R Zfr [.int .i64 n] H = some (.bool (isSort n), H) := by
  rw [Zk3]
  unfold isSort
  by_cases a : 0 ≤ n <;> simp [Zi1, a]
theorem notsort_run {n : Int} {H : AHeap} : R Zep [.int .i64 n] H = some (.bool (!isSort n), H) := by
  rw [Zlk]
  simp [Zjc, sort_run]
theorem wide_run {n : Int} {H : AHeap} : R Zd4 [.int .i64 n] H = some (.tup [.int .i64 (if 128 < n then 0 else n), .int .i64 (if 128 < n then 31 else 0)], H) := by
  rw [Zkd]
  by_cases a : 128 < n <;> simp [Zic, a]
def numV (op p q w : Int) : Int := if op = 39 then p - q + 1 else if op = 42 ∨ op = 43 then w else if op = 44 then w * min p 129 else w + min (max p 0) 128
def numB (op p q w : Int) : Bool := if op = 39 then decide (0 ≤ q ∧ q ≤ p ∧ p < w) else if op = 44 then decide (1 ≤ p ∧ q = 0) else decide (0 ≤ p ∧ q = 0)
theorem num_run {op p q w : Int} {H : AHeap} : ∃ n, (numB op p q w = true → 0 ≤ w → w ≤ 128 → n = numV op p q w) ∧ R Zf9 [.int .i64 op, .int .i64 p, .int .i64 q, .int .i64 w] H = some (.tup [.int .i64 n, .bool (numB op p q w)], H) := by
  unfold numB numV
  rw [Zku]
  by_cases a1 : op = 39
  · subst a1
    by_cases b1 : 0 ≤ q
    · by_cases b2 : q ≤ p
      · by_cases b3 : p < w
        · simp [Zby, b1, b2, b3]
          intro h0 h1
          rw [i64w (n := p - q) (by omega) (by omega), i64w (by omega) (by omega)]
        · simp [Zby, b1, b2, b3]
      · simp [Zby, b1, b2]
    · simp [Zby, b1]
  by_cases a2 : op = 42
  · subst a2
    by_cases b1 : 0 ≤ p <;> simp [Zby, b1]
  by_cases a3 : op = 43
  · subst a3
    by_cases b1 : 0 ≤ p <;> simp [Zby, b1]
  by_cases a4 : op = 44
  · subst a4
    by_cases b1 : 1 ≤ p
    · simp [Zby, b1]
      intro _ h0 h1
      have h2 : 0 ≤ w * min p 129 := Int.mul_nonneg h0 (by omega)
      have h3 : w * min p 129 ≤ 128 * 129 := Int.mul_le_mul h1 (by omega) (by omega) (by omega)
      exact i64w (by omega) (by omega)
    · simp [Zby, b1]
  · by_cases b1 : 0 ≤ p
    · simp [Zby, a1, a2, a3, a4, b1]
      intro _ h0 h1
      exact i64w (by omega) (by omega)
    · simp [Zby, a1, a2, a3, a4, b1]
end Go.Proofs.YtiaoojghohfkjaaGreat
end
section
namespace Go.Proofs.YtiaoojghohfkjaaGreat
set_option maxRecDepth 100000
theorem index_loop {H : AHeap} {v : AV} {l : List Int} (hv : RI H v l) (hm : l.length ≤ 9223372036854775807) {e : Env} {r : Rn} (hL : loopL Tryz.prog KT R Zbt e H = r)
    (e0 : e 0 = some v) (e1 : e 1 = some (.fn (.func Zep) [] [])) (e7 : e 7 = some (.int .i64 l.length)) (e8 : e 8 = some (.int .i64 0)) :
    ∃ y e' H', r = some (y, e', H') ∧ (H' = H ∧ ((y = .exit 0 ∧ l.all isSort = true) ∨ (y = .ret ∧ l.all isSort = false ∧ ∃ n, 0 ≤ n ∧ e' 4 = some (.int .i64 n)))) ∧ ∀ t, t ∉ defs Zbt → e' t = e t := by
  refine loop_count Zbt.eq_1 hL l.length (fun i e1 H1 => e1 8 = some (.int .i64 i) ∧ H1 = H ∧ (l.take i).all isSort = true) _ 0 (by omega) ⟨e8, rfl, by simp⟩ ?_ ?_
  · rintro i f H1 hf - hi ⟨f8, rfl, hall⟩
    have hw1 := i64w (n := (i : Int) + 1) (by omega) (by omega)
    obtain ⟨x, hx⟩ : ∃ x, l[i]? = some x := ⟨l[i], by simp [hi]⟩
    obtain ⟨a1, a2⟩ := hv.at0 (P := Tryz.prog) (t := Zk) (s := Zc) (by simp) (by simp) hx
    have hc : (i : Int) < l.length := by omega
    have ht : l.take (i + 1) = l.take i ++ [x] := by rw [List.take_add_one, hx]; rfl
    cases hs : isSort x with
    | true =>
      have hall' : (l.take (i + 1)).all isSort = true := by rw [ht, List.all_append, hall]; simp [hs]
      simp [hf, e0, e1, e7, f8, a1, a2, hc, notsort_run, hs, hw1, hall']
    | false =>
      have hall' : l.all isSort = false := by
        rw [Bool.eq_false_iff]
        intro h
        rw [List.all_eq_true] at h
        have := h x (List.mem_of_getElem? hx)
        rw [hs] at this; cases this
      simp [hf, e0, e1, e7, f8, a1, a2, hc, notsort_run, hs, hall']
  · rintro f H1 hf ⟨f8, rfl, hall⟩
    simp [hf, e7, f8]
    simpa using hall
theorem contains_run {H : AHeap} {v : AV} {l : List Int} (hv : RI H v l) (hm : l.length ≤ 9223372036854775807) : R Zcb [v, .fn (.func Zep) [] []] H = some (.bool (!l.all isSort), H) := by
  have h : ∃ n, R Zcs [v, .fn (.func Zep) [] []] H = some (.int .i64 n, H) ∧ (decide (0 ≤ n) = !l.all isSort) := by
    rw [Zhj]
    simp [Zfp, hv.len]
    generalize hL : loopL _ _ _ _ _ _ = q
    obtain ⟨y, e1, H1, rfl, ⟨rfl, h⟩, fr⟩ := index_loop hv hm hL (by simp) (by simp) (by simp) (by simp)
    rcases h with ⟨rfl, h⟩ | ⟨rfl, h, n, h1, h2⟩
    · simp [h]
    · simp [h, h1, h2]
  obtain ⟨n, h1, h2⟩ := h
  rw [Zg1]
  simp [Zez, h1, h2]
def toldB (op p q a z m : Int) : Bool :=
  if op ≤ 7 then decide (p = 0 ∧ q = 0 ∧ a = 0 ∧ z = 0) else if op = 8 then decide (p = 0 ∧ q = 0 ∧ a = z) else if op = 9 then decide (p = 0 ∧ q = 0 ∧ a = 0 ∧ m = z) else if op = 38 then decide (p = 0 ∧ q = 0 ∧ 0 < a ∧ 0 < z)
  else if 39 ≤ op then numB op p q a && decide (0 < a) else decide (p = 0 ∧ q = 0 ∧ a = z ∧ 0 < a)
def toldV (op p q a z : Int) : Int :=
  if op ≤ 7 then 0 else if op = 8 then 0 else if op = 9 then z else if op = 38 then a + z else if 39 ≤ op then numV op p q a else if op = 37 then 1 else if 29 ≤ op then 0 else a
set_option maxHeartbeats 8000000 in
theorem told_run {H : AHeap} {v : AV} {l : List Int} (hv : RI H v l) {a z m : Int} (h0 : l[0]? = some a) (hz : l[l.length - 1]? = some z) {op p q : Int} (h1 : op = 9 → l[1]? = some m) (ha : 0 ≤ a ∧ a ≤ 128) (hzz : 0 ≤ z ∧ z ≤ 128) (hl : l.length ≤ 9223372036854775807) :
    ∃ n, (toldB op p q a z m = true → n = toldV op p q a z) ∧ R Zhy [.int .i64 op, .int .i64 p, .int .i64 q, v] H = some (.tup [.int .i64 n, .bool (toldB op p q a z m)], H) := by
  have hpos : 0 < l.length := (List.getElem?_eq_some_iff.1 h0).1
  obtain ⟨x0, y0⟩ := hv.at0 (P := Tryz.prog) (t := Zk) (s := Zc) (by simp) (by simp) h0
  obtain ⟨xz, yz⟩ := hv.at0 (P := Tryz.prog) (t := Zk) (s := Zc) (by simp) (by simp) hz
  have x0' : aindexAddr Tryz.prog Zk v 0 = some (ixp v 1 0) := x0
  have w1 : IntKind.i64.wrap ((l.length : Int) - 1) = ((l.length - 1 : Nat) : Int) := by rw [i64w (by omega) (by omega)]; omega
  have hlen := hv.len
  have w2 : IntKind.i64.wrap (a + z) = a + z := i64w (by omega) (by omega)
  unfold toldB toldV
  rw [Zmm]
  by_cases c1 : op ≤ 7
  · skip
    by_cases d0 : p = 0
    rotate_left
    · simp [Zo, hlen, x0', y0, xz, yz, w1, c1, d0]
    by_cases d1 : q = 0
    rotate_left
    · simp [Zo, hlen, x0', y0, xz, yz, w1, c1, d0, d1]
    by_cases d2 : a = 0
    rotate_left
    · simp [Zo, hlen, x0', y0, xz, yz, w1, c1, d0, d1, d2]
    by_cases d3 : z = 0
    rotate_left
    · simp [Zo, hlen, x0', y0, xz, yz, w1, c1, d0, d1, d2, d3]
    simp [Zo, hlen, x0', y0, xz, yz, w1, c1, d0, d1, d2, d3]
  by_cases c2 : op = 8
  · skip
    by_cases d0 : p = 0
    rotate_left
    · simp [Zo, hlen, x0', y0, xz, yz, w1, c2, d0]
    by_cases d1 : q = 0
    rotate_left
    · simp [Zo, hlen, x0', y0, xz, yz, w1, c2, d0, d1]
    by_cases d2 : a = z
    rotate_left
    · simp [Zo, hlen, x0', y0, xz, yz, w1, c2, d0, d1, d2]
    simp [Zo, hlen, x0', y0, xz, yz, w1, c2, d0, d1, d2]
  by_cases c3 : op = 9
  · obtain ⟨x1, y1⟩ := hv.at0 (P := Tryz.prog) (t := Zk) (s := Zc) (by simp) (by simp) (h1 c3)
    have x1' : aindexAddr Tryz.prog Zk v 1 = some (ixp v 1 1) := x1
    by_cases d0 : p = 0
    rotate_left
    · simp [Zo, hlen, x0', y0, xz, yz, w1, c3, d0]
    by_cases d1 : q = 0
    rotate_left
    · simp [Zo, hlen, x0', y0, xz, yz, w1, c3, d0, d1]
    by_cases d2 : a = 0
    rotate_left
    · simp [Zo, hlen, x0', y0, xz, yz, w1, c3, d0, d1, d2]
    by_cases d3 : m = z
    rotate_left
    · simp [Zo, hlen, x0', y0, xz, yz, w1, c3, x1', y1, d0, d1, d2, d3]
    simp [Zo, hlen, x0', y0, xz, yz, w1, c3, x1', y1, d0, d1, d2, d3]
  by_cases c4 : op = 38
  · skip
    by_cases d0 : p = 0
    rotate_left
    · simp [Zo, hlen, x0', y0, xz, yz, w1, w2, c4, d0]
    by_cases d1 : q = 0
    rotate_left
    · simp [Zo, hlen, x0', y0, xz, yz, w1, w2, c4, d0, d1]
    by_cases d2 : 0 < a
    rotate_left
    · simp [Zo, hlen, x0', y0, xz, yz, w1, w2, c4, d0, d1, d2]
    by_cases d3 : 0 < z
    rotate_left
    · simp [Zo, hlen, x0', y0, xz, yz, w1, w2, c4, d0, d1, d2, d3]
    simp [Zo, hlen, x0', y0, xz, yz, w1, w2, c4, d0, d1, d2, d3]
  by_cases c5 : 39 ≤ op
  · obtain ⟨n, hn1, hn2⟩ := num_run (op := op) (p := p) (q := q) (w := a) (H := H)
    have d4 : ¬ op = 38 := c4
    cases hb : numB op p q a with
    | false =>
      rw [hb] at hn2
      by_cases dp : p = 0
      · by_cases dq : q = 0
        · simp [Zo, hlen, x0', y0, xz, yz, w1, c1, c2, c3, c4, c5, hn2, eq_true dp, eq_true dq]
        · simp [Zo, hlen, x0', y0, xz, yz, w1, c1, c2, c3, c4, c5, hn2, eq_true dp, dq]
      · simp [Zo, hlen, x0', y0, xz, yz, w1, c1, c2, c3, c4, c5, hn2, dp]
    | true =>
      have hn := hn1 hb ha.1 ha.2
      rw [hb, hn] at hn2
      by_cases dp : p = 0
      · by_cases dq : q = 0
        · by_cases da : 0 < a <;> simp [Zo, hlen, x0', y0, xz, yz, w1, c1, c2, c3, c4, c5, hn2, eq_true dp, eq_true dq, da]
        · by_cases da : 0 < a <;> simp [Zo, hlen, x0', y0, xz, yz, w1, c1, c2, c3, c4, c5, hn2, eq_true dp, dq, da]
      · by_cases da : 0 < a <;> simp [Zo, hlen, x0', y0, xz, yz, w1, c1, c2, c3, c4, c5, hn2, dp, da]
  by_cases c6 : op = 37
  · skip
    by_cases d0 : p = 0
    rotate_left
    · simp [Zo, hlen, x0', y0, xz, yz, w1, c6, d0]
    by_cases d1 : q = 0
    rotate_left
    · simp [Zo, hlen, x0', y0, xz, yz, w1, c6, d0, d1]
    by_cases d2 : a = z
    rotate_left
    · simp [Zo, hlen, x0', y0, xz, yz, w1, c6, d0, d1, d2]
    by_cases d3 : 0 < a
    rotate_left
    · simp [Zo, hlen, x0', y0, xz, yz, w1, c6, d0, d1, d2]
    simp [Zo, hlen, x0', y0, xz, yz, w1, c6, d0, d1, d2]
  by_cases c7 : 29 ≤ op
  · skip
    by_cases d0 : p = 0
    rotate_left
    · simp [Zo, hlen, x0', y0, xz, yz, w1, c1, c2, c3, c4, c5, c6, c7, d0]
    by_cases d1 : q = 0
    rotate_left
    · simp [Zo, hlen, x0', y0, xz, yz, w1, c1, c2, c3, c4, c5, c6, c7, d0, d1]
    by_cases d2 : a = z
    rotate_left
    · simp [Zo, hlen, x0', y0, xz, yz, w1, c1, c2, c3, c4, c5, c6, c7, d0, d1, d2]
    by_cases d3 : 0 < a
    rotate_left
    · simp [Zo, hlen, x0', y0, xz, yz, w1, c1, c2, c3, c4, c5, c6, c7, d0, d1, d2]
    simp [Zo, hlen, x0', y0, xz, yz, w1, c1, c2, c3, c4, c5, c6, c7, d0, d1, d2]
  · skip
    by_cases d0 : p = 0
    rotate_left
    · simp [Zo, hlen, x0', y0, xz, yz, w1, c1, c2, c3, c4, c5, c6, c7, d0]
    by_cases d1 : q = 0
    rotate_left
    · simp [Zo, hlen, x0', y0, xz, yz, w1, c1, c2, c3, c4, c5, c6, c7, d0, d1]
    by_cases d2 : a = z
    rotate_left
    · simp [Zo, hlen, x0', y0, xz, yz, w1, c1, c2, c3, c4, c5, c6, c7, d0, d1, d2]
    by_cases d3 : 0 < a
    rotate_left
    · simp [Zo, hlen, x0', y0, xz, yz, w1, c1, c2, c3, c4, c5, c6, c7, d0, d1, d2]
    simp [Zo, hlen, x0', y0, xz, yz, w1, c1, c2, c3, c4, c5, c6, c7, d0, d1, d2]
end Go.Proofs.YtiaoojghohfkjaaGreat
end
