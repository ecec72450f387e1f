/- Texts AT1 of this claim, one behind the other. -/
import Derived.Test.YtiobohfiaapgeaaChecked
import Derived.Test.YtiobohfiaapgeaaK3
section
namespace Go.Proofs.Ytiobohfiaapgeaa
open Go.RowKit
def Zd : TypeId := 3
def Zbe : TypeId := 4
def Zd8 : TypeId := 9
def Zt : TypeId := 22
def Zf : TypeId := 24
def Zbb : TypeId := 29
def Zbm : TypeId := 32
def Ze : TypeId := 35
def Zb : TypeId := 37
def Zc : TypeId := 39
def Zcf : TypeId := 59
def Zcs : TypeId := 60
def Z1 : TypeId := 62
def Zj : TypeId := 63
def Zcb : TypeId := 64
def Zr : TypeId := 66
def Ze6 : TypeId := 68
def Zef : TypeId := 80
def Zjb : TypeId := 82
def Zo : TypeId := 86
def Za : TypeId := 96
def Zi9 : TypeId := 101
def Zu : TypeId := 103
def Zgp : TypeId := 112
def Zdy : TypeId := 119
def Zdr : TypeId := 120
def Zd3 : TypeId := 127
def Zbn : FuncId := 4
def Zc5 : FuncId := 7
def Zde : FuncId := 8
def Zc6 : FuncId := 9
def Z9 : FuncId := 10
def Zx : FuncId := 11
def Zd9 : FuncId := 12
def Zbz : FuncId := 13
def Zp : FuncId := 15
def Zbt : FuncId := 16
def Zc7 : FuncId := 17
def Zm : FuncId := 18
def Zi : FuncId := 19
def Zb3 : FuncId := 20
def Zem : FuncId := 26
def Zl : FuncId := 27
def Zci : FuncId := 28
def Zcj : FuncId := 29
def Zds : FuncId := 34
def Zg : FuncId := 35
def Zbf : FuncId := 36
def Zbh : FuncId := 37
def Zbq : FuncId := 38
def Zdz : FuncId := 39
def Zfc : FuncId := 40
def Zen : FuncId := 41
def Zfj : FuncId := 42
def Zy : FuncId := 43
def Zd5 : FuncId := 44
def Z6 : FuncId := 45
def Z0 : FuncId := 46
def Zh : FuncId := 47
def Zbv : FuncId := 48
def Zdt : FuncId := 49
def Zbj : FuncId := 50
def Zz : FuncId := 51
def Zcn : FuncId := 52
def Zch : FuncId := 53
def Zb8 : FuncId := 54
def Zda : FuncId := 55
def Zft : FuncId := 56
def Zeb : FuncId := 57
def Zfk : FuncId := 58
def Z3 : FuncId := 59
def Z2 : FuncId := 60
def Zeg : FuncId := 61
def Zcg : FuncId := 62
def Zeh : FuncId := 63
def Zct : FuncId := 64
def Zdj : FuncId := 65
def Zcx : FuncId := 66
def Zdk : FuncId := 67
def Zdl : FuncId := 68
def Zc3 : FuncId := 69
def Zdm : FuncId := 70
def Zdn : FuncId := 71
def Zdo : FuncId := 72
def Zbs : FuncId := 73
def Zgb : FuncId := 74
def Zdu : FuncId := 75
def Zet : FuncId := 76
def Zfd : FuncId := 77
def Zea : FuncId := 78
def Zfe : FuncId := 79
def Zfu : FuncId := 80
def Zgc : FuncId := 81
def Ze7 : FuncId := 82
def Z8 : FuncId := 83
def Z4 : FuncId := 84
def Zb4 : FuncId := 85
def Zc0 : FuncId := 86
def Zbc : FuncId := 87
def Z5 : FuncId := 88
def Zce : FuncId := 89
def Zec : FuncId := 90
def Zdb : FuncId := 91
def Zed : FuncId := 92
def Zd0 : FuncId := 93
def Zbd : FuncId := 94
def Zb9 : FuncId := 95
def Zbi : FuncId := 96
def Zca : FuncId := 97
def Zck : FuncId := 98
def Zdf : FuncId := 99
def Zdc : FuncId := 100
def Zfp : FuncId := 101
def Zba : FuncId := 102
def Zd1 : FuncId := 103
def Zd2 : FuncId := 104
def Zcl : FuncId := 105
def KT : TypeId → Option (List Sc) := fun t => if t = Zb then some [(.i .i64), (.i .u64), (.i .u64)] else if t = Zc then some [(.i .i64), (.i .i64), (.i .i64), (.i .i64), (.i .i64), (.i .i64), (.i .i64), (.i .i64), (.i .u64), (.i .u64), .s] else if t = Za then some [(.i .u64), (.i .u64)] else none
def DT : Quiets := fun f r => if f = Zbn then (if r = 17 then [3, 6, 801, 997, 1011] else []) else if f = Zx then (if r = 9 then [10, 17, 22, 24, 1011] else if r = 10 then [3, 7, 801, 997, 1008] else []) else if f = Zbz then (if r = 12 then [5, 8, 10, 12] else if r = 1000000 then [0] else []) else if f = Zbf then (if r = 4 then [10] else []) else if f = Zdz then (if r = 3 then [12, 13] else []) else if f = Zy then (if r = 2 then [8, 9, 5609] else []) else if f = Z6 then (if r = 5 then [10] else if r = 12 then [10] else []) else if f = Z0 then (if r = 2 then [3, 5, 999, 1006] else []) else if f = Zbv then (if r = 2 then [10] else []) else if f = Zz then (if r = 3 then [10] else []) else if f = Z2 then (if r = 10 then [3] else if r = 12 then [2, 5, 997, 1006] else []) else if f = Zc3 then (if r = 1 then [3] else []) else if f = Zgb then (if r = 4 then [3, 4] else if r = 6 then [3, 4] else []) else if f = Zdu then (if r = 3 then [1, 5] else []) else if f = Zea then (if r = 8 then [1, 3, 5, 11, 12] else []) else if f = Zfu then (if r = 4 then [4, 6, 7] else if r = 6 then [5] else if r = 8 then [5] else []) else if f = Zce then (if r = 1 then [1] else []) else if f = Zdb then (if r = 1 then [1, 4, 5] else if r = 16 then [3, 5, 10, 11] else if r = 17 then [1, 3] else if r = 19 then [3, 5, 10, 11] else if r = 20 then [1] else []) else if f = Zd0 then (if r = 1 then [1, 4, 5] else []) else if f = Zbi then (if r = 1 then [2] else []) else if f = Zck then (if r = 2 then [1, 2, 3, 1006] else []) else if f = Zdf then (if r = 2 then [3, 4] else []) else if f = Zfp then (if r = 1 then [3, 5, 10, 11] else if r = 5 then [1] else if r = 7 then [2] else []) else if f = Zcl then (if r = 10 then [3] else if r = 11 then [1, 2, 999, 1005] else []) else []
noncomputable def R : Calling := runs Try.prog KT DT
theorem good : Good Try.prog KT := by
  refine ⟨fun t sh h => ?_, Try.checked.mixed⟩
  unfold KT at h
  split at h
  · rename_i ht; subst ht; cases h; exact keyOK_of (d := 8) (by kernel_rfl) (by omega) (by kernel_rfl) (by kernel_rfl)
  split at h
  · rename_i ht; subst ht; cases h; exact keyOK_of (d := 8) (by kernel_rfl) (by omega) (by kernel_rfl) (by kernel_rfl)
  split at h
  · rename_i ht; subst ht; cases h; exact keyOK_of (d := 8) (by kernel_rfl) (by omega) (by kernel_rfl) (by kernel_rfl)
  cases h
@[simp] theorem ty0 : tZ Try.prog Zc = some [(.int .i64 0), (.int .i64 0), (.int .i64 0), (.int .i64 0), (.int .i64 0), (.int .i64 0), (.int .i64 0), (.int .i64 0), (u 0#64), (u 0#64), (.str .empty)] := by kernel_rfl
@[simp] theorem ty1 : tS Try.prog Zc = some 11 := by kernel_rfl
@[simp] theorem ty2 : faS Try.prog Zc 1 = some 1 := by kernel_rfl
@[simp] theorem ty3 : ldS Try.prog Zd = some none := by kernel_rfl
@[simp] theorem ty4 : blS Try.prog Zc = some true := by kernel_rfl
@[simp] theorem ty5 : plS Try.prog Zc 0 = some (0, 1) := by kernel_rfl
@[simp] theorem ty6 : plS Try.prog Zc 2 = some (2, 1) := by kernel_rfl
@[simp] theorem ty7 : plS Try.prog Zc 3 = some (3, 1) := by kernel_rfl
@[simp] theorem ty8 : plS Try.prog Zc 4 = some (4, 1) := by kernel_rfl
@[simp] theorem ty9 : plS Try.prog Zc 5 = some (5, 1) := by kernel_rfl
@[simp] theorem ty10 : eqS Try.prog Zf = .ptr := by kernel_rfl
@[simp] theorem ty11 : plS Try.prog Zc 1 = some (1, 1) := by kernel_rfl
@[simp] theorem ty12 : plS Try.prog Zc 8 = some (10, 1) := by kernel_rfl
@[simp] theorem ty13 : tZ Try.prog Zb = some [(.int .i64 0), (u 0#64), (u 0#64)] := by kernel_rfl
@[simp] theorem ty14 : blS Try.prog Zb = some true := by kernel_rfl
@[simp] theorem ty15 : plS Try.prog Zb 0 = some (0, 1) := by kernel_rfl
@[simp] theorem ty16 : plS Try.prog Zb 1 = some (1, 1) := by kernel_rfl
@[simp] theorem ty17 : plS Try.prog Zc 7 = some (7, 3) := by kernel_rfl
@[simp] theorem ty18 : faS Try.prog Zc 0 = some 0 := by kernel_rfl
@[simp] theorem ty19 : faS Try.prog Zc 7 = some 7 := by kernel_rfl
@[simp] theorem ty20 : ldS Try.prog Zb = some (some 3) := by kernel_rfl
@[simp] theorem ty21 : KT Zb = some [(.i .i64), (.i .u64), (.i .u64)] := by kernel_rfl
@[simp] theorem ty22 : mkeyS Try.prog KT Zcb = some (.one (.i .i64)) := by kernel_rfl
@[simp] theorem ty23 : mapS Try.prog KT Zcb = some ((.one (.i .i64)), (.int .i64 0)) := by kernel_rfl
@[simp] theorem ty24 : tZ Try.prog Zr = some [.nilp, .nilm, (.int .i64 0)] := by kernel_rfl
@[simp] theorem ty25 : blS Try.prog Zr = some true := by kernel_rfl
@[simp] theorem ty26 : plS Try.prog Zr 0 = some (0, 1) := by kernel_rfl
@[simp] theorem ty27 : plS Try.prog Zr 1 = some (1, 1) := by kernel_rfl
@[simp] theorem ty28 : lnS Try.prog Zbm = .slice := by kernel_rfl
@[simp] theorem ty29 : eszS Try.prog Zbm = some 1 := by kernel_rfl
@[simp] theorem ty30 : faS Try.prog Zr 1 = some 1 := by kernel_rfl
@[simp] theorem ty31 : ldS Try.prog Zcb = some none := by kernel_rfl
@[simp] theorem ty32 : faS Try.prog Zc 2 = some 2 := by kernel_rfl
@[simp] theorem ty33 : faS Try.prog Zc 3 = some 3 := by kernel_rfl
@[simp] theorem ty34 : faS Try.prog Zc 4 = some 4 := by kernel_rfl
@[simp] theorem ty35 : tS Try.prog Zd = some 1 := by kernel_rfl
@[simp] theorem ty36 : ldS Try.prog Zc = some (some 11) := by kernel_rfl
@[simp] theorem ty37 : faS Try.prog Zr 2 = some 2 := by kernel_rfl
@[simp] theorem ty38 : ldS Try.prog Zbb = some none := by kernel_rfl
@[simp] theorem ty39 : faS Try.prog Z1 1 = some 1 := by kernel_rfl
@[simp] theorem ty40 : ldS Try.prog Zt = some none := by kernel_rfl
@[simp] theorem ty41 : lnS Try.prog Zt = .slice := by kernel_rfl
@[simp] theorem ty42 : mkS Try.prog Ze6 = some (1, 1, [(.bool false)]) := by kernel_rfl
@[simp] theorem ty43 : eszS Try.prog Ze6 = some 1 := by kernel_rfl
@[simp] theorem ty44 : tS Try.prog Zbe = some 1 := by kernel_rfl
@[simp] theorem ty45 : ldS Try.prog Zbe = some none := by kernel_rfl
@[simp] theorem ty46 : eszS Try.prog Zt = some 11 := by kernel_rfl
@[simp] theorem ty47 : mkS Try.prog Zbm = some (1, 8, [(.int .i64 0)]) := by kernel_rfl
@[simp] theorem ty48 : bsS Try.prog Zbm = some (1, [(.int .i64 0)]) := by kernel_rfl
@[simp] theorem ty49 : faS Try.prog Zr 0 = some 0 := by kernel_rfl
@[simp] theorem ty50 : ldS Try.prog Zf = some none := by kernel_rfl
@[simp] theorem ty51 : tS Try.prog Zbb = some 1 := by kernel_rfl
@[simp] theorem ty52 : faS Try.prog Z1 2 = some 2 := by kernel_rfl
@[simp] theorem ty53 : ldS Try.prog Zcf = some none := by kernel_rfl
@[simp] theorem ty54 : mkeyS Try.prog KT Zcf = some (.many [(.i .i64), (.i .i64), (.i .i64), (.i .i64), (.i .i64), (.i .i64), (.i .i64), (.i .i64), (.i .u64), (.i .u64), .s]) := by kernel_rfl
@[simp] theorem ty55 : mapS Try.prog KT Zcf = some ((.many [(.i .i64), (.i .i64), (.i .i64), (.i .i64), (.i .i64), (.i .i64), (.i .i64), (.i .i64), (.i .u64), (.i .u64), .s]), (.int .i64 0)) := by kernel_rfl
@[simp] theorem ty56 : faS Try.prog Z1 0 = some 0 := by kernel_rfl
@[simp] theorem ty57 : bsS Try.prog Zt = some (11, [(.int .i64 0), (.int .i64 0), (.int .i64 0), (.int .i64 0), (.int .i64 0), (.int .i64 0), (.int .i64 0), (.int .i64 0), (u 0#64), (u 0#64), (.str .empty)]) := by kernel_rfl
@[simp] theorem ty58 : mkS Try.prog Zt = some (11, 96, [(.int .i64 0), (.int .i64 0), (.int .i64 0), (.int .i64 0), (.int .i64 0), (.int .i64 0), (.int .i64 0), (.int .i64 0), (u 0#64), (u 0#64), (.str .empty)]) := by kernel_rfl
@[simp] theorem ty59 : tS Try.prog Zt = some 1 := by kernel_rfl
@[simp] theorem ty60 : faS Try.prog Z1 3 = some 3 := by kernel_rfl
@[simp] theorem ty61 : ldS Try.prog Zcs = some none := by kernel_rfl
@[simp] theorem ty62 : faS Try.prog Zc 8 = some 10 := by kernel_rfl
@[simp] theorem ty63 : ldS Try.prog Zd8 = some none := by kernel_rfl
@[simp] theorem ty64 : mkeyS Try.prog KT Zcs = some (.one .s) := by kernel_rfl
@[simp] theorem ty65 : mapS Try.prog KT Zcs = some ((.one .s), (.int .i64 0)) := by kernel_rfl
@[simp] theorem ty66 : tZ Try.prog Zef = some [(.int .i64 0), (.int .i64 0), (.int .i64 0)] := by kernel_rfl
@[simp] theorem ty67 : blS Try.prog Zef = some true := by kernel_rfl
@[simp] theorem ty68 : plS Try.prog Zef 0 = some (0, 1) := by kernel_rfl
@[simp] theorem ty69 : plS Try.prog Zef 1 = some (1, 1) := by kernel_rfl
@[simp] theorem ty70 : plS Try.prog Zef 2 = some (2, 1) := by kernel_rfl
@[simp] theorem ty71 : arrS Try.prog Zef = some (3, 1) := by kernel_rfl
@[simp] theorem ty72 : arrL Try.prog Zef = some none := by kernel_rfl
@[simp] theorem ty73 : faS Try.prog Zb 0 = some 0 := by kernel_rfl
@[simp] theorem ty74 : faS Try.prog Zc 5 = some 5 := by kernel_rfl
@[simp] theorem ty75 : faS Try.prog Zc 6 = some 6 := by kernel_rfl
@[simp] theorem ty76 : faS Try.prog Zb 1 = some 1 := by kernel_rfl
@[simp] theorem ty77 : ldS Try.prog Ze = some none := by kernel_rfl
@[simp] theorem ty78 : faS Try.prog Zb 2 = some 2 := by kernel_rfl
@[simp] theorem ty79 : tZ Try.prog Za = some [(u 0#64), (u 0#64)] := by kernel_rfl
@[simp] theorem ty80 : tS Try.prog Za = some 2 := by kernel_rfl
@[simp] theorem ty81 : faS Try.prog Za 0 = some 0 := by kernel_rfl
@[simp] theorem ty82 : faS Try.prog Za 1 = some 1 := by kernel_rfl
@[simp] theorem ty83 : plS Try.prog Zb 2 = some (2, 1) := by kernel_rfl
@[simp] theorem ty84 : tS Try.prog Zb = some 3 := by kernel_rfl
@[simp] theorem ty85 : blS Try.prog Za = some true := by kernel_rfl
@[simp] theorem ty86 : ldS Try.prog Za = some (some 2) := by kernel_rfl
@[simp] theorem ty87 : plS Try.prog Za 0 = some (0, 1) := by kernel_rfl
@[simp] theorem ty88 : plS Try.prog Za 1 = some (1, 1) := by kernel_rfl
@[simp] theorem ty89 : cvS Try.prog Zd Zd3 = some (some .u64) := by kernel_rfl
@[simp] theorem ty90 : bsS Try.prog Zo = some (3, [(.int .i64 0), (u 0#64), (u 0#64)]) := by kernel_rfl
@[simp] theorem ty91 : mkS Try.prog Zo = some (3, 24, [(.int .i64 0), (u 0#64), (u 0#64)]) := by kernel_rfl
@[simp] theorem ty92 : lnS Try.prog Zo = .slice := by kernel_rfl
@[simp] theorem ty93 : eszS Try.prog Zo = some 3 := by kernel_rfl
@[simp] theorem ty94 : tZ Try.prog Zu = some [.nilf] := by kernel_rfl
@[simp] theorem ty95 : tS Try.prog Zu = some 1 := by kernel_rfl
@[simp] theorem ty96 : faS Try.prog Zu 0 = some 0 := by kernel_rfl
@[simp] theorem ty97 : ldS Try.prog Zi9 = some none := by kernel_rfl
@[simp] theorem ty98 : blS Try.prog Zu = some true := by kernel_rfl
@[simp] theorem ty99 : plS Try.prog Zu 0 = some (0, 1) := by kernel_rfl
@[simp] theorem ty100 : ldS Try.prog Zu = some (some 1) := by kernel_rfl
@[simp] theorem ty101 : ldS Try.prog Zgp = some none := by kernel_rfl
@[simp] theorem ty102 : eqS Try.prog Zbe = .bool := by kernel_rfl
@[simp] theorem ty103 : fdS Try.prog Za 0 = some (0, none) := by kernel_rfl
@[simp] theorem ty104 : fdS Try.prog Zb 1 = some (1, none) := by kernel_rfl
@[simp] theorem ty105 : KT Za = some [(.i .u64), (.i .u64)] := by kernel_rfl
@[simp] theorem ty106 : tS Try.prog Ze = some 1 := by kernel_rfl
@[simp] theorem ty107 : cvS Try.prog Zd Ze = some (some .u64) := by kernel_rfl
@[simp] theorem ty108 : cvS Try.prog Ze Zd = some (some .i64) := by kernel_rfl
@[simp] theorem ty109 : plS Try.prog Zc 6 = some (6, 1) := by kernel_rfl
@[simp] theorem ty110 : tZ Try.prog Zdy = some [(.int .i64 0), (.int .i64 0)] := by kernel_rfl
@[simp] theorem ty111 : blS Try.prog Zdy = some true := by kernel_rfl
@[simp] theorem ty112 : plS Try.prog Zdy 0 = some (0, 1) := by kernel_rfl
@[simp] theorem ty113 : plS Try.prog Zdy 1 = some (1, 1) := by kernel_rfl
@[simp] theorem ty114 : tZ Try.prog Zdr = some [(.int .i64 0), (.int .i64 0), (.int .i64 0), (.int .i64 0)] := by kernel_rfl
@[simp] theorem ty115 : blS Try.prog Zdr = some true := by kernel_rfl
@[simp] theorem ty116 : plS Try.prog Zdr 0 = some (0, 2) := by kernel_rfl
@[simp] theorem ty117 : plS Try.prog Zdr 1 = some (2, 2) := by kernel_rfl
@[simp] theorem ty118 : arrS Try.prog Zdr = some (2, 2) := by kernel_rfl
@[simp] theorem ty119 : arrL Try.prog Zdr = some (some 2) := by kernel_rfl
@[simp] theorem ty120 : tS Try.prog Zdy = some 2 := by kernel_rfl
@[simp] theorem ty121 : arrS Try.prog Zdy = some (2, 1) := by kernel_rfl
@[simp] theorem ty122 : arrL Try.prog Zdy = some none := by kernel_rfl
@[simp] theorem ty123 : tZ Try.prog Z1 = some [(.int .i64 0), .nils, .nilm, .nilm] := by kernel_rfl
@[simp] theorem ty124 : blS Try.prog Z1 = some true := by kernel_rfl
@[simp] theorem ty125 : plS Try.prog Z1 0 = some (0, 1) := by kernel_rfl
@[simp] theorem ty126 : plS Try.prog Z1 2 = some (2, 1) := by kernel_rfl
@[simp] theorem ty127 : plS Try.prog Z1 3 = some (3, 1) := by kernel_rfl
@[simp] theorem ty128 : lnS Try.prog Zd8 = .str := by kernel_rfl
def Zb1 : LCode := (.seq (.seq (.reg [] [⟨some 148, some (.move (.tmp 21)), none⟩,
 ⟨some 149, some (.binOp .leq Zd (.tmp 148) (.const (.int .i64 28)) Zd), none⟩])
  (.cond (.tmp 149) .skip
  (.exit 0)))
  (.seq (.block 1 (.reg [] [⟨some 152, some (.move (.tmp 8)), none⟩,
 ⟨some 153, some (.move (.tmp 152)), none⟩,
 ⟨some 154, some (.move (.tmp 7)), some (some 153, true)⟩,
 ⟨some 155, some (.move (.tmp 21)), some (some 153, true)⟩,
 ⟨some 156, some (.move (.tmp 9)), some (some 153, true)⟩,
 ⟨some 157, some (.move (.tmp 19)), some (some 153, true)⟩,
 ⟨some 158, some (.build Zc #[(0, (.tmp 155)), (2, (.tmp 156)), (3, (.tmp 157))]), some (some 153, true)⟩,
 ⟨some 159, some (.move (.tmp 9)), some (some 153, true)⟩,
 ⟨some 160, some (.call ⟨(.value (.func Zm)), #[.tmp 154, .tmp 158, .tmp 159], #[Zf, Zc, Zd]⟩), some (some 153, true)⟩,
 ⟨some 161, some (.pick (.tmp 153) (.tmp 160) (.const (.bool false))), none⟩,
 ⟨some 8, some (.assign (.tmp 161)), none⟩]))
  (.reg [] [⟨some 150, some (.move (.tmp 21)), none⟩,
 ⟨some 151, some (.binOp .add Zd (.tmp 150) (.const (.int .i64 1)) Zd), none⟩,
 ⟨some 21, some (.assign (.tmp 151)), none⟩])))
def Zb2 : LCode := (.seq (.seq (.reg [] [⟨some 244, some (.move (.tmp 22)), none⟩,
 ⟨some 245, some (.binOp .lss Zd (.tmp 244) (.const (.int .i64 8)) Zd), none⟩])
  (.cond (.tmp 245) .skip
  (.exit 2)))
  (.seq (.block 3 (.seq (.reg [] [⟨some 248, some (.move (.tmp 13)), none⟩,
 ⟨some 23, some (.assign (.tmp 248)), none⟩])
  (.seq (.seq (.reg [] [⟨some 249, some (.move (.tmp 22)), none⟩,
 ⟨some 250, some (.binOp .and Zd (.tmp 249) (.const (.int .i64 1)) Zd), none⟩,
 ⟨some 251, some (.binOp .eql Zd (.tmp 250) (.const (.int .i64 0)) Zd), none⟩])
  (.cond (.tmp 251) (.reg [] [⟨some 252, some (.move (.tmp 14)), none⟩,
 ⟨some 23, some (.assign (.tmp 252)), none⟩])
  .skip))
  (.reg [] [⟨some 253, some (.move (.tmp 8)), none⟩,
 ⟨some 254, some (.move (.tmp 253)), none⟩,
 ⟨some 255, some (.move (.tmp 7)), some (some 254, true)⟩,
 ⟨some 256, some (.move (.tmp 22)), some (some 254, true)⟩,
 ⟨some 257, some (.binOp .add Zd (.const (.int .i64 29)) (.tmp 256) Zd), some (some 254, true)⟩,
 ⟨some 258, some (.move (.tmp 9)), some (some 254, true)⟩,
 ⟨some 259, some (.move (.tmp 9)), some (some 254, true)⟩,
 ⟨some 260, some (.build Zc #[(0, (.tmp 257)), (2, (.tmp 258)), (3, (.tmp 259))]), some (some 254, true)⟩,
 ⟨some 261, some (.move (.tmp 23)), some (some 254, true)⟩,
 ⟨some 262, some (.call ⟨(.value (.func Zm)), #[.tmp 255, .tmp 260, .tmp 261], #[Zf, Zc, Zd]⟩), some (some 254, true)⟩,
 ⟨some 263, some (.pick (.tmp 254) (.tmp 262) (.const (.bool false))), none⟩,
 ⟨some 8, some (.assign (.tmp 263)), none⟩]))))
  (.reg [] [⟨some 246, some (.move (.tmp 22)), none⟩,
 ⟨some 247, some (.binOp .add Zd (.tmp 246) (.const (.int .i64 1)) Zd), none⟩,
 ⟨some 22, some (.assign (.tmp 247)), none⟩])))
@[simp] theorem Zhc : defs Zb1 = [148, 149, 152, 153, 154, 155, 156, 157, 158, 159, 160, 161, 8, 150, 151, 21] := by rfl
@[simp] theorem Zhd : defs Zb2 = [244, 245, 248, 23, 249, 250, 251, 252, 23, 253, 254, 255, 256, 257, 258, 259, 260, 261, 262, 263, 8, 246, 247, 22] := by rfl
def Zee : LCode := (.seq (.reg [] [⟨some 6, some (.assign (.const (.bool false))), none⟩])
  (.seq (.seq (.reg [] [⟨some 28, some (.call ⟨(.value (.func Zc5)), #[], #[]⟩), none⟩,
 ⟨some 29, some (.unOp .not Zbe (.tmp 28)), none⟩])
  (.cond (.tmp 29) (.seq (.reg [] [⟨some 6, some (.assign (.const (.bool false))), none⟩])
  .ret)
  .skip))
  (.seq (.reg [] [⟨some 31, some (.move (.tmp 0)), none⟩,
 ⟨some 32, some (.call ⟨(.value (.func Zde)), #[.tmp 31], #[Zt]⟩), none⟩,
 ⟨some 30, some (.move (.tmp 32)), none⟩,
 ⟨some 33, some (.extract (.tmp 30) 0), none⟩,
 ⟨some 34, some (.extract (.tmp 30) 1), none⟩,
 ⟨some 7, some (.assign (.tmp 33)), none⟩,
 ⟨some 8, some (.assign (.tmp 34)), none⟩])
  (.seq (.seq (.reg [] [⟨some 35, some (.move (.tmp 8)), none⟩,
 ⟨some 36, some (.unOp .not Zbe (.tmp 35)), none⟩])
  (.cond (.tmp 36) (.seq (.reg [] [⟨some 6, some (.assign (.const (.bool true))), none⟩])
  .ret)
  .skip))
  (.seq (.reg [] [⟨some 38, some (.move (.tmp 7)), none⟩,
 ⟨some 39, some (.move (.tmp 1)), none⟩,
 ⟨some 40, some (.move (.tmp 7)), none⟩,
 ⟨some 41, some (.call ⟨(.value (.func Z9)), #[.tmp 40], #[Zf]⟩), none⟩,
 ⟨some 42, some (.call ⟨(.value (.func Zc6)), #[.tmp 39, .tmp 41], #[Zd, Zd]⟩), none⟩,
 ⟨some 43, some (.binOp .add Zd (.const (.int .i64 1)) (.tmp 42) Zd), none⟩,
 ⟨some 44, some (.call ⟨(.value (.func Zx)), #[.tmp 38, .tmp 43], #[Zf, Zd]⟩), none⟩,
 ⟨some 37, some (.move (.tmp 44)), none⟩,
 ⟨some 45, some (.extract (.tmp 37) 0), none⟩,
 ⟨some 46, some (.extract (.tmp 37) 1), none⟩,
 ⟨some 9, some (.assign (.tmp 45)), none⟩,
 ⟨some 10, some (.assign (.tmp 46)), none⟩])
  (.seq (.seq (.reg [] [⟨some 47, some (.move (.tmp 10)), none⟩,
 ⟨some 48, some (.binOp .neq Zd (.tmp 47) (.const (.int .i64 0)) Zd), none⟩])
  (.cond (.tmp 48) (.seq (.reg [] [⟨some 49, some (.move (.tmp 10)), none⟩,
 ⟨some 50, some (.binOp .eql Zd (.tmp 49) (.const (.int .i64 33)) Zd), none⟩,
 ⟨some 6, some (.assign (.tmp 50)), none⟩])
  .ret)
  .skip))
  (.seq (.reg [] [⟨some 52, some (.move (.tmp 7)), none⟩,
 ⟨some 53, some (.move (.tmp 9)), none⟩,
 ⟨some 54, some (.call ⟨(.value (.func Zp)), #[.tmp 52, .tmp 53], #[Zf, Zd]⟩), none⟩,
 ⟨some 51, some (.move (.tmp 54)), none⟩,
 ⟨some 55, some (.extract (.tmp 51) 0), none⟩,
 ⟨some 56, some (.extract (.tmp 51) 1), none⟩,
 ⟨some 11, some (.alloc Zc), none⟩,
 ⟨none, some (.store Zc (.tmp 11) (.tmp 55)), none⟩,
 ⟨some 12, some (.assign (.tmp 56)), none⟩])
  (.seq (.reg [] [⟨some 57, some (.move (.tmp 7)), none⟩,
 ⟨some 58, some (.call ⟨(.value (.func Zbt)), #[(.tmp 57), (.const (.int .i64 0)), (.const (.int .u64 1))], #[Zf, Zd, Ze]⟩), none⟩,
 ⟨some 59, some (.move (.tmp 7)), none⟩,
 ⟨some 60, some (.call ⟨(.value (.func Zbt)), #[(.tmp 59), (.const (.int .i64 0)), (.const (.int .u64 0))], #[Zf, Zd, Ze]⟩), none⟩,
 ⟨some 13, some (.assign (.tmp 58)), none⟩,
 ⟨some 14, some (.assign (.tmp 60)), none⟩])
  (.seq (.seq (.reg [] [⟨some 61, some (.fieldAddr Zc (.tmp 11) 1), none⟩,
 ⟨some 62, some (.load Zd (.tmp 61)), none⟩,
 ⟨some 63, some (.binOp .eql Zd (.tmp 62) (.const (.int .i64 0)) Zd), none⟩])
  (.cond (.tmp 63) (.seq (.reg [] [⟨some 64, some (.move (.tmp 7)), none⟩,
 ⟨some 65, some (.move (.tmp 9)), none⟩,
 ⟨some 66, some (.move (.tmp 13)), none⟩,
 ⟨some 67, some (.move (.tmp 14)), none⟩,
 ⟨some 68, some (.call ⟨(.value (.func Zc7)), #[.tmp 64, .tmp 65, .tmp 66, .tmp 67], #[Zf, Zd, Zd, Zd]⟩), none⟩,
 ⟨some 6, some (.assign (.tmp 68)), none⟩])
  .ret)
  .skip))
  (.seq (.reg [] [⟨some 70, some (.move (.tmp 7)), none⟩,
 ⟨some 71, some (.move (.tmp 2)), none⟩,
 ⟨some 72, some (.move (.tmp 7)), none⟩,
 ⟨some 73, some (.call ⟨(.value (.func Z9)), #[.tmp 72], #[Zf]⟩), none⟩,
 ⟨some 74, some (.call ⟨(.value (.func Zc6)), #[.tmp 71, .tmp 73], #[Zd, Zd]⟩), none⟩,
 ⟨some 75, some (.binOp .add Zd (.const (.int .i64 1)) (.tmp 74) Zd), none⟩,
 ⟨some 76, some (.call ⟨(.value (.func Zx)), #[.tmp 70, .tmp 75], #[Zf, Zd]⟩), none⟩,
 ⟨some 69, some (.move (.tmp 76)), none⟩,
 ⟨some 77, some (.extract (.tmp 69) 0), none⟩,
 ⟨some 78, some (.extract (.tmp 69) 1), none⟩,
 ⟨some 15, some (.assign (.tmp 77)), none⟩,
 ⟨some 16, some (.assign (.tmp 78)), none⟩])
  (.seq (.seq (.reg [] [⟨some 80, some (.move (.tmp 7)), none⟩,
 ⟨some 81, some (.move (.tmp 15)), none⟩,
 ⟨some 82, some (.call ⟨(.value (.func Zp)), #[.tmp 80, .tmp 81], #[Zf, Zd]⟩), none⟩,
 ⟨some 79, some (.move (.tmp 82)), none⟩,
 ⟨some 83, some (.extract (.tmp 79) 0), none⟩,
 ⟨some 84, some (.extract (.tmp 79) 1), none⟩,
 ⟨some 17, some (.alloc Zc), none⟩,
 ⟨none, some (.store Zc (.tmp 17) (.tmp 83)), none⟩,
 ⟨some 18, some (.assign (.tmp 84)), none⟩])
  (.seq (.reg [] [⟨some 85, some (.move (.tmp 16)), none⟩,
 ⟨some 86, some (.binOp .eql Zd (.tmp 85) (.const (.int .i64 0)) Zd), none⟩,
 ⟨some 87, some (.move (.tmp 86)), none⟩,
 ⟨some 88, some (.fieldAddr Zc (.tmp 17) 1), some (some 87, true)⟩,
 ⟨some 89, some (.load Zd (.tmp 88)), some (some 87, true)⟩,
 ⟨some 90, some (.binOp .eql Zd (.tmp 89) (.const (.int .i64 0)) Zd), some (some 87, true)⟩,
 ⟨some 91, some (.pick (.tmp 87) (.tmp 90) (.const (.bool false))), none⟩,
 ⟨some 92, some (.move (.tmp 91)), none⟩,
 ⟨some 93, some (.move (.tmp 7)), some (some 92, true)⟩,
 ⟨some 94, some (.move (.tmp 15)), some (some 92, true)⟩,
 ⟨some 95, some (.move (.tmp 9)), some (some 92, true)⟩,
 ⟨some 96, some (.move (.tmp 9)), some (some 92, true)⟩,
 ⟨some 97, some (.build Zc #[(0, (.const (.int .i64 9))), (2, (.tmp 94)), (3, (.tmp 95)), (4, (.tmp 96))]), some (some 92, true)⟩,
 ⟨some 98, some (.move (.tmp 9)), some (some 92, true)⟩,
 ⟨some 99, some (.call ⟨(.value (.func Zm)), #[.tmp 93, .tmp 97, .tmp 98], #[Zf, Zc, Zd]⟩), some (some 92, true)⟩,
 ⟨some 100, some (.unOp .not Zbe (.tmp 99)), some (some 92, true)⟩,
 ⟨some 101, some (.pick (.tmp 92) (.tmp 100) (.const (.bool false))), none⟩])
  (.cond (.tmp 101) (.seq (.reg [] [⟨some 6, some (.assign (.const (.bool false))), none⟩])
  .ret)
  .skip)))
  (.seq (.reg [3, 6, 801, 997, 1011] [⟨some 102, some (.move (.tmp 7)), none⟩,
 ⟨some 103, some (.fieldAddr Zc (.tmp 11) 1), none⟩,
 ⟨some 104, some (.load Zd (.tmp 103)), none⟩,
 ⟨some 105, some (.call ⟨(.value (.func Zbt)), #[(.tmp 102), (.tmp 104), (.const (.int .u64 0))], #[Zf, Zd, Ze]⟩), none⟩,
 ⟨some 106, some (.move (.tmp 7)), none⟩,
 ⟨some 107, some (.fieldAddr Zc (.tmp 11) 1), none⟩,
 ⟨some 108, some (.load Zd (.tmp 107)), none⟩,
 ⟨some 109, some (.call ⟨(.value (.func Zbt)), #[(.tmp 106), (.tmp 108), (.const (.int .u64 1))], #[Zf, Zd, Ze]⟩), none⟩,
 ⟨some 19, some (.assign (.tmp 105)), none⟩,
 ⟨some 20, some (.assign (.tmp 109)), none⟩])
  (.seq (.reg [] [⟨some 110, some (.move (.tmp 7)), none⟩,
 ⟨some 111, some (.move (.tmp 9)), none⟩,
 ⟨some 112, some (.move (.tmp 19)), none⟩,
 ⟨some 113, some (.build Zc #[(0, (.const (.int .i64 12))), (2, (.tmp 111)), (3, (.tmp 112))]), none⟩,
 ⟨some 114, some (.move (.tmp 19)), none⟩,
 ⟨some 115, some (.call ⟨(.value (.func Zm)), #[.tmp 110, .tmp 113, .tmp 114], #[Zf, Zc, Zd]⟩), none⟩,
 ⟨some 116, some (.move (.tmp 115)), none⟩,
 ⟨some 117, some (.move (.tmp 7)), some (some 116, true)⟩,
 ⟨some 118, some (.move (.tmp 19)), some (some 116, true)⟩,
 ⟨some 119, some (.move (.tmp 9)), some (some 116, true)⟩,
 ⟨some 120, some (.build Zc #[(0, (.const (.int .i64 20))), (2, (.tmp 118)), (3, (.tmp 119))]), some (some 116, true)⟩,
 ⟨some 121, some (.move (.tmp 19)), some (some 116, true)⟩,
 ⟨some 122, some (.call ⟨(.value (.func Zm)), #[.tmp 117, .tmp 120, .tmp 121], #[Zf, Zc, Zd]⟩), some (some 116, true)⟩,
 ⟨some 123, some (.pick (.tmp 116) (.tmp 122) (.const (.bool false))), none⟩,
 ⟨some 124, some (.move (.tmp 123)), none⟩,
 ⟨some 125, some (.move (.tmp 7)), some (some 124, true)⟩,
 ⟨some 126, some (.move (.tmp 19)), some (some 124, true)⟩,
 ⟨some 127, some (.move (.tmp 9)), some (some 124, true)⟩,
 ⟨some 128, some (.build Zc #[(0, (.const (.int .i64 26))), (2, (.tmp 126)), (3, (.tmp 127))]), some (some 124, true)⟩,
 ⟨some 129, some (.move (.tmp 19)), some (some 124, true)⟩,
 ⟨some 130, some (.call ⟨(.value (.func Zm)), #[.tmp 125, .tmp 128, .tmp 129], #[Zf, Zc, Zd]⟩), some (some 124, true)⟩,
 ⟨some 131, some (.pick (.tmp 124) (.tmp 130) (.const (.bool false))), none⟩,
 ⟨some 132, some (.move (.tmp 131)), none⟩,
 ⟨some 133, some (.move (.tmp 7)), some (some 132, true)⟩,
 ⟨some 134, some (.move (.tmp 19)), some (some 132, true)⟩,
 ⟨some 135, some (.move (.tmp 9)), some (some 132, true)⟩,
 ⟨some 136, some (.build Zc #[(0, (.const (.int .i64 27))), (2, (.tmp 134)), (3, (.tmp 135))]), some (some 132, true)⟩,
 ⟨some 137, some (.move (.tmp 19)), some (some 132, true)⟩,
 ⟨some 138, some (.call ⟨(.value (.func Zm)), #[.tmp 133, .tmp 136, .tmp 137], #[Zf, Zc, Zd]⟩), some (some 132, true)⟩,
 ⟨some 139, some (.pick (.tmp 132) (.tmp 138) (.const (.bool false))), none⟩,
 ⟨some 140, some (.move (.tmp 139)), none⟩,
 ⟨some 141, some (.move (.tmp 7)), some (some 140, true)⟩,
 ⟨some 142, some (.move (.tmp 19)), some (some 140, true)⟩,
 ⟨some 143, some (.move (.tmp 9)), some (some 140, true)⟩,
 ⟨some 144, some (.build Zc #[(0, (.const (.int .i64 28))), (2, (.tmp 142)), (3, (.tmp 143))]), some (some 140, true)⟩,
 ⟨some 145, some (.move (.tmp 19)), some (some 140, true)⟩,
 ⟨some 146, some (.call ⟨(.value (.func Zm)), #[.tmp 141, .tmp 144, .tmp 145], #[Zf, Zc, Zd]⟩), some (some 140, true)⟩,
 ⟨some 147, some (.pick (.tmp 140) (.tmp 146) (.const (.bool false))), none⟩,
 ⟨some 8, some (.assign (.tmp 147)), none⟩])
  (.seq (.seq (.reg [] [⟨some 21, some (.assign (.const (.int .i64 26))), none⟩])
  (.block 0 (.loop Zb1)))
  (.seq (.reg [] [⟨some 162, some (.move (.tmp 8)), none⟩,
 ⟨some 163, some (.move (.tmp 162)), none⟩,
 ⟨some 164, some (.move (.tmp 7)), some (some 163, true)⟩,
 ⟨some 165, some (.move (.tmp 9)), some (some 163, true)⟩,
 ⟨some 166, some (.move (.tmp 19)), some (some 163, true)⟩,
 ⟨some 167, some (.build Zc #[(0, (.const (.int .i64 13))), (2, (.tmp 165)), (3, (.tmp 166))]), some (some 163, true)⟩,
 ⟨some 168, some (.move (.tmp 9)), some (some 163, true)⟩,
 ⟨some 169, some (.call ⟨(.value (.func Zm)), #[.tmp 164, .tmp 167, .tmp 168], #[Zf, Zc, Zd]⟩), some (some 163, true)⟩,
 ⟨some 170, some (.pick (.tmp 163) (.tmp 169) (.const (.bool false))), none⟩,
 ⟨some 171, some (.move (.tmp 170)), none⟩,
 ⟨some 172, some (.move (.tmp 7)), some (some 171, true)⟩,
 ⟨some 173, some (.move (.tmp 19)), some (some 171, true)⟩,
 ⟨some 174, some (.move (.tmp 9)), some (some 171, true)⟩,
 ⟨some 175, some (.build Zc #[(0, (.const (.int .i64 14))), (2, (.tmp 173)), (3, (.tmp 174))]), some (some 171, true)⟩,
 ⟨some 176, some (.move (.tmp 9)), some (some 171, true)⟩,
 ⟨some 177, some (.call ⟨(.value (.func Zm)), #[.tmp 172, .tmp 175, .tmp 176], #[Zf, Zc, Zd]⟩), some (some 171, true)⟩,
 ⟨some 178, some (.pick (.tmp 171) (.tmp 177) (.const (.bool false))), none⟩,
 ⟨some 179, some (.move (.tmp 178)), none⟩,
 ⟨some 180, some (.move (.tmp 7)), some (some 179, true)⟩,
 ⟨some 181, some (.move (.tmp 9)), some (some 179, true)⟩,
 ⟨some 182, some (.move (.tmp 19)), some (some 179, true)⟩,
 ⟨some 183, some (.build Zc #[(0, (.const (.int .i64 18))), (2, (.tmp 181)), (3, (.tmp 182))]), some (some 179, true)⟩,
 ⟨some 184, some (.move (.tmp 9)), some (some 179, true)⟩,
 ⟨some 185, some (.call ⟨(.value (.func Zm)), #[.tmp 180, .tmp 183, .tmp 184], #[Zf, Zc, Zd]⟩), some (some 179, true)⟩,
 ⟨some 186, some (.pick (.tmp 179) (.tmp 185) (.const (.bool false))), none⟩,
 ⟨some 187, some (.move (.tmp 186)), none⟩,
 ⟨some 188, some (.move (.tmp 7)), some (some 187, true)⟩,
 ⟨some 189, some (.move (.tmp 9)), some (some 187, true)⟩,
 ⟨some 190, some (.move (.tmp 19)), some (some 187, true)⟩,
 ⟨some 191, some (.build Zc #[(0, (.const (.int .i64 19))), (2, (.tmp 189)), (3, (.tmp 190))]), some (some 187, true)⟩,
 ⟨some 192, some (.move (.tmp 9)), some (some 187, true)⟩,
 ⟨some 193, some (.call ⟨(.value (.func Zm)), #[.tmp 188, .tmp 191, .tmp 192], #[Zf, Zc, Zd]⟩), some (some 187, true)⟩,
 ⟨some 194, some (.pick (.tmp 187) (.tmp 193) (.const (.bool false))), none⟩,
 ⟨some 195, some (.move (.tmp 194)), none⟩,
 ⟨some 196, some (.move (.tmp 7)), some (some 195, true)⟩,
 ⟨some 197, some (.move (.tmp 20)), some (some 195, true)⟩,
 ⟨some 198, some (.move (.tmp 9)), some (some 195, true)⟩,
 ⟨some 199, some (.build Zc #[(0, (.const (.int .i64 20))), (2, (.tmp 197)), (3, (.tmp 198))]), some (some 195, true)⟩,
 ⟨some 200, some (.move (.tmp 9)), some (some 195, true)⟩,
 ⟨some 201, some (.call ⟨(.value (.func Zm)), #[.tmp 196, .tmp 199, .tmp 200], #[Zf, Zc, Zd]⟩), some (some 195, true)⟩,
 ⟨some 202, some (.pick (.tmp 195) (.tmp 201) (.const (.bool false))), none⟩,
 ⟨some 203, some (.move (.tmp 202)), none⟩,
 ⟨some 204, some (.move (.tmp 7)), some (some 203, true)⟩,
 ⟨some 205, some (.move (.tmp 9)), some (some 203, true)⟩,
 ⟨some 206, some (.move (.tmp 20)), some (some 203, true)⟩,
 ⟨some 207, some (.build Zc #[(0, (.const (.int .i64 21))), (2, (.tmp 205)), (3, (.tmp 206))]), some (some 203, true)⟩,
 ⟨some 208, some (.move (.tmp 9)), some (some 203, true)⟩,
 ⟨some 209, some (.call ⟨(.value (.func Zm)), #[.tmp 204, .tmp 207, .tmp 208], #[Zf, Zc, Zd]⟩), some (some 203, true)⟩,
 ⟨some 210, some (.pick (.tmp 203) (.tmp 209) (.const (.bool false))), none⟩,
 ⟨some 8, some (.assign (.tmp 210)), none⟩])
  (.seq (.reg [] [⟨some 211, some (.move (.tmp 8)), none⟩,
 ⟨some 212, some (.move (.tmp 211)), none⟩,
 ⟨some 213, some (.move (.tmp 7)), some (some 212, true)⟩,
 ⟨some 214, some (.move (.tmp 9)), some (some 212, true)⟩,
 ⟨some 215, some (.move (.tmp 9)), some (some 212, true)⟩,
 ⟨some 216, some (.build Zc #[(0, (.const (.int .i64 12))), (2, (.tmp 214)), (3, (.tmp 215))]), some (some 212, true)⟩,
 ⟨some 217, some (.move (.tmp 9)), some (some 212, true)⟩,
 ⟨some 218, some (.call ⟨(.value (.func Zm)), #[.tmp 213, .tmp 216, .tmp 217], #[Zf, Zc, Zd]⟩), some (some 212, true)⟩,
 ⟨some 219, some (.pick (.tmp 212) (.tmp 218) (.const (.bool false))), none⟩,
 ⟨some 220, some (.move (.tmp 219)), none⟩,
 ⟨some 221, some (.move (.tmp 7)), some (some 220, true)⟩,
 ⟨some 222, some (.move (.tmp 9)), some (some 220, true)⟩,
 ⟨some 223, some (.move (.tmp 9)), some (some 220, true)⟩,
 ⟨some 224, some (.build Zc #[(0, (.const (.int .i64 13))), (2, (.tmp 222)), (3, (.tmp 223))]), some (some 220, true)⟩,
 ⟨some 225, some (.move (.tmp 9)), some (some 220, true)⟩,
 ⟨some 226, some (.call ⟨(.value (.func Zm)), #[.tmp 221, .tmp 224, .tmp 225], #[Zf, Zc, Zd]⟩), some (some 220, true)⟩,
 ⟨some 227, some (.pick (.tmp 220) (.tmp 226) (.const (.bool false))), none⟩,
 ⟨some 228, some (.move (.tmp 227)), none⟩,
 ⟨some 229, some (.move (.tmp 7)), some (some 228, true)⟩,
 ⟨some 230, some (.move (.tmp 9)), some (some 228, true)⟩,
 ⟨some 231, some (.move (.tmp 9)), some (some 228, true)⟩,
 ⟨some 232, some (.build Zc #[(0, (.const (.int .i64 14))), (2, (.tmp 230)), (3, (.tmp 231))]), some (some 228, true)⟩,
 ⟨some 233, some (.move (.tmp 19)), some (some 228, true)⟩,
 ⟨some 234, some (.call ⟨(.value (.func Zm)), #[.tmp 229, .tmp 232, .tmp 233], #[Zf, Zc, Zd]⟩), some (some 228, true)⟩,
 ⟨some 235, some (.pick (.tmp 228) (.tmp 234) (.const (.bool false))), none⟩,
 ⟨some 236, some (.move (.tmp 235)), none⟩,
 ⟨some 237, some (.move (.tmp 7)), some (some 236, true)⟩,
 ⟨some 238, some (.move (.tmp 9)), some (some 236, true)⟩,
 ⟨some 239, some (.move (.tmp 9)), some (some 236, true)⟩,
 ⟨some 240, some (.build Zc #[(0, (.const (.int .i64 19))), (2, (.tmp 238)), (3, (.tmp 239))]), some (some 236, true)⟩,
 ⟨some 241, some (.move (.tmp 19)), some (some 236, true)⟩,
 ⟨some 242, some (.call ⟨(.value (.func Zm)), #[.tmp 237, .tmp 240, .tmp 241], #[Zf, Zc, Zd]⟩), some (some 236, true)⟩,
 ⟨some 243, some (.pick (.tmp 236) (.tmp 242) (.const (.bool false))), none⟩,
 ⟨some 8, some (.assign (.tmp 243)), none⟩])
  (.seq (.seq (.reg [] [⟨some 22, some (.assign (.const (.int .i64 0))), none⟩])
  (.block 2 (.loop Zb2)))
  (.seq (.reg [] [⟨some 265, some (.move (.tmp 7)), none⟩,
 ⟨some 266, some (.move (.tmp 9)), none⟩,
 ⟨some 267, some (.build Zc #[(0, (.const (.int .i64 10))), (2, (.tmp 266))]), none⟩,
 ⟨some 268, some (.call ⟨(.value (.func Zi)), #[.tmp 265, .tmp 267], #[Zf, Zc]⟩), none⟩,
 ⟨some 264, some (.move (.tmp 268)), none⟩,
 ⟨some 269, some (.extract (.tmp 264) 0), none⟩,
 ⟨some 270, some (.extract (.tmp 264) 1), none⟩,
 ⟨some 24, some (.assign (.tmp 269)), none⟩,
 ⟨some 25, some (.assign (.tmp 270)), none⟩])
  (.seq (.reg [] [⟨some 272, some (.move (.tmp 7)), none⟩,
 ⟨some 273, some (.move (.tmp 9)), none⟩,
 ⟨some 274, some (.build Zc #[(0, (.const (.int .i64 11))), (2, (.tmp 273))]), none⟩,
 ⟨some 275, some (.call ⟨(.value (.func Zi)), #[.tmp 272, .tmp 274], #[Zf, Zc]⟩), none⟩,
 ⟨some 271, some (.move (.tmp 275)), none⟩,
 ⟨some 276, some (.extract (.tmp 271) 0), none⟩,
 ⟨some 277, some (.extract (.tmp 271) 1), none⟩,
 ⟨some 26, some (.assign (.tmp 276)), none⟩,
 ⟨some 27, some (.assign (.tmp 277)), none⟩])
  (.seq (.reg [] [⟨some 278, some (.move (.tmp 8)), none⟩,
 ⟨some 279, some (.move (.tmp 278)), none⟩,
 ⟨some 280, some (.move (.tmp 7)), some (some 279, true)⟩,
 ⟨some 281, some (.move (.tmp 9)), some (some 279, true)⟩,
 ⟨some 282, some (.move (.tmp 9)), some (some 279, true)⟩,
 ⟨some 283, some (.build Zc #[(0, (.const (.int .i64 8))), (2, (.tmp 281)), (3, (.tmp 282))]), some (some 279, true)⟩,
 ⟨some 284, some (.move (.tmp 13)), some (some 279, true)⟩,
 ⟨some 285, some (.call ⟨(.value (.func Zm)), #[.tmp 280, .tmp 283, .tmp 284], #[Zf, Zc, Zd]⟩), some (some 279, true)⟩,
 ⟨some 286, some (.pick (.tmp 279) (.tmp 285) (.const (.bool false))), none⟩,
 ⟨some 287, some (.move (.tmp 286)), none⟩,
 ⟨some 288, some (.move (.tmp 7)), some (some 287, true)⟩,
 ⟨some 289, some (.move (.tmp 24)), some (some 287, true)⟩,
 ⟨some 290, some (.call ⟨(.value (.func Zb3)), #[.tmp 288, .tmp 289], #[Zf, Zd]⟩), some (some 287, true)⟩,
 ⟨some 291, some (.unOp .not Zbe (.tmp 290)), some (some 287, true)⟩,
 ⟨some 292, some (.move (.tmp 291)), some (some 287, true)⟩,
 ⟨some 293, some (.move (.tmp 7)), some (some 292, false)⟩,
 ⟨some 294, some (.move (.tmp 24)), some (some 292, false)⟩,
 ⟨some 295, some (.build Zc #[(0, (.const (.int .i64 10))), (2, (.tmp 294))]), some (some 292, false)⟩,
 ⟨some 296, some (.move (.tmp 9)), some (some 292, false)⟩,
 ⟨some 297, some (.call ⟨(.value (.func Zm)), #[.tmp 293, .tmp 295, .tmp 296], #[Zf, Zc, Zd]⟩), some (some 292, false)⟩,
 ⟨some 298, some (.pick (.tmp 292) (.const (.bool true)) (.tmp 297)), some (some 287, true)⟩,
 ⟨some 299, some (.pick (.tmp 287) (.tmp 298) (.const (.bool false))), none⟩,
 ⟨some 300, some (.move (.tmp 299)), none⟩,
 ⟨some 301, some (.move (.tmp 7)), some (some 300, true)⟩,
 ⟨some 302, some (.move (.tmp 26)), some (some 300, true)⟩,
 ⟨some 303, some (.call ⟨(.value (.func Zb3)), #[.tmp 301, .tmp 302], #[Zf, Zd]⟩), some (some 300, true)⟩,
 ⟨some 304, some (.unOp .not Zbe (.tmp 303)), some (some 300, true)⟩,
 ⟨some 305, some (.move (.tmp 304)), some (some 300, true)⟩,
 ⟨some 306, some (.move (.tmp 7)), some (some 305, false)⟩,
 ⟨some 307, some (.move (.tmp 26)), some (some 305, false)⟩,
 ⟨some 308, some (.build Zc #[(0, (.const (.int .i64 11))), (2, (.tmp 307))]), some (some 305, false)⟩,
 ⟨some 309, some (.move (.tmp 9)), some (some 305, false)⟩,
 ⟨some 310, some (.call ⟨(.value (.func Zm)), #[.tmp 306, .tmp 308, .tmp 309], #[Zf, Zc, Zd]⟩), some (some 305, false)⟩,
 ⟨some 311, some (.pick (.tmp 305) (.const (.bool true)) (.tmp 310)), some (some 300, true)⟩,
 ⟨some 312, some (.pick (.tmp 300) (.tmp 311) (.const (.bool false))), none⟩,
 ⟨some 8, some (.assign (.tmp 312)), none⟩])
  (.seq (.reg [] [⟨some 313, some (.move (.tmp 8)), none⟩,
 ⟨some 314, some (.move (.tmp 313)), none⟩,
 ⟨some 315, some (.move (.tmp 7)), some (some 314, true)⟩,
 ⟨some 316, some (.move (.tmp 9)), some (some 314, true)⟩,
 ⟨some 317, some (.fieldAddr Zc (.tmp 11) 1), some (some 314, true)⟩,
 ⟨some 318, some (.load Zd (.tmp 317)), some (some 314, true)⟩,
 ⟨some 319, some (.binOp .sub Zd (.tmp 318) (.const (.int .i64 1)) Zd), some (some 314, true)⟩,
 ⟨some 320, some (.build Zc #[(0, (.const (.int .i64 39))), (2, (.tmp 316)), (5, (.tmp 319))]), some (some 314, true)⟩,
 ⟨some 321, some (.move (.tmp 9)), some (some 314, true)⟩,
 ⟨some 322, some (.call ⟨(.value (.func Zm)), #[.tmp 315, .tmp 320, .tmp 321], #[Zf, Zc, Zd]⟩), some (some 314, true)⟩,
 ⟨some 323, some (.pick (.tmp 314) (.tmp 322) (.const (.bool false))), none⟩,
 ⟨some 324, some (.move (.tmp 323)), none⟩,
 ⟨some 325, some (.move (.tmp 7)), some (some 324, true)⟩,
 ⟨some 326, some (.move (.tmp 9)), some (some 324, true)⟩,
 ⟨some 327, some (.build Zc #[(0, (.const (.int .i64 40))), (2, (.tmp 326))]), some (some 324, true)⟩,
 ⟨some 328, some (.move (.tmp 9)), some (some 324, true)⟩,
 ⟨some 329, some (.call ⟨(.value (.func Zm)), #[.tmp 325, .tmp 327, .tmp 328], #[Zf, Zc, Zd]⟩), some (some 324, true)⟩,
 ⟨some 330, some (.pick (.tmp 324) (.tmp 329) (.const (.bool false))), none⟩,
 ⟨some 331, some (.move (.tmp 330)), none⟩,
 ⟨some 332, some (.move (.tmp 7)), some (some 331, true)⟩,
 ⟨some 333, some (.move (.tmp 9)), some (some 331, true)⟩,
 ⟨some 334, some (.build Zc #[(0, (.const (.int .i64 41))), (2, (.tmp 333))]), some (some 331, true)⟩,
 ⟨some 335, some (.move (.tmp 9)), some (some 331, true)⟩,
 ⟨some 336, some (.call ⟨(.value (.func Zm)), #[.tmp 332, .tmp 334, .tmp 335], #[Zf, Zc, Zd]⟩), some (some 331, true)⟩,
 ⟨some 337, some (.pick (.tmp 331) (.tmp 336) (.const (.bool false))), none⟩,
 ⟨some 338, some (.move (.tmp 337)), none⟩,
 ⟨some 339, some (.move (.tmp 7)), some (some 338, true)⟩,
 ⟨some 340, some (.move (.tmp 9)), some (some 338, true)⟩,
 ⟨some 341, some (.build Zc #[(0, (.const (.int .i64 42))), (2, (.tmp 340))]), some (some 338, true)⟩,
 ⟨some 342, some (.move (.tmp 9)), some (some 338, true)⟩,
 ⟨some 343, some (.call ⟨(.value (.func Zm)), #[.tmp 339, .tmp 341, .tmp 342], #[Zf, Zc, Zd]⟩), some (some 338, true)⟩,
 ⟨some 344, some (.pick (.tmp 338) (.tmp 343) (.const (.bool false))), none⟩,
 ⟨some 345, some (.move (.tmp 344)), none⟩,
 ⟨some 346, some (.move (.tmp 7)), some (some 345, true)⟩,
 ⟨some 347, some (.move (.tmp 9)), some (some 345, true)⟩,
 ⟨some 348, some (.build Zc #[(0, (.const (.int .i64 43))), (2, (.tmp 347))]), some (some 345, true)⟩,
 ⟨some 349, some (.move (.tmp 9)), some (some 345, true)⟩,
 ⟨some 350, some (.call ⟨(.value (.func Zm)), #[.tmp 346, .tmp 348, .tmp 349], #[Zf, Zc, Zd]⟩), some (some 345, true)⟩,
 ⟨some 351, some (.pick (.tmp 345) (.tmp 350) (.const (.bool false))), none⟩,
 ⟨some 352, some (.move (.tmp 351)), none⟩,
 ⟨some 353, some (.move (.tmp 7)), some (some 352, true)⟩,
 ⟨some 354, some (.move (.tmp 9)), some (some 352, true)⟩,
 ⟨some 355, some (.build Zc #[(0, (.const (.int .i64 44))), (2, (.tmp 354)), (5, (.const (.int .i64 1)))]), some (some 352, true)⟩,
 ⟨some 356, some (.move (.tmp 9)), some (some 352, true)⟩,
 ⟨some 357, some (.call ⟨(.value (.func Zm)), #[.tmp 353, .tmp 355, .tmp 356], #[Zf, Zc, Zd]⟩), some (some 352, true)⟩,
 ⟨some 358, some (.pick (.tmp 352) (.tmp 357) (.const (.bool false))), none⟩,
 ⟨some 8, some (.assign (.tmp 358)), none⟩])
  (.seq (.reg [] [⟨some 359, some (.move (.tmp 8)), none⟩,
 ⟨some 360, some (.move (.tmp 359)), none⟩,
 ⟨some 361, some (.move (.tmp 7)), some (some 360, true)⟩,
 ⟨some 362, some (.move (.tmp 13)), some (some 360, true)⟩,
 ⟨some 363, some (.move (.tmp 9)), some (some 360, true)⟩,
 ⟨some 364, some (.move (.tmp 19)), some (some 360, true)⟩,
 ⟨some 365, some (.build Zc #[(0, (.const (.int .i64 9))), (2, (.tmp 362)), (3, (.tmp 363)), (4, (.tmp 364))]), some (some 360, true)⟩,
 ⟨some 366, some (.move (.tmp 9)), some (some 360, true)⟩,
 ⟨some 367, some (.call ⟨(.value (.func Zm)), #[.tmp 361, .tmp 365, .tmp 366], #[Zf, Zc, Zd]⟩), some (some 360, true)⟩,
 ⟨some 368, some (.pick (.tmp 360) (.tmp 367) (.const (.bool false))), none⟩,
 ⟨some 369, some (.move (.tmp 368)), none⟩,
 ⟨some 370, some (.move (.tmp 7)), some (some 369, true)⟩,
 ⟨some 371, some (.move (.tmp 14)), some (some 369, true)⟩,
 ⟨some 372, some (.move (.tmp 20)), some (some 369, true)⟩,
 ⟨some 373, some (.move (.tmp 9)), some (some 369, true)⟩,
 ⟨some 374, some (.build Zc #[(0, (.const (.int .i64 9))), (2, (.tmp 371)), (3, (.tmp 372)), (4, (.tmp 373))]), some (some 369, true)⟩,
 ⟨some 375, some (.move (.tmp 9)), some (some 369, true)⟩,
 ⟨some 376, some (.call ⟨(.value (.func Zm)), #[.tmp 370, .tmp 374, .tmp 375], #[Zf, Zc, Zd]⟩), some (some 369, true)⟩,
 ⟨some 377, some (.pick (.tmp 369) (.tmp 376) (.const (.bool false))), none⟩,
 ⟨some 6, some (.assign (.tmp 377)), none⟩])
  .ret))))))))))))))))))))))
theorem Zfq {a0 a1 a2 : AV} {H : AHeap} : R Zbn [a0, a1, a2] H = fnK Try.prog [] H [(.tmp 6)] (evalL Try.prog KT R Zee (Env.args [a0, a1, a2] 0) H) :=
  runs_body (D := DT) (f := Zbn) Try.func4 (by kernel_rfl) (by kernel_rfl) (by kernel_rfl) (by kernel_rfl) (by kernel_rfl) (Nat.le_of_ble_eq_true rfl)
def Zfr : LCode := (.seq (.reg [] [⟨some 0, some (.assign (.const (.bool false))), none⟩])
  (.seq (.reg [] [⟨some 24, some (.call ⟨(.value (.func Zem)), #[(.const (.int .i64 50))], #[Zd]⟩), none⟩,
 ⟨some 1, some (.assign (.tmp 24)), none⟩])
  (.seq (.seq (.reg [] [⟨some 25, some (.move (.tmp 1)), none⟩,
 ⟨some 26, some (.binOp .eql Zf (.tmp 25) (.const (.pointer none)) Zf), none⟩])
  (.cond (.tmp 26) (.seq (.reg [] [⟨some 0, some (.assign (.const (.bool false))), none⟩])
  .ret)
  .skip))
  (.seq (.reg [] [⟨some 28, some (.move (.tmp 1)), none⟩,
 ⟨some 29, some (.build Zc #[(0, (.const (.int .i64 2))), (1, (.const (.int .i64 4))), (8, (.const (.string { data := #[120] })))]), none⟩,
 ⟨some 30, some (.call ⟨(.value (.func Zi)), #[.tmp 28, .tmp 29], #[Zf, Zc]⟩), none⟩,
 ⟨some 27, some (.move (.tmp 30)), none⟩,
 ⟨some 31, some (.extract (.tmp 27) 0), none⟩,
 ⟨some 32, some (.extract (.tmp 27) 1), none⟩,
 ⟨some 2, some (.assign (.tmp 31)), none⟩,
 ⟨some 3, some (.assign (.tmp 32)), none⟩])
  (.seq (.reg [] [⟨some 34, some (.move (.tmp 1)), none⟩,
 ⟨some 35, some (.build Zb #[(0, (.const (.int .i64 4))), (1, (.const (.int .u64 3)))]), none⟩,
 ⟨some 36, some (.build Zc #[(0, (.const (.int .i64 1))), (1, (.const (.int .i64 4))), (7, (.tmp 35))]), none⟩,
 ⟨some 37, some (.call ⟨(.value (.func Zi)), #[.tmp 34, .tmp 36], #[Zf, Zc]⟩), none⟩,
 ⟨some 33, some (.move (.tmp 37)), none⟩,
 ⟨some 38, some (.extract (.tmp 33) 0), none⟩,
 ⟨some 39, some (.extract (.tmp 33) 1), none⟩,
 ⟨some 4, some (.assign (.tmp 38)), none⟩,
 ⟨some 5, some (.assign (.tmp 39)), none⟩])
  (.seq (.reg [] [⟨some 41, some (.move (.tmp 1)), none⟩,
 ⟨some 42, some (.build Zb #[(0, (.const (.int .i64 4)))]), none⟩,
 ⟨some 43, some (.build Zc #[(0, (.const (.int .i64 1))), (1, (.const (.int .i64 4))), (7, (.tmp 42))]), none⟩,
 ⟨some 44, some (.call ⟨(.value (.func Zi)), #[.tmp 41, .tmp 43], #[Zf, Zc]⟩), none⟩,
 ⟨some 40, some (.move (.tmp 44)), none⟩,
 ⟨some 45, some (.extract (.tmp 40) 0), none⟩,
 ⟨some 46, some (.extract (.tmp 40) 1), none⟩,
 ⟨some 6, some (.assign (.tmp 45)), none⟩,
 ⟨some 7, some (.assign (.tmp 46)), none⟩])
  (.seq (.reg [] [⟨some 48, some (.move (.tmp 1)), none⟩,
 ⟨some 49, some (.move (.tmp 4)), none⟩,
 ⟨some 50, some (.move (.tmp 6)), none⟩,
 ⟨some 51, some (.build Zc #[(0, (.const (.int .i64 20))), (2, (.tmp 49)), (3, (.tmp 50))]), none⟩,
 ⟨some 52, some (.call ⟨(.value (.func Zi)), #[.tmp 48, .tmp 51], #[Zf, Zc]⟩), none⟩,
 ⟨some 47, some (.move (.tmp 52)), none⟩,
 ⟨some 53, some (.extract (.tmp 47) 0), none⟩,
 ⟨some 54, some (.extract (.tmp 47) 1), none⟩,
 ⟨some 8, some (.assign (.tmp 53)), none⟩,
 ⟨some 9, some (.assign (.tmp 54)), none⟩])
  (.seq (.reg [] [⟨some 56, some (.move (.tmp 1)), none⟩,
 ⟨some 57, some (.move (.tmp 2)), none⟩,
 ⟨some 58, some (.move (.tmp 8)), none⟩,
 ⟨some 59, some (.build Zc #[(0, (.const (.int .i64 18))), (2, (.tmp 57)), (3, (.tmp 58))]), none⟩,
 ⟨some 60, some (.call ⟨(.value (.func Zi)), #[.tmp 56, .tmp 59], #[Zf, Zc]⟩), none⟩,
 ⟨some 55, some (.move (.tmp 60)), none⟩,
 ⟨some 61, some (.extract (.tmp 55) 0), none⟩,
 ⟨some 62, some (.extract (.tmp 55) 1), none⟩,
 ⟨some 10, some (.assign (.tmp 61)), none⟩,
 ⟨some 11, some (.assign (.tmp 62)), none⟩])
  (.seq (.reg [] [⟨some 64, some (.move (.tmp 1)), none⟩,
 ⟨some 65, some (.move (.tmp 2)), none⟩,
 ⟨some 66, some (.move (.tmp 2)), none⟩,
 ⟨some 67, some (.build Zc #[(0, (.const (.int .i64 8))), (2, (.tmp 65)), (3, (.tmp 66))]), none⟩,
 ⟨some 68, some (.call ⟨(.value (.func Zi)), #[.tmp 64, .tmp 67], #[Zf, Zc]⟩), none⟩,
 ⟨some 63, some (.move (.tmp 68)), none⟩,
 ⟨some 69, some (.extract (.tmp 63) 0), none⟩,
 ⟨some 70, some (.extract (.tmp 63) 1), none⟩,
 ⟨some 12, some (.assign (.tmp 69)), none⟩,
 ⟨some 13, some (.assign (.tmp 70)), none⟩])
  (.seq (.reg [] [⟨some 72, some (.move (.tmp 1)), none⟩,
 ⟨some 73, some (.move (.tmp 10)), none⟩,
 ⟨some 74, some (.call ⟨(.value (.func Zx)), #[.tmp 72, .tmp 73], #[Zf, Zd]⟩), none⟩,
 ⟨some 71, some (.move (.tmp 74)), none⟩,
 ⟨some 75, some (.extract (.tmp 71) 0), none⟩,
 ⟨some 76, some (.extract (.tmp 71) 1), none⟩,
 ⟨some 14, some (.assign (.tmp 75)), none⟩,
 ⟨some 15, some (.assign (.tmp 76)), none⟩])
  (.seq (.reg [] [⟨some 78, some (.move (.tmp 1)), none⟩,
 ⟨some 79, some (.move (.tmp 12)), none⟩,
 ⟨some 80, some (.call ⟨(.value (.func Zx)), #[.tmp 78, .tmp 79], #[Zf, Zd]⟩), none⟩,
 ⟨some 77, some (.move (.tmp 80)), none⟩,
 ⟨some 81, some (.extract (.tmp 77) 0), none⟩,
 ⟨some 82, some (.extract (.tmp 77) 1), none⟩,
 ⟨some 16, some (.assign (.tmp 81)), none⟩,
 ⟨some 17, some (.assign (.tmp 82)), none⟩])
  (.seq (.reg [] [⟨some 84, some (.move (.tmp 1)), none⟩,
 ⟨some 85, some (.move (.tmp 16)), none⟩,
 ⟨some 86, some (.call ⟨(.value (.func Zp)), #[.tmp 84, .tmp 85], #[Zf, Zd]⟩), none⟩,
 ⟨some 83, some (.move (.tmp 86)), none⟩,
 ⟨some 87, some (.extract (.tmp 83) 0), none⟩,
 ⟨some 88, some (.extract (.tmp 83) 1), none⟩,
 ⟨some 18, some (.alloc Zc), none⟩,
 ⟨none, some (.store Zc (.tmp 18) (.tmp 87)), none⟩,
 ⟨some 19, some (.assign (.tmp 88)), none⟩])
  (.seq (.reg [] [⟨some 90, some (.move (.tmp 1)), none⟩,
 ⟨some 91, some (.move (.tmp 10)), none⟩,
 ⟨some 92, some (.call ⟨(.value (.func Zd9)), #[.tmp 90, .tmp 91], #[Zf, Zd]⟩), none⟩,
 ⟨some 89, some (.move (.tmp 92)), none⟩,
 ⟨some 93, some (.extract (.tmp 89) 0), none⟩,
 ⟨some 94, some (.extract (.tmp 89) 1), none⟩,
 ⟨some 20, some (.assign (.tmp 93)), none⟩,
 ⟨some 21, some (.assign (.tmp 94)), none⟩])
  (.seq (.reg [] [⟨some 96, some (.move (.tmp 1)), none⟩,
 ⟨some 97, some (.call ⟨(.value (.func Zx)), #[(.tmp 96), (.const (.int .i64 99))], #[Zf, Zd]⟩), none⟩,
 ⟨some 95, some (.move (.tmp 97)), none⟩,
 ⟨some 98, some (.extract (.tmp 95) 0), none⟩,
 ⟨some 99, some (.extract (.tmp 95) 1), none⟩,
 ⟨some 22, some (.assign (.tmp 98)), none⟩,
 ⟨some 23, some (.assign (.tmp 99)), none⟩])
  (.seq (.reg [] [⟨some 100, some (.move (.tmp 15)), none⟩,
 ⟨some 101, some (.move (.tmp 17)), none⟩,
 ⟨some 102, some (.binOp .add Zd (.tmp 100) (.tmp 101) Zd), none⟩,
 ⟨some 103, some (.move (.tmp 21)), none⟩,
 ⟨some 104, some (.binOp .add Zd (.tmp 102) (.tmp 103) Zd), none⟩,
 ⟨some 105, some (.binOp .eql Zd (.tmp 104) (.const (.int .i64 0)) Zd), none⟩,
 ⟨some 106, some (.move (.tmp 105)), none⟩,
 ⟨some 107, some (.move (.tmp 23)), some (some 106, true)⟩,
 ⟨some 108, some (.binOp .eql Zd (.tmp 107) (.const (.int .i64 70)) Zd), some (some 106, true)⟩,
 ⟨some 109, some (.pick (.tmp 106) (.tmp 108) (.const (.bool false))), none⟩,
 ⟨some 110, some (.move (.tmp 109)), none⟩,
 ⟨some 111, some (.move (.tmp 14)), some (some 110, true)⟩,
 ⟨some 112, some (.move (.tmp 2)), some (some 110, true)⟩,
 ⟨some 113, some (.binOp .eql Zd (.tmp 111) (.tmp 112) Zd), some (some 110, true)⟩,
 ⟨some 114, some (.pick (.tmp 110) (.tmp 113) (.const (.bool false))), none⟩,
 ⟨some 115, some (.move (.tmp 114)), none⟩,
 ⟨some 116, some (.move (.tmp 19)), some (some 115, true)⟩,
 ⟨some 117, some (.pick (.tmp 115) (.tmp 116) (.const (.bool false))), none⟩,
 ⟨some 118, some (.move (.tmp 117)), none⟩,
 ⟨some 119, some (.fieldAddr Zc (.tmp 18) 0), some (some 118, true)⟩,
 ⟨some 120, some (.load Zd (.tmp 119)), some (some 118, true)⟩,
 ⟨some 121, some (.binOp .eql Zd (.tmp 120) (.const (.int .i64 1)) Zd), some (some 118, true)⟩,
 ⟨some 122, some (.pick (.tmp 118) (.tmp 121) (.const (.bool false))), none⟩,
 ⟨some 123, some (.move (.tmp 122)), none⟩,
 ⟨some 124, some (.fieldAddr Zc (.tmp 18) 7), some (some 123, true)⟩,
 ⟨some 125, some (.load Zb (.tmp 124)), some (some 123, true)⟩,
 ⟨some 126, some (.build Zb #[(1, (.const (.int .u64 1)))]), some (some 123, true)⟩,
 ⟨some 127, some (.binOp .eql Zb (.tmp 125) (.tmp 126) Zb), some (some 123, true)⟩,
 ⟨some 128, some (.pick (.tmp 123) (.tmp 127) (.const (.bool false))), none⟩,
 ⟨some 129, some (.move (.tmp 128)), none⟩,
 ⟨some 130, some (.move (.tmp 20)), some (some 129, true)⟩,
 ⟨some 131, some (.binOp .eql Zd (.tmp 130) (.const (.int .i64 5)) Zd), some (some 129, true)⟩,
 ⟨some 132, some (.pick (.tmp 129) (.tmp 131) (.const (.bool false))), none⟩,
 ⟨some 0, some (.assign (.tmp 132)), none⟩])
  .ret)))))))))))))))
theorem Zgx {H : AHeap} : R Zc5 [] H = fnK Try.prog [] H [(.tmp 0)] (evalL Try.prog KT R Zfr (Env.args [] 0) H) :=
  runs_body (D := DT) (f := Zc5) Try.func7 (by kernel_rfl) (by kernel_rfl) (by kernel_rfl) (by kernel_rfl) (by kernel_rfl) (Nat.le_of_ble_eq_true rfl)
def Zc1 : LCode := (.seq (.seq (.reg [] [⟨some 10, some (.move (.tmp 5)), none⟩,
 ⟨some 11, some (.move (.tmp 0)), none⟩,
 ⟨some 12, some (.call ⟨(.builtin .len), #[.tmp 11], #[Zt]⟩), none⟩,
 ⟨some 13, some (.binOp .lss Zd (.tmp 10) (.tmp 12) Zd), none⟩])
  (.cond (.tmp 13) .skip
  (.exit 0)))
  (.seq (.block 1 (.seq (.seq (.reg [] [⟨some 16, some (.move (.tmp 0)), none⟩,
 ⟨some 17, some (.move (.tmp 5)), none⟩,
 ⟨some 18, some (.indexAddr Zt (.tmp 16) (.tmp 17)), none⟩,
 ⟨some 19, some (.fieldAddr Zc (.tmp 18) 8), none⟩,
 ⟨some 20, some (.load Zd8 (.tmp 19)), none⟩,
 ⟨some 21, some (.call ⟨(.builtin .len), #[.tmp 20], #[Zd8]⟩), none⟩,
 ⟨some 22, some (.binOp .gtr Zd (.tmp 21) (.const (.int .i64 60)) Zd), none⟩])
  (.cond (.tmp 22) (.seq (.reg [] [⟨some 2, some (.assign (.const (.pointer none))), none⟩,
 ⟨some 3, some (.assign (.const (.bool false))), none⟩])
  .ret)
  .skip))
  (.reg [] [⟨some 23, some (.move (.tmp 4)), none⟩,
 ⟨some 24, some (.move (.tmp 0)), none⟩,
 ⟨some 25, some (.move (.tmp 5)), none⟩,
 ⟨some 26, some (.indexAddr Zt (.tmp 24) (.tmp 25)), none⟩,
 ⟨some 27, some (.load Zc (.tmp 26)), none⟩,
 ⟨some 28, some (.call ⟨(.value (.func Zi)), #[.tmp 23, .tmp 27], #[Zf, Zc]⟩), none⟩])))
  (.reg [] [⟨some 14, some (.move (.tmp 5)), none⟩,
 ⟨some 15, some (.binOp .add Zd (.tmp 14) (.const (.int .i64 1)) Zd), none⟩,
 ⟨some 5, some (.assign (.tmp 15)), none⟩])))
@[simp] theorem Zim : defs Zc1 = [10, 11, 12, 13, 16, 17, 18, 19, 20, 21, 22, 2, 3, 23, 24, 25, 26, 27, 28, 14, 15, 5] := by rfl
def Ze2 : LCode := (.seq (.reg [] [⟨some 2, some (.assign (.const (.pointer none))), none⟩,
 ⟨some 3, some (.assign (.const (.bool false))), none⟩])
  (.seq (.seq (.reg [] [⟨some 6, some (.move (.tmp 0)), none⟩,
 ⟨some 7, some (.call ⟨(.builtin .len), #[.tmp 6], #[Zt]⟩), none⟩,
 ⟨some 8, some (.binOp .gtr Zd (.tmp 7) (.const (.int .i64 60)) Zd), none⟩])
  (.cond (.tmp 8) (.seq (.reg [] [⟨some 2, some (.assign (.const (.pointer none))), none⟩,
 ⟨some 3, some (.assign (.const (.bool false))), none⟩])
  .ret)
  .skip))
  (.seq (.reg [] [⟨some 9, some (.call ⟨(.value (.func Zem)), #[(.const (.int .i64 4096))], #[Zd]⟩), none⟩,
 ⟨some 4, some (.assign (.tmp 9)), none⟩])
  (.seq (.seq (.reg [] [⟨some 5, some (.assign (.const (.int .i64 0))), none⟩])
  (.block 0 (.loop Zc1)))
  (.seq (.reg [] [⟨some 29, some (.move (.tmp 4)), none⟩,
 ⟨some 30, some (.move (.tmp 4)), none⟩,
 ⟨some 31, some (.call ⟨(.value (.func Z9)), #[.tmp 30], #[Zf]⟩), none⟩,
 ⟨some 32, some (.binOp .gtr Zd (.tmp 31) (.const (.int .i64 0)) Zd), none⟩,
 ⟨some 2, some (.assign (.tmp 29)), none⟩,
 ⟨some 3, some (.assign (.tmp 32)), none⟩])
  .ret)))))
theorem Zg8 {a0 : AV} {H : AHeap} : R Zde [a0] H = fnK Try.prog [] H [(.tmp 2), (.tmp 3)] (evalL Try.prog KT R Ze2 (Env.args [a0] 0) H) :=
  runs_body (D := DT) (f := Zde) Try.func8 (by kernel_rfl) (by kernel_rfl) (by kernel_rfl) (by kernel_rfl) (by kernel_rfl) (Nat.le_of_ble_eq_true rfl)
def Zeo : LCode := (.seq (.reg [] [⟨some 4, some (.assign (.const (.int .i64 0))), none⟩])
  (.seq (.reg [] [⟨some 5, some (.move (.tmp 0)), none⟩,
 ⟨some 6, some (.move (.tmp 1)), none⟩,
 ⟨some 7, some (.binOp .rem Zd (.tmp 5) (.tmp 6) Zd), none⟩,
 ⟨some 0, some (.assign (.tmp 7)), none⟩])
  (.seq (.seq (.reg [] [⟨some 8, some (.move (.tmp 0)), none⟩,
 ⟨some 9, some (.binOp .lss Zd (.tmp 8) (.const (.int .i64 0)) Zd), none⟩])
  (.cond (.tmp 9) (.reg [] [⟨some 10, some (.move (.tmp 0)), none⟩,
 ⟨some 11, some (.move (.tmp 1)), none⟩,
 ⟨some 12, some (.binOp .add Zd (.tmp 10) (.tmp 11) Zd), none⟩,
 ⟨some 0, some (.assign (.tmp 12)), none⟩])
  .skip))
  (.seq (.reg [] [⟨some 13, some (.move (.tmp 0)), none⟩,
 ⟨some 4, some (.assign (.tmp 13)), none⟩])
  .ret))))
theorem Zgy {a0 a1 : AV} {H : AHeap} : R Zc6 [a0, a1] H = fnK Try.prog [] H [(.tmp 4)] (evalL Try.prog KT R Zeo (Env.args [a0, a1] 0) H) :=
  runs_body (D := DT) (f := Zc6) Try.func9 (by kernel_rfl) (by kernel_rfl) (by kernel_rfl) (by kernel_rfl) (by kernel_rfl) (Nat.le_of_ble_eq_true rfl)
def Zel : LCode := (.seq (.reg [] [⟨some 2, some (.assign (.const (.int .i64 0))), none⟩])
  (.seq (.reg [] [⟨some 3, some (.move (.tmp 0)), none⟩,
 ⟨some 4, some (.nilCheck (.tmp 3)), none⟩,
 ⟨some 5, some (.fieldAddr Z1 (.tmp 4) 1), none⟩,
 ⟨some 6, some (.load Zt (.tmp 5)), none⟩,
 ⟨some 7, some (.call ⟨(.builtin .len), #[.tmp 6], #[Zt]⟩), none⟩,
 ⟨some 2, some (.assign (.tmp 7)), none⟩])
  .ret))
theorem Zf0 {a0 : AV} {H : AHeap} : R Z9 [a0] H = fnK Try.prog [] H [(.tmp 2)] (evalL Try.prog KT R Zel (Env.args [a0] 0) H) :=
  runs_body (D := DT) (f := Z9) Try.func10 (by kernel_rfl) (by kernel_rfl) (by kernel_rfl) (by kernel_rfl) (by kernel_rfl) (Nat.le_of_ble_eq_true rfl)
def Zcm : LCode := (.seq (.reg [] [⟨some 30, some (.binOp .lss Zd (.tmp 29) (.tmp 28) Zd), none⟩])
  (.seq (.cond (.tmp 30) .skip
  (.exit 0))
  (.seq (.block 1 (.seq (.reg [] [⟨some 31, some (.indexAddr Zbm (.tmp 27) (.tmp 29)), none⟩,
 ⟨some 32, some (.load Zd (.tmp 31)), none⟩,
 ⟨some 10, some (.assign (.tmp 32)), none⟩])
  (.seq (.reg [] [⟨some 34, some (.move (.tmp 0)), none⟩,
 ⟨some 35, some (.move (.tmp 10)), none⟩,
 ⟨some 36, some (.call ⟨(.value (.func Zp)), #[.tmp 34, .tmp 35], #[Zf, Zd]⟩), none⟩,
 ⟨some 33, some (.move (.tmp 36)), none⟩,
 ⟨some 37, some (.extract (.tmp 33) 0), none⟩,
 ⟨some 38, some (.extract (.tmp 33) 1), none⟩,
 ⟨some 11, some (.alloc Zc), none⟩,
 ⟨none, some (.store Zc (.tmp 11) (.tmp 37)), none⟩,
 ⟨some 12, some (.assign (.tmp 38)), none⟩])
  (.seq (.reg [10, 17, 22, 24, 1011] [⟨some 39, some (.move (.tmp 8)), none⟩,
 ⟨some 40, some (.nilCheck (.tmp 39)), none⟩,
 ⟨some 41, some (.fieldAddr Zr (.tmp 40) 1), none⟩,
 ⟨some 42, some (.load Zcb (.tmp 41)), none⟩,
 ⟨some 43, some (.fieldAddr Zc (.tmp 11) 2), none⟩,
 ⟨some 44, some (.load Zd (.tmp 43)), none⟩,
 ⟨some 45, some (.lookup Zcb (.tmp 42) (.tmp 44) false), none⟩,
 ⟨some 46, some (.move (.tmp 8)), none⟩,
 ⟨some 47, some (.nilCheck (.tmp 46)), none⟩,
 ⟨some 48, some (.fieldAddr Zr (.tmp 47) 1), none⟩,
 ⟨some 49, some (.load Zcb (.tmp 48)), none⟩,
 ⟨some 50, some (.fieldAddr Zc (.tmp 11) 3), none⟩,
 ⟨some 51, some (.load Zd (.tmp 50)), none⟩,
 ⟨some 52, some (.lookup Zcb (.tmp 49) (.tmp 51) false), none⟩,
 ⟨some 53, some (.move (.tmp 8)), none⟩,
 ⟨some 54, some (.nilCheck (.tmp 53)), none⟩,
 ⟨some 55, some (.fieldAddr Zr (.tmp 54) 1), none⟩,
 ⟨some 56, some (.load Zcb (.tmp 55)), none⟩,
 ⟨some 57, some (.fieldAddr Zc (.tmp 11) 4), none⟩,
 ⟨some 58, some (.load Zd (.tmp 57)), none⟩,
 ⟨some 59, some (.lookup Zcb (.tmp 56) (.tmp 58) false), none⟩,
 ⟨some 60, some (.fieldAddr Zc (.tmp 11) 2), none⟩,
 ⟨none, some (.store Zd (.tmp 60) (.tmp 45)), none⟩,
 ⟨some 61, some (.fieldAddr Zc (.tmp 11) 3), none⟩,
 ⟨none, some (.store Zd (.tmp 61) (.tmp 52)), none⟩,
 ⟨some 62, some (.fieldAddr Zc (.tmp 11) 4), none⟩,
 ⟨none, some (.store Zd (.tmp 62) (.tmp 59)), none⟩])
  (.seq (.reg [3, 7, 801, 997, 1008] [⟨some 63, some (.move (.tmp 8)), none⟩,
 ⟨some 64, some (.nilCheck (.tmp 63)), none⟩,
 ⟨some 65, some (.fieldAddr Zr (.tmp 64) 1), none⟩,
 ⟨some 66, some (.load Zcb (.tmp 65)), none⟩,
 ⟨some 67, some (.move (.tmp 10)), none⟩,
 ⟨some 68, some (.move (.tmp 8)), none⟩,
 ⟨some 69, some (.load Zc (.tmp 11)), none⟩,
 ⟨some 70, some (.call ⟨(.value (.func Zl)), #[.tmp 68, .tmp 69], #[Zj, Zc]⟩), none⟩,
 ⟨none, some (.mapUpdate Zcb (.tmp 66) (.tmp 67) (.tmp 70)), none⟩])
  (.seq (.reg [] [⟨some 71, some (.move (.tmp 8)), none⟩,
 ⟨some 72, some (.nilCheck (.tmp 71)), none⟩,
 ⟨some 73, some (.fieldAddr Zr (.tmp 72) 2), none⟩,
 ⟨some 74, some (.load Zbb (.tmp 73)), none⟩,
 ⟨some 75, some (.binOp .neq Zbb (.tmp 74) (.const (.int .i64 0)) Zbb), none⟩])
  (.cond (.tmp 75) (.seq (.reg [] [⟨some 76, some (.move (.tmp 8)), none⟩,
 ⟨some 77, some (.nilCheck (.tmp 76)), none⟩,
 ⟨some 78, some (.fieldAddr Zr (.tmp 77) 2), none⟩,
 ⟨some 79, some (.load Zbb (.tmp 78)), none⟩,
 ⟨some 4, some (.assign (.const (.int .i64 0))), none⟩,
 ⟨some 5, some (.assign (.tmp 79)), none⟩])
  .ret)
  .skip)))))))
  (.reg [] [⟨some 80, some (.binOp .add Zd (.tmp 29) (.const (.int .i64 1)) Zd), none⟩,
 ⟨some 29, some (.move (.tmp 80)), none⟩]))))
@[simp] theorem Zh9 : defs Zcm = [30, 31, 32, 10, 34, 35, 36, 33, 37, 38, 11, 12, 39, 40, 41, 42, 43, 44, 45, 46, 47, 48, 49, 50, 51, 52, 53, 54, 55, 56, 57, 58, 59, 60, 61, 62, 63, 64, 65, 66, 67, 68, 69, 70, 71, 72, 73, 74, 75, 76, 77, 78, 79, 4, 5, 80, 29] := by rfl
def Zei : LCode := (.seq (.reg [] [⟨some 4, some (.assign (.const (.int .i64 0))), none⟩,
 ⟨some 5, some (.assign (.const (.int .i64 0))), none⟩])
  (.seq (.seq (.reg [] [⟨some 14, some (.move (.tmp 0)), none⟩,
 ⟨some 15, some (.move (.tmp 1)), none⟩,
 ⟨some 16, some (.call ⟨(.value (.func Zp)), #[.tmp 14, .tmp 15], #[Zf, Zd]⟩), none⟩,
 ⟨some 13, some (.move (.tmp 16)), none⟩,
 ⟨some 17, some (.extract (.tmp 13) 0), none⟩,
 ⟨some 18, some (.extract (.tmp 13) 1), none⟩,
 ⟨some 6, some (.alloc Zc), none⟩,
 ⟨none, some (.store Zc (.tmp 6) (.tmp 17)), none⟩,
 ⟨some 7, some (.assign (.tmp 18)), none⟩])
  (.seq (.reg [] [⟨some 19, some (.move (.tmp 7)), none⟩,
 ⟨some 20, some (.unOp .not Zbe (.tmp 19)), none⟩])
  (.cond (.tmp 20) (.seq (.reg [] [⟨some 4, some (.assign (.const (.int .i64 0))), none⟩,
 ⟨some 5, some (.assign (.const (.int .i64 70))), none⟩])
  .ret)
  .skip)))
  (.seq (.reg [] [⟨some 21, some (.move (.tmp 0)), none⟩,
 ⟨some 22, some (.makeMap Zcb none), none⟩,
 ⟨some 23, some (.build Zr #[(0, (.tmp 21)), (1, (.tmp 22))]), none⟩,
 ⟨some 24, some (.box Zr (.tmp 23)), none⟩,
 ⟨some 8, some (.assign (.tmp 24)), none⟩])
  (.seq (.seq (.reg [] [⟨some 25, some (.move (.tmp 0)), none⟩,
 ⟨some 26, some (.move (.tmp 1)), none⟩,
 ⟨some 27, some (.call ⟨(.value (.func Zbz)), #[.tmp 25, .tmp 26], #[Zf, Zd]⟩), none⟩,
 ⟨some 28, some (.call ⟨(.builtin .len), #[.tmp 27], #[Zbm]⟩), none⟩,
 ⟨some 29, some (.move (.const (.int .i64 0))), none⟩])
  (.block 0 (.loop Zcm)))
  (.seq (.reg [] [⟨some 81, some (.move (.tmp 8)), none⟩,
 ⟨some 82, some (.nilCheck (.tmp 81)), none⟩,
 ⟨some 83, some (.fieldAddr Zr (.tmp 82) 1), none⟩,
 ⟨some 84, some (.load Zcb (.tmp 83)), none⟩,
 ⟨some 85, some (.move (.tmp 1)), none⟩,
 ⟨some 86, some (.lookup Zcb (.tmp 84) (.tmp 85) false), none⟩,
 ⟨some 4, some (.assign (.tmp 86)), none⟩,
 ⟨some 5, some (.assign (.const (.int .i64 0))), none⟩])
  .ret)))))
theorem Zgq {a0 a1 : AV} {H : AHeap} : R Zx [a0, a1] H = fnK Try.prog [] H [(.tmp 4), (.tmp 5)] (evalL Try.prog KT R Zei (Env.args [a0, a1] 0) H) :=
  runs_body (D := DT) (f := Zx) Try.func11 (by kernel_rfl) (by kernel_rfl) (by kernel_rfl) (by kernel_rfl) (by kernel_rfl) (Nat.le_of_ble_eq_true rfl)
def Zfz : LCode := (.seq (.reg [] [⟨some 4, some (.assign (.const (.int .i64 0))), none⟩,
 ⟨some 5, some (.assign (.const (.int .i64 0))), none⟩])
  (.seq (.seq (.reg [] [⟨some 9, some (.move (.tmp 0)), none⟩,
 ⟨some 10, some (.move (.tmp 1)), none⟩,
 ⟨some 11, some (.call ⟨(.value (.func Zp)), #[.tmp 9, .tmp 10], #[Zf, Zd]⟩), none⟩,
 ⟨some 8, some (.move (.tmp 11)), none⟩,
 ⟨some 12, some (.extract (.tmp 8) 0), none⟩,
 ⟨some 13, some (.extract (.tmp 8) 1), none⟩,
 ⟨some 6, some (.alloc Zc), none⟩,
 ⟨none, some (.store Zc (.tmp 6) (.tmp 12)), none⟩,
 ⟨some 7, some (.assign (.tmp 13)), none⟩])
  (.seq (.reg [] [⟨some 14, some (.move (.tmp 7)), none⟩,
 ⟨some 15, some (.unOp .not Zbe (.tmp 14)), none⟩])
  (.cond (.tmp 15) (.seq (.reg [] [⟨some 4, some (.assign (.const (.int .i64 0))), none⟩,
 ⟨some 5, some (.assign (.const (.int .i64 70))), none⟩])
  .ret)
  .skip)))
  (.seq (.reg [] [⟨some 16, some (.move (.tmp 0)), none⟩,
 ⟨some 17, some (.move (.tmp 1)), none⟩,
 ⟨some 18, some (.call ⟨(.value (.func Zbz)), #[.tmp 16, .tmp 17], #[Zf, Zd]⟩), none⟩,
 ⟨some 19, some (.call ⟨(.builtin .len), #[.tmp 18], #[Zbm]⟩), none⟩,
 ⟨some 4, some (.assign (.tmp 19)), none⟩,
 ⟨some 5, some (.assign (.const (.int .i64 0))), none⟩])
  .ret)))
theorem Zg9 {a0 a1 : AV} {H : AHeap} : R Zd9 [a0, a1] H = fnK Try.prog [] H [(.tmp 4), (.tmp 5)] (evalL Try.prog KT R Zfz (Env.args [a0, a1] 0) H) :=
  runs_body (D := DT) (f := Zd9) Try.func12 (by kernel_rfl) (by kernel_rfl) (by kernel_rfl) (by kernel_rfl) (by kernel_rfl) (Nat.le_of_ble_eq_true rfl)
def Zb5 : LCode := (.seq (.seq (.reg [] [⟨some 29, some (.move (.tmp 7)), none⟩,
 ⟨some 30, some (.binOp .gtr Zd (.tmp 29) (.const (.int .i64 0)) Zd), none⟩])
  (.cond (.tmp 30) .skip
  (.exit 0)))
  (.seq (.block 1 (.seq (.seq (.reg [] [⟨some 33, some (.move (.tmp 5)), none⟩,
 ⟨some 34, some (.move (.tmp 7)), none⟩,
 ⟨some 35, some (.indexAddr Ze6 (.tmp 33) (.tmp 34)), none⟩,
 ⟨some 36, some (.load Zbe (.tmp 35)), none⟩,
 ⟨some 37, some (.unOp .not Zbe (.tmp 36)), none⟩])
  (.cond (.tmp 37) (.exit 1)
  .skip))
  (.seq (.reg [] [⟨some 38, some (.move (.tmp 6)), none⟩,
 ⟨some 39, some (.binOp .add Zd (.tmp 38) (.const (.int .i64 1)) Zd), none⟩,
 ⟨some 6, some (.assign (.tmp 39)), none⟩])
  (.seq (.reg [] [⟨some 40, some (.move (.tmp 0)), none⟩,
 ⟨some 41, some (.nilCheck (.tmp 40)), none⟩,
 ⟨some 42, some (.fieldAddr Z1 (.tmp 41) 1), none⟩,
 ⟨some 43, some (.load Zt (.tmp 42)), none⟩,
 ⟨some 44, some (.move (.tmp 7)), none⟩,
 ⟨some 45, some (.binOp .sub Zd (.tmp 44) (.const (.int .i64 1)) Zd), none⟩,
 ⟨some 46, some (.indexAddr Zt (.tmp 43) (.tmp 45)), none⟩,
 ⟨some 47, some (.load Zc (.tmp 46)), none⟩,
 ⟨some 8, some (.alloc Zc), none⟩,
 ⟨none, some (.store Zc (.tmp 8) (.tmp 47)), none⟩])
  (.reg [5, 8, 10, 12] [⟨some 48, some (.move (.tmp 5)), none⟩,
 ⟨some 49, some (.fieldAddr Zc (.tmp 8) 2), none⟩,
 ⟨some 50, some (.load Zd (.tmp 49)), none⟩,
 ⟨some 51, some (.move (.tmp 5)), none⟩,
 ⟨some 52, some (.fieldAddr Zc (.tmp 8) 3), none⟩,
 ⟨some 53, some (.load Zd (.tmp 52)), none⟩,
 ⟨some 54, some (.move (.tmp 5)), none⟩,
 ⟨some 55, some (.fieldAddr Zc (.tmp 8) 4), none⟩,
 ⟨some 56, some (.load Zd (.tmp 55)), none⟩,
 ⟨some 57, some (.indexAddr Ze6 (.tmp 48) (.tmp 50)), none⟩,
 ⟨none, some (.store Zbe (.tmp 57) (.const (.bool true))), none⟩,
 ⟨some 58, some (.indexAddr Ze6 (.tmp 51) (.tmp 53)), none⟩,
 ⟨none, some (.store Zbe (.tmp 58) (.const (.bool true))), none⟩,
 ⟨some 59, some (.indexAddr Ze6 (.tmp 54) (.tmp 56)), none⟩,
 ⟨none, some (.store Zbe (.tmp 59) (.const (.bool true))), none⟩])))))
  (.reg [] [⟨some 31, some (.move (.tmp 7)), none⟩,
 ⟨some 32, some (.binOp .sub Zd (.tmp 31) (.const (.int .i64 1)) Zd), none⟩,
 ⟨some 7, some (.assign (.tmp 32)), none⟩])))
def Zb6 : LCode := (.seq (.seq (.reg [] [⟨some 62, some (.move (.tmp 10)), none⟩,
 ⟨some 63, some (.move (.tmp 1)), none⟩,
 ⟨some 64, some (.binOp .leq Zd (.tmp 62) (.tmp 63) Zd), none⟩])
  (.cond (.tmp 64) .skip
  (.exit 2)))
  (.seq (.block 3 (.seq (.reg [] [⟨some 67, some (.move (.tmp 5)), none⟩,
 ⟨some 68, some (.move (.tmp 10)), none⟩,
 ⟨some 69, some (.indexAddr Ze6 (.tmp 67) (.tmp 68)), none⟩,
 ⟨some 70, some (.load Zbe (.tmp 69)), none⟩])
  (.cond (.tmp 70) (.reg [] [⟨some 71, some (.move (.tmp 9)), none⟩,
 ⟨some 72, some (.move (.tmp 10)), none⟩,
 ⟨some 73, some (.buildSlice Zbm 1 #[(0, (.tmp 72))]), none⟩,
 ⟨some 74, some (.call ⟨(.builtin .append), #[.tmp 71, .tmp 73], #[Zbm, Zbm]⟩), none⟩,
 ⟨some 9, some (.assign (.tmp 74)), none⟩])
  .skip)))
  (.reg [] [⟨some 65, some (.move (.tmp 10)), none⟩,
 ⟨some 66, some (.binOp .add Zd (.tmp 65) (.const (.int .i64 1)) Zd), none⟩,
 ⟨some 10, some (.assign (.tmp 66)), none⟩])))
@[simp] theorem Zhf : defs Zb5 = [29, 30, 33, 34, 35, 36, 37, 38, 39, 6, 40, 41, 42, 43, 44, 45, 46, 47, 8, 48, 49, 50, 51, 52, 53, 54, 55, 56, 57, 58, 59, 31, 32, 7] := by rfl
@[simp] theorem Zhg : defs Zb6 = [62, 63, 64, 67, 68, 69, 70, 71, 72, 73, 74, 9, 65, 66, 10] := by rfl
def Zco : LCode := (.seq (.reg [] [⟨some 4, some (.assign (.const (.slice none 0 0))), none⟩])
  (.seq (.seq (.reg [] [⟨some 11, some (.move (.tmp 1)), none⟩,
 ⟨some 12, some (.binOp .lss Zd (.tmp 11) (.const (.int .i64 1)) Zd), none⟩,
 ⟨some 13, some (.move (.tmp 12)), none⟩,
 ⟨some 14, some (.move (.tmp 1)), some (some 13, false)⟩,
 ⟨some 15, some (.move (.tmp 0)), some (some 13, false)⟩,
 ⟨some 16, some (.nilCheck (.tmp 15)), some (some 13, false)⟩,
 ⟨some 17, some (.fieldAddr Z1 (.tmp 16) 1), some (some 13, false)⟩,
 ⟨some 18, some (.load Zt (.tmp 17)), some (some 13, false)⟩,
 ⟨some 19, some (.call ⟨(.builtin .len), #[.tmp 18], #[Zt]⟩), some (some 13, false)⟩,
 ⟨some 20, some (.binOp .gtr Zd (.tmp 14) (.tmp 19) Zd), some (some 13, false)⟩,
 ⟨some 21, some (.pick (.tmp 13) (.const (.bool true)) (.tmp 20)), none⟩])
  (.cond (.tmp 21) (.seq (.reg [] [⟨some 4, some (.assign (.const (.slice none 0 0))), none⟩])
  .ret)
  .skip))
  (.seq (.reg [] [⟨some 22, some (.move (.tmp 1)), none⟩,
 ⟨some 23, some (.binOp .add Zd (.tmp 22) (.const (.int .i64 1)) Zd), none⟩,
 ⟨some 24, some (.makeSlice Ze6 (.tmp 23) (.tmp 23)), none⟩,
 ⟨some 5, some (.assign (.tmp 24)), none⟩])
  (.seq (.reg [] [⟨some 25, some (.move (.tmp 5)), none⟩,
 ⟨some 26, some (.move (.tmp 1)), none⟩,
 ⟨some 27, some (.indexAddr Ze6 (.tmp 25) (.tmp 26)), none⟩,
 ⟨none, some (.store Zbe (.tmp 27) (.const (.bool true))), none⟩])
  (.seq (.reg [] [⟨some 6, some (.assign (.const (.int .i64 0))), none⟩])
  (.seq (.seq (.reg [] [⟨some 28, some (.move (.tmp 1)), none⟩,
 ⟨some 7, some (.assign (.tmp 28)), none⟩])
  (.block 0 (.loop Zb5)))
  (.seq (.reg [] [⟨some 60, some (.move (.tmp 6)), none⟩,
 ⟨some 61, some (.makeSlice Zbm (.const (.int .i64 0)) (.tmp 60)), none⟩,
 ⟨some 9, some (.assign (.tmp 61)), none⟩])
  (.seq (.seq (.reg [] [⟨some 10, some (.assign (.const (.int .i64 1))), none⟩])
  (.block 2 (.loop Zb6)))
  (.seq (.reg [] [⟨some 75, some (.move (.tmp 9)), none⟩,
 ⟨some 4, some (.assign (.tmp 75)), none⟩])
  .ret)))))))))
theorem Zfv {a0 a1 : AV} {H : AHeap} : R Zbz [a0, a1] H = fnK Try.prog [0] H [(.tmp 4)] (evalL Try.prog KT R Zco (Env.args [a0, a1] 0) H) :=
  runs_body (D := DT) (f := Zbz) Try.func13 (by kernel_rfl) (by kernel_rfl) (by kernel_rfl) (by kernel_rfl) (by kernel_rfl) (Nat.le_of_ble_eq_true rfl)
def Zcp : LCode := (.seq (.reg [] [⟨some 4, some (.alloc Zc), none⟩,
 ⟨some 5, some (.assign (.const (.bool false))), none⟩])
  (.seq (.seq (.reg [] [⟨some 6, some (.move (.tmp 1)), none⟩,
 ⟨some 7, some (.binOp .lss Zd (.tmp 6) (.const (.int .i64 1)) Zd), none⟩,
 ⟨some 8, some (.move (.tmp 7)), none⟩,
 ⟨some 9, some (.move (.tmp 1)), some (some 8, false)⟩,
 ⟨some 10, some (.move (.tmp 0)), some (some 8, false)⟩,
 ⟨some 11, some (.nilCheck (.tmp 10)), some (some 8, false)⟩,
 ⟨some 12, some (.fieldAddr Z1 (.tmp 11) 1), some (some 8, false)⟩,
 ⟨some 13, some (.load Zt (.tmp 12)), some (some 8, false)⟩,
 ⟨some 14, some (.call ⟨(.builtin .len), #[.tmp 13], #[Zt]⟩), some (some 8, false)⟩,
 ⟨some 15, some (.binOp .gtr Zd (.tmp 9) (.tmp 14) Zd), some (some 8, false)⟩,
 ⟨some 16, some (.pick (.tmp 8) (.const (.bool true)) (.tmp 15)), none⟩])
  (.cond (.tmp 16) (.seq (.reg [] [⟨some 17, some (.build Zc #[]), none⟩,
 ⟨none, some (.store Zc (.tmp 4) (.tmp 17)), none⟩,
 ⟨some 5, some (.assign (.const (.bool false))), none⟩])
  .ret)
  .skip))
  (.seq (.reg [] [⟨some 18, some (.move (.tmp 0)), none⟩,
 ⟨some 19, some (.nilCheck (.tmp 18)), none⟩,
 ⟨some 20, some (.fieldAddr Z1 (.tmp 19) 1), none⟩,
 ⟨some 21, some (.load Zt (.tmp 20)), none⟩,
 ⟨some 22, some (.move (.tmp 1)), none⟩,
 ⟨some 23, some (.binOp .sub Zd (.tmp 22) (.const (.int .i64 1)) Zd), none⟩,
 ⟨some 24, some (.indexAddr Zt (.tmp 21) (.tmp 23)), none⟩,
 ⟨some 25, some (.load Zc (.tmp 24)), none⟩,
 ⟨none, some (.store Zc (.tmp 4) (.tmp 25)), none⟩,
 ⟨some 5, some (.assign (.const (.bool true))), none⟩])
  .ret)))
theorem Zfw {a0 a1 : AV} {H : AHeap} : R Zp [a0, a1] H = fnK Try.prog [] H [(.cell 4 Zc), (.tmp 5)] (evalL Try.prog KT R Zcp (Env.args [a0, a1] 0) H) :=
  runs_body (D := DT) (f := Zp) Try.func15 (by kernel_rfl) (by kernel_rfl) (by kernel_rfl) (by kernel_rfl) (by kernel_rfl) (Nat.le_of_ble_eq_true rfl)
def Zej : LCode := (.seq (.reg [] [⟨some 6, some (.assign (.const (.int .i64 0))), none⟩])
  (.seq (.reg [] [⟨some 10, some (.move (.tmp 1)), none⟩,
 ⟨some 11, some (.move (.tmp 2)), none⟩,
 ⟨some 12, some (.build Zb #[(0, (.tmp 10)), (1, (.tmp 11))]), none⟩,
 ⟨some 7, some (.alloc Zb), none⟩,
 ⟨none, some (.store Zb (.tmp 7) (.tmp 12)), none⟩])
  (.seq (.seq (.reg [] [⟨some 13, some (.move (.tmp 1)), none⟩,
 ⟨some 14, some (.binOp .eql Zd (.tmp 13) (.const (.int .i64 0)) Zd), none⟩])
  (.cond (.tmp 14) (.reg [] [⟨some 15, some (.move (.tmp 2)), none⟩,
 ⟨some 16, some (.binOp .and Ze (.tmp 15) (.const (.int .u64 1)) Ze), none⟩,
 ⟨some 17, some (.fieldAddr Zb (.tmp 7) 1), none⟩,
 ⟨none, some (.store Ze (.tmp 17) (.tmp 16)), none⟩])
  .skip))
  (.seq (.reg [] [⟨some 19, some (.move (.tmp 0)), none⟩,
 ⟨some 20, some (.move (.tmp 1)), none⟩,
 ⟨some 21, some (.load Zb (.tmp 7)), none⟩,
 ⟨some 22, some (.build Zc #[(0, (.const (.int .i64 1))), (1, (.tmp 20)), (7, (.tmp 21))]), none⟩,
 ⟨some 23, some (.call ⟨(.value (.func Zi)), #[.tmp 19, .tmp 22], #[Zf, Zc]⟩), none⟩,
 ⟨some 18, some (.move (.tmp 23)), none⟩,
 ⟨some 24, some (.extract (.tmp 18) 0), none⟩,
 ⟨some 25, some (.extract (.tmp 18) 1), none⟩,
 ⟨some 8, some (.assign (.tmp 24)), none⟩,
 ⟨some 9, some (.assign (.tmp 25)), none⟩])
  (.seq (.reg [] [⟨some 26, some (.move (.tmp 8)), none⟩,
 ⟨some 6, some (.assign (.tmp 26)), none⟩])
  .ret)))))
theorem Zgr {a0 a1 a2 : AV} {H : AHeap} : R Zbt [a0, a1, a2] H = fnK Try.prog [] H [(.tmp 6)] (evalL Try.prog KT R Zej (Env.args [a0, a1, a2] 0) H) :=
  runs_body (D := DT) (f := Zbt) Try.func16 (by kernel_rfl) (by kernel_rfl) (by kernel_rfl) (by kernel_rfl) (by kernel_rfl) (Nat.le_of_ble_eq_true rfl)
def Zep : LCode := (.seq (.reg [] [⟨some 8, some (.assign (.const (.bool false))), none⟩])
  (.seq (.reg [] [⟨some 12, some (.move (.tmp 0)), none⟩,
 ⟨some 13, some (.move (.tmp 1)), none⟩,
 ⟨some 14, some (.build Zc #[(0, (.const (.int .i64 3))), (2, (.tmp 13))]), none⟩,
 ⟨some 15, some (.call ⟨(.value (.func Zi)), #[.tmp 12, .tmp 14], #[Zf, Zc]⟩), none⟩,
 ⟨some 11, some (.move (.tmp 15)), none⟩,
 ⟨some 16, some (.extract (.tmp 11) 0), none⟩,
 ⟨some 17, some (.extract (.tmp 11) 1), none⟩,
 ⟨some 9, some (.assign (.tmp 16)), none⟩,
 ⟨some 10, some (.assign (.tmp 17)), none⟩])
  (.seq (.reg [] [⟨some 18, some (.move (.tmp 0)), none⟩,
 ⟨some 19, some (.move (.tmp 1)), none⟩,
 ⟨some 20, some (.move (.tmp 2)), none⟩,
 ⟨some 21, some (.build Zc #[(0, (.const (.int .i64 4))), (2, (.tmp 19)), (3, (.tmp 20))]), none⟩,
 ⟨some 22, some (.move (.tmp 1)), none⟩,
 ⟨some 23, some (.call ⟨(.value (.func Zm)), #[.tmp 18, .tmp 21, .tmp 22], #[Zf, Zc, Zd]⟩), none⟩,
 ⟨some 24, some (.move (.tmp 23)), none⟩,
 ⟨some 25, some (.move (.tmp 0)), some (some 24, true)⟩,
 ⟨some 26, some (.move (.tmp 3)), some (some 24, true)⟩,
 ⟨some 27, some (.move (.tmp 1)), some (some 24, true)⟩,
 ⟨some 28, some (.build Zc #[(0, (.const (.int .i64 4))), (2, (.tmp 26)), (3, (.tmp 27))]), some (some 24, true)⟩,
 ⟨some 29, some (.move (.tmp 3)), some (some 24, true)⟩,
 ⟨some 30, some (.call ⟨(.value (.func Zm)), #[.tmp 25, .tmp 28, .tmp 29], #[Zf, Zc, Zd]⟩), some (some 24, true)⟩,
 ⟨some 31, some (.pick (.tmp 24) (.tmp 30) (.const (.bool false))), none⟩,
 ⟨some 32, some (.move (.tmp 31)), none⟩,
 ⟨some 33, some (.move (.tmp 0)), some (some 32, true)⟩,
 ⟨some 34, some (.move (.tmp 1)), some (some 32, true)⟩,
 ⟨some 35, some (.move (.tmp 3)), some (some 32, true)⟩,
 ⟨some 36, some (.build Zc #[(0, (.const (.int .i64 5))), (2, (.tmp 34)), (3, (.tmp 35))]), some (some 32, true)⟩,
 ⟨some 37, some (.move (.tmp 1)), some (some 32, true)⟩,
 ⟨some 38, some (.call ⟨(.value (.func Zm)), #[.tmp 33, .tmp 36, .tmp 37], #[Zf, Zc, Zd]⟩), some (some 32, true)⟩,
 ⟨some 39, some (.pick (.tmp 32) (.tmp 38) (.const (.bool false))), none⟩,
 ⟨some 40, some (.move (.tmp 39)), none⟩,
 ⟨some 41, some (.move (.tmp 0)), some (some 40, true)⟩,
 ⟨some 42, some (.move (.tmp 2)), some (some 40, true)⟩,
 ⟨some 43, some (.move (.tmp 1)), some (some 40, true)⟩,
 ⟨some 44, some (.build Zc #[(0, (.const (.int .i64 5))), (2, (.tmp 42)), (3, (.tmp 43))]), some (some 40, true)⟩,
 ⟨some 45, some (.move (.tmp 2)), some (some 40, true)⟩,
 ⟨some 46, some (.call ⟨(.value (.func Zm)), #[.tmp 41, .tmp 44, .tmp 45], #[Zf, Zc, Zd]⟩), some (some 40, true)⟩,
 ⟨some 47, some (.pick (.tmp 40) (.tmp 46) (.const (.bool false))), none⟩,
 ⟨some 48, some (.move (.tmp 47)), none⟩,
 ⟨some 49, some (.move (.tmp 0)), some (some 48, true)⟩,
 ⟨some 50, some (.move (.tmp 1)), some (some 48, true)⟩,
 ⟨some 51, some (.move (.tmp 1)), some (some 48, true)⟩,
 ⟨some 52, some (.build Zc #[(0, (.const (.int .i64 4))), (2, (.tmp 50)), (3, (.tmp 51))]), some (some 48, true)⟩,
 ⟨some 53, some (.move (.tmp 1)), some (some 48, true)⟩,
 ⟨some 54, some (.call ⟨(.value (.func Zm)), #[.tmp 49, .tmp 52, .tmp 53], #[Zf, Zc, Zd]⟩), some (some 48, true)⟩,
 ⟨some 55, some (.pick (.tmp 48) (.tmp 54) (.const (.bool false))), none⟩,
 ⟨some 56, some (.move (.tmp 55)), none⟩,
 ⟨some 57, some (.move (.tmp 0)), some (some 56, true)⟩,
 ⟨some 58, some (.move (.tmp 1)), some (some 56, true)⟩,
 ⟨some 59, some (.move (.tmp 1)), some (some 56, true)⟩,
 ⟨some 60, some (.build Zc #[(0, (.const (.int .i64 5))), (2, (.tmp 58)), (3, (.tmp 59))]), some (some 56, true)⟩,
 ⟨some 61, some (.move (.tmp 1)), some (some 56, true)⟩,
 ⟨some 62, some (.call ⟨(.value (.func Zm)), #[.tmp 57, .tmp 60, .tmp 61], #[Zf, Zc, Zd]⟩), some (some 56, true)⟩,
 ⟨some 63, some (.pick (.tmp 56) (.tmp 62) (.const (.bool false))), none⟩,
 ⟨some 64, some (.move (.tmp 63)), none⟩,
 ⟨some 65, some (.move (.tmp 0)), some (some 64, true)⟩,
 ⟨some 66, some (.move (.tmp 1)), some (some 64, true)⟩,
 ⟨some 67, some (.move (.tmp 1)), some (some 64, true)⟩,
 ⟨some 68, some (.build Zc #[(0, (.const (.int .i64 6))), (2, (.tmp 66)), (3, (.tmp 67))]), some (some 64, true)⟩,
 ⟨some 69, some (.move (.tmp 3)), some (some 64, true)⟩,
 ⟨some 70, some (.call ⟨(.value (.func Zm)), #[.tmp 65, .tmp 68, .tmp 69], #[Zf, Zc, Zd]⟩), some (some 64, true)⟩,
 ⟨some 71, some (.pick (.tmp 64) (.tmp 70) (.const (.bool false))), none⟩,
 ⟨some 72, some (.move (.tmp 71)), none⟩,
 ⟨some 73, some (.move (.tmp 0)), some (some 72, true)⟩,
 ⟨some 74, some (.move (.tmp 1)), some (some 72, true)⟩,
 ⟨some 75, some (.move (.tmp 1)), some (some 72, true)⟩,
 ⟨some 76, some (.build Zc #[(0, (.const (.int .i64 8))), (2, (.tmp 74)), (3, (.tmp 75))]), some (some 72, true)⟩,
 ⟨some 77, some (.move (.tmp 2)), some (some 72, true)⟩,
 ⟨some 78, some (.call ⟨(.value (.func Zm)), #[.tmp 73, .tmp 76, .tmp 77], #[Zf, Zc, Zd]⟩), some (some 72, true)⟩,
 ⟨some 79, some (.pick (.tmp 72) (.tmp 78) (.const (.bool false))), none⟩,
 ⟨some 80, some (.move (.tmp 79)), none⟩,
 ⟨some 81, some (.move (.tmp 0)), some (some 80, true)⟩,
 ⟨some 82, some (.move (.tmp 9)), some (some 80, true)⟩,
 ⟨some 83, some (.call ⟨(.value (.func Zb3)), #[.tmp 81, .tmp 82], #[Zf, Zd]⟩), some (some 80, true)⟩,
 ⟨some 84, some (.unOp .not Zbe (.tmp 83)), some (some 80, true)⟩,
 ⟨some 85, some (.move (.tmp 84)), some (some 80, true)⟩,
 ⟨some 86, some (.move (.tmp 0)), some (some 85, false)⟩,
 ⟨some 87, some (.move (.tmp 9)), some (some 85, false)⟩,
 ⟨some 88, some (.build Zc #[(0, (.const (.int .i64 3))), (2, (.tmp 87))]), some (some 85, false)⟩,
 ⟨some 89, some (.move (.tmp 1)), some (some 85, false)⟩,
 ⟨some 90, some (.call ⟨(.value (.func Zm)), #[.tmp 86, .tmp 88, .tmp 89], #[Zf, Zc, Zd]⟩), some (some 85, false)⟩,
 ⟨some 91, some (.pick (.tmp 85) (.const (.bool true)) (.tmp 90)), some (some 80, true)⟩,
 ⟨some 92, some (.pick (.tmp 80) (.tmp 91) (.const (.bool false))), none⟩,
 ⟨some 93, some (.move (.tmp 92)), none⟩,
 ⟨some 94, some (.move (.tmp 0)), some (some 93, true)⟩,
 ⟨some 95, some (.move (.tmp 2)), some (some 93, true)⟩,
 ⟨some 96, some (.move (.tmp 1)), some (some 93, true)⟩,
 ⟨some 97, some (.move (.tmp 3)), some (some 93, true)⟩,
 ⟨some 98, some (.build Zc #[(0, (.const (.int .i64 9))), (2, (.tmp 95)), (3, (.tmp 96)), (4, (.tmp 97))]), some (some 93, true)⟩,
 ⟨some 99, some (.move (.tmp 1)), some (some 93, true)⟩,
 ⟨some 100, some (.call ⟨(.value (.func Zm)), #[.tmp 94, .tmp 98, .tmp 99], #[Zf, Zc, Zd]⟩), some (some 93, true)⟩,
 ⟨some 101, some (.pick (.tmp 93) (.tmp 100) (.const (.bool false))), none⟩,
 ⟨some 8, some (.assign (.tmp 101)), none⟩])
  .ret)))
theorem Zgz {a0 a1 a2 a3 : AV} {H : AHeap} : R Zc7 [a0, a1, a2, a3] H = fnK Try.prog [] H [(.tmp 8)] (evalL Try.prog KT R Zep (Env.args [a0, a1, a2, a3] 0) H) :=
  runs_body (D := DT) (f := Zc7) Try.func17 (by kernel_rfl) (by kernel_rfl) (by kernel_rfl) (by kernel_rfl) (by kernel_rfl) (Nat.le_of_ble_eq_true rfl)
def Zgd : LCode := (.seq (.reg [] [⟨some 4, some (.box Zc (.tmp 1)), none⟩,
 ⟨some 6, some (.assign (.const (.bool false))), none⟩])
  (.seq (.reg [] [⟨some 12, some (.move (.tmp 0)), none⟩,
 ⟨some 13, some (.load Zc (.tmp 4)), none⟩,
 ⟨some 14, some (.call ⟨(.value (.func Zi)), #[.tmp 12, .tmp 13], #[Zf, Zc]⟩), none⟩,
 ⟨some 11, some (.move (.tmp 14)), none⟩,
 ⟨some 15, some (.extract (.tmp 11) 0), none⟩,
 ⟨some 16, some (.extract (.tmp 11) 1), none⟩,
 ⟨some 7, some (.assign (.tmp 15)), none⟩,
 ⟨some 8, some (.assign (.tmp 16)), none⟩])
  (.seq (.reg [] [⟨some 18, some (.move (.tmp 0)), none⟩,
 ⟨some 19, some (.move (.tmp 7)), none⟩,
 ⟨some 20, some (.call ⟨(.value (.func Zx)), #[.tmp 18, .tmp 19], #[Zf, Zd]⟩), none⟩,
 ⟨some 17, some (.move (.tmp 20)), none⟩,
 ⟨some 21, some (.extract (.tmp 17) 0), none⟩,
 ⟨some 22, some (.extract (.tmp 17) 1), none⟩,
 ⟨some 9, some (.assign (.tmp 21)), none⟩,
 ⟨some 10, some (.assign (.tmp 22)), none⟩])
  (.seq (.reg [] [⟨some 23, some (.move (.tmp 8)), none⟩,
 ⟨some 24, some (.binOp .eql Zd (.tmp 23) (.const (.int .i64 33)) Zd), none⟩,
 ⟨some 25, some (.move (.tmp 24)), none⟩,
 ⟨some 26, some (.move (.tmp 10)), some (some 25, false)⟩,
 ⟨some 27, some (.binOp .eql Zd (.tmp 26) (.const (.int .i64 33)) Zd), some (some 25, false)⟩,
 ⟨some 28, some (.pick (.tmp 25) (.const (.bool true)) (.tmp 27)), none⟩,
 ⟨some 29, some (.move (.tmp 28)), none⟩,
 ⟨some 30, some (.move (.tmp 8)), some (some 29, false)⟩,
 ⟨some 31, some (.move (.tmp 10)), some (some 29, false)⟩,
 ⟨some 32, some (.binOp .add Zd (.tmp 30) (.tmp 31) Zd), some (some 29, false)⟩,
 ⟨some 33, some (.binOp .eql Zd (.tmp 32) (.const (.int .i64 0)) Zd), some (some 29, false)⟩,
 ⟨some 34, some (.move (.tmp 33)), some (some 29, false)⟩,
 ⟨some 35, some (.move (.tmp 9)), some (some 34, true)⟩,
 ⟨some 36, some (.move (.tmp 2)), some (some 34, true)⟩,
 ⟨some 37, some (.binOp .eql Zd (.tmp 35) (.tmp 36) Zd), some (some 34, true)⟩,
 ⟨some 38, some (.pick (.tmp 34) (.tmp 37) (.const (.bool false))), some (some 29, false)⟩,
 ⟨some 39, some (.pick (.tmp 29) (.const (.bool true)) (.tmp 38)), none⟩,
 ⟨some 6, some (.assign (.tmp 39)), none⟩])
  .ret))))
theorem Zhp {a0 a1 a2 : AV} {H : AHeap} : R Zm [a0, a1, a2] H = fnK Try.prog [] H [(.tmp 6)] (evalL Try.prog KT R Zgd (Env.args [a0, a1, a2] 0) H) :=
  runs_body (D := DT) (f := Zm) Try.func18 (by kernel_rfl) (by kernel_rfl) (by kernel_rfl) (by kernel_rfl) (by kernel_rfl) (Nat.le_of_ble_eq_true rfl)
def Zb0 : LCode := (.seq (.reg [] [⟨some 3, some (.box Zc (.tmp 1)), none⟩,
 ⟨some 4, some (.assign (.const (.int .i64 0))), none⟩,
 ⟨some 5, some (.assign (.const (.int .i64 0))), none⟩])
  (.seq (.seq (.reg [] [⟨some 9, some (.move (.tmp 0)), none⟩,
 ⟨some 10, some (.load Zc (.tmp 3)), none⟩,
 ⟨some 11, some (.call ⟨(.value (.func Zci)), #[.tmp 9, .tmp 10], #[Zf, Zc]⟩), none⟩,
 ⟨some 12, some (.unOp .not Zbe (.tmp 11)), none⟩])
  (.cond (.tmp 12) (.seq (.reg [] [⟨some 4, some (.assign (.const (.int .i64 0))), none⟩,
 ⟨some 5, some (.assign (.const (.int .i64 32))), none⟩])
  .ret)
  .skip))
  (.seq (.reg [] [⟨some 14, some (.move (.tmp 0)), none⟩,
 ⟨some 15, some (.load Zc (.tmp 3)), none⟩,
 ⟨some 16, some (.call ⟨(.value (.func Zcj)), #[.tmp 14, .tmp 15], #[Zf, Zc]⟩), none⟩,
 ⟨some 13, some (.move (.tmp 16)), none⟩,
 ⟨some 17, some (.extract (.tmp 13) 0), none⟩,
 ⟨some 18, some (.extract (.tmp 13) 1), none⟩,
 ⟨none, some (.store Zc (.tmp 3) (.tmp 17)), none⟩,
 ⟨some 6, some (.assign (.tmp 18)), none⟩])
  (.seq (.seq (.reg [] [⟨some 19, some (.move (.tmp 6)), none⟩,
 ⟨some 20, some (.binOp .neq Zbb (.tmp 19) (.const (.int .i64 0)) Zbb), none⟩])
  (.cond (.tmp 20) (.seq (.reg [] [⟨some 21, some (.move (.tmp 6)), none⟩,
 ⟨some 4, some (.assign (.const (.int .i64 0))), none⟩,
 ⟨some 5, some (.assign (.tmp 21)), none⟩])
  .ret)
  .skip))
  (.seq (.seq (.reg [] [⟨some 22, some (.move (.tmp 0)), none⟩,
 ⟨some 23, some (.nilCheck (.tmp 22)), none⟩,
 ⟨some 24, some (.fieldAddr Z1 (.tmp 23) 2), none⟩,
 ⟨some 25, some (.load Zcf (.tmp 24)), none⟩,
 ⟨some 26, some (.load Zc (.tmp 3)), none⟩,
 ⟨some 27, some (.lookup Zcf (.tmp 25) (.tmp 26) false), none⟩,
 ⟨some 7, some (.assign (.tmp 27)), none⟩])
  (.seq (.reg [] [⟨some 28, some (.move (.tmp 7)), none⟩,
 ⟨some 29, some (.binOp .gtr Zd (.tmp 28) (.const (.int .i64 0)) Zd), none⟩])
  (.cond (.tmp 29) (.seq (.reg [] [⟨some 30, some (.move (.tmp 7)), none⟩,
 ⟨some 4, some (.assign (.tmp 30)), none⟩,
 ⟨some 5, some (.assign (.const (.int .i64 0))), none⟩])
  .ret)
  .skip)))
  (.seq (.seq (.reg [] [⟨some 31, some (.move (.tmp 0)), none⟩,
 ⟨some 32, some (.nilCheck (.tmp 31)), none⟩,
 ⟨some 33, some (.fieldAddr Z1 (.tmp 32) 1), none⟩,
 ⟨some 34, some (.load Zt (.tmp 33)), none⟩,
 ⟨some 35, some (.call ⟨(.builtin .len), #[.tmp 34], #[Zt]⟩), none⟩,
 ⟨some 36, some (.move (.tmp 0)), none⟩,
 ⟨some 37, some (.nilCheck (.tmp 36)), none⟩,
 ⟨some 38, some (.fieldAddr Z1 (.tmp 37) 0), none⟩,
 ⟨some 39, some (.load Zd (.tmp 38)), none⟩,
 ⟨some 40, some (.binOp .geq Zd (.tmp 35) (.tmp 39) Zd), none⟩])
  (.cond (.tmp 40) (.seq (.reg [] [⟨some 4, some (.assign (.const (.int .i64 0))), none⟩,
 ⟨some 5, some (.assign (.const (.int .i64 33))), none⟩])
  .ret)
  .skip))
  (.seq (.reg [] [⟨some 41, some (.move (.tmp 0)), none⟩,
 ⟨some 42, some (.move (.tmp 0)), none⟩,
 ⟨some 43, some (.nilCheck (.tmp 42)), none⟩,
 ⟨some 44, some (.fieldAddr Z1 (.tmp 43) 1), none⟩,
 ⟨some 45, some (.load Zt (.tmp 44)), none⟩,
 ⟨some 46, some (.load Zc (.tmp 3)), none⟩,
 ⟨some 47, some (.buildSlice Zt 1 #[(0, (.tmp 46))]), none⟩,
 ⟨some 48, some (.call ⟨(.builtin .append), #[.tmp 45, .tmp 47], #[Zt, Zt]⟩), none⟩,
 ⟨some 49, some (.nilCheck (.tmp 41)), none⟩,
 ⟨some 50, some (.fieldAddr Z1 (.tmp 49) 1), none⟩,
 ⟨none, some (.store Zt (.tmp 50) (.tmp 48)), none⟩])
  (.seq (.reg [] [⟨some 51, some (.move (.tmp 0)), none⟩,
 ⟨some 52, some (.nilCheck (.tmp 51)), none⟩,
 ⟨some 53, some (.fieldAddr Z1 (.tmp 52) 1), none⟩,
 ⟨some 54, some (.load Zt (.tmp 53)), none⟩,
 ⟨some 55, some (.call ⟨(.builtin .len), #[.tmp 54], #[Zt]⟩), none⟩,
 ⟨some 8, some (.assign (.tmp 55)), none⟩])
  (.seq (.reg [] [⟨some 56, some (.move (.tmp 0)), none⟩,
 ⟨some 57, some (.nilCheck (.tmp 56)), none⟩,
 ⟨some 58, some (.fieldAddr Z1 (.tmp 57) 2), none⟩,
 ⟨some 59, some (.load Zcf (.tmp 58)), none⟩,
 ⟨some 60, some (.load Zc (.tmp 3)), none⟩,
 ⟨some 61, some (.move (.tmp 8)), none⟩,
 ⟨none, some (.mapUpdate Zcf (.tmp 59) (.tmp 60) (.tmp 61)), none⟩])
  (.seq (.seq (.reg [] [⟨some 62, some (.fieldAddr Zc (.tmp 3) 0), none⟩,
 ⟨some 63, some (.load Zd (.tmp 62)), none⟩,
 ⟨some 64, some (.binOp .eql Zd (.tmp 63) (.const (.int .i64 2)) Zd), none⟩])
  (.cond (.tmp 64) (.reg [] [⟨some 65, some (.move (.tmp 0)), none⟩,
 ⟨some 66, some (.nilCheck (.tmp 65)), none⟩,
 ⟨some 67, some (.fieldAddr Z1 (.tmp 66) 3), none⟩,
 ⟨some 68, some (.load Zcs (.tmp 67)), none⟩,
 ⟨some 69, some (.fieldAddr Zc (.tmp 3) 8), none⟩,
 ⟨some 70, some (.load Zd8 (.tmp 69)), none⟩,
 ⟨some 71, some (.move (.tmp 8)), none⟩,
 ⟨none, some (.mapUpdate Zcs (.tmp 68) (.tmp 70) (.tmp 71)), none⟩])
  .skip))
  (.seq (.reg [] [⟨some 72, some (.move (.tmp 8)), none⟩,
 ⟨some 4, some (.assign (.tmp 72)), none⟩,
 ⟨some 5, some (.assign (.const (.int .i64 0))), none⟩])
  .ret)))))))))))
theorem Zfx {a0 a1 : AV} {H : AHeap} : R Zi [a0, a1] H = fnK Try.prog [] H [(.tmp 4), (.tmp 5)] (evalL Try.prog KT R Zb0 (Env.args [a0, a1] 0) H) :=
  runs_body (D := DT) (f := Zi) Try.func19 (by kernel_rfl) (by kernel_rfl) (by kernel_rfl) (by kernel_rfl) (by kernel_rfl) (Nat.le_of_ble_eq_true rfl)
def Zfl : LCode := (.seq (.reg [] [⟨some 4, some (.assign (.const (.bool false))), none⟩])
  (.seq (.reg [] [⟨some 8, some (.move (.tmp 0)), none⟩,
 ⟨some 9, some (.move (.tmp 1)), none⟩,
 ⟨some 10, some (.call ⟨(.value (.func Zx)), #[.tmp 8, .tmp 9], #[Zf, Zd]⟩), none⟩,
 ⟨some 7, some (.move (.tmp 10)), none⟩,
 ⟨some 11, some (.extract (.tmp 7) 0), none⟩,
 ⟨some 12, some (.extract (.tmp 7) 1), none⟩,
 ⟨some 5, some (.assign (.tmp 11)), none⟩,
 ⟨some 6, some (.assign (.tmp 12)), none⟩])
  (.seq (.reg [] [⟨some 13, some (.move (.tmp 6)), none⟩,
 ⟨some 14, some (.binOp .eql Zd (.tmp 13) (.const (.int .i64 33)) Zd), none⟩,
 ⟨some 15, some (.move (.tmp 14)), none⟩,
 ⟨some 16, some (.move (.tmp 6)), some (some 15, false)⟩,
 ⟨some 17, some (.binOp .eql Zd (.tmp 16) (.const (.int .i64 0)) Zd), some (some 15, false)⟩,
 ⟨some 18, some (.move (.tmp 17)), some (some 15, false)⟩,
 ⟨some 19, some (.move (.tmp 5)), some (some 18, true)⟩,
 ⟨some 20, some (.move (.tmp 1)), some (some 18, true)⟩,
 ⟨some 21, some (.binOp .eql Zd (.tmp 19) (.tmp 20) Zd), some (some 18, true)⟩,
 ⟨some 22, some (.pick (.tmp 18) (.tmp 21) (.const (.bool false))), some (some 15, false)⟩,
 ⟨some 23, some (.pick (.tmp 15) (.const (.bool true)) (.tmp 22)), none⟩,
 ⟨some 4, some (.assign (.tmp 23)), none⟩])
  .ret)))
theorem Zgs {a0 a1 : AV} {H : AHeap} : R Zb3 [a0, a1] H = fnK Try.prog [] H [(.tmp 4)] (evalL Try.prog KT R Zfl (Env.args [a0, a1] 0) H) :=
  runs_body (D := DT) (f := Zb3) Try.func20 (by kernel_rfl) (by kernel_rfl) (by kernel_rfl) (by kernel_rfl) (by kernel_rfl) (Nat.le_of_ble_eq_true rfl)
def Zh0 : LCode := (.seq (.reg [] [⟨some 2, some (.assign (.const (.pointer none))), none⟩])
  (.seq (.reg [] [⟨some 3, some (.move (.tmp 0)), none⟩,
 ⟨some 4, some (.call ⟨(.builtin .max), #[(.tmp 3), (.const (.int .i64 1))], #[Zd, Zd]⟩), none⟩,
 ⟨some 5, some (.call ⟨(.builtin .min), #[(.tmp 4), (.const (.int .i64 4096))], #[Zd, Zd]⟩), none⟩,
 ⟨some 6, some (.makeMap Zcf none), none⟩,
 ⟨some 7, some (.makeMap Zcs none), none⟩,
 ⟨some 8, some (.build Z1 #[(0, (.tmp 5)), (2, (.tmp 6)), (3, (.tmp 7))]), none⟩,
 ⟨some 9, some (.box Z1 (.tmp 8)), none⟩,
 ⟨some 2, some (.assign (.tmp 9)), none⟩])
  .ret))
theorem Ziv {a0 : AV} {H : AHeap} : R Zem [a0] H = fnK Try.prog [] H [(.tmp 2)] (evalL Try.prog KT R Zh0 (Env.args [a0] 0) H) :=
  runs_body (D := DT) (f := Zem) Try.func26 (by kernel_rfl) (by kernel_rfl) (by kernel_rfl) (by kernel_rfl) (by kernel_rfl) (Nat.le_of_ble_eq_true rfl)
def Zbo : LCode := (.seq (.reg [] [⟨some 3, some (.box Zc (.tmp 1)), none⟩,
 ⟨some 4, some (.assign (.const (.int .i64 0))), none⟩])
  (.seq (.seq (.reg [] [⟨some 5, some (.move (.tmp 0)), none⟩,
 ⟨some 6, some (.nilCheck (.tmp 5)), none⟩,
 ⟨some 7, some (.fieldAddr Zr (.tmp 6) 2), none⟩,
 ⟨some 8, some (.load Zbb (.tmp 7)), none⟩,
 ⟨some 9, some (.binOp .neq Zbb (.tmp 8) (.const (.int .i64 0)) Zbb), none⟩])
  (.cond (.tmp 9) (.seq (.reg [] [⟨some 4, some (.assign (.const (.int .i64 0))), none⟩])
  .ret)
  .skip))
  (.seq (.seq (.reg [] [⟨some 10, some (.fieldAddr Zc (.tmp 3) 0), none⟩,
 ⟨some 11, some (.load Zd (.tmp 10)), none⟩,
 ⟨some 12, some (.call ⟨(.value (.func Zds)), #[.tmp 11], #[Zd]⟩), none⟩])
  (.block 0 (.seq (.reg [] [⟨some 14, some (.binOp .eql Zd (.tmp 12) (.const (.int .i64 0)) Zd), none⟩,
 ⟨some 13, some (.assign (.tmp 14)), none⟩])
  (.cond (.tmp 13) (.seq (.reg [] [⟨some 15, some (.move (.tmp 0)), none⟩,
 ⟨some 16, some (.load Zc (.tmp 3)), none⟩,
 ⟨some 17, some (.call ⟨(.value (.func Zg)), #[.tmp 15, .tmp 16], #[Zj, Zc]⟩), none⟩,
 ⟨some 4, some (.assign (.tmp 17)), none⟩])
  .ret)
  (.seq (.reg [] [⟨some 19, some (.binOp .eql Zd (.tmp 12) (.const (.int .i64 1)) Zd), none⟩,
 ⟨some 18, some (.assign (.tmp 19)), none⟩])
  (.cond (.tmp 18) (.seq (.reg [] [⟨some 20, some (.move (.tmp 0)), none⟩,
 ⟨some 21, some (.load Zc (.tmp 3)), none⟩,
 ⟨some 22, some (.call ⟨(.value (.func Zbf)), #[.tmp 20, .tmp 21], #[Zj, Zc]⟩), none⟩,
 ⟨some 4, some (.assign (.tmp 22)), none⟩])
  .ret)
  (.seq (.reg [] [⟨some 24, some (.binOp .eql Zd (.tmp 12) (.const (.int .i64 3)) Zd), none⟩,
 ⟨some 23, some (.assign (.tmp 24)), none⟩])
  (.cond (.tmp 23) (.seq (.reg [] [⟨some 25, some (.move (.tmp 0)), none⟩,
 ⟨some 26, some (.load Zc (.tmp 3)), none⟩,
 ⟨some 27, some (.call ⟨(.value (.func Zbh)), #[.tmp 25, .tmp 26], #[Zj, Zc]⟩), none⟩,
 ⟨some 4, some (.assign (.tmp 27)), none⟩])
  .ret)
  .skip))))))))
  (.seq (.reg [] [⟨some 28, some (.move (.tmp 0)), none⟩,
 ⟨some 29, some (.load Zc (.tmp 3)), none⟩,
 ⟨some 30, some (.call ⟨(.value (.func Zbq)), #[.tmp 28, .tmp 29], #[Zj, Zc]⟩), none⟩,
 ⟨some 4, some (.assign (.tmp 30)), none⟩])
  .ret))))
theorem Zdv {a0 a1 : AV} {H : AHeap} : R Zl [a0, a1] H = fnK Try.prog [] H [(.tmp 4)] (evalL Try.prog KT R Zbo (Env.args [a0, a1] 0) H) :=
  runs_body (D := DT) (f := Zl) Try.func27 (by kernel_rfl) (by kernel_rfl) (by kernel_rfl) (by kernel_rfl) (by kernel_rfl) (Nat.le_of_ble_eq_true rfl)
def Zbw : LCode := (.seq (.reg [] [⟨some 19, some (.binOp .lss Zd (.tmp 18) (.const (.int .i64 3)) Zd), none⟩])
  (.seq (.cond (.tmp 19) .skip
  (.exit 0))
  (.seq (.block 1 (.seq (.reg [] [⟨some 20, some (.move (.tmp 18)), none⟩,
 ⟨some 21, some (.index Zef (.tmp 17) (.tmp 18)), none⟩,
 ⟨some 6, some (.assign (.tmp 20)), none⟩,
 ⟨some 7, some (.assign (.tmp 21)), none⟩])
  (.seq (.reg [] [⟨some 22, some (.move (.tmp 6)), none⟩,
 ⟨some 23, some (.move (.tmp 5)), none⟩,
 ⟨some 24, some (.binOp .lss Zd (.tmp 22) (.tmp 23) Zd), none⟩,
 ⟨some 25, some (.move (.tmp 24)), none⟩,
 ⟨some 26, some (.move (.tmp 7)), some (some 25, true)⟩,
 ⟨some 27, some (.binOp .lss Zd (.tmp 26) (.const (.int .i64 1)) Zd), some (some 25, true)⟩,
 ⟨some 28, some (.move (.tmp 27)), some (some 25, true)⟩,
 ⟨some 29, some (.move (.tmp 7)), some (some 28, false)⟩,
 ⟨some 30, some (.move (.tmp 0)), some (some 28, false)⟩,
 ⟨some 31, some (.nilCheck (.tmp 30)), some (some 28, false)⟩,
 ⟨some 32, some (.fieldAddr Z1 (.tmp 31) 1), some (some 28, false)⟩,
 ⟨some 33, some (.load Zt (.tmp 32)), some (some 28, false)⟩,
 ⟨some 34, some (.call ⟨(.builtin .len), #[.tmp 33], #[Zt]⟩), some (some 28, false)⟩,
 ⟨some 35, some (.binOp .gtr Zd (.tmp 29) (.tmp 34) Zd), some (some 28, false)⟩,
 ⟨some 36, some (.pick (.tmp 28) (.const (.bool true)) (.tmp 35)), some (some 25, true)⟩,
 ⟨some 37, some (.pick (.tmp 25) (.tmp 36) (.const (.bool false))), none⟩,
 ⟨some 38, some (.move (.tmp 37)), none⟩,
 ⟨some 39, some (.move (.tmp 6)), some (some 38, false)⟩,
 ⟨some 40, some (.move (.tmp 5)), some (some 38, false)⟩,
 ⟨some 41, some (.binOp .geq Zd (.tmp 39) (.tmp 40) Zd), some (some 38, false)⟩,
 ⟨some 42, some (.move (.tmp 41)), some (some 38, false)⟩,
 ⟨some 43, some (.move (.tmp 7)), some (some 42, true)⟩,
 ⟨some 44, some (.binOp .neq Zd (.tmp 43) (.const (.int .i64 0)) Zd), some (some 42, true)⟩,
 ⟨some 45, some (.pick (.tmp 42) (.tmp 44) (.const (.bool false))), some (some 38, false)⟩,
 ⟨some 46, some (.pick (.tmp 38) (.const (.bool true)) (.tmp 45)), none⟩])
  (.cond (.tmp 46) (.seq (.reg [] [⟨some 4, some (.assign (.const (.bool false))), none⟩])
  .ret)
  .skip))))
  (.reg [] [⟨some 47, some (.binOp .add Zd (.tmp 18) (.const (.int .i64 1)) Zd), none⟩,
 ⟨some 18, some (.move (.tmp 47)), none⟩]))))
@[simp] theorem Zha : defs Zbw = [19, 20, 21, 6, 7, 22, 23, 24, 25, 26, 27, 28, 29, 30, 31, 32, 33, 34, 35, 36, 37, 38, 39, 40, 41, 42, 43, 44, 45, 46, 4, 47, 18] := by rfl
def Zd6 : LCode := (.seq (.reg [] [⟨some 3, some (.box Zc (.tmp 1)), none⟩,
 ⟨some 4, some (.assign (.const (.bool false))), none⟩])
  (.seq (.reg [] [⟨some 8, some (.fieldAddr Zc (.tmp 3) 0), none⟩,
 ⟨some 9, some (.load Zd (.tmp 8)), none⟩,
 ⟨some 10, some (.call ⟨(.value (.func Zds)), #[.tmp 9], #[Zd]⟩), none⟩,
 ⟨some 5, some (.assign (.tmp 10)), none⟩])
  (.seq (.seq (.reg [] [⟨some 11, some (.fieldAddr Zc (.tmp 3) 2), none⟩,
 ⟨some 12, some (.load Zd (.tmp 11)), none⟩,
 ⟨some 13, some (.fieldAddr Zc (.tmp 3) 3), none⟩,
 ⟨some 14, some (.load Zd (.tmp 13)), none⟩,
 ⟨some 15, some (.fieldAddr Zc (.tmp 3) 4), none⟩,
 ⟨some 16, some (.load Zd (.tmp 15)), none⟩,
 ⟨some 17, some (.build Zef #[(0, (.tmp 12)), (1, (.tmp 14)), (2, (.tmp 16))]), none⟩,
 ⟨some 18, some (.move (.const (.int .i64 0))), none⟩])
  (.block 0 (.loop Zbw)))
  (.seq (.reg [] [⟨some 48, some (.move (.tmp 5)), none⟩,
 ⟨some 49, some (.binOp .geq Zd (.tmp 48) (.const (.int .i64 0)) Zd), none⟩,
 ⟨some 50, some (.move (.tmp 49)), none⟩,
 ⟨some 51, some (.fieldAddr Zc (.tmp 3) 0), some (some 50, true)⟩,
 ⟨some 52, some (.load Zd (.tmp 51)), some (some 50, true)⟩,
 ⟨some 53, some (.binOp .eql Zd (.tmp 52) (.const (.int .i64 1)) Zd), some (some 50, true)⟩,
 ⟨some 54, some (.move (.tmp 53)), some (some 50, true)⟩,
 ⟨some 55, some (.fieldAddr Zc (.tmp 3) 7), some (some 54, false)⟩,
 ⟨some 56, some (.load Zb (.tmp 55)), some (some 54, false)⟩,
 ⟨some 57, some (.build Zb #[]), some (some 54, false)⟩,
 ⟨some 58, some (.binOp .eql Zb (.tmp 56) (.tmp 57) Zb), some (some 54, false)⟩,
 ⟨some 59, some (.pick (.tmp 54) (.const (.bool true)) (.tmp 58)), some (some 50, true)⟩,
 ⟨some 60, some (.pick (.tmp 50) (.tmp 59) (.const (.bool false))), none⟩,
 ⟨some 61, some (.move (.tmp 60)), none⟩,
 ⟨some 62, some (.fieldAddr Zc (.tmp 3) 0), some (some 61, true)⟩,
 ⟨some 63, some (.load Zd (.tmp 62)), some (some 61, true)⟩,
 ⟨some 64, some (.binOp .eql Zd (.tmp 63) (.const (.int .i64 2)) Zd), some (some 61, true)⟩,
 ⟨some 65, some (.move (.tmp 64)), some (some 61, true)⟩,
 ⟨some 66, some (.fieldAddr Zc (.tmp 3) 8), some (some 65, false)⟩,
 ⟨some 67, some (.load Zd8 (.tmp 66)), some (some 65, false)⟩,
 ⟨some 68, some (.binOp .eql Zd8 (.tmp 67) (.const (.string { data := #[] })) Zd8), some (some 65, false)⟩,
 ⟨some 69, some (.pick (.tmp 65) (.const (.bool true)) (.tmp 68)), some (some 61, true)⟩,
 ⟨some 70, some (.pick (.tmp 61) (.tmp 69) (.const (.bool false))), none⟩,
 ⟨some 4, some (.assign (.tmp 70)), none⟩])
  .ret))))
theorem Zfm {a0 a1 : AV} {H : AHeap} : R Zci [a0, a1] H = fnK Try.prog [] H [(.tmp 4)] (evalL Try.prog KT R Zd6 (Env.args [a0, a1] 0) H) :=
  runs_body (D := DT) (f := Zci) Try.func28 (by kernel_rfl) (by kernel_rfl) (by kernel_rfl) (by kernel_rfl) (by kernel_rfl) (Nat.le_of_ble_eq_true rfl)
def Zbx : LCode := (.seq (.reg [] [⟨some 94, some (.binOp .lss Zd (.tmp 93) (.const (.int .i64 3)) Zd), none⟩])
  (.seq (.cond (.tmp 94) .skip
  (.exit 1))
  (.seq (.block 2 (.seq (.reg [] [⟨some 95, some (.index Zef (.tmp 92) (.tmp 93)), none⟩,
 ⟨some 9, some (.assign (.tmp 95)), none⟩])
  (.seq (.reg [] [⟨some 96, some (.move (.tmp 9)), none⟩,
 ⟨some 97, some (.binOp .gtr Zd (.tmp 96) (.const (.int .i64 0)) Zd), none⟩])
  (.cond (.tmp 97) (.reg [] [⟨some 98, some (.move (.tmp 7)), none⟩,
 ⟨some 99, some (.move (.tmp 0)), none⟩,
 ⟨some 100, some (.nilCheck (.tmp 99)), none⟩,
 ⟨some 101, some (.fieldAddr Z1 (.tmp 100) 1), none⟩,
 ⟨some 102, some (.load Zt (.tmp 101)), none⟩,
 ⟨some 103, some (.move (.tmp 9)), none⟩,
 ⟨some 104, some (.binOp .sub Zd (.tmp 103) (.const (.int .i64 1)) Zd), none⟩,
 ⟨some 105, some (.indexAddr Zt (.tmp 102) (.tmp 104)), none⟩,
 ⟨some 106, some (.fieldAddr Zc (.tmp 105) 1), none⟩,
 ⟨some 107, some (.load Zd (.tmp 106)), none⟩,
 ⟨some 108, some (.buildSlice Zbm 1 #[(0, (.tmp 107))]), none⟩,
 ⟨some 109, some (.call ⟨(.builtin .append), #[.tmp 98, .tmp 108], #[Zbm, Zbm]⟩), none⟩,
 ⟨some 7, some (.assign (.tmp 109)), none⟩])
  .skip))))
  (.reg [] [⟨some 110, some (.binOp .add Zd (.tmp 93) (.const (.int .i64 1)) Zd), none⟩,
 ⟨some 93, some (.move (.tmp 110)), none⟩]))))
@[simp] theorem Zhb : defs Zbx = [94, 95, 9, 96, 97, 98, 99, 100, 101, 102, 103, 104, 105, 106, 107, 108, 109, 7, 110, 93] := by rfl
def Zs : LCode := (.seq (.reg [] [⟨some 3, some (.box Zc (.tmp 1)), none⟩,
 ⟨some 4, some (.alloc Zc), none⟩,
 ⟨some 5, some (.assign (.const (.int .i64 0))), none⟩])
  (.seq (.seq (.reg [] [⟨some 11, some (.fieldAddr Zc (.tmp 3) 0), none⟩,
 ⟨some 12, some (.load Zd (.tmp 11)), none⟩])
  (.block 0 (.seq (.reg [] [⟨some 14, some (.binOp .eql Zd (.tmp 12) (.const (.int .i64 1)) Zd), none⟩,
 ⟨some 13, some (.assign (.tmp 14)), none⟩])
  (.cond (.tmp 13) (.seq (.seq (.reg [] [⟨some 15, some (.fieldAddr Zc (.tmp 3) 7), none⟩,
 ⟨some 16, some (.load Zb (.tmp 15)), none⟩,
 ⟨some 17, some (.call ⟨(.value (.func Zdz)), #[.tmp 16], #[Zb]⟩), none⟩,
 ⟨some 18, some (.unOp .not Zbe (.tmp 17)), none⟩,
 ⟨some 19, some (.move (.tmp 18)), none⟩,
 ⟨some 20, some (.fieldAddr Zc (.tmp 3) 7), some (some 19, false)⟩,
 ⟨some 21, some (.fieldAddr Zb (.tmp 20) 0), some (some 19, false)⟩,
 ⟨some 22, some (.load Zd (.tmp 21)), some (some 19, false)⟩,
 ⟨some 23, some (.fieldAddr Zc (.tmp 3) 1), some (some 19, false)⟩,
 ⟨some 24, some (.load Zd (.tmp 23)), some (some 19, false)⟩,
 ⟨some 25, some (.binOp .neq Zd (.tmp 22) (.tmp 24) Zd), some (some 19, false)⟩,
 ⟨some 26, some (.pick (.tmp 19) (.const (.bool true)) (.tmp 25)), none⟩,
 ⟨some 27, some (.move (.tmp 26)), none⟩,
 ⟨some 28, some (.fieldAddr Zc (.tmp 3) 5), some (some 27, false)⟩,
 ⟨some 29, some (.load Zd (.tmp 28)), some (some 27, false)⟩,
 ⟨some 30, some (.binOp .neq Zd (.tmp 29) (.const (.int .i64 0)) Zd), some (some 27, false)⟩,
 ⟨some 31, some (.pick (.tmp 27) (.const (.bool true)) (.tmp 30)), none⟩,
 ⟨some 32, some (.move (.tmp 31)), none⟩,
 ⟨some 33, some (.fieldAddr Zc (.tmp 3) 6), some (some 32, false)⟩,
 ⟨some 34, some (.load Zd (.tmp 33)), some (some 32, false)⟩,
 ⟨some 35, some (.binOp .neq Zd (.tmp 34) (.const (.int .i64 0)) Zd), some (some 32, false)⟩,
 ⟨some 36, some (.pick (.tmp 32) (.const (.bool true)) (.tmp 35)), none⟩])
  (.cond (.tmp 36) (.seq (.reg [] [⟨some 37, some (.load Zc (.tmp 3)), none⟩,
 ⟨none, some (.store Zc (.tmp 4) (.tmp 37)), none⟩,
 ⟨some 5, some (.assign (.const (.int .i64 30))), none⟩])
  .ret)
  .skip))
  (.seq (.reg [] [⟨some 38, some (.load Zc (.tmp 3)), none⟩,
 ⟨none, some (.store Zc (.tmp 4) (.tmp 38)), none⟩,
 ⟨some 5, some (.assign (.const (.int .i64 0))), none⟩])
  .ret))
  (.seq (.reg [] [⟨some 40, some (.binOp .eql Zd (.tmp 12) (.const (.int .i64 2)) Zd), none⟩,
 ⟨some 39, some (.assign (.tmp 40)), none⟩])
  (.cond (.tmp 39) (.seq (.seq (.reg [] [⟨some 41, some (.fieldAddr Zc (.tmp 3) 1), none⟩,
 ⟨some 42, some (.load Zd (.tmp 41)), none⟩,
 ⟨some 43, some (.call ⟨(.value (.func Zfc)), #[.tmp 42], #[Zd]⟩), none⟩,
 ⟨some 44, some (.unOp .not Zbe (.tmp 43)), none⟩,
 ⟨some 45, some (.move (.tmp 44)), none⟩,
 ⟨some 46, some (.fieldAddr Zc (.tmp 3) 5), some (some 45, false)⟩,
 ⟨some 47, some (.load Zd (.tmp 46)), some (some 45, false)⟩,
 ⟨some 48, some (.binOp .neq Zd (.tmp 47) (.const (.int .i64 0)) Zd), some (some 45, false)⟩,
 ⟨some 49, some (.pick (.tmp 45) (.const (.bool true)) (.tmp 48)), none⟩,
 ⟨some 50, some (.move (.tmp 49)), none⟩,
 ⟨some 51, some (.fieldAddr Zc (.tmp 3) 6), some (some 50, false)⟩,
 ⟨some 52, some (.load Zd (.tmp 51)), some (some 50, false)⟩,
 ⟨some 53, some (.binOp .neq Zd (.tmp 52) (.const (.int .i64 0)) Zd), some (some 50, false)⟩,
 ⟨some 54, some (.pick (.tmp 50) (.const (.bool true)) (.tmp 53)), none⟩])
  (.cond (.tmp 54) (.seq (.reg [] [⟨some 55, some (.load Zc (.tmp 3)), none⟩,
 ⟨none, some (.store Zc (.tmp 4) (.tmp 55)), none⟩,
 ⟨some 5, some (.assign (.const (.int .i64 30))), none⟩])
  .ret)
  .skip))
  (.seq (.seq (.reg [] [⟨some 56, some (.move (.tmp 0)), none⟩,
 ⟨some 57, some (.nilCheck (.tmp 56)), none⟩,
 ⟨some 58, some (.fieldAddr Z1 (.tmp 57) 3), none⟩,
 ⟨some 59, some (.load Zcs (.tmp 58)), none⟩,
 ⟨some 60, some (.fieldAddr Zc (.tmp 3) 8), none⟩,
 ⟨some 61, some (.load Zd8 (.tmp 60)), none⟩,
 ⟨some 62, some (.lookup Zcs (.tmp 59) (.tmp 61) false), none⟩,
 ⟨some 6, some (.assign (.tmp 62)), none⟩])
  (.seq (.reg [] [⟨some 63, some (.fieldAddr Zc (.tmp 3) 8), none⟩,
 ⟨some 64, some (.load Zd8 (.tmp 63)), none⟩,
 ⟨some 65, some (.binOp .eql Zd8 (.tmp 64) (.const (.string { data := #[] })) Zd8), none⟩,
 ⟨some 66, some (.move (.tmp 65)), none⟩,
 ⟨some 67, some (.move (.tmp 6)), some (some 66, false)⟩,
 ⟨some 68, some (.binOp .gtr Zd (.tmp 67) (.const (.int .i64 0)) Zd), some (some 66, false)⟩,
 ⟨some 69, some (.move (.tmp 68)), some (some 66, false)⟩,
 ⟨some 70, some (.move (.tmp 0)), some (some 69, true)⟩,
 ⟨some 71, some (.nilCheck (.tmp 70)), some (some 69, true)⟩,
 ⟨some 72, some (.fieldAddr Z1 (.tmp 71) 1), some (some 69, true)⟩,
 ⟨some 73, some (.load Zt (.tmp 72)), some (some 69, true)⟩,
 ⟨some 74, some (.move (.tmp 6)), some (some 69, true)⟩,
 ⟨some 75, some (.binOp .sub Zd (.tmp 74) (.const (.int .i64 1)) Zd), some (some 69, true)⟩,
 ⟨some 76, some (.indexAddr Zt (.tmp 73) (.tmp 75)), some (some 69, true)⟩,
 ⟨some 77, some (.fieldAddr Zc (.tmp 76) 1), some (some 69, true)⟩,
 ⟨some 78, some (.load Zd (.tmp 77)), some (some 69, true)⟩,
 ⟨some 79, some (.fieldAddr Zc (.tmp 3) 1), some (some 69, true)⟩,
 ⟨some 80, some (.load Zd (.tmp 79)), some (some 69, true)⟩,
 ⟨some 81, some (.binOp .neq Zd (.tmp 78) (.tmp 80) Zd), some (some 69, true)⟩,
 ⟨some 82, some (.pick (.tmp 69) (.tmp 81) (.const (.bool false))), some (some 66, false)⟩,
 ⟨some 83, some (.pick (.tmp 66) (.const (.bool true)) (.tmp 82)), none⟩])
  (.cond (.tmp 83) (.seq (.reg [] [⟨some 84, some (.load Zc (.tmp 3)), none⟩,
 ⟨none, some (.store Zc (.tmp 4) (.tmp 84)), none⟩,
 ⟨some 5, some (.assign (.const (.int .i64 34))), none⟩])
  .ret)
  .skip)))
  (.seq (.reg [] [⟨some 85, some (.load Zc (.tmp 3)), none⟩,
 ⟨none, some (.store Zc (.tmp 4) (.tmp 85)), none⟩,
 ⟨some 5, some (.assign (.const (.int .i64 0))), none⟩])
  .ret)))
  .skip))))))
  (.seq (.reg [] [⟨some 7, some (.assign (.const (.slice none 0 0))), none⟩])
  (.seq (.seq (.reg [] [⟨some 86, some (.fieldAddr Zc (.tmp 3) 2), none⟩,
 ⟨some 87, some (.load Zd (.tmp 86)), none⟩,
 ⟨some 88, some (.fieldAddr Zc (.tmp 3) 3), none⟩,
 ⟨some 89, some (.load Zd (.tmp 88)), none⟩,
 ⟨some 90, some (.fieldAddr Zc (.tmp 3) 4), none⟩,
 ⟨some 91, some (.load Zd (.tmp 90)), none⟩,
 ⟨some 92, some (.build Zef #[(0, (.tmp 87)), (1, (.tmp 89)), (2, (.tmp 91))]), none⟩,
 ⟨some 93, some (.move (.const (.int .i64 0))), none⟩])
  (.block 1 (.loop Zbx)))
  (.seq (.reg [] [⟨some 10, some (.assign (.const (.int .i64 0))), none⟩])
  (.seq (.reg [] [⟨some 112, some (.fieldAddr Zc (.tmp 3) 0), none⟩,
 ⟨some 113, some (.load Zd (.tmp 112)), none⟩,
 ⟨some 114, some (.fieldAddr Zc (.tmp 3) 5), none⟩,
 ⟨some 115, some (.load Zd (.tmp 114)), none⟩,
 ⟨some 116, some (.fieldAddr Zc (.tmp 3) 6), none⟩,
 ⟨some 117, some (.load Zd (.tmp 116)), none⟩,
 ⟨some 118, some (.move (.tmp 7)), none⟩,
 ⟨some 119, some (.call ⟨(.value (.func Zen)), #[.tmp 113, .tmp 115, .tmp 117, .tmp 118], #[Zd, Zd, Zd, Zbm]⟩), none⟩,
 ⟨some 111, some (.move (.tmp 119)), none⟩,
 ⟨some 120, some (.extract (.tmp 111) 0), none⟩,
 ⟨some 121, some (.extract (.tmp 111) 1), none⟩,
 ⟨some 122, some (.fieldAddr Zc (.tmp 3) 1), none⟩,
 ⟨none, some (.store Zd (.tmp 122) (.tmp 120)), none⟩,
 ⟨some 10, some (.assign (.tmp 121)), none⟩])
  (.seq (.reg [] [⟨some 123, some (.load Zc (.tmp 3)), none⟩,
 ⟨some 124, some (.move (.tmp 10)), none⟩,
 ⟨none, some (.store Zc (.tmp 4) (.tmp 123)), none⟩,
 ⟨some 5, some (.assign (.tmp 124)), none⟩])
  .ret)))))))
theorem Zfn {a0 a1 : AV} {H : AHeap} : R Zcj [a0, a1] H = fnK Try.prog [] H [(.cell 4 Zc), (.tmp 5)] (evalL Try.prog KT R Zs (Env.args [a0, a1] 0) H) :=
  runs_body (D := DT) (f := Zcj) Try.func29 (by kernel_rfl) (by kernel_rfl) (by kernel_rfl) (by kernel_rfl) (by kernel_rfl) (Nat.le_of_ble_eq_true rfl)
def Zcu : LCode := (.seq (.reg [] [⟨some 2, some (.assign (.const (.int .i64 0))), none⟩])
  (.seq (.block 0 (.seq (.reg [] [⟨some 4, some (.move (.tmp 0)), none⟩,
 ⟨some 5, some (.binOp .lss Zd (.tmp 4) (.const (.int .i64 1)) Zd), none⟩,
 ⟨some 6, some (.move (.tmp 5)), none⟩,
 ⟨some 7, some (.move (.tmp 0)), some (some 6, false)⟩,
 ⟨some 8, some (.binOp .gtr Zd (.tmp 7) (.const (.int .i64 44)) Zd), some (some 6, false)⟩,
 ⟨some 9, some (.pick (.tmp 6) (.const (.bool true)) (.tmp 8)), none⟩,
 ⟨some 3, some (.assign (.tmp 9)), none⟩])
  (.cond (.tmp 3) (.seq (.reg [] [⟨some 2, some (.assign (.const (.int .i64 (-1)))), none⟩])
  .ret)
  (.seq (.reg [] [⟨some 11, some (.move (.tmp 0)), none⟩,
 ⟨some 12, some (.binOp .leq Zd (.tmp 11) (.const (.int .i64 2)) Zd), none⟩,
 ⟨some 10, some (.assign (.tmp 12)), none⟩])
  (.cond (.tmp 10) (.seq (.reg [] [⟨some 2, some (.assign (.const (.int .i64 0))), none⟩])
  .ret)
  (.seq (.reg [] [⟨some 14, some (.move (.tmp 0)), none⟩,
 ⟨some 15, some (.binOp .eql Zd (.tmp 14) (.const (.int .i64 3)) Zd), none⟩,
 ⟨some 16, some (.move (.tmp 15)), none⟩,
 ⟨some 17, some (.move (.tmp 0)), some (some 16, false)⟩,
 ⟨some 18, some (.binOp .eql Zd (.tmp 17) (.const (.int .i64 10)) Zd), some (some 16, false)⟩,
 ⟨some 19, some (.pick (.tmp 16) (.const (.bool true)) (.tmp 18)), none⟩,
 ⟨some 20, some (.move (.tmp 19)), none⟩,
 ⟨some 21, some (.move (.tmp 0)), some (some 20, false)⟩,
 ⟨some 22, some (.binOp .eql Zd (.tmp 21) (.const (.int .i64 11)) Zd), some (some 20, false)⟩,
 ⟨some 23, some (.pick (.tmp 20) (.const (.bool true)) (.tmp 22)), none⟩,
 ⟨some 24, some (.move (.tmp 23)), none⟩,
 ⟨some 25, some (.move (.tmp 0)), some (some 24, false)⟩,
 ⟨some 26, some (.binOp .geq Zd (.tmp 25) (.const (.int .i64 39)) Zd), some (some 24, false)⟩,
 ⟨some 27, some (.pick (.tmp 24) (.const (.bool true)) (.tmp 26)), none⟩,
 ⟨some 13, some (.assign (.tmp 27)), none⟩])
  (.cond (.tmp 13) (.seq (.reg [] [⟨some 2, some (.assign (.const (.int .i64 1))), none⟩])
  .ret)
  (.seq (.reg [] [⟨some 29, some (.move (.tmp 0)), none⟩,
 ⟨some 30, some (.binOp .eql Zd (.tmp 29) (.const (.int .i64 9)) Zd), none⟩,
 ⟨some 28, some (.assign (.tmp 30)), none⟩])
  (.cond (.tmp 28) (.seq (.reg [] [⟨some 2, some (.assign (.const (.int .i64 3))), none⟩])
  .ret)
  .skip)))))))))
  (.seq (.reg [] [⟨some 2, some (.assign (.const (.int .i64 2))), none⟩])
  .ret)))
theorem Zia {a0 : AV} {H : AHeap} : R Zds [a0] H = fnK Try.prog [] H [(.tmp 2)] (evalL Try.prog KT R Zcu (Env.args [a0] 0) H) :=
  runs_body (D := DT) (f := Zds) Try.func34 (by kernel_rfl) (by kernel_rfl) (by kernel_rfl) (by kernel_rfl) (by kernel_rfl) (Nat.le_of_ble_eq_true rfl)
def Zcy : LCode := (.seq (.reg [] [⟨some 3, some (.box Zc (.tmp 1)), none⟩,
 ⟨some 4, some (.assign (.const (.int .i64 0))), none⟩])
  (.seq (.reg [] [⟨some 8, some (.move (.tmp 0)), none⟩,
 ⟨some 9, some (.nilCheck (.tmp 8)), none⟩,
 ⟨some 10, some (.fieldAddr Zr (.tmp 9) 0), none⟩,
 ⟨some 11, some (.load Zf (.tmp 10)), none⟩,
 ⟨some 12, some (.load Zc (.tmp 3)), none⟩,
 ⟨some 13, some (.call ⟨(.value (.func Zi)), #[.tmp 11, .tmp 12], #[Zf, Zc]⟩), none⟩,
 ⟨some 7, some (.move (.tmp 13)), none⟩,
 ⟨some 14, some (.extract (.tmp 7) 0), none⟩,
 ⟨some 15, some (.extract (.tmp 7) 1), none⟩,
 ⟨some 5, some (.assign (.tmp 14)), none⟩,
 ⟨some 6, some (.assign (.tmp 15)), none⟩])
  (.seq (.seq (.reg [] [⟨some 16, some (.move (.tmp 0)), none⟩,
 ⟨some 17, some (.nilCheck (.tmp 16)), none⟩,
 ⟨some 18, some (.fieldAddr Zr (.tmp 17) 2), none⟩,
 ⟨some 19, some (.load Zbb (.tmp 18)), none⟩,
 ⟨some 20, some (.binOp .eql Zbb (.tmp 19) (.const (.int .i64 0)) Zbb), none⟩])
  (.cond (.tmp 20) (.reg [] [⟨some 21, some (.move (.tmp 0)), none⟩,
 ⟨some 22, some (.move (.tmp 6)), none⟩,
 ⟨some 23, some (.nilCheck (.tmp 21)), none⟩,
 ⟨some 24, some (.fieldAddr Zr (.tmp 23) 2), none⟩,
 ⟨none, some (.store Zbb (.tmp 24) (.tmp 22)), none⟩])
  .skip))
  (.seq (.reg [] [⟨some 25, some (.move (.tmp 5)), none⟩,
 ⟨some 4, some (.assign (.tmp 25)), none⟩])
  .ret))))
theorem Zdw {a0 a1 : AV} {H : AHeap} : R Zg [a0, a1] H = fnK Try.prog [] H [(.tmp 4)] (evalL Try.prog KT R Zcy (Env.args [a0, a1] 0) H) :=
  runs_body (D := DT) (f := Zg) Try.func35 (by kernel_rfl) (by kernel_rfl) (by kernel_rfl) (by kernel_rfl) (by kernel_rfl) (Nat.le_of_ble_eq_true rfl)
def Zq : LCode := (.seq (.reg [] [⟨some 3, some (.box Zc (.tmp 1)), none⟩,
 ⟨some 4, some (.assign (.const (.int .i64 0))), none⟩])
  (.seq (.seq (.reg [] [⟨some 8, some (.move (.tmp 0)), none⟩,
 ⟨some 9, some (.load Zc (.tmp 3)), none⟩,
 ⟨some 10, some (.call ⟨(.value (.func Zy)), #[.tmp 8, .tmp 9], #[Zj, Zc]⟩), none⟩,
 ⟨some 5, some (.assign (.tmp 10)), none⟩])
  (.seq (.reg [] [⟨some 11, some (.move (.tmp 5)), none⟩,
 ⟨some 12, some (.binOp .gtr Zd (.tmp 11) (.const (.int .i64 0)) Zd), none⟩,
 ⟨some 13, some (.move (.tmp 12)), none⟩,
 ⟨some 14, some (.move (.tmp 0)), some (some 13, false)⟩,
 ⟨some 15, some (.nilCheck (.tmp 14)), some (some 13, false)⟩,
 ⟨some 16, some (.fieldAddr Zr (.tmp 15) 2), some (some 13, false)⟩,
 ⟨some 17, some (.load Zbb (.tmp 16)), some (some 13, false)⟩,
 ⟨some 18, some (.binOp .neq Zbb (.tmp 17) (.const (.int .i64 0)) Zbb), some (some 13, false)⟩,
 ⟨some 19, some (.pick (.tmp 13) (.const (.bool true)) (.tmp 18)), none⟩])
  (.cond (.tmp 19) (.seq (.reg [] [⟨some 20, some (.move (.tmp 5)), none⟩,
 ⟨some 4, some (.assign (.tmp 20)), none⟩])
  .ret)
  .skip)))
  (.seq (.reg [10] [⟨some 22, some (.move (.tmp 0)), none⟩,
 ⟨some 23, some (.nilCheck (.tmp 22)), none⟩,
 ⟨some 24, some (.fieldAddr Zr (.tmp 23) 0), none⟩,
 ⟨some 25, some (.load Zf (.tmp 24)), none⟩,
 ⟨some 26, some (.fieldAddr Zc (.tmp 3) 2), none⟩,
 ⟨some 27, some (.load Zd (.tmp 26)), none⟩,
 ⟨some 28, some (.call ⟨(.value (.func Zp)), #[.tmp 25, .tmp 27], #[Zf, Zd]⟩), none⟩,
 ⟨some 21, some (.move (.tmp 28)), none⟩,
 ⟨some 29, some (.extract (.tmp 21) 0), none⟩,
 ⟨some 30, some (.extract (.tmp 21) 1), none⟩,
 ⟨some 6, some (.alloc Zc), none⟩,
 ⟨none, some (.store Zc (.tmp 6) (.tmp 29)), none⟩,
 ⟨some 7, some (.assign (.tmp 30)), none⟩])
  (.seq (.block 0 (.seq (.reg [] [⟨some 32, some (.fieldAddr Zc (.tmp 3) 0), none⟩,
 ⟨some 33, some (.load Zd (.tmp 32)), none⟩,
 ⟨some 34, some (.call ⟨(.value (.func Zd5)), #[.tmp 33], #[Zd]⟩), none⟩,
 ⟨some 35, some (.binOp .and Zd (.tmp 34) (.const (.int .i64 128)) Zd), none⟩,
 ⟨some 36, some (.binOp .neq Zd (.tmp 35) (.const (.int .i64 0)) Zd), none⟩,
 ⟨some 37, some (.move (.tmp 36)), none⟩,
 ⟨some 38, some (.fieldAddr Zc (.tmp 6) 0), some (some 37, true)⟩,
 ⟨some 39, some (.load Zd (.tmp 38)), some (some 37, true)⟩,
 ⟨some 40, some (.fieldAddr Zc (.tmp 3) 0), some (some 37, true)⟩,
 ⟨some 41, some (.load Zd (.tmp 40)), some (some 37, true)⟩,
 ⟨some 42, some (.binOp .eql Zd (.tmp 39) (.tmp 41) Zd), some (some 37, true)⟩,
 ⟨some 43, some (.pick (.tmp 37) (.tmp 42) (.const (.bool false))), none⟩,
 ⟨some 31, some (.assign (.tmp 43)), none⟩])
  (.cond (.tmp 31) (.seq (.reg [] [⟨some 44, some (.fieldAddr Zc (.tmp 6) 2), none⟩,
 ⟨some 45, some (.load Zd (.tmp 44)), none⟩,
 ⟨some 4, some (.assign (.tmp 45)), none⟩])
  .ret)
  (.seq (.reg [] [⟨some 47, some (.fieldAddr Zc (.tmp 3) 0), none⟩,
 ⟨some 48, some (.load Zd (.tmp 47)), none⟩,
 ⟨some 49, some (.binOp .eql Zd (.tmp 48) (.const (.int .i64 39)) Zd), none⟩,
 ⟨some 50, some (.move (.tmp 49)), none⟩,
 ⟨some 51, some (.fieldAddr Zc (.tmp 3) 6), some (some 50, true)⟩,
 ⟨some 52, some (.load Zd (.tmp 51)), some (some 50, true)⟩,
 ⟨some 53, some (.binOp .eql Zd (.tmp 52) (.const (.int .i64 0)) Zd), some (some 50, true)⟩,
 ⟨some 54, some (.pick (.tmp 50) (.tmp 53) (.const (.bool false))), none⟩,
 ⟨some 55, some (.move (.tmp 54)), none⟩,
 ⟨some 56, some (.fieldAddr Zc (.tmp 3) 5), some (some 55, true)⟩,
 ⟨some 57, some (.load Zd (.tmp 56)), some (some 55, true)⟩,
 ⟨some 58, some (.fieldAddr Zc (.tmp 6) 1), some (some 55, true)⟩,
 ⟨some 59, some (.load Zd (.tmp 58)), some (some 55, true)⟩,
 ⟨some 60, some (.binOp .sub Zd (.tmp 59) (.const (.int .i64 1)) Zd), some (some 55, true)⟩,
 ⟨some 61, some (.binOp .eql Zd (.tmp 57) (.tmp 60) Zd), some (some 55, true)⟩,
 ⟨some 62, some (.pick (.tmp 55) (.tmp 61) (.const (.bool false))), none⟩,
 ⟨some 46, some (.assign (.tmp 62)), none⟩])
  (.cond (.tmp 46) (.seq (.reg [] [⟨some 63, some (.fieldAddr Zc (.tmp 3) 2), none⟩,
 ⟨some 64, some (.load Zd (.tmp 63)), none⟩,
 ⟨some 4, some (.assign (.tmp 64)), none⟩])
  .ret)
  (.seq (.reg [] [⟨some 66, some (.fieldAddr Zc (.tmp 3) 0), none⟩,
 ⟨some 67, some (.load Zd (.tmp 66)), none⟩,
 ⟨some 68, some (.binOp .eql Zd (.tmp 67) (.const (.int .i64 40)) Zd), none⟩,
 ⟨some 69, some (.move (.tmp 68)), none⟩,
 ⟨some 70, some (.fieldAddr Zc (.tmp 3) 0), some (some 69, false)⟩,
 ⟨some 71, some (.load Zd (.tmp 70)), some (some 69, false)⟩,
 ⟨some 72, some (.binOp .eql Zd (.tmp 71) (.const (.int .i64 41)) Zd), some (some 69, false)⟩,
 ⟨some 73, some (.pick (.tmp 69) (.const (.bool true)) (.tmp 72)), none⟩,
 ⟨some 74, some (.move (.tmp 73)), none⟩,
 ⟨some 75, some (.fieldAddr Zc (.tmp 3) 5), some (some 74, true)⟩,
 ⟨some 76, some (.load Zd (.tmp 75)), some (some 74, true)⟩,
 ⟨some 77, some (.binOp .eql Zd (.tmp 76) (.const (.int .i64 0)) Zd), some (some 74, true)⟩,
 ⟨some 78, some (.pick (.tmp 74) (.tmp 77) (.const (.bool false))), none⟩,
 ⟨some 65, some (.assign (.tmp 78)), none⟩])
  (.cond (.tmp 65) (.seq (.reg [] [⟨some 79, some (.fieldAddr Zc (.tmp 3) 2), none⟩,
 ⟨some 80, some (.load Zd (.tmp 79)), none⟩,
 ⟨some 4, some (.assign (.tmp 80)), none⟩])
  .ret)
  (.seq (.reg [] [⟨some 82, some (.fieldAddr Zc (.tmp 3) 0), none⟩,
 ⟨some 83, some (.load Zd (.tmp 82)), none⟩,
 ⟨some 84, some (.binOp .eql Zd (.tmp 83) (.const (.int .i64 42)) Zd), none⟩,
 ⟨some 85, some (.move (.tmp 84)), none⟩,
 ⟨some 86, some (.fieldAddr Zc (.tmp 3) 0), some (some 85, false)⟩,
 ⟨some 87, some (.load Zd (.tmp 86)), some (some 85, false)⟩,
 ⟨some 88, some (.binOp .eql Zd (.tmp 87) (.const (.int .i64 43)) Zd), some (some 85, false)⟩,
 ⟨some 89, some (.pick (.tmp 85) (.const (.bool true)) (.tmp 88)), none⟩,
 ⟨some 90, some (.move (.tmp 89)), none⟩,
 ⟨some 91, some (.fieldAddr Zc (.tmp 3) 5), some (some 90, true)⟩,
 ⟨some 92, some (.load Zd (.tmp 91)), some (some 90, true)⟩,
 ⟨some 93, some (.fieldAddr Zc (.tmp 6) 1), some (some 90, true)⟩,
 ⟨some 94, some (.load Zd (.tmp 93)), some (some 90, true)⟩,
 ⟨some 95, some (.binOp .rem Zd (.tmp 92) (.tmp 94) Zd), some (some 90, true)⟩,
 ⟨some 96, some (.binOp .eql Zd (.tmp 95) (.const (.int .i64 0)) Zd), some (some 90, true)⟩,
 ⟨some 97, some (.pick (.tmp 90) (.tmp 96) (.const (.bool false))), none⟩,
 ⟨some 81, some (.assign (.tmp 97)), none⟩])
  (.cond (.tmp 81) (.seq (.reg [] [⟨some 98, some (.fieldAddr Zc (.tmp 3) 2), none⟩,
 ⟨some 99, some (.load Zd (.tmp 98)), none⟩,
 ⟨some 4, some (.assign (.tmp 99)), none⟩])
  .ret)
  (.seq (.reg [] [⟨some 101, some (.fieldAddr Zc (.tmp 3) 0), none⟩,
 ⟨some 102, some (.load Zd (.tmp 101)), none⟩,
 ⟨some 103, some (.binOp .eql Zd (.tmp 102) (.const (.int .i64 44)) Zd), none⟩,
 ⟨some 104, some (.move (.tmp 103)), none⟩,
 ⟨some 105, some (.fieldAddr Zc (.tmp 3) 5), some (some 104, true)⟩,
 ⟨some 106, some (.load Zd (.tmp 105)), some (some 104, true)⟩,
 ⟨some 107, some (.binOp .eql Zd (.tmp 106) (.const (.int .i64 1)) Zd), some (some 104, true)⟩,
 ⟨some 108, some (.pick (.tmp 104) (.tmp 107) (.const (.bool false))), none⟩,
 ⟨some 100, some (.assign (.tmp 108)), none⟩])
  (.cond (.tmp 100) (.seq (.reg [] [⟨some 109, some (.fieldAddr Zc (.tmp 3) 2), none⟩,
 ⟨some 110, some (.load Zd (.tmp 109)), none⟩,
 ⟨some 4, some (.assign (.tmp 110)), none⟩])
  .ret)
  (.seq (.reg [] [⟨some 112, some (.fieldAddr Zc (.tmp 3) 0), none⟩,
 ⟨some 113, some (.load Zd (.tmp 112)), none⟩,
 ⟨some 114, some (.binOp .eql Zd (.tmp 113) (.const (.int .i64 39)) Zd), none⟩,
 ⟨some 111, some (.assign (.tmp 114)), none⟩])
  (.cond (.tmp 111) (.seq (.reg [] [⟨some 115, some (.move (.tmp 0)), none⟩,
 ⟨some 116, some (.load Zc (.tmp 3)), none⟩,
 ⟨some 117, some (.load Zc (.tmp 6)), none⟩,
 ⟨some 118, some (.call ⟨(.value (.func Z6)), #[.tmp 115, .tmp 116, .tmp 117], #[Zj, Zc, Zc]⟩), none⟩,
 ⟨some 4, some (.assign (.tmp 118)), none⟩])
  .ret)
  .skip)))))))))))))
  (.seq (.reg [] [⟨some 119, some (.move (.tmp 0)), none⟩,
 ⟨some 120, some (.load Zc (.tmp 3)), none⟩,
 ⟨some 121, some (.call ⟨(.value (.func Zg)), #[.tmp 119, .tmp 120], #[Zj, Zc]⟩), none⟩,
 ⟨some 4, some (.assign (.tmp 121)), none⟩])
  .ret)))))
theorem Zfg {a0 a1 : AV} {H : AHeap} : R Zbf [a0, a1] H = fnK Try.prog [] H [(.tmp 4)] (evalL Try.prog KT R Zq (Env.args [a0, a1] 0) H) :=
  runs_body (D := DT) (f := Zbf) Try.func36 (by kernel_rfl) (by kernel_rfl) (by kernel_rfl) (by kernel_rfl) (by kernel_rfl) (Nat.le_of_ble_eq_true rfl)
def Zbr : LCode := (.seq (.reg [] [⟨some 3, some (.box Zc (.tmp 1)), none⟩,
 ⟨some 4, some (.assign (.const (.int .i64 0))), none⟩])
  (.seq (.reg [] [⟨some 8, some (.move (.tmp 0)), none⟩,
 ⟨some 9, some (.fieldAddr Zc (.tmp 3) 2), none⟩,
 ⟨some 10, some (.load Zd (.tmp 9)), none⟩,
 ⟨some 11, some (.call ⟨(.value (.func Z0)), #[.tmp 8, .tmp 10], #[Zj, Zd]⟩), none⟩,
 ⟨some 7, some (.move (.tmp 11)), none⟩,
 ⟨some 12, some (.extract (.tmp 7) 0), none⟩,
 ⟨some 13, some (.extract (.tmp 7) 1), none⟩,
 ⟨some 5, some (.alloc Zb), none⟩,
 ⟨none, some (.store Zb (.tmp 5) (.tmp 12)), none⟩,
 ⟨some 6, some (.assign (.tmp 13)), none⟩])
  (.seq (.block 0 (.seq (.reg [] [⟨some 15, some (.fieldAddr Zc (.tmp 3) 3), none⟩,
 ⟨some 16, some (.load Zd (.tmp 15)), none⟩,
 ⟨some 17, some (.fieldAddr Zc (.tmp 3) 4), none⟩,
 ⟨some 18, some (.load Zd (.tmp 17)), none⟩,
 ⟨some 19, some (.binOp .eql Zd (.tmp 16) (.tmp 18) Zd), none⟩,
 ⟨some 14, some (.assign (.tmp 19)), none⟩])
  (.cond (.tmp 14) (.seq (.reg [] [⟨some 20, some (.fieldAddr Zc (.tmp 3) 3), none⟩,
 ⟨some 21, some (.load Zd (.tmp 20)), none⟩,
 ⟨some 4, some (.assign (.tmp 21)), none⟩])
  .ret)
  (.seq (.reg [] [⟨some 23, some (.move (.tmp 6)), none⟩,
 ⟨some 24, some (.move (.tmp 23)), none⟩,
 ⟨some 25, some (.fieldAddr Zb (.tmp 5) 1), some (some 24, true)⟩,
 ⟨some 26, some (.load Ze (.tmp 25)), some (some 24, true)⟩,
 ⟨some 27, some (.binOp .eql Ze (.tmp 26) (.const (.int .u64 1)) Ze), some (some 24, true)⟩,
 ⟨some 28, some (.pick (.tmp 24) (.tmp 27) (.const (.bool false))), none⟩,
 ⟨some 22, some (.assign (.tmp 28)), none⟩])
  (.cond (.tmp 22) (.seq (.reg [] [⟨some 29, some (.fieldAddr Zc (.tmp 3) 3), none⟩,
 ⟨some 30, some (.load Zd (.tmp 29)), none⟩,
 ⟨some 4, some (.assign (.tmp 30)), none⟩])
  .ret)
  (.seq (.reg [] [⟨some 32, some (.move (.tmp 6)), none⟩,
 ⟨some 31, some (.assign (.tmp 32)), none⟩])
  (.cond (.tmp 31) (.seq (.reg [] [⟨some 33, some (.fieldAddr Zc (.tmp 3) 4), none⟩,
 ⟨some 34, some (.load Zd (.tmp 33)), none⟩,
 ⟨some 4, some (.assign (.tmp 34)), none⟩])
  .ret)
  .skip)))))))
  (.seq (.reg [] [⟨some 35, some (.move (.tmp 0)), none⟩,
 ⟨some 36, some (.load Zc (.tmp 3)), none⟩,
 ⟨some 37, some (.call ⟨(.value (.func Zg)), #[.tmp 35, .tmp 36], #[Zj, Zc]⟩), none⟩,
 ⟨some 4, some (.assign (.tmp 37)), none⟩])
  .ret))))
theorem Ze3 {a0 a1 : AV} {H : AHeap} : R Zbh [a0, a1] H = fnK Try.prog [] H [(.tmp 4)] (evalL Try.prog KT R Zbr (Env.args [a0, a1] 0) H) :=
  runs_body (D := DT) (f := Zbh) Try.func37 (by kernel_rfl) (by kernel_rfl) (by kernel_rfl) (by kernel_rfl) (by kernel_rfl) (Nat.le_of_ble_eq_true rfl)
def Zbg : LCode := (.seq (.reg [] [⟨some 3, some (.box Zc (.tmp 1)), none⟩,
 ⟨some 4, some (.assign (.const (.int .i64 0))), none⟩])
  (.seq (.seq (.reg [] [⟨some 8, some (.move (.tmp 0)), none⟩,
 ⟨some 9, some (.load Zc (.tmp 3)), none⟩,
 ⟨some 10, some (.call ⟨(.value (.func Zy)), #[.tmp 8, .tmp 9], #[Zj, Zc]⟩), none⟩,
 ⟨some 5, some (.assign (.tmp 10)), none⟩])
  (.seq (.reg [] [⟨some 11, some (.move (.tmp 5)), none⟩,
 ⟨some 12, some (.binOp .gtr Zd (.tmp 11) (.const (.int .i64 0)) Zd), none⟩,
 ⟨some 13, some (.move (.tmp 12)), none⟩,
 ⟨some 14, some (.move (.tmp 0)), some (some 13, false)⟩,
 ⟨some 15, some (.nilCheck (.tmp 14)), some (some 13, false)⟩,
 ⟨some 16, some (.fieldAddr Zr (.tmp 15) 2), some (some 13, false)⟩,
 ⟨some 17, some (.load Zbb (.tmp 16)), some (some 13, false)⟩,
 ⟨some 18, some (.binOp .neq Zbb (.tmp 17) (.const (.int .i64 0)) Zbb), some (some 13, false)⟩,
 ⟨some 19, some (.pick (.tmp 13) (.const (.bool true)) (.tmp 18)), none⟩])
  (.cond (.tmp 19) (.seq (.reg [] [⟨some 20, some (.move (.tmp 5)), none⟩,
 ⟨some 4, some (.assign (.tmp 20)), none⟩])
  .ret)
  .skip)))
  (.seq (.reg [] [⟨some 21, some (.fieldAddr Zc (.tmp 3) 0), none⟩,
 ⟨some 22, some (.load Zd (.tmp 21)), none⟩,
 ⟨some 23, some (.call ⟨(.value (.func Zd5)), #[.tmp 22], #[Zd]⟩), none⟩,
 ⟨some 6, some (.assign (.tmp 23)), none⟩])
  (.seq (.seq (.reg [] [⟨some 24, some (.fieldAddr Zc (.tmp 3) 2), none⟩,
 ⟨some 25, some (.load Zd (.tmp 24)), none⟩,
 ⟨some 26, some (.fieldAddr Zc (.tmp 3) 3), none⟩,
 ⟨some 27, some (.load Zd (.tmp 26)), none⟩,
 ⟨some 28, some (.binOp .eql Zd (.tmp 25) (.tmp 27) Zd), none⟩])
  (.cond (.tmp 28) (.block 0 (.seq (.reg [] [⟨some 30, some (.move (.tmp 6)), none⟩,
 ⟨some 31, some (.binOp .and Zd (.tmp 30) (.const (.int .i64 1)) Zd), none⟩,
 ⟨some 32, some (.binOp .neq Zd (.tmp 31) (.const (.int .i64 0)) Zd), none⟩,
 ⟨some 29, some (.assign (.tmp 32)), none⟩])
  (.cond (.tmp 29) (.seq (.reg [] [⟨some 33, some (.fieldAddr Zc (.tmp 3) 2), none⟩,
 ⟨some 34, some (.load Zd (.tmp 33)), none⟩,
 ⟨some 4, some (.assign (.tmp 34)), none⟩])
  .ret)
  (.seq (.reg [] [⟨some 36, some (.move (.tmp 6)), none⟩,
 ⟨some 37, some (.binOp .and Zd (.tmp 36) (.const (.int .i64 2)) Zd), none⟩,
 ⟨some 38, some (.binOp .neq Zd (.tmp 37) (.const (.int .i64 0)) Zd), none⟩,
 ⟨some 35, some (.assign (.tmp 38)), none⟩])
  (.cond (.tmp 35) (.seq (.reg [] [⟨some 39, some (.move (.tmp 0)), none⟩,
 ⟨some 40, some (.move (.tmp 0)), none⟩,
 ⟨some 41, some (.load Zc (.tmp 3)), none⟩,
 ⟨some 42, some (.call ⟨(.value (.func Zbv)), #[.tmp 40, .tmp 41], #[Zj, Zc]⟩), none⟩,
 ⟨some 43, some (.call ⟨(.value (.func Zh)), #[.tmp 39, .tmp 42], #[Zj, Zb]⟩), none⟩,
 ⟨some 4, some (.assign (.tmp 43)), none⟩])
  .ret)
  (.seq (.reg [] [⟨some 45, some (.move (.tmp 6)), none⟩,
 ⟨some 46, some (.binOp .and Zd (.tmp 45) (.const (.int .i64 4)) Zd), none⟩,
 ⟨some 47, some (.binOp .neq Zd (.tmp 46) (.const (.int .i64 0)) Zd), none⟩,
 ⟨some 44, some (.assign (.tmp 47)), none⟩])
  (.cond (.tmp 44) (.seq (.reg [] [⟨some 48, some (.move (.tmp 0)), none⟩,
 ⟨some 49, some (.call ⟨(.value (.func Zdt)), #[(.const (.bool true))], #[Zbe]⟩), none⟩,
 ⟨some 50, some (.call ⟨(.value (.func Zh)), #[.tmp 48, .tmp 49], #[Zj, Zb]⟩), none⟩,
 ⟨some 4, some (.assign (.tmp 50)), none⟩])
  .ret)
  .skip)))))))
  .skip))
  (.seq (.seq (.reg [] [⟨some 51, some (.move (.tmp 0)), none⟩,
 ⟨some 52, some (.load Zc (.tmp 3)), none⟩,
 ⟨some 53, some (.call ⟨(.value (.func Zbj)), #[.tmp 51, .tmp 52], #[Zj, Zc]⟩), none⟩,
 ⟨some 7, some (.assign (.tmp 53)), none⟩])
  (.seq (.reg [] [⟨some 54, some (.move (.tmp 7)), none⟩,
 ⟨some 55, some (.binOp .gtr Zd (.tmp 54) (.const (.int .i64 0)) Zd), none⟩])
  (.cond (.tmp 55) (.seq (.reg [] [⟨some 56, some (.move (.tmp 7)), none⟩,
 ⟨some 4, some (.assign (.tmp 56)), none⟩])
  .ret)
  .skip)))
  (.seq (.reg [] [⟨some 57, some (.move (.tmp 0)), none⟩,
 ⟨some 58, some (.load Zc (.tmp 3)), none⟩,
 ⟨some 59, some (.move (.tmp 6)), none⟩,
 ⟨some 60, some (.call ⟨(.value (.func Zz)), #[.tmp 57, .tmp 58, .tmp 59], #[Zj, Zc, Zd]⟩), none⟩,
 ⟨some 4, some (.assign (.tmp 60)), none⟩])
  .ret))))))
theorem Zfh {a0 a1 : AV} {H : AHeap} : R Zbq [a0, a1] H = fnK Try.prog [] H [(.tmp 4)] (evalL Try.prog KT R Zbg (Env.args [a0, a1] 0) H) :=
  runs_body (D := DT) (f := Zbq) Try.func38 (by kernel_rfl) (by kernel_rfl) (by kernel_rfl) (by kernel_rfl) (by kernel_rfl) (Nat.le_of_ble_eq_true rfl)
def Zfb : LCode := (.seq (.reg [] [⟨some 1, some (.box Zb (.tmp 0)), none⟩,
 ⟨some 2, some (.assign (.const (.bool false))), none⟩])
  (.seq (.seq (.reg [] [⟨some 3, some (.fieldAddr Zb (.tmp 1) 0), none⟩,
 ⟨some 4, some (.load Zd (.tmp 3)), none⟩,
 ⟨some 5, some (.binOp .eql Zd (.tmp 4) (.const (.int .i64 0)) Zd), none⟩])
  (.cond (.tmp 5) (.seq (.reg [] [⟨some 6, some (.fieldAddr Zb (.tmp 1) 1), none⟩,
 ⟨some 7, some (.load Ze (.tmp 6)), none⟩,
 ⟨some 8, some (.binOp .leq Ze (.tmp 7) (.const (.int .u64 1)) Ze), none⟩,
 ⟨some 9, some (.move (.tmp 8)), none⟩,
 ⟨some 10, some (.fieldAddr Zb (.tmp 1) 2), some (some 9, true)⟩,
 ⟨some 11, some (.load Ze (.tmp 10)), some (some 9, true)⟩,
 ⟨some 12, some (.binOp .eql Ze (.tmp 11) (.const (.int .u64 0)) Ze), some (some 9, true)⟩,
 ⟨some 13, some (.pick (.tmp 9) (.tmp 12) (.const (.bool false))), none⟩,
 ⟨some 2, some (.assign (.tmp 13)), none⟩])
  .ret)
  .skip))
  (.seq (.reg [12, 13] [⟨some 14, some (.fieldAddr Zb (.tmp 1) 0), none⟩,
 ⟨some 15, some (.load Zd (.tmp 14)), none⟩,
 ⟨some 16, some (.binOp .gtr Zd (.tmp 15) (.const (.int .i64 0)) Zd), none⟩,
 ⟨some 17, some (.move (.tmp 16)), none⟩,
 ⟨some 18, some (.fieldAddr Zb (.tmp 1) 0), some (some 17, true)⟩,
 ⟨some 19, some (.load Zd (.tmp 18)), some (some 17, true)⟩,
 ⟨some 20, some (.binOp .leq Zd (.tmp 19) (.const (.int .i64 128)) Zd), some (some 17, true)⟩,
 ⟨some 21, some (.pick (.tmp 17) (.tmp 20) (.const (.bool false))), none⟩,
 ⟨some 22, some (.move (.tmp 21)), none⟩,
 ⟨some 23, some (.fieldAddr Zb (.tmp 1) 0), some (some 22, true)⟩,
 ⟨some 24, some (.load Zd (.tmp 23)), some (some 22, true)⟩,
 ⟨some 25, some (.load Zb (.tmp 1)), some (some 22, true)⟩,
 ⟨some 26, some (.call ⟨(.value (.func Zch)), #[.tmp 25], #[Zb]⟩), some (some 22, true)⟩,
 ⟨some 27, some (.call ⟨(.value (.func Zcn)), #[.tmp 24, .tmp 26], #[Zd, Za]⟩), some (some 22, true)⟩,
 ⟨some 28, some (.load Zb (.tmp 1)), some (some 22, true)⟩,
 ⟨some 29, some (.binOp .eql Zb (.tmp 27) (.tmp 28) Zb), some (some 22, true)⟩,
 ⟨some 30, some (.pick (.tmp 22) (.tmp 29) (.const (.bool false))), none⟩,
 ⟨some 2, some (.assign (.tmp 30)), none⟩])
  .ret)))
theorem Zh1 {a0 : AV} {H : AHeap} : R Zdz [a0] H = fnK Try.prog [] H [(.tmp 2)] (evalL Try.prog KT R Zfb (Env.args [a0] 0) H) :=
  runs_body (D := DT) (f := Zdz) Try.func39 (by kernel_rfl) (by kernel_rfl) (by kernel_rfl) (by kernel_rfl) (by kernel_rfl) (Nat.le_of_ble_eq_true rfl)
def Zhh : LCode := (.seq (.reg [] [⟨some 2, some (.assign (.const (.bool false))), none⟩])
  (.seq (.reg [] [⟨some 3, some (.move (.tmp 0)), none⟩,
 ⟨some 4, some (.binOp .geq Zd (.tmp 3) (.const (.int .i64 0)) Zd), none⟩,
 ⟨some 5, some (.move (.tmp 4)), none⟩,
 ⟨some 6, some (.move (.tmp 0)), some (some 5, true)⟩,
 ⟨some 7, some (.binOp .leq Zd (.tmp 6) (.const (.int .i64 128)) Zd), some (some 5, true)⟩,
 ⟨some 8, some (.pick (.tmp 5) (.tmp 7) (.const (.bool false))), none⟩,
 ⟨some 2, some (.assign (.tmp 8)), none⟩])
  .ret))
theorem Zin {a0 : AV} {H : AHeap} : R Zfc [a0] H = fnK Try.prog [] H [(.tmp 2)] (evalL Try.prog KT R Zhh (Env.args [a0] 0) H) :=
  runs_body (D := DT) (f := Zfc) Try.func40 (by kernel_rfl) (by kernel_rfl) (by kernel_rfl) (by kernel_rfl) (by kernel_rfl) (Nat.le_of_ble_eq_true rfl)
def Zeq : LCode := (.seq (.reg [] [⟨some 8, some (.assign (.const (.int .i64 0))), none⟩,
 ⟨some 9, some (.assign (.const (.int .i64 0))), none⟩])
  (.seq (.reg [] [⟨some 13, some (.move (.tmp 0)), none⟩,
 ⟨some 14, some (.call ⟨(.value (.func Zds)), #[.tmp 13], #[Zd]⟩), none⟩,
 ⟨some 10, some (.assign (.tmp 14)), none⟩])
  (.seq (.seq (.reg [] [⟨some 15, some (.move (.tmp 10)), none⟩,
 ⟨some 16, some (.binOp .lss Zd (.tmp 15) (.const (.int .i64 1)) Zd), none⟩])
  (.cond (.tmp 16) (.seq (.reg [] [⟨some 8, some (.assign (.const (.int .i64 0))), none⟩,
 ⟨some 9, some (.assign (.const (.int .i64 32))), none⟩])
  .ret)
  .skip))
  (.seq (.seq (.reg [] [⟨some 17, some (.move (.tmp 3)), none⟩,
 ⟨some 18, some (.call ⟨(.builtin .len), #[.tmp 17], #[Zbm]⟩), none⟩,
 ⟨some 19, some (.move (.tmp 10)), none⟩,
 ⟨some 20, some (.binOp .neq Zd (.tmp 18) (.tmp 19) Zd), none⟩,
 ⟨some 21, some (.move (.tmp 20)), none⟩,
 ⟨some 22, some (.move (.tmp 3)), some (some 21, false)⟩,
 ⟨some 23, some (.call ⟨(.value (.func Zb8)), #[(.tmp 22), (.func Zda)], #[Zbm, Zjb]⟩), some (some 21, false)⟩,
 ⟨some 24, some (.pick (.tmp 21) (.const (.bool true)) (.tmp 23)), none⟩])
  (.cond (.tmp 24) (.seq (.reg [] [⟨some 8, some (.assign (.const (.int .i64 0))), none⟩,
 ⟨some 9, some (.assign (.const (.int .i64 30))), none⟩])
  .ret)
  .skip))
  (.seq (.reg [] [⟨some 26, some (.move (.tmp 0)), none⟩,
 ⟨some 27, some (.move (.tmp 1)), none⟩,
 ⟨some 28, some (.move (.tmp 2)), none⟩,
 ⟨some 29, some (.move (.tmp 3)), none⟩,
 ⟨some 30, some (.call ⟨(.value (.func Zft)), #[.tmp 26, .tmp 27, .tmp 28, .tmp 29], #[Zd, Zd, Zd, Zbm]⟩), none⟩,
 ⟨some 25, some (.move (.tmp 30)), none⟩,
 ⟨some 31, some (.extract (.tmp 25) 0), none⟩,
 ⟨some 32, some (.extract (.tmp 25) 1), none⟩,
 ⟨some 11, some (.assign (.tmp 31)), none⟩,
 ⟨some 12, some (.assign (.tmp 32)), none⟩])
  (.seq (.block 0 (.seq (.reg [] [⟨some 34, some (.move (.tmp 12)), none⟩,
 ⟨some 35, some (.unOp .not Zbe (.tmp 34)), none⟩,
 ⟨some 33, some (.assign (.tmp 35)), none⟩])
  (.cond (.tmp 33) (.seq (.reg [] [⟨some 8, some (.assign (.const (.int .i64 0))), none⟩,
 ⟨some 9, some (.assign (.const (.int .i64 30))), none⟩])
  .ret)
  (.seq (.reg [] [⟨some 37, some (.move (.tmp 11)), none⟩,
 ⟨some 38, some (.binOp .gtr Zd (.tmp 37) (.const (.int .i64 128)) Zd), none⟩,
 ⟨some 36, some (.assign (.tmp 38)), none⟩])
  (.cond (.tmp 36) (.seq (.reg [] [⟨some 8, some (.assign (.const (.int .i64 0))), none⟩,
 ⟨some 9, some (.assign (.const (.int .i64 31))), none⟩])
  .ret)
  .skip)))))
  (.seq (.reg [] [⟨some 39, some (.move (.tmp 11)), none⟩,
 ⟨some 8, some (.assign (.tmp 39)), none⟩,
 ⟨some 9, some (.assign (.const (.int .i64 0))), none⟩])
  .ret)))))))
theorem Zio {a0 a1 a2 a3 : AV} {H : AHeap} : R Zen [a0, a1, a2, a3] H = fnK Try.prog [] H [(.tmp 8), (.tmp 9)] (evalL Try.prog KT R Zeq (Env.args [a0, a1, a2, a3] 0) H) :=
  runs_body (D := DT) (f := Zen) Try.func41 (by kernel_rfl) (by kernel_rfl) (by kernel_rfl) (by kernel_rfl) (by kernel_rfl) (Nat.le_of_ble_eq_true rfl)
def Zd7 : LCode := (.seq (.reg [] [⟨some 23, some (.binOp .lss Zd (.tmp 22) (.tmp 21) Zd), none⟩])
  (.seq (.cond (.tmp 23) .skip
  (.exit 0))
  (.seq (.block 1 (.seq (.reg [] [⟨some 24, some (.move (.tmp 22)), none⟩,
 ⟨some 25, some (.indexAddr Zo (.tmp 20) (.tmp 22)), none⟩,
 ⟨some 26, some (.load Zb (.tmp 25)), none⟩,
 ⟨some 12, some (.alloc Zb), none⟩,
 ⟨some 11, some (.assign (.tmp 24)), none⟩,
 ⟨none, some (.store Zb (.tmp 12) (.tmp 26)), none⟩])
  (.seq (.reg [] [⟨some 27, some (.move (.tmp 10)), none⟩,
 ⟨some 28, some (.move (.tmp 11)), none⟩,
 ⟨some 29, some (.fieldAddr Zb (.tmp 12) 0), none⟩,
 ⟨some 30, some (.load Zd (.tmp 29)), none⟩,
 ⟨some 31, some (.indexAddr Zbm (.tmp 27) (.tmp 28)), none⟩,
 ⟨none, some (.store Zd (.tmp 31) (.tmp 30)), none⟩])
  (.seq (.reg [] [⟨some 32, some (.load Zb (.tmp 12)), none⟩,
 ⟨some 33, some (.call ⟨(.value (.func Zdz)), #[.tmp 32], #[Zb]⟩), none⟩,
 ⟨some 34, some (.unOp .not Zbe (.tmp 33)), none⟩])
  (.cond (.tmp 34) (.reg [] [⟨some 35, some (.move (.tmp 10)), none⟩,
 ⟨some 36, some (.move (.tmp 11)), none⟩,
 ⟨some 37, some (.indexAddr Zbm (.tmp 35) (.tmp 36)), none⟩,
 ⟨none, some (.store Zd (.tmp 37) (.const (.int .i64 (-1)))), none⟩])
  .skip)))))
  (.reg [] [⟨some 38, some (.binOp .add Zd (.tmp 22) (.const (.int .i64 1)) Zd), none⟩,
 ⟨some 22, some (.move (.tmp 38)), none⟩]))))
@[simp] theorem Ziy : defs Zd7 = [23, 24, 25, 26, 12, 11, 27, 28, 29, 30, 31, 32, 33, 34, 35, 36, 37, 38, 22] := by rfl
def Zg2 : LCode := (.seq (.reg [] [⟨some 8, some (.alloc Zb), none⟩,
 ⟨some 9, some (.assign (.const (.int .i64 0))), none⟩])
  (.seq (.reg [] [⟨some 17, some (.move (.tmp 3)), none⟩,
 ⟨some 18, some (.call ⟨(.builtin .len), #[.tmp 17], #[Zo]⟩), none⟩,
 ⟨some 19, some (.makeSlice Zbm (.tmp 18) (.tmp 18)), none⟩,
 ⟨some 10, some (.assign (.tmp 19)), none⟩])
  (.seq (.seq (.reg [] [⟨some 20, some (.move (.tmp 3)), none⟩,
 ⟨some 21, some (.call ⟨(.builtin .len), #[.tmp 20], #[Zo]⟩), none⟩,
 ⟨some 22, some (.move (.const (.int .i64 0))), none⟩])
  (.block 0 (.loop Zd7)))
  (.seq (.seq (.reg [] [⟨some 40, some (.move (.tmp 0)), none⟩,
 ⟨some 41, some (.move (.tmp 1)), none⟩,
 ⟨some 42, some (.move (.tmp 2)), none⟩,
 ⟨some 43, some (.move (.tmp 10)), none⟩,
 ⟨some 44, some (.call ⟨(.value (.func Zen)), #[.tmp 40, .tmp 41, .tmp 42, .tmp 43], #[Zd, Zd, Zd, Zbm]⟩), none⟩,
 ⟨some 39, some (.move (.tmp 44)), none⟩,
 ⟨some 45, some (.extract (.tmp 39) 0), none⟩,
 ⟨some 46, some (.extract (.tmp 39) 1), none⟩,
 ⟨some 13, some (.assign (.tmp 45)), none⟩,
 ⟨some 14, some (.assign (.tmp 46)), none⟩])
  (.seq (.reg [] [⟨some 47, some (.move (.tmp 14)), none⟩,
 ⟨some 48, some (.binOp .neq Zbb (.tmp 47) (.const (.int .i64 0)) Zbb), none⟩])
  (.cond (.tmp 48) (.seq (.reg [] [⟨some 49, some (.build Zb #[]), none⟩,
 ⟨some 50, some (.move (.tmp 14)), none⟩,
 ⟨none, some (.store Zb (.tmp 8) (.tmp 49)), none⟩,
 ⟨some 9, some (.assign (.tmp 50)), none⟩])
  .ret)
  .skip)))
  (.seq (.reg [] [⟨some 52, some (.move (.tmp 0)), none⟩,
 ⟨some 53, some (.call ⟨(.value (.func Zeb)), #[.tmp 52], #[Zd]⟩), none⟩,
 ⟨some 51, some (.move (.tmp 53)), none⟩,
 ⟨some 54, some (.extract (.tmp 51) 0), none⟩,
 ⟨some 55, some (.extract (.tmp 51) 1), none⟩,
 ⟨some 15, some (.alloc Zu), none⟩,
 ⟨none, some (.store Zu (.tmp 15) (.tmp 54)), none⟩,
 ⟨some 16, some (.assign (.tmp 55)), none⟩])
  (.seq (.seq (.reg [] [⟨some 56, some (.move (.tmp 16)), none⟩,
 ⟨some 57, some (.unOp .not Zbe (.tmp 56)), none⟩])
  (.cond (.tmp 57) (.reg [] [⟨some 58, some (.move (.tmp 0)), none⟩,
 ⟨some 59, some (.call ⟨(.value (.func Zfk)), #[.tmp 58], #[Zd]⟩), none⟩,
 ⟨none, some (.store Zu (.tmp 15) (.tmp 59)), none⟩])
  .skip))
  (.seq (.reg [] [⟨some 60, some (.fieldAddr Zu (.tmp 15) 0), none⟩,
 ⟨some 61, some (.load Zi9 (.tmp 60)), none⟩,
 ⟨some 62, some (.move (.tmp 1)), none⟩,
 ⟨some 63, some (.move (.tmp 2)), none⟩,
 ⟨some 64, some (.move (.tmp 3)), none⟩,
 ⟨some 65, some (.call ⟨(.value (.tmp 61)), #[.tmp 62, .tmp 63, .tmp 64], #[Zd, Zd, Zo]⟩), none⟩,
 ⟨some 66, some (.extract (.tmp 65) 0), none⟩,
 ⟨some 67, some (.extract (.tmp 65) 1), none⟩,
 ⟨none, some (.store Zb (.tmp 8) (.tmp 66)), none⟩,
 ⟨some 9, some (.assign (.tmp 67)), none⟩])
  .ret)))))))
theorem Zib {a0 a1 a2 a3 : AV} {H : AHeap} : R Zfj [a0, a1, a2, a3] H = fnK Try.prog [] H [(.cell 8 Zb), (.tmp 9)] (evalL Try.prog KT R Zg2 (Env.args [a0, a1, a2, a3] 0) H) :=
  runs_body (D := DT) (f := Zfj) Try.func42 (by kernel_rfl) (by kernel_rfl) (by kernel_rfl) (by kernel_rfl) (by kernel_rfl) (Nat.le_of_ble_eq_true rfl)
def Zbp : LCode := (.seq (.reg [] [⟨some 25, some (.binOp .lss Zd (.tmp 24) (.tmp 23) Zd), none⟩])
  (.seq (.cond (.tmp 25) .skip
  (.exit 0))
  (.seq (.block 1 (.seq (.reg [] [⟨some 26, some (.indexAddr Zbm (.tmp 22) (.tmp 24)), none⟩,
 ⟨some 27, some (.load Zd (.tmp 26)), none⟩,
 ⟨some 7, some (.assign (.tmp 27)), none⟩])
  (.seq (.reg [] [⟨some 29, some (.move (.tmp 0)), none⟩,
 ⟨some 30, some (.move (.tmp 7)), none⟩,
 ⟨some 31, some (.call ⟨(.value (.func Z0)), #[.tmp 29, .tmp 30], #[Zj, Zd]⟩), none⟩,
 ⟨some 28, some (.move (.tmp 31)), none⟩,
 ⟨some 32, some (.extract (.tmp 28) 0), none⟩,
 ⟨some 33, some (.extract (.tmp 28) 1), none⟩,
 ⟨some 8, some (.alloc Zb), none⟩,
 ⟨none, some (.store Zb (.tmp 8) (.tmp 32)), none⟩,
 ⟨some 9, some (.assign (.tmp 33)), none⟩])
  (.seq (.seq (.reg [] [⟨some 34, some (.move (.tmp 9)), none⟩,
 ⟨some 35, some (.unOp .not Zbe (.tmp 34)), none⟩])
  (.cond (.tmp 35) (.seq (.reg [] [⟨some 4, some (.assign (.const (.int .i64 0))), none⟩])
  .ret)
  .skip))
  (.reg [] [⟨some 36, some (.move (.tmp 5)), none⟩,
 ⟨some 37, some (.load Zb (.tmp 8)), none⟩,
 ⟨some 38, some (.buildSlice Zo 1 #[(0, (.tmp 37))]), none⟩,
 ⟨some 39, some (.call ⟨(.builtin .append), #[.tmp 36, .tmp 38], #[Zo, Zo]⟩), none⟩,
 ⟨some 5, some (.assign (.tmp 39)), none⟩])))))
  (.reg [] [⟨some 40, some (.binOp .add Zd (.tmp 24) (.const (.int .i64 1)) Zd), none⟩,
 ⟨some 24, some (.move (.tmp 40)), none⟩]))))
@[simp] theorem Zgt : defs Zbp = [25, 26, 27, 7, 29, 30, 31, 28, 32, 33, 8, 9, 34, 35, 4, 36, 37, 38, 39, 5, 40, 24] := by rfl
def Zdg : LCode := (.seq (.reg [] [⟨some 3, some (.box Zc (.tmp 1)), none⟩,
 ⟨some 4, some (.assign (.const (.int .i64 0))), none⟩])
  (.seq (.reg [] [⟨some 5, some (.assign (.const (.slice none 0 0))), none⟩])
  (.seq (.seq (.reg [8, 9, 5609] [⟨some 12, some (.fieldAddr Zc (.tmp 3) 2), none⟩,
 ⟨some 13, some (.load Zd (.tmp 12)), none⟩,
 ⟨some 14, some (.fieldAddr Zc (.tmp 3) 3), none⟩,
 ⟨some 15, some (.load Zd (.tmp 14)), none⟩,
 ⟨some 16, some (.fieldAddr Zc (.tmp 3) 4), none⟩,
 ⟨some 17, some (.load Zd (.tmp 16)), none⟩,
 ⟨some 19, some (.fieldAddr Zc (.tmp 3) 0), none⟩,
 ⟨some 20, some (.load Zd (.tmp 19)), none⟩,
 ⟨some 21, some (.call ⟨(.value (.func Zds)), #[.tmp 20], #[Zd]⟩), none⟩,
 ⟨some 18, some (.buildSlice Zbm 3 #[(0, (.tmp 13)), (1, (.tmp 15)), (2, (.tmp 17))]), none⟩,
 ⟨some 22, some (.slice Zbm (.tmp 18) none (some (.tmp 21)) none), none⟩,
 ⟨some 23, some (.call ⟨(.builtin .len), #[.tmp 22], #[Zbm]⟩), none⟩,
 ⟨some 24, some (.move (.const (.int .i64 0))), none⟩])
  (.block 0 (.loop Zbp)))
  (.seq (.reg [] [⟨some 42, some (.fieldAddr Zc (.tmp 3) 0), none⟩,
 ⟨some 43, some (.load Zd (.tmp 42)), none⟩,
 ⟨some 44, some (.fieldAddr Zc (.tmp 3) 5), none⟩,
 ⟨some 45, some (.load Zd (.tmp 44)), none⟩,
 ⟨some 46, some (.fieldAddr Zc (.tmp 3) 6), none⟩,
 ⟨some 47, some (.load Zd (.tmp 46)), none⟩,
 ⟨some 48, some (.move (.tmp 5)), none⟩,
 ⟨some 49, some (.call ⟨(.value (.func Zfj)), #[.tmp 43, .tmp 45, .tmp 47, .tmp 48], #[Zd, Zd, Zd, Zo]⟩), none⟩,
 ⟨some 41, some (.move (.tmp 49)), none⟩,
 ⟨some 50, some (.extract (.tmp 41) 0), none⟩,
 ⟨some 51, some (.extract (.tmp 41) 1), none⟩,
 ⟨some 10, some (.alloc Zb), none⟩,
 ⟨none, some (.store Zb (.tmp 10) (.tmp 50)), none⟩,
 ⟨some 11, some (.assign (.tmp 51)), none⟩])
  (.seq (.seq (.reg [] [⟨some 52, some (.move (.tmp 11)), none⟩,
 ⟨some 53, some (.binOp .neq Zbb (.tmp 52) (.const (.int .i64 0)) Zbb), none⟩])
  (.cond (.tmp 53) (.seq (.reg [] [⟨some 4, some (.assign (.const (.int .i64 0))), none⟩])
  .ret)
  .skip))
  (.seq (.reg [] [⟨some 54, some (.move (.tmp 0)), none⟩,
 ⟨some 55, some (.load Zb (.tmp 10)), none⟩,
 ⟨some 56, some (.call ⟨(.value (.func Zh)), #[.tmp 54, .tmp 55], #[Zj, Zb]⟩), none⟩,
 ⟨some 4, some (.assign (.tmp 56)), none⟩])
  .ret))))))
theorem Ze4 {a0 a1 : AV} {H : AHeap} : R Zy [a0, a1] H = fnK Try.prog [] H [(.tmp 4)] (evalL Try.prog KT R Zdg (Env.args [a0, a1] 0) H) :=
  runs_body (D := DT) (f := Zy) Try.func43 (by kernel_rfl) (by kernel_rfl) (by kernel_rfl) (by kernel_rfl) (by kernel_rfl) (Nat.le_of_ble_eq_true rfl)
def Zw : LCode := (.seq (.reg [] [⟨some 2, some (.assign (.const (.int .i64 0))), none⟩])
  (.seq (.seq (.reg [] [⟨some 3, some (.move (.tmp 0)), none⟩])
  (.block 0 (.seq (.seq (.reg [] [⟨some 5, some (.binOp .eql Zd (.tmp 3) (.const (.int .i64 4)) Zd), none⟩,
 ⟨some 4, some (.assign (.tmp 5)), none⟩])
  (.cond (.tmp 4) .skip
  (.reg [] [⟨some 6, some (.binOp .eql Zd (.tmp 3) (.const (.int .i64 5)) Zd), none⟩,
 ⟨some 4, some (.assign (.tmp 6)), none⟩])))
  (.cond (.tmp 4) (.seq (.reg [] [⟨some 2, some (.assign (.const (.int .i64 1))), none⟩])
  .ret)
  (.seq (.seq (.reg [] [⟨some 8, some (.binOp .eql Zd (.tmp 3) (.const (.int .i64 6)) Zd), none⟩,
 ⟨some 7, some (.assign (.tmp 8)), none⟩])
  (.cond (.tmp 7) .skip
  (.seq (.reg [] [⟨some 9, some (.binOp .eql Zd (.tmp 3) (.const (.int .i64 29)) Zd), none⟩,
 ⟨some 7, some (.assign (.tmp 9)), none⟩])
  (.cond (.tmp 7) .skip
  (.seq (.reg [] [⟨some 10, some (.binOp .eql Zd (.tmp 3) (.const (.int .i64 31)) Zd), none⟩,
 ⟨some 7, some (.assign (.tmp 10)), none⟩])
  (.cond (.tmp 7) .skip
  (.seq (.reg [] [⟨some 11, some (.binOp .eql Zd (.tmp 3) (.const (.int .i64 33)) Zd), none⟩,
 ⟨some 7, some (.assign (.tmp 11)), none⟩])
  (.cond (.tmp 7) .skip
  (.reg [] [⟨some 12, some (.binOp .eql Zd (.tmp 3) (.const (.int .i64 35)) Zd), none⟩,
 ⟨some 7, some (.assign (.tmp 12)), none⟩])))))))))
  (.cond (.tmp 7) (.seq (.reg [] [⟨some 2, some (.assign (.const (.int .i64 2))), none⟩])
  .ret)
  (.seq (.seq (.reg [] [⟨some 14, some (.binOp .eql Zd (.tmp 3) (.const (.int .i64 8)) Zd), none⟩,
 ⟨some 13, some (.assign (.tmp 14)), none⟩])
  (.cond (.tmp 13) .skip
  (.seq (.reg [] [⟨some 15, some (.binOp .eql Zd (.tmp 3) (.const (.int .i64 30)) Zd), none⟩,
 ⟨some 13, some (.assign (.tmp 15)), none⟩])
  (.cond (.tmp 13) .skip
  (.seq (.reg [] [⟨some 16, some (.binOp .eql Zd (.tmp 3) (.const (.int .i64 32)) Zd), none⟩,
 ⟨some 13, some (.assign (.tmp 16)), none⟩])
  (.cond (.tmp 13) .skip
  (.seq (.reg [] [⟨some 17, some (.binOp .eql Zd (.tmp 3) (.const (.int .i64 34)) Zd), none⟩,
 ⟨some 13, some (.assign (.tmp 17)), none⟩])
  (.cond (.tmp 13) .skip
  (.seq (.reg [] [⟨some 18, some (.binOp .eql Zd (.tmp 3) (.const (.int .i64 36)) Zd), none⟩,
 ⟨some 13, some (.assign (.tmp 18)), none⟩])
  (.cond (.tmp 13) .skip
  (.reg [] [⟨some 19, some (.binOp .eql Zd (.tmp 3) (.const (.int .i64 7)) Zd), none⟩,
 ⟨some 13, some (.assign (.tmp 19)), none⟩])))))))))))
  (.cond (.tmp 13) (.seq (.reg [] [⟨some 2, some (.assign (.const (.int .i64 4))), none⟩])
  .ret)
  (.seq (.reg [] [⟨some 21, some (.binOp .eql Zd (.tmp 3) (.const (.int .i64 12)) Zd), none⟩,
 ⟨some 20, some (.assign (.tmp 21)), none⟩])
  (.cond (.tmp 20) (.seq (.reg [] [⟨some 2, some (.assign (.const (.int .i64 9))), none⟩])
  .ret)
  (.seq (.reg [] [⟨some 23, some (.binOp .eql Zd (.tmp 3) (.const (.int .i64 13)) Zd), none⟩,
 ⟨some 22, some (.assign (.tmp 23)), none⟩])
  (.cond (.tmp 22) (.seq (.reg [] [⟨some 2, some (.assign (.const (.int .i64 17))), none⟩])
  .ret)
  (.seq (.reg [] [⟨some 25, some (.binOp .eql Zd (.tmp 3) (.const (.int .i64 14)) Zd), none⟩,
 ⟨some 24, some (.assign (.tmp 25)), none⟩])
  (.cond (.tmp 24) (.seq (.reg [] [⟨some 2, some (.assign (.const (.int .i64 18))), none⟩])
  .ret)
  (.seq (.reg [] [⟨some 27, some (.binOp .eql Zd (.tmp 3) (.const (.int .i64 18)) Zd), none⟩,
 ⟨some 26, some (.assign (.tmp 27)), none⟩])
  (.cond (.tmp 26) (.seq (.reg [] [⟨some 2, some (.assign (.const (.int .i64 16))), none⟩])
  .ret)
  (.seq (.reg [] [⟨some 29, some (.binOp .eql Zd (.tmp 3) (.const (.int .i64 19)) Zd), none⟩,
 ⟨some 28, some (.assign (.tmp 29)), none⟩])
  (.cond (.tmp 28) (.seq (.reg [] [⟨some 2, some (.assign (.const (.int .i64 34))), none⟩])
  .ret)
  (.seq (.reg [] [⟨some 31, some (.binOp .eql Zd (.tmp 3) (.const (.int .i64 20)) Zd), none⟩,
 ⟨some 30, some (.assign (.tmp 31)), none⟩])
  (.cond (.tmp 30) (.seq (.reg [] [⟨some 2, some (.assign (.const (.int .i64 264))), none⟩])
  .ret)
  (.seq (.reg [] [⟨some 33, some (.binOp .eql Zd (.tmp 3) (.const (.int .i64 21)) Zd), none⟩,
 ⟨some 32, some (.assign (.tmp 33)), none⟩])
  (.cond (.tmp 32) (.seq (.reg [] [⟨some 2, some (.assign (.const (.int .i64 256))), none⟩])
  .ret)
  (.seq (.seq (.reg [] [⟨some 35, some (.binOp .eql Zd (.tmp 3) (.const (.int .i64 26)) Zd), none⟩,
 ⟨some 34, some (.assign (.tmp 35)), none⟩])
  (.cond (.tmp 34) .skip
  (.seq (.reg [] [⟨some 36, some (.binOp .eql Zd (.tmp 3) (.const (.int .i64 27)) Zd), none⟩,
 ⟨some 34, some (.assign (.tmp 36)), none⟩])
  (.cond (.tmp 34) .skip
  (.reg [] [⟨some 37, some (.binOp .eql Zd (.tmp 3) (.const (.int .i64 28)) Zd), none⟩,
 ⟨some 34, some (.assign (.tmp 37)), none⟩])))))
  (.cond (.tmp 34) (.seq (.reg [] [⟨some 2, some (.assign (.const (.int .i64 96))), none⟩])
  .ret)
  (.seq (.seq (.reg [] [⟨some 39, some (.binOp .eql Zd (.tmp 3) (.const (.int .i64 3)) Zd), none⟩,
 ⟨some 38, some (.assign (.tmp 39)), none⟩])
  (.cond (.tmp 38) .skip
  (.seq (.reg [] [⟨some 40, some (.binOp .eql Zd (.tmp 3) (.const (.int .i64 10)) Zd), none⟩,
 ⟨some 38, some (.assign (.tmp 40)), none⟩])
  (.cond (.tmp 38) .skip
  (.reg [] [⟨some 41, some (.binOp .eql Zd (.tmp 3) (.const (.int .i64 11)) Zd), none⟩,
 ⟨some 38, some (.assign (.tmp 41)), none⟩])))))
  (.cond (.tmp 38) (.seq (.reg [] [⟨some 2, some (.assign (.const (.int .i64 128))), none⟩])
  .ret)
  .skip))))))))))))))))))))))))))
  (.seq (.reg [] [⟨some 2, some (.assign (.const (.int .i64 0))), none⟩])
  .ret)))
theorem Zhq {a0 : AV} {H : AHeap} : R Zd5 [a0] H = fnK Try.prog [] H [(.tmp 2)] (evalL Try.prog KT R Zw (Env.args [a0] 0) H) :=
  runs_body (D := DT) (f := Zd5) Try.func44 (by kernel_rfl) (by kernel_rfl) (by kernel_rfl) (by kernel_rfl) (by kernel_rfl) (Nat.le_of_ble_eq_true rfl)
def Z7 : LCode := (.seq (.reg [] [⟨some 4, some (.box Zc (.tmp 1)), none⟩,
 ⟨some 5, some (.box Zc (.tmp 2)), none⟩,
 ⟨some 6, some (.assign (.const (.int .i64 0))), none⟩])
  (.seq (.seq (.reg [] [⟨some 11, some (.fieldAddr Zc (.tmp 5) 0), none⟩,
 ⟨some 12, some (.load Zd (.tmp 11)), none⟩])
  (.block 0 (.seq (.reg [] [⟨some 14, some (.binOp .eql Zd (.tmp 12) (.const (.int .i64 39)) Zd), none⟩,
 ⟨some 13, some (.assign (.tmp 14)), none⟩])
  (.cond (.tmp 13) (.seq (.reg [] [⟨some 15, some (.move (.tmp 0)), none⟩,
 ⟨some 16, some (.fieldAddr Zc (.tmp 5) 2), none⟩,
 ⟨some 17, some (.load Zd (.tmp 16)), none⟩,
 ⟨some 18, some (.fieldAddr Zc (.tmp 4) 5), none⟩,
 ⟨some 19, some (.load Zd (.tmp 18)), none⟩,
 ⟨some 20, some (.fieldAddr Zc (.tmp 5) 6), none⟩,
 ⟨some 21, some (.load Zd (.tmp 20)), none⟩,
 ⟨some 22, some (.binOp .add Zd (.tmp 19) (.tmp 21) Zd), none⟩,
 ⟨some 23, some (.fieldAddr Zc (.tmp 4) 6), none⟩,
 ⟨some 24, some (.load Zd (.tmp 23)), none⟩,
 ⟨some 25, some (.fieldAddr Zc (.tmp 5) 6), none⟩,
 ⟨some 26, some (.load Zd (.tmp 25)), none⟩,
 ⟨some 27, some (.binOp .add Zd (.tmp 24) (.tmp 26) Zd), none⟩,
 ⟨some 28, some (.build Zc #[(0, (.const (.int .i64 39))), (2, (.tmp 17)), (5, (.tmp 22)), (6, (.tmp 27))]), none⟩,
 ⟨some 29, some (.call ⟨(.value (.func Zl)), #[.tmp 15, .tmp 28], #[Zj, Zc]⟩), none⟩,
 ⟨some 6, some (.assign (.tmp 29)), none⟩])
  .ret)
  (.seq (.reg [] [⟨some 31, some (.binOp .eql Zd (.tmp 12) (.const (.int .i64 38)) Zd), none⟩,
 ⟨some 30, some (.assign (.tmp 31)), none⟩])
  (.cond (.tmp 30) (.seq (.reg [10] [⟨some 33, some (.move (.tmp 0)), none⟩,
 ⟨some 34, some (.nilCheck (.tmp 33)), none⟩,
 ⟨some 35, some (.fieldAddr Zr (.tmp 34) 0), none⟩,
 ⟨some 36, some (.load Zf (.tmp 35)), none⟩,
 ⟨some 37, some (.fieldAddr Zc (.tmp 5) 3), none⟩,
 ⟨some 38, some (.load Zd (.tmp 37)), none⟩,
 ⟨some 39, some (.call ⟨(.value (.func Zp)), #[.tmp 36, .tmp 38], #[Zf, Zd]⟩), none⟩,
 ⟨some 32, some (.move (.tmp 39)), none⟩,
 ⟨some 40, some (.extract (.tmp 32) 0), none⟩,
 ⟨some 41, some (.extract (.tmp 32) 1), none⟩,
 ⟨some 7, some (.alloc Zc), none⟩,
 ⟨none, some (.store Zc (.tmp 7) (.tmp 40)), none⟩,
 ⟨some 8, some (.assign (.tmp 41)), none⟩])
  (.seq (.seq (.reg [] [⟨some 42, some (.fieldAddr Zc (.tmp 4) 6), none⟩,
 ⟨some 43, some (.load Zd (.tmp 42)), none⟩,
 ⟨some 44, some (.fieldAddr Zc (.tmp 7) 1), none⟩,
 ⟨some 45, some (.load Zd (.tmp 44)), none⟩,
 ⟨some 46, some (.binOp .geq Zd (.tmp 43) (.tmp 45) Zd), none⟩])
  (.cond (.tmp 46) (.seq (.reg [] [⟨some 47, some (.move (.tmp 0)), none⟩,
 ⟨some 48, some (.fieldAddr Zc (.tmp 5) 2), none⟩,
 ⟨some 49, some (.load Zd (.tmp 48)), none⟩,
 ⟨some 50, some (.fieldAddr Zc (.tmp 4) 5), none⟩,
 ⟨some 51, some (.load Zd (.tmp 50)), none⟩,
 ⟨some 52, some (.fieldAddr Zc (.tmp 7) 1), none⟩,
 ⟨some 53, some (.load Zd (.tmp 52)), none⟩,
 ⟨some 54, some (.binOp .sub Zd (.tmp 51) (.tmp 53) Zd), none⟩,
 ⟨some 55, some (.fieldAddr Zc (.tmp 4) 6), none⟩,
 ⟨some 56, some (.load Zd (.tmp 55)), none⟩,
 ⟨some 57, some (.fieldAddr Zc (.tmp 7) 1), none⟩,
 ⟨some 58, some (.load Zd (.tmp 57)), none⟩,
 ⟨some 59, some (.binOp .sub Zd (.tmp 56) (.tmp 58) Zd), none⟩,
 ⟨some 60, some (.build Zc #[(0, (.const (.int .i64 39))), (2, (.tmp 49)), (5, (.tmp 54)), (6, (.tmp 59))]), none⟩,
 ⟨some 61, some (.call ⟨(.value (.func Zl)), #[.tmp 47, .tmp 60], #[Zj, Zc]⟩), none⟩,
 ⟨some 6, some (.assign (.tmp 61)), none⟩])
  .ret)
  .skip))
  (.seq (.reg [] [⟨some 62, some (.fieldAddr Zc (.tmp 4) 5), none⟩,
 ⟨some 63, some (.load Zd (.tmp 62)), none⟩,
 ⟨some 64, some (.fieldAddr Zc (.tmp 7) 1), none⟩,
 ⟨some 65, some (.load Zd (.tmp 64)), none⟩,
 ⟨some 66, some (.binOp .lss Zd (.tmp 63) (.tmp 65) Zd), none⟩])
  (.cond (.tmp 66) (.seq (.reg [] [⟨some 67, some (.move (.tmp 0)), none⟩,
 ⟨some 68, some (.fieldAddr Zc (.tmp 5) 3), none⟩,
 ⟨some 69, some (.load Zd (.tmp 68)), none⟩,
 ⟨some 70, some (.fieldAddr Zc (.tmp 4) 5), none⟩,
 ⟨some 71, some (.load Zd (.tmp 70)), none⟩,
 ⟨some 72, some (.fieldAddr Zc (.tmp 4) 6), none⟩,
 ⟨some 73, some (.load Zd (.tmp 72)), none⟩,
 ⟨some 74, some (.build Zc #[(0, (.const (.int .i64 39))), (2, (.tmp 69)), (5, (.tmp 71)), (6, (.tmp 73))]), none⟩,
 ⟨some 75, some (.call ⟨(.value (.func Zl)), #[.tmp 67, .tmp 74], #[Zj, Zc]⟩), none⟩,
 ⟨some 6, some (.assign (.tmp 75)), none⟩])
  .ret)
  .skip))))
  (.seq (.seq (.reg [] [⟨some 77, some (.binOp .eql Zd (.tmp 12) (.const (.int .i64 40)) Zd), none⟩,
 ⟨some 76, some (.assign (.tmp 77)), none⟩])
  (.cond (.tmp 76) .skip
  (.reg [] [⟨some 78, some (.binOp .eql Zd (.tmp 12) (.const (.int .i64 41)) Zd), none⟩,
 ⟨some 76, some (.assign (.tmp 78)), none⟩])))
  (.cond (.tmp 76) (.seq (.reg [10] [⟨some 80, some (.move (.tmp 0)), none⟩,
 ⟨some 81, some (.nilCheck (.tmp 80)), none⟩,
 ⟨some 82, some (.fieldAddr Zr (.tmp 81) 0), none⟩,
 ⟨some 83, some (.load Zf (.tmp 82)), none⟩,
 ⟨some 84, some (.fieldAddr Zc (.tmp 5) 2), none⟩,
 ⟨some 85, some (.load Zd (.tmp 84)), none⟩,
 ⟨some 86, some (.call ⟨(.value (.func Zp)), #[.tmp 83, .tmp 85], #[Zf, Zd]⟩), none⟩,
 ⟨some 79, some (.move (.tmp 86)), none⟩,
 ⟨some 87, some (.extract (.tmp 79) 0), none⟩,
 ⟨some 88, some (.extract (.tmp 79) 1), none⟩,
 ⟨some 9, some (.alloc Zc), none⟩,
 ⟨none, some (.store Zc (.tmp 9) (.tmp 87)), none⟩,
 ⟨some 10, some (.assign (.tmp 88)), none⟩])
  (.seq (.reg [] [⟨some 89, some (.fieldAddr Zc (.tmp 4) 5), none⟩,
 ⟨some 90, some (.load Zd (.tmp 89)), none⟩,
 ⟨some 91, some (.fieldAddr Zc (.tmp 9) 1), none⟩,
 ⟨some 92, some (.load Zd (.tmp 91)), none⟩,
 ⟨some 93, some (.binOp .lss Zd (.tmp 90) (.tmp 92) Zd), none⟩])
  (.cond (.tmp 93) (.seq (.reg [] [⟨some 94, some (.move (.tmp 0)), none⟩,
 ⟨some 95, some (.fieldAddr Zc (.tmp 5) 2), none⟩,
 ⟨some 96, some (.load Zd (.tmp 95)), none⟩,
 ⟨some 97, some (.fieldAddr Zc (.tmp 4) 5), none⟩,
 ⟨some 98, some (.load Zd (.tmp 97)), none⟩,
 ⟨some 99, some (.fieldAddr Zc (.tmp 4) 6), none⟩,
 ⟨some 100, some (.load Zd (.tmp 99)), none⟩,
 ⟨some 101, some (.build Zc #[(0, (.const (.int .i64 39))), (2, (.tmp 96)), (5, (.tmp 98)), (6, (.tmp 100))]), none⟩,
 ⟨some 102, some (.call ⟨(.value (.func Zl)), #[.tmp 94, .tmp 101], #[Zj, Zc]⟩), none⟩,
 ⟨some 6, some (.assign (.tmp 102)), none⟩])
  .ret)
  .skip)))
  .skip))))))))
  (.seq (.reg [] [⟨some 103, some (.move (.tmp 0)), none⟩,
 ⟨some 104, some (.load Zc (.tmp 4)), none⟩,
 ⟨some 105, some (.call ⟨(.value (.func Zg)), #[.tmp 103, .tmp 104], #[Zj, Zc]⟩), none⟩,
 ⟨some 6, some (.assign (.tmp 105)), none⟩])
  .ret)))
theorem Ze8 {a0 a1 a2 : AV} {H : AHeap} : R Z6 [a0, a1, a2] H = fnK Try.prog [] H [(.tmp 6)] (evalL Try.prog KT R Z7 (Env.args [a0, a1, a2] 0) H) :=
  runs_body (D := DT) (f := Z6) Try.func45 (by kernel_rfl) (by kernel_rfl) (by kernel_rfl) (by kernel_rfl) (by kernel_rfl) (Nat.le_of_ble_eq_true rfl)
def Zdq : LCode := (.seq (.reg [] [⟨some 4, some (.alloc Zb), none⟩,
 ⟨some 5, some (.assign (.const (.bool false))), none⟩])
  (.seq (.reg [] [⟨some 9, some (.move (.tmp 0)), none⟩,
 ⟨some 10, some (.nilCheck (.tmp 9)), none⟩,
 ⟨some 11, some (.fieldAddr Zr (.tmp 10) 0), none⟩,
 ⟨some 12, some (.load Zf (.tmp 11)), none⟩,
 ⟨some 13, some (.move (.tmp 1)), none⟩,
 ⟨some 14, some (.call ⟨(.value (.func Zp)), #[.tmp 12, .tmp 13], #[Zf, Zd]⟩), none⟩,
 ⟨some 8, some (.move (.tmp 14)), none⟩,
 ⟨some 15, some (.extract (.tmp 8) 0), none⟩,
 ⟨some 16, some (.extract (.tmp 8) 1), none⟩,
 ⟨some 6, some (.alloc Zc), none⟩,
 ⟨none, some (.store Zc (.tmp 6) (.tmp 15)), none⟩,
 ⟨some 7, some (.assign (.tmp 16)), none⟩])
  (.seq (.reg [3, 5, 999, 1006] [⟨some 17, some (.fieldAddr Zc (.tmp 6) 7), none⟩,
 ⟨some 18, some (.load Zb (.tmp 17)), none⟩,
 ⟨some 19, some (.fieldAddr Zc (.tmp 6) 0), none⟩,
 ⟨some 20, some (.load Zd (.tmp 19)), none⟩,
 ⟨some 21, some (.binOp .eql Zd (.tmp 20) (.const (.int .i64 1)) Zd), none⟩,
 ⟨none, some (.store Zb (.tmp 4) (.tmp 18)), none⟩,
 ⟨some 5, some (.assign (.tmp 21)), none⟩])
  .ret)))
theorem Ze9 {a0 a1 : AV} {H : AHeap} : R Z0 [a0, a1] H = fnK Try.prog [] H [(.cell 4 Zb), (.tmp 5)] (evalL Try.prog KT R Zdq (Env.args [a0, a1] 0) H) :=
  runs_body (D := DT) (f := Z0) Try.func46 (by kernel_rfl) (by kernel_rfl) (by kernel_rfl) (by kernel_rfl) (by kernel_rfl) (Nat.le_of_ble_eq_true rfl)
def Zc8 : LCode := (.seq (.reg [] [⟨some 3, some (.box Zb (.tmp 1)), none⟩,
 ⟨some 4, some (.assign (.const (.int .i64 0))), none⟩])
  (.seq (.reg [] [⟨some 5, some (.move (.tmp 0)), none⟩,
 ⟨some 6, some (.fieldAddr Zb (.tmp 3) 0), none⟩,
 ⟨some 7, some (.load Zd (.tmp 6)), none⟩,
 ⟨some 8, some (.load Zb (.tmp 3)), none⟩,
 ⟨some 9, some (.build Zc #[(0, (.const (.int .i64 1))), (1, (.tmp 7)), (7, (.tmp 8))]), none⟩,
 ⟨some 10, some (.call ⟨(.value (.func Zg)), #[.tmp 5, .tmp 9], #[Zj, Zc]⟩), none⟩,
 ⟨some 4, some (.assign (.tmp 10)), none⟩])
  .ret))
theorem Zer {a0 a1 : AV} {H : AHeap} : R Zh [a0, a1] H = fnK Try.prog [] H [(.tmp 4)] (evalL Try.prog KT R Zc8 (Env.args [a0, a1] 0) H) :=
  runs_body (D := DT) (f := Zh) Try.func47 (by kernel_rfl) (by kernel_rfl) (by kernel_rfl) (by kernel_rfl) (by kernel_rfl) (Nat.le_of_ble_eq_true rfl)
def Zcc : LCode := (.seq (.reg [] [⟨some 3, some (.box Zc (.tmp 1)), none⟩,
 ⟨some 4, some (.alloc Zb), none⟩])
  (.seq (.seq (.reg [] [⟨some 7, some (.fieldAddr Zc (.tmp 3) 0), none⟩,
 ⟨some 8, some (.load Zd (.tmp 7)), none⟩,
 ⟨some 9, some (.binOp .eql Zd (.tmp 8) (.const (.int .i64 14)) Zd), none⟩,
 ⟨some 10, some (.move (.tmp 9)), none⟩,
 ⟨some 11, some (.fieldAddr Zc (.tmp 3) 0), some (some 10, false)⟩,
 ⟨some 12, some (.load Zd (.tmp 11)), some (some 10, false)⟩,
 ⟨some 13, some (.binOp .eql Zd (.tmp 12) (.const (.int .i64 19)) Zd), some (some 10, false)⟩,
 ⟨some 14, some (.pick (.tmp 10) (.const (.bool true)) (.tmp 13)), none⟩])
  (.cond (.tmp 14) (.seq (.reg [10] [⟨some 16, some (.move (.tmp 0)), none⟩,
 ⟨some 17, some (.nilCheck (.tmp 16)), none⟩,
 ⟨some 18, some (.fieldAddr Zr (.tmp 17) 0), none⟩,
 ⟨some 19, some (.load Zf (.tmp 18)), none⟩,
 ⟨some 20, some (.fieldAddr Zc (.tmp 3) 2), none⟩,
 ⟨some 21, some (.load Zd (.tmp 20)), none⟩,
 ⟨some 22, some (.call ⟨(.value (.func Zp)), #[.tmp 19, .tmp 21], #[Zf, Zd]⟩), none⟩,
 ⟨some 15, some (.move (.tmp 22)), none⟩,
 ⟨some 23, some (.extract (.tmp 15) 0), none⟩,
 ⟨some 24, some (.extract (.tmp 15) 1), none⟩,
 ⟨some 5, some (.alloc Zc), none⟩,
 ⟨none, some (.store Zc (.tmp 5) (.tmp 23)), none⟩,
 ⟨some 6, some (.assign (.tmp 24)), none⟩])
  (.seq (.reg [] [⟨some 25, some (.fieldAddr Zc (.tmp 5) 1), none⟩,
 ⟨some 26, some (.load Zd (.tmp 25)), none⟩,
 ⟨some 27, some (.build Zb #[(0, (.tmp 26))]), none⟩,
 ⟨none, some (.store Zb (.tmp 4) (.tmp 27)), none⟩])
  .ret))
  .skip))
  (.seq (.reg [] [⟨some 28, some (.build Zb #[]), none⟩,
 ⟨none, some (.store Zb (.tmp 4) (.tmp 28)), none⟩])
  .ret)))
theorem Zff {a0 a1 : AV} {H : AHeap} : R Zbv [a0, a1] H = fnK Try.prog [] H [(.cell 4 Zb)] (evalL Try.prog KT R Zcc (Env.args [a0, a1] 0) H) :=
  runs_body (D := DT) (f := Zbv) Try.func48 (by kernel_rfl) (by kernel_rfl) (by kernel_rfl) (by kernel_rfl) (by kernel_rfl) (Nat.le_of_ble_eq_true rfl)
def Zhi : LCode := (.seq (.reg [] [⟨some 2, some (.alloc Zb), none⟩])
  (.seq (.seq (.reg [] [⟨some 3, some (.move (.tmp 0)), none⟩])
  (.cond (.tmp 3) (.seq (.reg [] [⟨some 4, some (.build Zb #[(1, (.const (.int .u64 1)))]), none⟩,
 ⟨none, some (.store Zb (.tmp 2) (.tmp 4)), none⟩])
  .ret)
  .skip))
  (.seq (.reg [] [⟨some 5, some (.build Zb #[]), none⟩,
 ⟨none, some (.store Zb (.tmp 2) (.tmp 5)), none⟩])
  .ret)))
theorem Zic {a0 : AV} {H : AHeap} : R Zdt [a0] H = fnK Try.prog [] H [(.cell 2 Zb)] (evalL Try.prog KT R Zhi (Env.args [a0] 0) H) :=
  runs_body (D := DT) (f := Zdt) Try.func49 (by kernel_rfl) (by kernel_rfl) (by kernel_rfl) (by kernel_rfl) (by kernel_rfl) (Nat.le_of_ble_eq_true rfl)
def Zk : LCode := (.seq (.reg [] [⟨some 3, some (.box Zc (.tmp 1)), none⟩,
 ⟨some 4, some (.assign (.const (.int .i64 0))), none⟩])
  (.seq (.seq (.reg [] [⟨some 10, some (.fieldAddr Zc (.tmp 3) 0), none⟩,
 ⟨some 11, some (.load Zd (.tmp 10)), none⟩,
 ⟨some 12, some (.binOp .lss Zd (.tmp 11) (.const (.int .i64 4)) Zd), none⟩,
 ⟨some 13, some (.move (.tmp 12)), none⟩,
 ⟨some 14, some (.fieldAddr Zc (.tmp 3) 0), some (some 13, false)⟩,
 ⟨some 15, some (.load Zd (.tmp 14)), some (some 13, false)⟩,
 ⟨some 16, some (.binOp .gtr Zd (.tmp 15) (.const (.int .i64 8)) Zd), some (some 13, false)⟩,
 ⟨some 17, some (.pick (.tmp 13) (.const (.bool true)) (.tmp 16)), none⟩])
  (.cond (.tmp 17) (.seq (.reg [] [⟨some 4, some (.assign (.const (.int .i64 0))), none⟩])
  .ret)
  .skip))
  (.seq (.reg [] [⟨some 18, some (.fieldAddr Zc (.tmp 3) 2), none⟩,
 ⟨some 19, some (.load Zd (.tmp 18)), none⟩,
 ⟨some 20, some (.fieldAddr Zc (.tmp 3) 3), none⟩,
 ⟨some 21, some (.load Zd (.tmp 20)), none⟩,
 ⟨some 5, some (.assign (.tmp 19)), none⟩,
 ⟨some 6, some (.assign (.tmp 21)), none⟩])
  (.seq (.reg [] [⟨some 23, some (.move (.tmp 0)), none⟩,
 ⟨some 24, some (.move (.tmp 5)), none⟩,
 ⟨some 25, some (.call ⟨(.value (.func Z0)), #[.tmp 23, .tmp 24], #[Zj, Zd]⟩), none⟩,
 ⟨some 22, some (.move (.tmp 25)), none⟩,
 ⟨some 26, some (.extract (.tmp 22) 0), none⟩,
 ⟨some 27, some (.extract (.tmp 22) 1), none⟩,
 ⟨some 7, some (.alloc Zb), none⟩,
 ⟨none, some (.store Zb (.tmp 7) (.tmp 26)), none⟩,
 ⟨some 8, some (.assign (.tmp 27)), none⟩])
  (.seq (.seq (.reg [] [⟨some 28, some (.move (.tmp 8)), none⟩,
 ⟨some 29, some (.unOp .not Zbe (.tmp 28)), none⟩,
 ⟨some 30, some (.move (.tmp 29)), none⟩,
 ⟨some 31, some (.fieldAddr Zc (.tmp 3) 0), some (some 30, true)⟩,
 ⟨some 32, some (.load Zd (.tmp 31)), some (some 30, true)⟩,
 ⟨some 33, some (.binOp .neq Zd (.tmp 32) (.const (.int .i64 7)) Zd), some (some 30, true)⟩,
 ⟨some 34, some (.pick (.tmp 30) (.tmp 33) (.const (.bool false))), none⟩])
  (.cond (.tmp 34) (.seq (.reg [] [⟨some 35, some (.move (.tmp 6)), none⟩,
 ⟨some 36, some (.move (.tmp 5)), none⟩,
 ⟨some 5, some (.assign (.tmp 35)), none⟩,
 ⟨some 6, some (.assign (.tmp 36)), none⟩])
  (.reg [] [⟨some 38, some (.move (.tmp 0)), none⟩,
 ⟨some 39, some (.move (.tmp 5)), none⟩,
 ⟨some 40, some (.call ⟨(.value (.func Z0)), #[.tmp 38, .tmp 39], #[Zj, Zd]⟩), none⟩,
 ⟨some 37, some (.move (.tmp 40)), none⟩,
 ⟨some 41, some (.extract (.tmp 37) 0), none⟩,
 ⟨some 42, some (.extract (.tmp 37) 1), none⟩,
 ⟨none, some (.store Zb (.tmp 7) (.tmp 41)), none⟩,
 ⟨some 8, some (.assign (.tmp 42)), none⟩]))
  .skip))
  (.seq (.seq (.reg [] [⟨some 43, some (.move (.tmp 8)), none⟩,
 ⟨some 44, some (.unOp .not Zbe (.tmp 43)), none⟩,
 ⟨some 45, some (.move (.tmp 44)), none⟩,
 ⟨some 46, some (.fieldAddr Zb (.tmp 7) 0), some (some 45, false)⟩,
 ⟨some 47, some (.load Zd (.tmp 46)), some (some 45, false)⟩,
 ⟨some 48, some (.binOp .gtr Zd (.tmp 47) (.const (.int .i64 0)) Zd), some (some 45, false)⟩,
 ⟨some 49, some (.pick (.tmp 45) (.const (.bool true)) (.tmp 48)), none⟩])
  (.cond (.tmp 49) (.seq (.reg [] [⟨some 4, some (.assign (.const (.int .i64 0))), none⟩])
  .ret)
  .skip))
  (.seq (.reg [] [⟨some 50, some (.fieldAddr Zb (.tmp 7) 1), none⟩,
 ⟨some 51, some (.load Ze (.tmp 50)), none⟩,
 ⟨some 52, some (.binOp .eql Ze (.tmp 51) (.const (.int .u64 1)) Ze), none⟩,
 ⟨some 9, some (.assign (.tmp 52)), none⟩])
  (.seq (.seq (.reg [] [⟨some 53, some (.fieldAddr Zc (.tmp 3) 0), none⟩,
 ⟨some 54, some (.load Zd (.tmp 53)), none⟩])
  (.block 0 (.seq (.reg [] [⟨some 56, some (.binOp .eql Zd (.tmp 54) (.const (.int .i64 4)) Zd), none⟩,
 ⟨some 55, some (.assign (.tmp 56)), none⟩])
  (.cond (.tmp 55) (.seq (.seq (.reg [] [⟨some 57, some (.move (.tmp 9)), none⟩])
  (.cond (.tmp 57) (.seq (.reg [] [⟨some 58, some (.move (.tmp 6)), none⟩,
 ⟨some 4, some (.assign (.tmp 58)), none⟩])
  .ret)
  .skip))
  (.seq (.reg [] [⟨some 59, some (.move (.tmp 5)), none⟩,
 ⟨some 4, some (.assign (.tmp 59)), none⟩])
  .ret))
  (.seq (.reg [] [⟨some 61, some (.binOp .eql Zd (.tmp 54) (.const (.int .i64 5)) Zd), none⟩,
 ⟨some 60, some (.assign (.tmp 61)), none⟩])
  (.cond (.tmp 60) (.seq (.seq (.reg [] [⟨some 62, some (.move (.tmp 9)), none⟩])
  (.cond (.tmp 62) (.seq (.reg [] [⟨some 63, some (.move (.tmp 5)), none⟩,
 ⟨some 4, some (.assign (.tmp 63)), none⟩])
  .ret)
  .skip))
  (.seq (.reg [] [⟨some 64, some (.move (.tmp 6)), none⟩,
 ⟨some 4, some (.assign (.tmp 64)), none⟩])
  .ret))
  (.seq (.reg [] [⟨some 66, some (.binOp .eql Zd (.tmp 54) (.const (.int .i64 7)) Zd), none⟩,
 ⟨some 65, some (.assign (.tmp 66)), none⟩])
  (.cond (.tmp 65) (.seq (.seq (.reg [] [⟨some 67, some (.move (.tmp 9)), none⟩])
  (.cond (.tmp 67) (.seq (.reg [] [⟨some 68, some (.move (.tmp 6)), none⟩,
 ⟨some 4, some (.assign (.tmp 68)), none⟩])
  .ret)
  .skip))
  (.seq (.reg [] [⟨some 69, some (.move (.tmp 0)), none⟩,
 ⟨some 70, some (.call ⟨(.value (.func Zdt)), #[(.const (.bool true))], #[Zbe]⟩), none⟩,
 ⟨some 71, some (.call ⟨(.value (.func Zh)), #[.tmp 69, .tmp 70], #[Zj, Zb]⟩), none⟩,
 ⟨some 4, some (.assign (.tmp 71)), none⟩])
  .ret))
  (.seq (.reg [] [⟨some 73, some (.binOp .eql Zd (.tmp 54) (.const (.int .i64 6)) Zd), none⟩,
 ⟨some 72, some (.assign (.tmp 73)), none⟩])
  (.cond (.tmp 72) (.reg [] [⟨some 74, some (.move (.tmp 9)), none⟩,
 ⟨some 75, some (.unOp .not Zbe (.tmp 74)), none⟩,
 ⟨some 9, some (.assign (.tmp 75)), none⟩])
  .skip))))))))))
  (.seq (.seq (.reg [] [⟨some 76, some (.move (.tmp 9)), none⟩])
  (.cond (.tmp 76) (.seq (.reg [] [⟨some 77, some (.move (.tmp 6)), none⟩,
 ⟨some 4, some (.assign (.tmp 77)), none⟩])
  .ret)
  .skip))
  (.seq (.reg [] [⟨some 78, some (.move (.tmp 0)), none⟩,
 ⟨some 79, some (.move (.tmp 6)), none⟩,
 ⟨some 80, some (.build Zc #[(0, (.const (.int .i64 3))), (2, (.tmp 79))]), none⟩,
 ⟨some 81, some (.call ⟨(.value (.func Zl)), #[.tmp 78, .tmp 80], #[Zj, Zc]⟩), none⟩,
 ⟨some 4, some (.assign (.tmp 81)), none⟩])
  .ret))))))))))
theorem Zfa {a0 a1 : AV} {H : AHeap} : R Zbj [a0, a1] H = fnK Try.prog [] H [(.tmp 4)] (evalL Try.prog KT R Zk (Env.args [a0, a1] 0) H) :=
  runs_body (D := DT) (f := Zbj) Try.func50 (by kernel_rfl) (by kernel_rfl) (by kernel_rfl) (by kernel_rfl) (by kernel_rfl) (Nat.le_of_ble_eq_true rfl)
def Zn : LCode := (.seq (.reg [] [⟨some 4, some (.box Zc (.tmp 1)), none⟩,
 ⟨some 6, some (.assign (.const (.int .i64 0))), none⟩])
  (.seq (.block 0 (.seq (.seq (.reg [] [⟨some 10, some (.move (.tmp 2)), none⟩,
 ⟨some 11, some (.binOp .and Zd (.tmp 10) (.const (.int .i64 8)) Zd), none⟩,
 ⟨some 12, some (.binOp .neq Zd (.tmp 11) (.const (.int .i64 0)) Zd), none⟩,
 ⟨some 13, some (.move (.tmp 12)), none⟩,
 ⟨some 14, some (.move (.tmp 0)), some (some 13, true)⟩,
 ⟨some 15, some (.fieldAddr Zc (.tmp 4) 2), some (some 13, true)⟩,
 ⟨some 16, some (.load Zd (.tmp 15)), some (some 13, true)⟩,
 ⟨some 17, some (.call ⟨(.value (.func Z3)), #[(.tmp 14), (.tmp 16), (.const (.int .u64 0))], #[Zj, Zd, Ze]⟩), some (some 13, true)⟩,
 ⟨some 18, some (.move (.tmp 17)), some (some 13, true)⟩,
 ⟨some 19, some (.move (.tmp 0)), some (some 18, false)⟩,
 ⟨some 20, some (.fieldAddr Zc (.tmp 4) 3), some (some 18, false)⟩,
 ⟨some 21, some (.load Zd (.tmp 20)), some (some 18, false)⟩,
 ⟨some 22, some (.call ⟨(.value (.func Z3)), #[(.tmp 19), (.tmp 21), (.const (.int .u64 0))], #[Zj, Zd, Ze]⟩), some (some 18, false)⟩,
 ⟨some 23, some (.pick (.tmp 18) (.const (.bool true)) (.tmp 22)), some (some 13, true)⟩,
 ⟨some 24, some (.pick (.tmp 13) (.tmp 23) (.const (.bool false))), none⟩,
 ⟨some 9, some (.assign (.tmp 24)), none⟩])
  (.cond (.tmp 9) .skip
  (.reg [] [⟨some 25, some (.move (.tmp 2)), none⟩,
 ⟨some 26, some (.binOp .and Zd (.tmp 25) (.const (.int .i64 64)) Zd), none⟩,
 ⟨some 27, some (.binOp .neq Zd (.tmp 26) (.const (.int .i64 0)) Zd), none⟩,
 ⟨some 28, some (.move (.tmp 27)), none⟩,
 ⟨some 29, some (.move (.tmp 0)), some (some 28, true)⟩,
 ⟨some 30, some (.fieldAddr Zc (.tmp 4) 2), some (some 28, true)⟩,
 ⟨some 31, some (.load Zd (.tmp 30)), some (some 28, true)⟩,
 ⟨some 32, some (.call ⟨(.value (.func Z3)), #[(.tmp 29), (.tmp 31), (.const (.int .u64 0))], #[Zj, Zd, Ze]⟩), some (some 28, true)⟩,
 ⟨some 33, some (.pick (.tmp 28) (.tmp 32) (.const (.bool false))), none⟩,
 ⟨some 9, some (.assign (.tmp 33)), none⟩])))
  (.cond (.tmp 9) (.seq (.reg [10] [⟨some 35, some (.move (.tmp 0)), none⟩,
 ⟨some 36, some (.nilCheck (.tmp 35)), none⟩,
 ⟨some 37, some (.fieldAddr Zr (.tmp 36) 0), none⟩,
 ⟨some 38, some (.load Zf (.tmp 37)), none⟩,
 ⟨some 39, some (.fieldAddr Zc (.tmp 4) 2), none⟩,
 ⟨some 40, some (.load Zd (.tmp 39)), none⟩,
 ⟨some 41, some (.call ⟨(.value (.func Zp)), #[.tmp 38, .tmp 40], #[Zf, Zd]⟩), none⟩,
 ⟨some 34, some (.move (.tmp 41)), none⟩,
 ⟨some 42, some (.extract (.tmp 34) 0), none⟩,
 ⟨some 43, some (.extract (.tmp 34) 1), none⟩,
 ⟨some 7, some (.alloc Zc), none⟩,
 ⟨none, some (.store Zc (.tmp 7) (.tmp 42)), none⟩,
 ⟨some 8, some (.assign (.tmp 43)), none⟩])
  (.seq (.reg [] [⟨some 44, some (.move (.tmp 0)), none⟩,
 ⟨some 45, some (.fieldAddr Zc (.tmp 7) 1), none⟩,
 ⟨some 46, some (.load Zd (.tmp 45)), none⟩,
 ⟨some 47, some (.build Zb #[(0, (.tmp 46))]), none⟩,
 ⟨some 48, some (.call ⟨(.value (.func Zh)), #[.tmp 44, .tmp 47], #[Zj, Zb]⟩), none⟩,
 ⟨some 6, some (.assign (.tmp 48)), none⟩])
  .ret))
  (.seq (.seq (.reg [] [⟨some 50, some (.move (.tmp 2)), none⟩,
 ⟨some 51, some (.binOp .and Zd (.tmp 50) (.const (.int .i64 48)) Zd), none⟩,
 ⟨some 52, some (.binOp .neq Zd (.tmp 51) (.const (.int .i64 0)) Zd), none⟩,
 ⟨some 53, some (.move (.tmp 52)), none⟩,
 ⟨some 54, some (.move (.tmp 0)), some (some 53, true)⟩,
 ⟨some 55, some (.fieldAddr Zc (.tmp 4) 3), some (some 53, true)⟩,
 ⟨some 56, some (.load Zd (.tmp 55)), some (some 53, true)⟩,
 ⟨some 57, some (.call ⟨(.value (.func Z3)), #[(.tmp 54), (.tmp 56), (.const (.int .u64 0))], #[Zj, Zd, Ze]⟩), some (some 53, true)⟩,
 ⟨some 58, some (.pick (.tmp 53) (.tmp 57) (.const (.bool false))), none⟩,
 ⟨some 49, some (.assign (.tmp 58)), none⟩])
  (.cond (.tmp 49) .skip
  (.reg [] [⟨some 59, some (.move (.tmp 2)), none⟩,
 ⟨some 60, some (.binOp .and Zd (.tmp 59) (.const (.int .i64 256)) Zd), none⟩,
 ⟨some 61, some (.binOp .neq Zd (.tmp 60) (.const (.int .i64 0)) Zd), none⟩,
 ⟨some 62, some (.move (.tmp 61)), none⟩,
 ⟨some 63, some (.move (.tmp 0)), some (some 62, true)⟩,
 ⟨some 64, some (.fieldAddr Zc (.tmp 4) 3), some (some 62, true)⟩,
 ⟨some 65, some (.load Zd (.tmp 64)), some (some 62, true)⟩,
 ⟨some 66, some (.call ⟨(.value (.func Z3)), #[(.tmp 63), (.tmp 65), (.const (.int .u64 1))], #[Zj, Zd, Ze]⟩), some (some 62, true)⟩,
 ⟨some 67, some (.pick (.tmp 62) (.tmp 66) (.const (.bool false))), none⟩,
 ⟨some 49, some (.assign (.tmp 67)), none⟩])))
  (.cond (.tmp 49) (.seq (.reg [] [⟨some 68, some (.fieldAddr Zc (.tmp 4) 2), none⟩,
 ⟨some 69, some (.load Zd (.tmp 68)), none⟩,
 ⟨some 6, some (.assign (.tmp 69)), none⟩])
  .ret)
  (.seq (.seq (.reg [] [⟨some 71, some (.move (.tmp 2)), none⟩,
 ⟨some 72, some (.binOp .and Zd (.tmp 71) (.const (.int .i64 16)) Zd), none⟩,
 ⟨some 73, some (.binOp .neq Zd (.tmp 72) (.const (.int .i64 0)) Zd), none⟩,
 ⟨some 74, some (.move (.tmp 73)), none⟩,
 ⟨some 75, some (.move (.tmp 0)), some (some 74, true)⟩,
 ⟨some 76, some (.fieldAddr Zc (.tmp 4) 2), some (some 74, true)⟩,
 ⟨some 77, some (.load Zd (.tmp 76)), some (some 74, true)⟩,
 ⟨some 78, some (.call ⟨(.value (.func Z3)), #[(.tmp 75), (.tmp 77), (.const (.int .u64 0))], #[Zj, Zd, Ze]⟩), some (some 74, true)⟩,
 ⟨some 79, some (.pick (.tmp 74) (.tmp 78) (.const (.bool false))), none⟩,
 ⟨some 70, some (.assign (.tmp 79)), none⟩])
  (.cond (.tmp 70) .skip
  (.reg [] [⟨some 80, some (.fieldAddr Zc (.tmp 4) 0), none⟩,
 ⟨some 81, some (.load Zd (.tmp 80)), none⟩,
 ⟨some 82, some (.binOp .eql Zd (.tmp 81) (.const (.int .i64 20)) Zd), none⟩,
 ⟨some 83, some (.move (.tmp 82)), none⟩,
 ⟨some 84, some (.move (.tmp 0)), some (some 83, true)⟩,
 ⟨some 85, some (.fieldAddr Zc (.tmp 4) 2), some (some 83, true)⟩,
 ⟨some 86, some (.load Zd (.tmp 85)), some (some 83, true)⟩,
 ⟨some 87, some (.call ⟨(.value (.func Z3)), #[(.tmp 84), (.tmp 86), (.const (.int .u64 1))], #[Zj, Zd, Ze]⟩), some (some 83, true)⟩,
 ⟨some 88, some (.pick (.tmp 83) (.tmp 87) (.const (.bool false))), none⟩,
 ⟨some 70, some (.assign (.tmp 88)), none⟩])))
  (.cond (.tmp 70) (.seq (.reg [] [⟨some 89, some (.fieldAddr Zc (.tmp 4) 3), none⟩,
 ⟨some 90, some (.load Zd (.tmp 89)), none⟩,
 ⟨some 6, some (.assign (.tmp 90)), none⟩])
  .ret)
  .skip)))))))
  (.seq (.seq (.reg [] [⟨some 91, some (.fieldAddr Zc (.tmp 4) 0), none⟩,
 ⟨some 92, some (.load Zd (.tmp 91)), none⟩,
 ⟨some 93, some (.binOp .eql Zd (.tmp 92) (.const (.int .i64 20)) Zd), none⟩])
  (.cond (.tmp 93) (.seq (.reg [] [⟨some 94, some (.move (.tmp 0)), none⟩,
 ⟨some 95, some (.load Zc (.tmp 4)), none⟩,
 ⟨some 96, some (.call ⟨(.value (.func Z2)), #[.tmp 94, .tmp 95], #[Zj, Zc]⟩), none⟩,
 ⟨some 6, some (.assign (.tmp 96)), none⟩])
  .ret)
  .skip))
  (.seq (.reg [] [⟨some 97, some (.move (.tmp 0)), none⟩,
 ⟨some 98, some (.load Zc (.tmp 4)), none⟩,
 ⟨some 99, some (.call ⟨(.value (.func Zg)), #[.tmp 97, .tmp 98], #[Zj, Zc]⟩), none⟩,
 ⟨some 6, some (.assign (.tmp 99)), none⟩])
  .ret))))
theorem Zdh {a0 a1 a2 : AV} {H : AHeap} : R Zz [a0, a1, a2] H = fnK Try.prog [] H [(.tmp 6)] (evalL Try.prog KT R Zn (Env.args [a0, a1, a2] 0) H) :=
  runs_body (D := DT) (f := Zz) Try.func51 (by kernel_rfl) (by kernel_rfl) (by kernel_rfl) (by kernel_rfl) (by kernel_rfl) (Nat.le_of_ble_eq_true rfl)
def Zit : LCode := (.seq (.reg [] [⟨some 3, some (.box Za (.tmp 1)), none⟩,
 ⟨some 4, some (.alloc Zb), none⟩])
  (.seq (.reg [] [⟨some 6, some (.move (.tmp 0)), none⟩,
 ⟨some 7, some (.call ⟨(.value (.func Zeg)), #[.tmp 6], #[Zd]⟩), none⟩,
 ⟨some 5, some (.alloc Za), none⟩,
 ⟨none, some (.store Za (.tmp 5) (.tmp 7)), none⟩])
  (.seq (.reg [] [⟨some 8, some (.move (.tmp 0)), none⟩,
 ⟨some 9, some (.fieldAddr Za (.tmp 3) 0), none⟩,
 ⟨some 10, some (.load Ze (.tmp 9)), none⟩,
 ⟨some 11, some (.fieldAddr Za (.tmp 5) 0), none⟩,
 ⟨some 12, some (.load Ze (.tmp 11)), none⟩,
 ⟨some 13, some (.binOp .and Ze (.tmp 10) (.tmp 12) Ze), none⟩,
 ⟨some 14, some (.fieldAddr Za (.tmp 3) 1), none⟩,
 ⟨some 15, some (.load Ze (.tmp 14)), none⟩,
 ⟨some 16, some (.fieldAddr Za (.tmp 5) 1), none⟩,
 ⟨some 17, some (.load Ze (.tmp 16)), none⟩,
 ⟨some 18, some (.binOp .and Ze (.tmp 15) (.tmp 17) Ze), none⟩,
 ⟨some 19, some (.build Zb #[(0, (.tmp 8)), (1, (.tmp 13)), (2, (.tmp 18))]), none⟩,
 ⟨none, some (.store Zb (.tmp 4) (.tmp 19)), none⟩])
  .ret)))
theorem Zi5 {a0 a1 : AV} {H : AHeap} : R Zcn [a0, a1] H = fnK Try.prog [] H [(.cell 4 Zb)] (evalL Try.prog KT R Zit (Env.args [a0, a1] 0) H) :=
  runs_body (D := DT) (f := Zcn) Try.func52 (by kernel_rfl) (by kernel_rfl) (by kernel_rfl) (by kernel_rfl) (by kernel_rfl) (Nat.le_of_ble_eq_true rfl)
def Ziz : LCode := (.seq (.reg [] [⟨some 1, some (.box Zb (.tmp 0)), none⟩,
 ⟨some 2, some (.alloc Za), none⟩])
  (.seq (.reg [] [⟨some 3, some (.fieldAddr Zb (.tmp 1) 1), none⟩,
 ⟨some 4, some (.load Ze (.tmp 3)), none⟩,
 ⟨some 5, some (.fieldAddr Zb (.tmp 1) 2), none⟩,
 ⟨some 6, some (.load Ze (.tmp 5)), none⟩,
 ⟨some 7, some (.build Za #[(0, (.tmp 4)), (1, (.tmp 6))]), none⟩,
 ⟨none, some (.store Za (.tmp 2) (.tmp 7)), none⟩])
  .ret))
theorem Zja {a0 : AV} {H : AHeap} : R Zch [a0] H = fnK Try.prog [] H [(.cell 2 Za)] (evalL Try.prog KT R Ziz (Env.args [a0] 0) H) :=
  runs_body (D := DT) (f := Zch) Try.func53 (by kernel_rfl) (by kernel_rfl) (by kernel_rfl) (by kernel_rfl) (by kernel_rfl) (Nat.le_of_ble_eq_true rfl)
def Zdi : LCode := (.seq (.reg [] [⟨some 4, some (.assign (.const (.bool false))), none⟩])
  (.seq (.reg [] [⟨some 5, some (.move (.tmp 0)), none⟩,
 ⟨some 6, some (.move (.tmp 1)), none⟩,
 ⟨some 7, some (.call ⟨(.value (.func Zcg)), #[.tmp 5, .tmp 6], #[Zbm, Zjb]⟩), none⟩,
 ⟨some 8, some (.binOp .geq Zd (.tmp 7) (.const (.int .i64 0)) Zd), none⟩,
 ⟨some 4, some (.assign (.tmp 8)), none⟩])
  .ret))
theorem Ze5 {a0 a1 : AV} {H : AHeap} : R Zb8 [a0, a1] H = fnK Try.prog [] H [(.tmp 4)] (evalL Try.prog KT R Zdi (Env.args [a0, a1] 0) H) :=
  runs_body (D := DT) (f := Zb8) Try.func54 (by kernel_rfl) (by kernel_rfl) (by kernel_rfl) (by kernel_rfl) (by kernel_rfl) (Nat.le_of_ble_eq_true rfl)
def Zgu : LCode := (.seq (.reg [] [⟨some 2, some (.assign (.const (.bool false))), none⟩])
  (.seq (.reg [] [⟨some 3, some (.move (.tmp 0)), none⟩,
 ⟨some 4, some (.call ⟨(.value (.func Zfc)), #[.tmp 3], #[Zd]⟩), none⟩,
 ⟨some 5, some (.unOp .not Zbe (.tmp 4)), none⟩,
 ⟨some 2, some (.assign (.tmp 5)), none⟩])
  .ret))
theorem Zh4 {a0 : AV} {H : AHeap} : R Zda [a0] H = fnK Try.prog [] H [(.tmp 2)] (evalL Try.prog KT R Zgu (Env.args [a0] 0) H) :=
  runs_body (D := DT) (f := Zda) Try.func55 (by kernel_rfl) (by kernel_rfl) (by kernel_rfl) (by kernel_rfl) (by kernel_rfl) (Nat.le_of_ble_eq_true rfl)
def Zv : LCode := (.seq (.reg [] [⟨some 8, some (.assign (.const (.int .i64 0))), none⟩,
 ⟨some 9, some (.assign (.const (.bool false))), none⟩])
  (.seq (.reg [] [⟨some 15, some (.move (.tmp 1)), none⟩,
 ⟨some 16, some (.binOp .eql Zd (.tmp 15) (.const (.int .i64 0)) Zd), none⟩,
 ⟨some 17, some (.move (.tmp 16)), none⟩,
 ⟨some 18, some (.move (.tmp 2)), some (some 17, true)⟩,
 ⟨some 19, some (.binOp .eql Zd (.tmp 18) (.const (.int .i64 0)) Zd), some (some 17, true)⟩,
 ⟨some 20, some (.pick (.tmp 17) (.tmp 19) (.const (.bool false))), none⟩,
 ⟨some 10, some (.assign (.tmp 20)), none⟩])
  (.seq (.reg [] [⟨some 21, some (.move (.tmp 3)), none⟩,
 ⟨some 22, some (.indexAddr Zbm (.tmp 21) (.const (.int .i64 0))), none⟩,
 ⟨some 23, some (.load Zd (.tmp 22)), none⟩,
 ⟨some 24, some (.move (.tmp 3)), none⟩,
 ⟨some 25, some (.move (.tmp 3)), none⟩,
 ⟨some 26, some (.call ⟨(.builtin .len), #[.tmp 25], #[Zbm]⟩), none⟩,
 ⟨some 27, some (.binOp .sub Zd (.tmp 26) (.const (.int .i64 1)) Zd), none⟩,
 ⟨some 28, some (.indexAddr Zbm (.tmp 24) (.tmp 27)), none⟩,
 ⟨some 29, some (.load Zd (.tmp 28)), none⟩,
 ⟨some 11, some (.assign (.tmp 23)), none⟩,
 ⟨some 12, some (.assign (.tmp 29)), none⟩])
  (.seq (.block 0 (.seq (.reg [] [⟨some 31, some (.move (.tmp 0)), none⟩,
 ⟨some 32, some (.binOp .leq Zd (.tmp 31) (.const (.int .i64 7)) Zd), none⟩,
 ⟨some 30, some (.assign (.tmp 32)), none⟩])
  (.cond (.tmp 30) (.seq (.reg [] [⟨some 33, some (.move (.tmp 10)), none⟩,
 ⟨some 34, some (.move (.tmp 33)), none⟩,
 ⟨some 35, some (.move (.tmp 11)), some (some 34, true)⟩,
 ⟨some 36, some (.binOp .eql Zd (.tmp 35) (.const (.int .i64 0)) Zd), some (some 34, true)⟩,
 ⟨some 37, some (.pick (.tmp 34) (.tmp 36) (.const (.bool false))), none⟩,
 ⟨some 38, some (.move (.tmp 37)), none⟩,
 ⟨some 39, some (.move (.tmp 12)), some (some 38, true)⟩,
 ⟨some 40, some (.binOp .eql Zd (.tmp 39) (.const (.int .i64 0)) Zd), some (some 38, true)⟩,
 ⟨some 41, some (.pick (.tmp 38) (.tmp 40) (.const (.bool false))), none⟩,
 ⟨some 8, some (.assign (.const (.int .i64 0))), none⟩,
 ⟨some 9, some (.assign (.tmp 41)), none⟩])
  .ret)
  (.seq (.reg [] [⟨some 43, some (.move (.tmp 0)), none⟩,
 ⟨some 44, some (.binOp .eql Zd (.tmp 43) (.const (.int .i64 8)) Zd), none⟩,
 ⟨some 42, some (.assign (.tmp 44)), none⟩])
  (.cond (.tmp 42) (.seq (.reg [] [⟨some 45, some (.move (.tmp 10)), none⟩,
 ⟨some 46, some (.move (.tmp 45)), none⟩,
 ⟨some 47, some (.move (.tmp 11)), some (some 46, true)⟩,
 ⟨some 48, some (.move (.tmp 12)), some (some 46, true)⟩,
 ⟨some 49, some (.binOp .eql Zd (.tmp 47) (.tmp 48) Zd), some (some 46, true)⟩,
 ⟨some 50, some (.pick (.tmp 46) (.tmp 49) (.const (.bool false))), none⟩,
 ⟨some 8, some (.assign (.const (.int .i64 0))), none⟩,
 ⟨some 9, some (.assign (.tmp 50)), none⟩])
  .ret)
  (.seq (.reg [] [⟨some 52, some (.move (.tmp 0)), none⟩,
 ⟨some 53, some (.binOp .eql Zd (.tmp 52) (.const (.int .i64 9)) Zd), none⟩,
 ⟨some 51, some (.assign (.tmp 53)), none⟩])
  (.cond (.tmp 51) (.seq (.reg [] [⟨some 54, some (.move (.tmp 12)), none⟩,
 ⟨some 55, some (.move (.tmp 10)), none⟩,
 ⟨some 56, some (.move (.tmp 55)), none⟩,
 ⟨some 57, some (.move (.tmp 11)), some (some 56, true)⟩,
 ⟨some 58, some (.binOp .eql Zd (.tmp 57) (.const (.int .i64 0)) Zd), some (some 56, true)⟩,
 ⟨some 59, some (.pick (.tmp 56) (.tmp 58) (.const (.bool false))), none⟩,
 ⟨some 60, some (.move (.tmp 59)), none⟩,
 ⟨some 61, some (.move (.tmp 3)), some (some 60, true)⟩,
 ⟨some 62, some (.indexAddr Zbm (.tmp 61) (.const (.int .i64 1))), some (some 60, true)⟩,
 ⟨some 63, some (.load Zd (.tmp 62)), some (some 60, true)⟩,
 ⟨some 64, some (.move (.tmp 12)), some (some 60, true)⟩,
 ⟨some 65, some (.binOp .eql Zd (.tmp 63) (.tmp 64) Zd), some (some 60, true)⟩,
 ⟨some 66, some (.pick (.tmp 60) (.tmp 65) (.const (.bool false))), none⟩,
 ⟨some 8, some (.assign (.tmp 54)), none⟩,
 ⟨some 9, some (.assign (.tmp 66)), none⟩])
  .ret)
  (.seq (.reg [] [⟨some 68, some (.move (.tmp 0)), none⟩,
 ⟨some 69, some (.binOp .eql Zd (.tmp 68) (.const (.int .i64 38)) Zd), none⟩,
 ⟨some 67, some (.assign (.tmp 69)), none⟩])
  (.cond (.tmp 67) (.seq (.reg [] [⟨some 70, some (.move (.tmp 11)), none⟩,
 ⟨some 71, some (.move (.tmp 12)), none⟩,
 ⟨some 72, some (.binOp .add Zd (.tmp 70) (.tmp 71) Zd), none⟩,
 ⟨some 73, some (.move (.tmp 10)), none⟩,
 ⟨some 74, some (.move (.tmp 73)), none⟩,
 ⟨some 75, some (.move (.tmp 11)), some (some 74, true)⟩,
 ⟨some 76, some (.binOp .gtr Zd (.tmp 75) (.const (.int .i64 0)) Zd), some (some 74, true)⟩,
 ⟨some 77, some (.pick (.tmp 74) (.tmp 76) (.const (.bool false))), none⟩,
 ⟨some 78, some (.move (.tmp 77)), none⟩,
 ⟨some 79, some (.move (.tmp 12)), some (some 78, true)⟩,
 ⟨some 80, some (.binOp .gtr Zd (.tmp 79) (.const (.int .i64 0)) Zd), some (some 78, true)⟩,
 ⟨some 81, some (.pick (.tmp 78) (.tmp 80) (.const (.bool false))), none⟩,
 ⟨some 8, some (.assign (.tmp 72)), none⟩,
 ⟨some 9, some (.assign (.tmp 81)), none⟩])
  .ret)
  (.seq (.reg [] [⟨some 83, some (.move (.tmp 0)), none⟩,
 ⟨some 84, some (.binOp .geq Zd (.tmp 83) (.const (.int .i64 39)) Zd), none⟩,
 ⟨some 82, some (.assign (.tmp 84)), none⟩])
  (.cond (.tmp 82) (.seq (.reg [] [⟨some 86, some (.move (.tmp 0)), none⟩,
 ⟨some 87, some (.move (.tmp 1)), none⟩,
 ⟨some 88, some (.move (.tmp 2)), none⟩,
 ⟨some 89, some (.move (.tmp 11)), none⟩,
 ⟨some 90, some (.call ⟨(.value (.func Zeh)), #[.tmp 86, .tmp 87, .tmp 88, .tmp 89], #[Zd, Zd, Zd, Zd]⟩), none⟩,
 ⟨some 85, some (.move (.tmp 90)), none⟩,
 ⟨some 91, some (.extract (.tmp 85) 0), none⟩,
 ⟨some 92, some (.extract (.tmp 85) 1), none⟩,
 ⟨some 13, some (.assign (.tmp 91)), none⟩,
 ⟨some 14, some (.assign (.tmp 92)), none⟩])
  (.seq (.reg [] [⟨some 93, some (.move (.tmp 13)), none⟩,
 ⟨some 94, some (.move (.tmp 14)), none⟩,
 ⟨some 95, some (.move (.tmp 94)), none⟩,
 ⟨some 96, some (.move (.tmp 11)), some (some 95, true)⟩,
 ⟨some 97, some (.binOp .gtr Zd (.tmp 96) (.const (.int .i64 0)) Zd), some (some 95, true)⟩,
 ⟨some 98, some (.pick (.tmp 95) (.tmp 97) (.const (.bool false))), none⟩,
 ⟨some 8, some (.assign (.tmp 93)), none⟩,
 ⟨some 9, some (.assign (.tmp 98)), none⟩])
  .ret))
  (.seq (.reg [] [⟨some 100, some (.move (.tmp 0)), none⟩,
 ⟨some 101, some (.binOp .eql Zd (.tmp 100) (.const (.int .i64 37)) Zd), none⟩,
 ⟨some 99, some (.assign (.tmp 101)), none⟩])
  (.cond (.tmp 99) (.seq (.reg [] [⟨some 102, some (.move (.tmp 10)), none⟩,
 ⟨some 103, some (.move (.tmp 102)), none⟩,
 ⟨some 104, some (.move (.tmp 11)), some (some 103, true)⟩,
 ⟨some 105, some (.move (.tmp 12)), some (some 103, true)⟩,
 ⟨some 106, some (.binOp .eql Zd (.tmp 104) (.tmp 105) Zd), some (some 103, true)⟩,
 ⟨some 107, some (.pick (.tmp 103) (.tmp 106) (.const (.bool false))), none⟩,
 ⟨some 108, some (.move (.tmp 107)), none⟩,
 ⟨some 109, some (.move (.tmp 11)), some (some 108, true)⟩,
 ⟨some 110, some (.binOp .gtr Zd (.tmp 109) (.const (.int .i64 0)) Zd), some (some 108, true)⟩,
 ⟨some 111, some (.pick (.tmp 108) (.tmp 110) (.const (.bool false))), none⟩,
 ⟨some 8, some (.assign (.const (.int .i64 1))), none⟩,
 ⟨some 9, some (.assign (.tmp 111)), none⟩])
  .ret)
  (.seq (.reg [] [⟨some 113, some (.move (.tmp 0)), none⟩,
 ⟨some 114, some (.binOp .geq Zd (.tmp 113) (.const (.int .i64 29)) Zd), none⟩,
 ⟨some 112, some (.assign (.tmp 114)), none⟩])
  (.cond (.tmp 112) (.seq (.reg [] [⟨some 115, some (.move (.tmp 10)), none⟩,
 ⟨some 116, some (.move (.tmp 115)), none⟩,
 ⟨some 117, some (.move (.tmp 11)), some (some 116, true)⟩,
 ⟨some 118, some (.move (.tmp 12)), some (some 116, true)⟩,
 ⟨some 119, some (.binOp .eql Zd (.tmp 117) (.tmp 118) Zd), some (some 116, true)⟩,
 ⟨some 120, some (.pick (.tmp 116) (.tmp 119) (.const (.bool false))), none⟩,
 ⟨some 121, some (.move (.tmp 120)), none⟩,
 ⟨some 122, some (.move (.tmp 11)), some (some 121, true)⟩,
 ⟨some 123, some (.binOp .gtr Zd (.tmp 122) (.const (.int .i64 0)) Zd), some (some 121, true)⟩,
 ⟨some 124, some (.pick (.tmp 121) (.tmp 123) (.const (.bool false))), none⟩,
 ⟨some 8, some (.assign (.const (.int .i64 0))), none⟩,
 ⟨some 9, some (.assign (.tmp 124)), none⟩])
  .ret)
  .skip)))))))))))))))
  (.seq (.reg [] [⟨some 125, some (.move (.tmp 11)), none⟩,
 ⟨some 126, some (.move (.tmp 10)), none⟩,
 ⟨some 127, some (.move (.tmp 126)), none⟩,
 ⟨some 128, some (.move (.tmp 11)), some (some 127, true)⟩,
 ⟨some 129, some (.move (.tmp 12)), some (some 127, true)⟩,
 ⟨some 130, some (.binOp .eql Zd (.tmp 128) (.tmp 129) Zd), some (some 127, true)⟩,
 ⟨some 131, some (.pick (.tmp 127) (.tmp 130) (.const (.bool false))), none⟩,
 ⟨some 132, some (.move (.tmp 131)), none⟩,
 ⟨some 133, some (.move (.tmp 11)), some (some 132, true)⟩,
 ⟨some 134, some (.binOp .gtr Zd (.tmp 133) (.const (.int .i64 0)) Zd), some (some 132, true)⟩,
 ⟨some 135, some (.pick (.tmp 132) (.tmp 134) (.const (.bool false))), none⟩,
 ⟨some 8, some (.assign (.tmp 125)), none⟩,
 ⟨some 9, some (.assign (.tmp 135)), none⟩])
  .ret)))))
theorem Zip {a0 a1 a2 a3 : AV} {H : AHeap} : R Zft [a0, a1, a2, a3] H = fnK Try.prog [] H [(.tmp 8), (.tmp 9)] (evalL Try.prog KT R Zv (Env.args [a0, a1, a2, a3] 0) H) :=
  runs_body (D := DT) (f := Zft) Try.func56 (by kernel_rfl) (by kernel_rfl) (by kernel_rfl) (by kernel_rfl) (by kernel_rfl) (Nat.le_of_ble_eq_true rfl)
def Zc2 : LCode := (.seq (.reg [] [⟨some 2, some (.alloc Zu), none⟩,
 ⟨some 3, some (.assign (.const (.bool false))), none⟩])
  (.seq (.seq (.reg [] [⟨some 4, some (.move (.tmp 0)), none⟩])
  (.block 0 (.seq (.reg [] [⟨some 6, some (.binOp .eql Zd (.tmp 4) (.const (.int .i64 3)) Zd), none⟩,
 ⟨some 5, some (.assign (.tmp 6)), none⟩])
  (.cond (.tmp 5) (.seq (.reg [] [⟨some 7, some (.call ⟨(.value (.func Zct)), #[(.func Zdj)], #[Zgp]⟩), none⟩,
 ⟨none, some (.store Zu (.tmp 2) (.tmp 7)), none⟩,
 ⟨some 3, some (.assign (.const (.bool true))), none⟩])
  .ret)
  (.seq (.reg [] [⟨some 9, some (.binOp .eql Zd (.tmp 4) (.const (.int .i64 4)) Zd), none⟩,
 ⟨some 8, some (.assign (.tmp 9)), none⟩])
  (.cond (.tmp 8) (.seq (.reg [] [⟨some 10, some (.call ⟨(.value (.func Zct)), #[(.func Zdk)], #[Zgp]⟩), none⟩,
 ⟨none, some (.store Zu (.tmp 2) (.tmp 10)), none⟩,
 ⟨some 3, some (.assign (.const (.bool true))), none⟩])
  .ret)
  (.seq (.reg [] [⟨some 12, some (.binOp .eql Zd (.tmp 4) (.const (.int .i64 5)) Zd), none⟩,
 ⟨some 11, some (.assign (.tmp 12)), none⟩])
  (.cond (.tmp 11) (.seq (.reg [] [⟨some 13, some (.call ⟨(.value (.func Zct)), #[(.func Zdl)], #[Zgp]⟩), none⟩,
 ⟨none, some (.store Zu (.tmp 2) (.tmp 13)), none⟩,
 ⟨some 3, some (.assign (.const (.bool true))), none⟩])
  .ret)
  (.seq (.reg [] [⟨some 15, some (.binOp .eql Zd (.tmp 4) (.const (.int .i64 6)) Zd), none⟩,
 ⟨some 14, some (.assign (.tmp 15)), none⟩])
  (.cond (.tmp 14) (.seq (.reg [] [⟨some 16, some (.call ⟨(.value (.func Zct)), #[(.func Zc3)], #[Zgp]⟩), none⟩,
 ⟨none, some (.store Zu (.tmp 2) (.tmp 16)), none⟩,
 ⟨some 3, some (.assign (.const (.bool true))), none⟩])
  .ret)
  (.seq (.reg [] [⟨some 18, some (.binOp .eql Zd (.tmp 4) (.const (.int .i64 7)) Zd), none⟩,
 ⟨some 17, some (.assign (.tmp 18)), none⟩])
  (.cond (.tmp 17) (.seq (.reg [] [⟨some 19, some (.call ⟨(.value (.func Zct)), #[(.func Zdm)], #[Zgp]⟩), none⟩,
 ⟨none, some (.store Zu (.tmp 2) (.tmp 19)), none⟩,
 ⟨some 3, some (.assign (.const (.bool true))), none⟩])
  .ret)
  (.seq (.reg [] [⟨some 21, some (.binOp .eql Zd (.tmp 4) (.const (.int .i64 8)) Zd), none⟩,
 ⟨some 20, some (.assign (.tmp 21)), none⟩])
  (.cond (.tmp 20) (.seq (.reg [] [⟨some 22, some (.call ⟨(.value (.func Zct)), #[(.func Zdn)], #[Zgp]⟩), none⟩,
 ⟨none, some (.store Zu (.tmp 2) (.tmp 22)), none⟩,
 ⟨some 3, some (.assign (.const (.bool true))), none⟩])
  .ret)
  (.seq (.reg [] [⟨some 24, some (.binOp .eql Zd (.tmp 4) (.const (.int .i64 9)) Zd), none⟩,
 ⟨some 23, some (.assign (.tmp 24)), none⟩])
  (.cond (.tmp 23) (.seq (.reg [] [⟨some 25, some (.build Zu #[(0, (.func Zdo))]), none⟩,
 ⟨none, some (.store Zu (.tmp 2) (.tmp 25)), none⟩,
 ⟨some 3, some (.assign (.const (.bool true))), none⟩])
  .ret)
  .skip))))))))))))))))
  (.seq (.reg [] [⟨some 26, some (.build Zu #[]), none⟩,
 ⟨none, some (.store Zu (.tmp 2) (.tmp 26)), none⟩,
 ⟨some 3, some (.assign (.const (.bool false))), none⟩])
  .ret)))
theorem Zid {a0 : AV} {H : AHeap} : R Zeb [a0] H = fnK Try.prog [] H [(.cell 2 Zu), (.tmp 3)] (evalL Try.prog KT R Zc2 (Env.args [a0] 0) H) :=
  runs_body (D := DT) (f := Zeb) Try.func57 (by kernel_rfl) (by kernel_rfl) (by kernel_rfl) (by kernel_rfl) (by kernel_rfl) (Nat.le_of_ble_eq_true rfl)
def Zg3 : LCode := (.seq (.reg [] [⟨some 1, some (.box Zd (.tmp 0)), none⟩,
 ⟨some 2, some (.alloc Zu), none⟩])
  (.seq (.reg [] [⟨some 3, some (.makeFunc (.func Zbs) #[] #[.tmp 1]), none⟩,
 ⟨some 4, some (.build Zu #[(0, (.tmp 3))]), none⟩,
 ⟨none, some (.store Zu (.tmp 2) (.tmp 4)), none⟩])
  .ret))
theorem Zie {a0 : AV} {H : AHeap} : R Zfk [a0] H = fnK Try.prog [] H [(.cell 2 Zu)] (evalL Try.prog KT R Zg3 (Env.args [a0] 0) H) :=
  runs_body (D := DT) (f := Zfk) Try.func58 (by kernel_rfl) (by kernel_rfl) (by kernel_rfl) (by kernel_rfl) (by kernel_rfl) (Nat.le_of_ble_eq_true rfl)
def Zb7 : LCode := (.seq (.reg [] [⟨some 6, some (.assign (.const (.bool false))), none⟩])
  (.seq (.reg [] [⟨some 10, some (.move (.tmp 0)), none⟩,
 ⟨some 11, some (.move (.tmp 1)), none⟩,
 ⟨some 12, some (.call ⟨(.value (.func Z0)), #[.tmp 10, .tmp 11], #[Zj, Zd]⟩), none⟩,
 ⟨some 9, some (.move (.tmp 12)), none⟩,
 ⟨some 13, some (.extract (.tmp 9) 0), none⟩,
 ⟨some 14, some (.extract (.tmp 9) 1), none⟩,
 ⟨some 7, some (.alloc Zb), none⟩,
 ⟨none, some (.store Zb (.tmp 7) (.tmp 13)), none⟩,
 ⟨some 8, some (.assign (.tmp 14)), none⟩])
  (.seq (.reg [] [⟨some 15, some (.move (.tmp 8)), none⟩,
 ⟨some 16, some (.move (.tmp 15)), none⟩,
 ⟨some 17, some (.fieldAddr Zb (.tmp 7) 0), some (some 16, true)⟩,
 ⟨some 18, some (.load Zd (.tmp 17)), some (some 16, true)⟩,
 ⟨some 19, some (.binOp .gtr Zd (.tmp 18) (.const (.int .i64 0)) Zd), some (some 16, true)⟩,
 ⟨some 20, some (.pick (.tmp 16) (.tmp 19) (.const (.bool false))), none⟩,
 ⟨some 21, some (.move (.tmp 20)), none⟩,
 ⟨some 22, some (.fieldAddr Zb (.tmp 7) 1), some (some 21, true)⟩,
 ⟨some 23, some (.load Ze (.tmp 22)), some (some 21, true)⟩,
 ⟨some 24, some (.move (.tmp 2)), some (some 21, true)⟩,
 ⟨some 25, some (.binOp .eql Ze (.tmp 23) (.tmp 24) Ze), some (some 21, true)⟩,
 ⟨some 26, some (.pick (.tmp 21) (.tmp 25) (.const (.bool false))), none⟩,
 ⟨some 27, some (.move (.tmp 26)), none⟩,
 ⟨some 28, some (.fieldAddr Zb (.tmp 7) 2), some (some 27, true)⟩,
 ⟨some 29, some (.load Ze (.tmp 28)), some (some 27, true)⟩,
 ⟨some 30, some (.binOp .eql Ze (.tmp 29) (.const (.int .u64 0)) Ze), some (some 27, true)⟩,
 ⟨some 31, some (.pick (.tmp 27) (.tmp 30) (.const (.bool false))), none⟩,
 ⟨some 6, some (.assign (.tmp 31)), none⟩])
  .ret)))
theorem Zfo {a0 a1 a2 : AV} {H : AHeap} : R Z3 [a0, a1, a2] H = fnK Try.prog [] H [(.tmp 6)] (evalL Try.prog KT R Zb7 (Env.args [a0, a1, a2] 0) H) :=
  runs_body (D := DT) (f := Z3) Try.func59 (by kernel_rfl) (by kernel_rfl) (by kernel_rfl) (by kernel_rfl) (by kernel_rfl) (Nat.le_of_ble_eq_true rfl)
def Zbk : LCode := (.seq (.reg [] [⟨some 40, some (.binOp .lss Zd (.tmp 39) (.tmp 38) Zd), none⟩])
  (.seq (.cond (.tmp 40) .skip
  (.exit 2))
  (.seq (.block 3 (.seq (.reg [] [⟨some 41, some (.move (.tmp 39)), none⟩,
 ⟨some 9, some (.assign (.tmp 41)), none⟩])
  (.seq (.reg [] [⟨some 43, some (.fieldAddr Zb (.tmp 7) 0), none⟩,
 ⟨some 44, some (.load Zd (.tmp 43)), none⟩,
 ⟨some 45, some (.call ⟨(.value (.func Zgc)), #[(.tmp 44), (.const (.int .u64 1)), (.const (.int .u64 0))], #[Zd, Ze, Ze]⟩), none⟩,
 ⟨some 42, some (.move (.tmp 45)), none⟩,
 ⟨some 46, some (.extract (.tmp 42) 0), none⟩,
 ⟨some 47, some (.extract (.tmp 42) 1), none⟩,
 ⟨some 10, some (.alloc Zb), none⟩,
 ⟨none, some (.store Zb (.tmp 10) (.tmp 46)), none⟩,
 ⟨some 11, some (.assign (.tmp 47)), none⟩])
  (.seq (.reg [3] [⟨some 48, some (.load Zb (.tmp 7)), none⟩,
 ⟨some 49, some (.load Zb (.tmp 10)), none⟩,
 ⟨some 50, some (.move (.tmp 9)), none⟩,
 ⟨some 51, some (.call ⟨(.value (.func Ze7)), #[.tmp 49, .tmp 50], #[Zb, Zd]⟩), none⟩,
 ⟨some 52, some (.binOp .eql Zb (.tmp 48) (.tmp 51) Zb), none⟩])
  (.cond (.tmp 52) (.seq (.reg [] [⟨some 54, some (.fieldAddr Zb (.tmp 7) 0), none⟩,
 ⟨some 55, some (.load Zd (.tmp 54)), none⟩,
 ⟨some 56, some (.move (.tmp 9)), none⟩,
 ⟨some 57, some (.convert Zd Ze (.tmp 56)), none⟩,
 ⟨some 58, some (.call ⟨(.value (.func Zgc)), #[(.tmp 55), (.tmp 57), (.const (.int .u64 0))], #[Zd, Ze, Ze]⟩), none⟩,
 ⟨some 53, some (.move (.tmp 58)), none⟩,
 ⟨some 59, some (.extract (.tmp 53) 0), none⟩,
 ⟨some 60, some (.extract (.tmp 53) 1), none⟩,
 ⟨some 12, some (.alloc Zb), none⟩,
 ⟨none, some (.store Zb (.tmp 12) (.tmp 59)), none⟩,
 ⟨some 13, some (.assign (.tmp 60)), none⟩])
  (.seq (.reg [2, 5, 997, 1006] [⟨some 61, some (.move (.tmp 0)), none⟩,
 ⟨some 62, some (.indexAddr Zdy (.tmp 6) (.const (.int .i64 0))), none⟩,
 ⟨some 63, some (.load Zd (.tmp 62)), none⟩,
 ⟨some 64, some (.move (.tmp 0)), none⟩,
 ⟨some 65, some (.load Zb (.tmp 12)), none⟩,
 ⟨some 66, some (.call ⟨(.value (.func Zh)), #[.tmp 64, .tmp 65], #[Zj, Zb]⟩), none⟩,
 ⟨some 67, some (.build Zc #[(0, (.const (.int .i64 26))), (2, (.tmp 63)), (3, (.tmp 66))]), none⟩,
 ⟨some 68, some (.call ⟨(.value (.func Zl)), #[.tmp 61, .tmp 67], #[Zj, Zc]⟩), none⟩,
 ⟨some 4, some (.assign (.tmp 68)), none⟩])
  .ret))
  .skip)))))
  (.reg [] [⟨some 69, some (.binOp .add Zd (.tmp 39) (.const (.int .i64 1)) Zd), none⟩,
 ⟨some 39, some (.move (.tmp 69)), none⟩]))))
def Zbl : LCode := (.seq (.reg [] [⟨some 26, some (.binOp .lss Zd (.tmp 25) (.const (.int .i64 2)) Zd), none⟩])
  (.seq (.cond (.tmp 26) .skip
  (.exit 0))
  (.seq (.block 1 (.seq (.reg [] [⟨some 27, some (.index Zdr (.tmp 24) (.tmp 25)), none⟩,
 ⟨some 6, some (.alloc Zdy), none⟩,
 ⟨none, some (.store Zdy (.tmp 6) (.tmp 27)), none⟩])
  (.seq (.reg [] [⟨some 29, some (.move (.tmp 0)), none⟩,
 ⟨some 30, some (.indexAddr Zdy (.tmp 6) (.const (.int .i64 1))), none⟩,
 ⟨some 31, some (.load Zd (.tmp 30)), none⟩,
 ⟨some 32, some (.call ⟨(.value (.func Z0)), #[.tmp 29, .tmp 31], #[Zj, Zd]⟩), none⟩,
 ⟨some 28, some (.move (.tmp 32)), none⟩,
 ⟨some 33, some (.extract (.tmp 28) 0), none⟩,
 ⟨some 34, some (.extract (.tmp 28) 1), none⟩,
 ⟨some 7, some (.alloc Zb), none⟩,
 ⟨none, some (.store Zb (.tmp 7) (.tmp 33)), none⟩,
 ⟨some 8, some (.assign (.tmp 34)), none⟩])
  (.seq (.seq (.reg [] [⟨some 35, some (.move (.tmp 8)), none⟩,
 ⟨some 36, some (.unOp .not Zbe (.tmp 35)), none⟩])
  (.cond (.tmp 36) (.exit 1)
  .skip))
  (.seq (.reg [] [⟨some 37, some (.fieldAddr Zb (.tmp 7) 0), none⟩,
 ⟨some 38, some (.load Zd (.tmp 37)), none⟩,
 ⟨some 39, some (.move (.const (.int .i64 0))), none⟩])
  (.block 2 (.loop Zbk)))))))
  (.reg [] [⟨some 70, some (.binOp .add Zd (.tmp 25) (.const (.int .i64 1)) Zd), none⟩,
 ⟨some 25, some (.move (.tmp 70)), none⟩]))))
@[simp] theorem Zgn : defs Zbk = [40, 41, 9, 43, 44, 45, 42, 46, 47, 10, 11, 48, 49, 50, 51, 52, 54, 55, 56, 57, 58, 53, 59, 60, 12, 13, 61, 62, 63, 64, 65, 66, 67, 68, 4, 69, 39] := by rfl
@[simp] theorem Zgo : defs Zbl = [26, 27, 6, 29, 30, 31, 32, 28, 33, 34, 7, 8, 35, 36, 37, 38, 39, 40, 41, 9, 43, 44, 45, 42, 46, 47, 10, 11, 48, 49, 50, 51, 52, 54, 55, 56, 57, 58, 53, 59, 60, 12, 13, 61, 62, 63, 64, 65, 66, 67, 68, 4, 69, 39, 70, 25] := by rfl
def Zc9 : LCode := (.seq (.reg [] [⟨some 3, some (.box Zc (.tmp 1)), none⟩,
 ⟨some 4, some (.assign (.const (.int .i64 0))), none⟩])
  (.seq (.seq (.reg [] [⟨some 14, some (.fieldAddr Zc (.tmp 3) 2), none⟩,
 ⟨some 15, some (.load Zd (.tmp 14)), none⟩,
 ⟨some 16, some (.fieldAddr Zc (.tmp 3) 3), none⟩,
 ⟨some 17, some (.load Zd (.tmp 16)), none⟩,
 ⟨some 18, some (.build Zdy #[(0, (.tmp 15)), (1, (.tmp 17))]), none⟩,
 ⟨some 19, some (.fieldAddr Zc (.tmp 3) 3), none⟩,
 ⟨some 20, some (.load Zd (.tmp 19)), none⟩,
 ⟨some 21, some (.fieldAddr Zc (.tmp 3) 2), none⟩,
 ⟨some 22, some (.load Zd (.tmp 21)), none⟩,
 ⟨some 23, some (.build Zdy #[(0, (.tmp 20)), (1, (.tmp 22))]), none⟩,
 ⟨some 24, some (.build Zdr #[(0, (.tmp 18)), (1, (.tmp 23))]), none⟩,
 ⟨some 25, some (.move (.const (.int .i64 0))), none⟩])
  (.block 0 (.loop Zbl)))
  (.seq (.reg [] [⟨some 71, some (.move (.tmp 0)), none⟩,
 ⟨some 72, some (.load Zc (.tmp 3)), none⟩,
 ⟨some 73, some (.call ⟨(.value (.func Zg)), #[.tmp 71, .tmp 72], #[Zj, Zc]⟩), none⟩,
 ⟨some 4, some (.assign (.tmp 73)), none⟩])
  .ret)))
theorem Zeu {a0 a1 : AV} {H : AHeap} : R Z2 [a0, a1] H = fnK Try.prog [] H [(.tmp 4)] (evalL Try.prog KT R Zc9 (Env.args [a0, a1] 0) H) :=
  runs_body (D := DT) (f := Z2) Try.func60 (by kernel_rfl) (by kernel_rfl) (by kernel_rfl) (by kernel_rfl) (by kernel_rfl) (Nat.le_of_ble_eq_true rfl)
def Zif : LCode := (.seq (.reg [] [⟨some 2, some (.alloc Za), none⟩])
  (.seq (.reg [] [⟨some 3, some (.build Za #[]), none⟩,
 ⟨some 4, some (.call ⟨(.value (.func Z8)), #[.tmp 3], #[Za]⟩), none⟩,
 ⟨some 5, some (.move (.tmp 0)), none⟩,
 ⟨some 6, some (.binOp .sub Zd (.const (.int .i64 128)) (.tmp 5) Zd), none⟩,
 ⟨some 7, some (.call ⟨(.value (.func Z4)), #[.tmp 4, .tmp 6], #[Za, Zd]⟩), none⟩,
 ⟨none, some (.store Za (.tmp 2) (.tmp 7)), none⟩])
  .ret))
theorem Zi0 {a0 : AV} {H : AHeap} : R Zeg [a0] H = fnK Try.prog [] H [(.cell 2 Za)] (evalL Try.prog KT R Zif (Env.args [a0] 0) H) :=
  runs_body (D := DT) (f := Zeg) Try.func61 (by kernel_rfl) (by kernel_rfl) (by kernel_rfl) (by kernel_rfl) (by kernel_rfl) (Nat.le_of_ble_eq_true rfl)
def Zbu : LCode := (.seq (.reg [] [⟨some 9, some (.binOp .lss Zd (.tmp 8) (.tmp 7) Zd), none⟩])
  (.seq (.cond (.tmp 9) .skip
  (.exit 0))
  (.seq (.block 1 (.seq (.reg [] [⟨some 10, some (.move (.tmp 8)), none⟩,
 ⟨some 5, some (.assign (.tmp 10)), none⟩])
  (.seq (.reg [] [⟨some 11, some (.move (.tmp 1)), none⟩,
 ⟨some 12, some (.move (.tmp 0)), none⟩,
 ⟨some 13, some (.move (.tmp 5)), none⟩,
 ⟨some 14, some (.indexAddr Zbm (.tmp 12) (.tmp 13)), none⟩,
 ⟨some 15, some (.load Zd (.tmp 14)), none⟩,
 ⟨some 16, some (.call ⟨(.value (.tmp 11)), #[.tmp 15], #[Zd]⟩), none⟩])
  (.cond (.tmp 16) (.seq (.reg [] [⟨some 17, some (.move (.tmp 5)), none⟩,
 ⟨some 4, some (.assign (.tmp 17)), none⟩])
  .ret)
  .skip))))
  (.reg [] [⟨some 18, some (.binOp .add Zd (.tmp 8) (.const (.int .i64 1)) Zd), none⟩,
 ⟨some 8, some (.move (.tmp 18)), none⟩]))))
@[simp] theorem Zg4 : defs Zbu = [9, 10, 5, 11, 12, 13, 14, 15, 16, 17, 4, 18, 8] := by rfl
def Zd4 : LCode := (.seq (.reg [] [⟨some 4, some (.assign (.const (.int .i64 0))), none⟩])
  (.seq (.seq (.reg [] [⟨some 6, some (.move (.tmp 0)), none⟩,
 ⟨some 7, some (.call ⟨(.builtin .len), #[.tmp 6], #[Zbm]⟩), none⟩,
 ⟨some 8, some (.move (.const (.int .i64 0))), none⟩])
  (.block 0 (.loop Zbu)))
  (.seq (.reg [] [⟨some 4, some (.assign (.const (.int .i64 (-1)))), none⟩])
  .ret)))
theorem Zfi {a0 a1 : AV} {H : AHeap} : R Zcg [a0, a1] H = fnK Try.prog [] H [(.tmp 4)] (evalL Try.prog KT R Zd4 (Env.args [a0, a1] 0) H) :=
  runs_body (D := DT) (f := Zcg) Try.func62 (by kernel_rfl) (by kernel_rfl) (by kernel_rfl) (by kernel_rfl) (by kernel_rfl) (Nat.le_of_ble_eq_true rfl)
def Zby : LCode := (.seq (.reg [] [⟨some 8, some (.assign (.const (.int .i64 0))), none⟩,
 ⟨some 9, some (.assign (.const (.bool false))), none⟩])
  (.seq (.seq (.reg [] [⟨some 10, some (.move (.tmp 0)), none⟩])
  (.block 0 (.seq (.reg [] [⟨some 12, some (.binOp .eql Zd (.tmp 10) (.const (.int .i64 39)) Zd), none⟩,
 ⟨some 11, some (.assign (.tmp 12)), none⟩])
  (.cond (.tmp 11) (.seq (.reg [] [⟨some 13, some (.move (.tmp 1)), none⟩,
 ⟨some 14, some (.move (.tmp 2)), none⟩,
 ⟨some 15, some (.binOp .sub Zd (.tmp 13) (.tmp 14) Zd), none⟩,
 ⟨some 16, some (.binOp .add Zd (.tmp 15) (.const (.int .i64 1)) Zd), none⟩,
 ⟨some 17, some (.move (.tmp 2)), none⟩,
 ⟨some 18, some (.binOp .geq Zd (.tmp 17) (.const (.int .i64 0)) Zd), none⟩,
 ⟨some 19, some (.move (.tmp 18)), none⟩,
 ⟨some 20, some (.move (.tmp 1)), some (some 19, true)⟩,
 ⟨some 21, some (.move (.tmp 2)), some (some 19, true)⟩,
 ⟨some 22, some (.binOp .geq Zd (.tmp 20) (.tmp 21) Zd), some (some 19, true)⟩,
 ⟨some 23, some (.pick (.tmp 19) (.tmp 22) (.const (.bool false))), none⟩,
 ⟨some 24, some (.move (.tmp 23)), none⟩,
 ⟨some 25, some (.move (.tmp 1)), some (some 24, true)⟩,
 ⟨some 26, some (.move (.tmp 3)), some (some 24, true)⟩,
 ⟨some 27, some (.binOp .lss Zd (.tmp 25) (.tmp 26) Zd), some (some 24, true)⟩,
 ⟨some 28, some (.pick (.tmp 24) (.tmp 27) (.const (.bool false))), none⟩,
 ⟨some 8, some (.assign (.tmp 16)), none⟩,
 ⟨some 9, some (.assign (.tmp 28)), none⟩])
  .ret)
  (.seq (.seq (.reg [] [⟨some 30, some (.binOp .eql Zd (.tmp 10) (.const (.int .i64 42)) Zd), none⟩,
 ⟨some 29, some (.assign (.tmp 30)), none⟩])
  (.cond (.tmp 29) .skip
  (.reg [] [⟨some 31, some (.binOp .eql Zd (.tmp 10) (.const (.int .i64 43)) Zd), none⟩,
 ⟨some 29, some (.assign (.tmp 31)), none⟩])))
  (.cond (.tmp 29) (.seq (.reg [] [⟨some 32, some (.move (.tmp 3)), none⟩,
 ⟨some 33, some (.move (.tmp 1)), none⟩,
 ⟨some 34, some (.binOp .geq Zd (.tmp 33) (.const (.int .i64 0)) Zd), none⟩,
 ⟨some 35, some (.move (.tmp 34)), none⟩,
 ⟨some 36, some (.move (.tmp 2)), some (some 35, true)⟩,
 ⟨some 37, some (.binOp .eql Zd (.tmp 36) (.const (.int .i64 0)) Zd), some (some 35, true)⟩,
 ⟨some 38, some (.pick (.tmp 35) (.tmp 37) (.const (.bool false))), none⟩,
 ⟨some 8, some (.assign (.tmp 32)), none⟩,
 ⟨some 9, some (.assign (.tmp 38)), none⟩])
  .ret)
  (.seq (.reg [] [⟨some 40, some (.binOp .eql Zd (.tmp 10) (.const (.int .i64 44)) Zd), none⟩,
 ⟨some 39, some (.assign (.tmp 40)), none⟩])
  (.cond (.tmp 39) (.seq (.reg [] [⟨some 41, some (.move (.tmp 3)), none⟩,
 ⟨some 42, some (.move (.tmp 1)), none⟩,
 ⟨some 43, some (.call ⟨(.builtin .min), #[(.tmp 42), (.const (.int .i64 129))], #[Zd, Zd]⟩), none⟩,
 ⟨some 44, some (.binOp .mul Zd (.tmp 41) (.tmp 43) Zd), none⟩,
 ⟨some 45, some (.move (.tmp 1)), none⟩,
 ⟨some 46, some (.binOp .geq Zd (.tmp 45) (.const (.int .i64 1)) Zd), none⟩,
 ⟨some 47, some (.move (.tmp 46)), none⟩,
 ⟨some 48, some (.move (.tmp 2)), some (some 47, true)⟩,
 ⟨some 49, some (.binOp .eql Zd (.tmp 48) (.const (.int .i64 0)) Zd), some (some 47, true)⟩,
 ⟨some 50, some (.pick (.tmp 47) (.tmp 49) (.const (.bool false))), none⟩,
 ⟨some 8, some (.assign (.tmp 44)), none⟩,
 ⟨some 9, some (.assign (.tmp 50)), none⟩])
  .ret)
  .skip))))))))
  (.seq (.reg [] [⟨some 51, some (.move (.tmp 3)), none⟩,
 ⟨some 52, some (.move (.tmp 1)), none⟩,
 ⟨some 53, some (.call ⟨(.builtin .max), #[(.tmp 52), (.const (.int .i64 0))], #[Zd, Zd]⟩), none⟩,
 ⟨some 54, some (.call ⟨(.builtin .min), #[(.tmp 53), (.const (.int .i64 128))], #[Zd, Zd]⟩), none⟩,
 ⟨some 55, some (.binOp .add Zd (.tmp 51) (.tmp 54) Zd), none⟩,
 ⟨some 56, some (.move (.tmp 1)), none⟩,
 ⟨some 57, some (.binOp .geq Zd (.tmp 56) (.const (.int .i64 0)) Zd), none⟩,
 ⟨some 58, some (.move (.tmp 57)), none⟩,
 ⟨some 59, some (.move (.tmp 2)), some (some 58, true)⟩,
 ⟨some 60, some (.binOp .eql Zd (.tmp 59) (.const (.int .i64 0)) Zd), some (some 58, true)⟩,
 ⟨some 61, some (.pick (.tmp 58) (.tmp 60) (.const (.bool false))), none⟩,
 ⟨some 8, some (.assign (.tmp 55)), none⟩,
 ⟨some 9, some (.assign (.tmp 61)), none⟩])
  .ret)))
theorem Zhj {a0 a1 a2 a3 : AV} {H : AHeap} : R Zeh [a0, a1, a2, a3] H = fnK Try.prog [] H [(.tmp 8), (.tmp 9)] (evalL Try.prog KT R Zby (Env.args [a0, a1, a2, a3] 0) H) :=
  runs_body (D := DT) (f := Zeh) Try.func63 (by kernel_rfl) (by kernel_rfl) (by kernel_rfl) (by kernel_rfl) (by kernel_rfl) (Nat.le_of_ble_eq_true rfl)
def Zg5 : LCode := (.seq (.reg [] [⟨some 1, some (.box Zgp (.tmp 0)), none⟩,
 ⟨some 2, some (.alloc Zu), none⟩])
  (.seq (.reg [] [⟨some 3, some (.makeFunc (.func Zb4) #[] #[.tmp 1]), none⟩,
 ⟨some 4, some (.build Zu #[(0, (.tmp 3))]), none⟩,
 ⟨none, some (.store Zu (.tmp 2) (.tmp 4)), none⟩])
  .ret))
theorem Zig {a0 : AV} {H : AHeap} : R Zct [a0] H = fnK Try.prog [] H [(.cell 2 Zu)] (evalL Try.prog KT R Zg5 (Env.args [a0] 0) H) :=
  runs_body (D := DT) (f := Zct) Try.func64 (by kernel_rfl) (by kernel_rfl) (by kernel_rfl) (by kernel_rfl) (by kernel_rfl) (Nat.le_of_ble_eq_true rfl)
def Zge : LCode := (.seq (.reg [] [⟨some 2, some (.assign (.const (.bool false))), none⟩])
  (.seq (.reg [] [⟨some 3, some (.move (.tmp 0)), none⟩,
 ⟨some 4, some (.indexAddr Zo (.tmp 3) (.const (.int .i64 0))), none⟩,
 ⟨some 5, some (.load Zb (.tmp 4)), none⟩,
 ⟨some 6, some (.call ⟨(.value (.func Zcx)), #[.tmp 5], #[Zb]⟩), none⟩,
 ⟨some 7, some (.unOp .not Zbe (.tmp 6)), none⟩,
 ⟨some 2, some (.assign (.tmp 7)), none⟩])
  .ret))
theorem Zhr {a0 : AV} {H : AHeap} : R Zdj [a0] H = fnK Try.prog [] H [(.tmp 2)] (evalL Try.prog KT R Zge (Env.args [a0] 0) H) :=
  runs_body (D := DT) (f := Zdj) Try.func65 (by kernel_rfl) (by kernel_rfl) (by kernel_rfl) (by kernel_rfl) (by kernel_rfl) (Nat.le_of_ble_eq_true rfl)
def Zh2 : LCode := (.seq (.reg [] [⟨some 1, some (.box Zb (.tmp 0)), none⟩,
 ⟨some 2, some (.assign (.const (.bool false))), none⟩])
  (.seq (.reg [] [⟨some 3, some (.fieldAddr Zb (.tmp 1) 1), none⟩,
 ⟨some 4, some (.load Ze (.tmp 3)), none⟩,
 ⟨some 5, some (.binOp .eql Ze (.tmp 4) (.const (.int .u64 1)) Ze), none⟩,
 ⟨some 2, some (.assign (.tmp 5)), none⟩])
  .ret))
theorem Ziw {a0 : AV} {H : AHeap} : R Zcx [a0] H = fnK Try.prog [] H [(.tmp 2)] (evalL Try.prog KT R Zh2 (Env.args [a0] 0) H) :=
  runs_body (D := DT) (f := Zcx) Try.func66 (by kernel_rfl) (by kernel_rfl) (by kernel_rfl) (by kernel_rfl) (by kernel_rfl) (Nat.le_of_ble_eq_true rfl)
def Zgf : LCode := (.seq (.reg [] [⟨some 2, some (.assign (.const (.bool false))), none⟩])
  (.seq (.reg [] [⟨some 3, some (.move (.tmp 0)), none⟩,
 ⟨some 4, some (.indexAddr Zo (.tmp 3) (.const (.int .i64 0))), none⟩,
 ⟨some 5, some (.load Zb (.tmp 4)), none⟩,
 ⟨some 6, some (.call ⟨(.value (.func Zcx)), #[.tmp 5], #[Zb]⟩), none⟩,
 ⟨some 7, some (.move (.tmp 6)), none⟩,
 ⟨some 8, some (.move (.tmp 0)), some (some 7, true)⟩,
 ⟨some 9, some (.indexAddr Zo (.tmp 8) (.const (.int .i64 1))), some (some 7, true)⟩,
 ⟨some 10, some (.load Zb (.tmp 9)), some (some 7, true)⟩,
 ⟨some 11, some (.call ⟨(.value (.func Zcx)), #[.tmp 10], #[Zb]⟩), some (some 7, true)⟩,
 ⟨some 12, some (.pick (.tmp 7) (.tmp 11) (.const (.bool false))), none⟩,
 ⟨some 2, some (.assign (.tmp 12)), none⟩])
  .ret))
theorem Zhs {a0 : AV} {H : AHeap} : R Zdk [a0] H = fnK Try.prog [] H [(.tmp 2)] (evalL Try.prog KT R Zgf (Env.args [a0] 0) H) :=
  runs_body (D := DT) (f := Zdk) Try.func67 (by kernel_rfl) (by kernel_rfl) (by kernel_rfl) (by kernel_rfl) (by kernel_rfl) (Nat.le_of_ble_eq_true rfl)
end Go.Proofs.Ytiobohfiaapgeaa
end
