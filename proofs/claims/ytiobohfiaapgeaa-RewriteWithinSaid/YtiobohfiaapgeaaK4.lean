/- Texts AT1 of this claim, one behind the other. -/
import Derived.Test.YtiobohfiaapgeaaChecked
import Derived.Test.YtiobohfiaapgeaaK3
section
namespace Go.Proofs.Ytiobohfiaapgeaa
open Go.RowKit
def Zd : TypeId := 3
def Zbg : TypeId := 4
def Zce : TypeId := 9
def Zn : TypeId := 22
def Zj : TypeId := 24
def Z8 : TypeId := 29
def Z4 : TypeId := 32
def Ze : TypeId := 35
def Za : TypeId := 37
def Zc : TypeId := 39
def Z9 : TypeId := 49
def Zcj : TypeId := 59
def Zcw : TypeId := 60
def Z0 : TypeId := 62
def Zh : TypeId := 63
def Zcf : TypeId := 64
def Zr : TypeId := 66
def Zfl : TypeId := 68
def Zbw : TypeId := 73
def Zbx : TypeId := 77
def Zes : TypeId := 80
def Zj8 : TypeId := 82
def Zb3 : TypeId := 85
def Zp : TypeId := 86
def Zb : TypeId := 96
def Zj6 : TypeId := 101
def Zt : TypeId := 103
def Zg8 : TypeId := 112
def Zd9 : TypeId := 119
def Zd2 : TypeId := 120
def Zee : TypeId := 127
def Zbl : FuncId := 6
def Zdb : FuncId := 7
def Zdo : FuncId := 8
def Zea : FuncId := 9
def Zbu : FuncId := 10
def Zw : FuncId := 11
def Zem : FuncId := 12
def Zbd : FuncId := 13
def Zm : FuncId := 15
def Zo : FuncId := 19
def Zdc : FuncId := 21
def Zd3 : FuncId := 22
def Zez : FuncId := 23
def Zc1 : FuncId := 24
def Zdd : FuncId := 25
def Ze0 : FuncId := 26
def Zk : FuncId := 27
def Zcm : FuncId := 28
def Zcn : FuncId := 29
def Zb4 : FuncId := 30
def Ze6 : FuncId := 31
def Zfr : FuncId := 32
def Ze7 : FuncId := 33
def Zdi : FuncId := 34
def Zf : FuncId := 35
def Zbh : FuncId := 36
def Zbj : FuncId := 37
def Zbr : FuncId := 38
def Zdt : FuncId := 39
def Zfs : FuncId := 40
def Ze1 : FuncId := 41
def Zeo : FuncId := 42
def Zx : FuncId := 43
def Zeg : FuncId := 44
def Z6 : FuncId := 45
def Zz : FuncId := 46
def Zg : FuncId := 47
def Zby : FuncId := 48
def Zd4 : FuncId := 49
def Zbm : FuncId := 50
def Zy : FuncId := 51
def Zcr : FuncId := 52
def Zcl : FuncId := 53
def Zcb : FuncId := 54
def Zdk : FuncId := 55
def Zf8 : FuncId := 56
def Zep : FuncId := 57
def Zfz : FuncId := 58
def Z2 : FuncId := 59
def Z1 : FuncId := 60
def Zet : FuncId := 61
def Zck : FuncId := 62
def Zeu : FuncId := 63
def Zcx : FuncId := 64
def Zdu : FuncId := 65
def Zc2 : FuncId := 66
def Zdv : FuncId := 67
def Zdw : FuncId := 68
def Zc9 : FuncId := 69
def Zdx : FuncId := 70
def Zdy : FuncId := 71
def Zdz : FuncId := 72
def Zbt : FuncId := 73
def Zgv : FuncId := 74
def Zd5 : FuncId := 75
def Ze8 : FuncId := 76
def Zft : FuncId := 77
def Zen : FuncId := 78
def Zfu : FuncId := 79
def Zf9 : FuncId := 80
def Zgw : FuncId := 81
def Zfm : FuncId := 82
def Zba : FuncId := 83
def Z3 : FuncId := 84
def Zb6 : FuncId := 85
def Zc6 : FuncId := 86
def Zbe : FuncId := 87
def Z5 : FuncId := 88
def Zci : FuncId := 89
def Zeq : FuncId := 90
def Zdl : FuncId := 91
def Zer : FuncId := 92
def Zeb : FuncId := 93
def Zbf : FuncId := 94
def Zcc : FuncId := 95
def Zbk : FuncId := 96
def Zcd : FuncId := 97
def Zco : FuncId := 98
def Zdp : FuncId := 99
def Zdm : FuncId := 100
def Zf4 : FuncId := 101
def Zbc : FuncId := 102
def Zec : FuncId := 103
def Zed : FuncId := 104
def Zcp : FuncId := 105
def KT : TypeId → Option (List Sc) := fun t => if t = Za then some [(.i .i64), (.i .u64), (.i .u64)] else if t = Zc then some [(.i .i64), (.i .i64), (.i .i64), (.i .i64), (.i .i64), (.i .i64), (.i .i64), (.i .i64), (.i .u64), (.i .u64), .s] else if t = Zb then some [(.i .u64), (.i .u64)] else none
def DT : Quiets := fun f r => if f = Zbl then (if r = 18 then [5, 8, 10, 12, 999, 1012] else []) else if f = Zw then (if r = 9 then [10, 17, 22, 24, 1011] else if r = 10 then [3, 7, 801, 997, 1008] else []) else if f = Zbd then (if r = 12 then [5, 8, 10, 12] else if r = 1000000 then [0] else []) else if f = Zdc then (if r = 1000000 then [0, 0] else []) else if f = Zd3 then (if r = 1000000 then [0] else []) else if f = Zdd then (if r = 1000000 then [0] else []) else if f = Zb4 then (if r = 1000000 then [0] else []) else if f = Ze7 then (if r = 10 then [14, 15, 6215] else []) else if f = Zbh then (if r = 4 then [10] else []) else if f = Zdt then (if r = 3 then [12, 13] else []) else if f = Zx then (if r = 2 then [8, 9, 5609] else []) else if f = Z6 then (if r = 5 then [10] else if r = 12 then [10] else []) else if f = Zz then (if r = 2 then [3, 5, 999, 1006] else []) else if f = Zby then (if r = 2 then [10] else []) else if f = Zy then (if r = 3 then [10] else []) else if f = Z1 then (if r = 10 then [3] else if r = 12 then [2, 5, 997, 1006] else []) else if f = Zc9 then (if r = 1 then [3] else []) else if f = Zgv then (if r = 4 then [3, 4] else if r = 6 then [3, 4] else []) else if f = Zd5 then (if r = 3 then [1, 5] else []) else if f = Zen then (if r = 8 then [1, 3, 5, 11, 12] else []) else if f = Zf9 then (if r = 4 then [4, 6, 7] else if r = 6 then [5] else if r = 8 then [5] else []) else if f = Zci then (if r = 1 then [1] else []) else if f = Zdl then (if r = 1 then [1, 4, 5] else if r = 16 then [3, 5, 10, 11] else if r = 17 then [1, 3] else if r = 19 then [3, 5, 10, 11] else if r = 20 then [1] else []) else if f = Zeb then (if r = 1 then [1, 4, 5] else []) else if f = Zbk then (if r = 1 then [2] else []) else if f = Zco then (if r = 2 then [1, 2, 3, 1006] else []) else if f = Zdp then (if r = 2 then [3, 4] else []) else if f = Zf4 then (if r = 1 then [3, 5, 10, 11] else if r = 5 then [1] else if r = 7 then [2] else []) else if f = Zcp then (if r = 10 then [3] else if r = 11 then [1, 2, 999, 1005] else []) else []
noncomputable def R : Calling := runs Try.prog KT DT
theorem good : Good Try.prog KT := by
  refine ⟨fun t sh h => ?_, Try.checked.mixed⟩
  unfold KT at h
  split at h
  · rename_i ht; subst ht; cases h; exact keyOK_of (d := 8) (by kernel_rfl) (by omega) (by kernel_rfl) (by kernel_rfl)
  split at h
  · rename_i ht; subst ht; cases h; exact keyOK_of (d := 8) (by kernel_rfl) (by omega) (by kernel_rfl) (by kernel_rfl)
  split at h
  · rename_i ht; subst ht; cases h; exact keyOK_of (d := 8) (by kernel_rfl) (by omega) (by kernel_rfl) (by kernel_rfl)
  cases h
@[simp] theorem ty0 : lnS Try.prog Z9 = .slice := by kernel_rfl
@[simp] theorem ty1 : tZ Try.prog Zc = some [(.int .i64 0), (.int .i64 0), (.int .i64 0), (.int .i64 0), (.int .i64 0), (.int .i64 0), (.int .i64 0), (.int .i64 0), (u 0#64), (u 0#64), (.str .empty)] := by kernel_rfl
@[simp] theorem ty2 : tS Try.prog Zc = some 11 := by kernel_rfl
@[simp] theorem ty3 : ldS Try.prog Zc = some (some 11) := by kernel_rfl
@[simp] theorem ty4 : faS Try.prog Zc 2 = some 2 := by kernel_rfl
@[simp] theorem ty5 : ldS Try.prog Zd = some none := by kernel_rfl
@[simp] theorem ty6 : faS Try.prog Zc 3 = some 3 := by kernel_rfl
@[simp] theorem ty7 : faS Try.prog Zc 4 = some 4 := by kernel_rfl
@[simp] theorem ty8 : bsS Try.prog Z4 = some (1, [(.int .i64 0)]) := by kernel_rfl
@[simp] theorem ty9 : eszS Try.prog Z4 = some 1 := by kernel_rfl
@[simp] theorem ty10 : tS Try.prog Zd = some 1 := by kernel_rfl
@[simp] theorem ty11 : tZ Try.prog Za = some [(.int .i64 0), (u 0#64), (u 0#64)] := by kernel_rfl
@[simp] theorem ty12 : tS Try.prog Za = some 3 := by kernel_rfl
@[simp] theorem ty13 : ldS Try.prog Za = some (some 3) := by kernel_rfl
@[simp] theorem ty14 : KT Za = some [(.i .i64), (.i .u64), (.i .u64)] := by kernel_rfl
@[simp] theorem ty15 : eqS Try.prog Zj = .ptr := by kernel_rfl
@[simp] theorem ty16 : blS Try.prog Zc = some true := by kernel_rfl
@[simp] theorem ty17 : plS Try.prog Zc 0 = some (0, 1) := by kernel_rfl
@[simp] theorem ty18 : plS Try.prog Zc 1 = some (1, 1) := by kernel_rfl
@[simp] theorem ty19 : plS Try.prog Zc 8 = some (10, 1) := by kernel_rfl
@[simp] theorem ty20 : blS Try.prog Za = some true := by kernel_rfl
@[simp] theorem ty21 : plS Try.prog Za 0 = some (0, 1) := by kernel_rfl
@[simp] theorem ty22 : plS Try.prog Za 1 = some (1, 1) := by kernel_rfl
@[simp] theorem ty23 : plS Try.prog Zc 7 = some (7, 3) := by kernel_rfl
@[simp] theorem ty24 : plS Try.prog Zc 2 = some (2, 1) := by kernel_rfl
@[simp] theorem ty25 : plS Try.prog Zc 3 = some (3, 1) := by kernel_rfl
@[simp] theorem ty26 : faS Try.prog Zc 0 = some 0 := by kernel_rfl
@[simp] theorem ty27 : faS Try.prog Zc 7 = some 7 := by kernel_rfl
@[simp] theorem ty28 : mkeyS Try.prog KT Zcf = some (.one (.i .i64)) := by kernel_rfl
@[simp] theorem ty29 : mapS Try.prog KT Zcf = some ((.one (.i .i64)), (.int .i64 0)) := by kernel_rfl
@[simp] theorem ty30 : tZ Try.prog Zr = some [.nilp, .nilm, (.int .i64 0)] := by kernel_rfl
@[simp] theorem ty31 : blS Try.prog Zr = some true := by kernel_rfl
@[simp] theorem ty32 : plS Try.prog Zr 0 = some (0, 1) := by kernel_rfl
@[simp] theorem ty33 : plS Try.prog Zr 1 = some (1, 1) := by kernel_rfl
@[simp] theorem ty34 : lnS Try.prog Z4 = .slice := by kernel_rfl
@[simp] theorem ty35 : faS Try.prog Zr 1 = some 1 := by kernel_rfl
@[simp] theorem ty36 : ldS Try.prog Zcf = some none := by kernel_rfl
@[simp] theorem ty37 : faS Try.prog Zr 2 = some 2 := by kernel_rfl
@[simp] theorem ty38 : ldS Try.prog Z8 = some none := by kernel_rfl
@[simp] theorem ty39 : faS Try.prog Z0 1 = some 1 := by kernel_rfl
@[simp] theorem ty40 : ldS Try.prog Zn = some none := by kernel_rfl
@[simp] theorem ty41 : lnS Try.prog Zn = .slice := by kernel_rfl
@[simp] theorem ty42 : mkS Try.prog Zfl = some (1, 1, [(.bool false)]) := by kernel_rfl
@[simp] theorem ty43 : eszS Try.prog Zfl = some 1 := by kernel_rfl
@[simp] theorem ty44 : tS Try.prog Zbg = some 1 := by kernel_rfl
@[simp] theorem ty45 : ldS Try.prog Zbg = some none := by kernel_rfl
@[simp] theorem ty46 : eszS Try.prog Zn = some 11 := by kernel_rfl
@[simp] theorem ty47 : mkS Try.prog Z4 = some (1, 8, [(.int .i64 0)]) := by kernel_rfl
@[simp] theorem ty48 : faS Try.prog Zr 0 = some 0 := by kernel_rfl
@[simp] theorem ty49 : ldS Try.prog Zj = some none := by kernel_rfl
@[simp] theorem ty50 : tS Try.prog Z8 = some 1 := by kernel_rfl
@[simp] theorem ty51 : faS Try.prog Z0 2 = some 2 := by kernel_rfl
@[simp] theorem ty52 : ldS Try.prog Zcj = some none := by kernel_rfl
@[simp] theorem ty53 : mkeyS Try.prog KT Zcj = some (.many [(.i .i64), (.i .i64), (.i .i64), (.i .i64), (.i .i64), (.i .i64), (.i .i64), (.i .i64), (.i .u64), (.i .u64), .s]) := by kernel_rfl
@[simp] theorem ty54 : mapS Try.prog KT Zcj = some ((.many [(.i .i64), (.i .i64), (.i .i64), (.i .i64), (.i .i64), (.i .i64), (.i .i64), (.i .i64), (.i .u64), (.i .u64), .s]), (.int .i64 0)) := by kernel_rfl
@[simp] theorem ty55 : faS Try.prog Z0 0 = some 0 := by kernel_rfl
@[simp] theorem ty56 : bsS Try.prog Zn = some (11, [(.int .i64 0), (.int .i64 0), (.int .i64 0), (.int .i64 0), (.int .i64 0), (.int .i64 0), (.int .i64 0), (.int .i64 0), (u 0#64), (u 0#64), (.str .empty)]) := by kernel_rfl
@[simp] theorem ty57 : mkS Try.prog Zn = some (11, 96, [(.int .i64 0), (.int .i64 0), (.int .i64 0), (.int .i64 0), (.int .i64 0), (.int .i64 0), (.int .i64 0), (.int .i64 0), (u 0#64), (u 0#64), (.str .empty)]) := by kernel_rfl
@[simp] theorem ty58 : tS Try.prog Zn = some 1 := by kernel_rfl
@[simp] theorem ty59 : faS Try.prog Z0 3 = some 3 := by kernel_rfl
@[simp] theorem ty60 : ldS Try.prog Zcw = some none := by kernel_rfl
@[simp] theorem ty61 : faS Try.prog Zc 8 = some 10 := by kernel_rfl
@[simp] theorem ty62 : ldS Try.prog Zce = some none := by kernel_rfl
@[simp] theorem ty63 : mkeyS Try.prog KT Zcw = some (.one .s) := by kernel_rfl
@[simp] theorem ty64 : mapS Try.prog KT Zcw = some ((.one .s), (.int .i64 0)) := by kernel_rfl
@[simp] theorem ty65 : tZ Try.prog Zes = some [(.int .i64 0), (.int .i64 0), (.int .i64 0)] := by kernel_rfl
@[simp] theorem ty66 : blS Try.prog Zes = some true := by kernel_rfl
@[simp] theorem ty67 : plS Try.prog Zes 0 = some (0, 1) := by kernel_rfl
@[simp] theorem ty68 : plS Try.prog Zes 1 = some (1, 1) := by kernel_rfl
@[simp] theorem ty69 : plS Try.prog Zes 2 = some (2, 1) := by kernel_rfl
@[simp] theorem ty70 : arrS Try.prog Zes = some (3, 1) := by kernel_rfl
@[simp] theorem ty71 : arrL Try.prog Zes = some none := by kernel_rfl
@[simp] theorem ty72 : faS Try.prog Za 0 = some 0 := by kernel_rfl
@[simp] theorem ty73 : faS Try.prog Zc 1 = some 1 := by kernel_rfl
@[simp] theorem ty74 : faS Try.prog Zc 5 = some 5 := by kernel_rfl
@[simp] theorem ty75 : faS Try.prog Zc 6 = some 6 := by kernel_rfl
@[simp] theorem ty76 : faS Try.prog Za 1 = some 1 := by kernel_rfl
@[simp] theorem ty77 : ldS Try.prog Ze = some none := by kernel_rfl
@[simp] theorem ty78 : faS Try.prog Za 2 = some 2 := by kernel_rfl
@[simp] theorem ty79 : tZ Try.prog Zb = some [(u 0#64), (u 0#64)] := by kernel_rfl
@[simp] theorem ty80 : tS Try.prog Zb = some 2 := by kernel_rfl
@[simp] theorem ty81 : faS Try.prog Zb 0 = some 0 := by kernel_rfl
@[simp] theorem ty82 : faS Try.prog Zb 1 = some 1 := by kernel_rfl
@[simp] theorem ty83 : plS Try.prog Za 2 = some (2, 1) := by kernel_rfl
@[simp] theorem ty84 : blS Try.prog Zb = some true := by kernel_rfl
@[simp] theorem ty85 : ldS Try.prog Zb = some (some 2) := by kernel_rfl
@[simp] theorem ty86 : plS Try.prog Zb 0 = some (0, 1) := by kernel_rfl
@[simp] theorem ty87 : plS Try.prog Zb 1 = some (1, 1) := by kernel_rfl
@[simp] theorem ty88 : cvS Try.prog Zd Zee = some (some .u64) := by kernel_rfl
@[simp] theorem ty89 : bsS Try.prog Zp = some (3, [(.int .i64 0), (u 0#64), (u 0#64)]) := by kernel_rfl
@[simp] theorem ty90 : mkS Try.prog Zp = some (3, 24, [(.int .i64 0), (u 0#64), (u 0#64)]) := by kernel_rfl
@[simp] theorem ty91 : lnS Try.prog Zp = .slice := by kernel_rfl
@[simp] theorem ty92 : eszS Try.prog Zp = some 3 := by kernel_rfl
@[simp] theorem ty93 : tZ Try.prog Zt = some [.nilf] := by kernel_rfl
@[simp] theorem ty94 : tS Try.prog Zt = some 1 := by kernel_rfl
@[simp] theorem ty95 : faS Try.prog Zt 0 = some 0 := by kernel_rfl
@[simp] theorem ty96 : ldS Try.prog Zj6 = some none := by kernel_rfl
@[simp] theorem ty97 : blS Try.prog Zt = some true := by kernel_rfl
@[simp] theorem ty98 : plS Try.prog Zt 0 = some (0, 1) := by kernel_rfl
@[simp] theorem ty99 : ldS Try.prog Zt = some (some 1) := by kernel_rfl
@[simp] theorem ty100 : ldS Try.prog Zg8 = some none := by kernel_rfl
@[simp] theorem ty101 : eqS Try.prog Zbg = .bool := by kernel_rfl
@[simp] theorem ty102 : fdS Try.prog Zb 0 = some (0, none) := by kernel_rfl
@[simp] theorem ty103 : fdS Try.prog Za 1 = some (1, none) := by kernel_rfl
@[simp] theorem ty104 : KT Zb = some [(.i .u64), (.i .u64)] := by kernel_rfl
@[simp] theorem ty105 : tS Try.prog Ze = some 1 := by kernel_rfl
@[simp] theorem ty106 : cvS Try.prog Zd Ze = some (some .u64) := by kernel_rfl
@[simp] theorem ty107 : cvS Try.prog Ze Zd = some (some .i64) := by kernel_rfl
@[simp] theorem ty108 : plS Try.prog Zc 5 = some (5, 1) := by kernel_rfl
@[simp] theorem ty109 : plS Try.prog Zc 6 = some (6, 1) := by kernel_rfl
@[simp] theorem ty110 : tZ Try.prog Zd9 = some [(.int .i64 0), (.int .i64 0)] := by kernel_rfl
@[simp] theorem ty111 : blS Try.prog Zd9 = some true := by kernel_rfl
@[simp] theorem ty112 : plS Try.prog Zd9 0 = some (0, 1) := by kernel_rfl
@[simp] theorem ty113 : plS Try.prog Zd9 1 = some (1, 1) := by kernel_rfl
@[simp] theorem ty114 : tZ Try.prog Zd2 = some [(.int .i64 0), (.int .i64 0), (.int .i64 0), (.int .i64 0)] := by kernel_rfl
@[simp] theorem ty115 : blS Try.prog Zd2 = some true := by kernel_rfl
@[simp] theorem ty116 : plS Try.prog Zd2 0 = some (0, 2) := by kernel_rfl
@[simp] theorem ty117 : plS Try.prog Zd2 1 = some (2, 2) := by kernel_rfl
@[simp] theorem ty118 : arrS Try.prog Zd2 = some (2, 2) := by kernel_rfl
@[simp] theorem ty119 : arrL Try.prog Zd2 = some (some 2) := by kernel_rfl
@[simp] theorem ty120 : tS Try.prog Zd9 = some 2 := by kernel_rfl
@[simp] theorem ty121 : arrS Try.prog Zd9 = some (2, 1) := by kernel_rfl
@[simp] theorem ty122 : arrL Try.prog Zd9 = some none := by kernel_rfl
@[simp] theorem ty123 : tZ Try.prog Z0 = some [(.int .i64 0), .nils, .nilm, .nilm] := by kernel_rfl
@[simp] theorem ty124 : blS Try.prog Z0 = some true := by kernel_rfl
@[simp] theorem ty125 : plS Try.prog Z0 0 = some (0, 1) := by kernel_rfl
@[simp] theorem ty126 : plS Try.prog Z0 2 = some (2, 1) := by kernel_rfl
@[simp] theorem ty127 : plS Try.prog Z0 3 = some (3, 1) := by kernel_rfl
@[simp] theorem ty128 : lnS Try.prog Zce = .str := by kernel_rfl
@[simp] theorem ty129 : mkeyS Try.prog KT Zbw = some (.one .s) := by kernel_rfl
@[simp] theorem ty130 : mapS Try.prog KT Zbw = some ((.one .s), (.agg [(.int .i64 0), (u 0#64), (u 0#64)])) := by kernel_rfl
@[simp] theorem ty131 : tZ Try.prog Zbx = some [(.str .empty), (.int .i64 0), (u 0#64), (u 0#64)] := by kernel_rfl
@[simp] theorem ty132 : blS Try.prog Zbx = some true := by kernel_rfl
@[simp] theorem ty133 : plS Try.prog Zbx 0 = some (0, 1) := by kernel_rfl
@[simp] theorem ty134 : plS Try.prog Zbx 1 = some (1, 3) := by kernel_rfl
@[simp] theorem ty135 : bsS Try.prog Z9 = some (4, [(.str .empty), (.int .i64 0), (u 0#64), (u 0#64)]) := by kernel_rfl
@[simp] theorem ty136 : mkS Try.prog Z9 = some (4, 40, [(.str .empty), (.int .i64 0), (u 0#64), (u 0#64)]) := by kernel_rfl
@[simp] theorem ty137 : eszS Try.prog Z9 = some 4 := by kernel_rfl
@[simp] theorem ty138 : ldS Try.prog Zbx = some (some 4) := by kernel_rfl
@[simp] theorem ty139 : tS Try.prog Zbx = some 4 := by kernel_rfl
@[simp] theorem ty140 : faS Try.prog Zbx 0 = some 0 := by kernel_rfl
@[simp] theorem ty141 : faS Try.prog Zbx 1 = some 1 := by kernel_rfl
@[simp] theorem ty142 : mkeyS Try.prog KT Zb3 = some (.one (.i .i64)) := by kernel_rfl
@[simp] theorem ty143 : mapS Try.prog KT Zb3 = some ((.one (.i .i64)), (.agg [(.int .i64 0), (u 0#64), (u 0#64)])) := by kernel_rfl
def Zbz : LCode := (.seq (.seq (.reg [] [⟨some 63, some (.move (.tmp 13)), none⟩,
 ⟨some 64, some (.binOp .lss Zd (.tmp 63) (.const (.int .i64 3)) Zd), none⟩])
  (.cond (.tmp 64) .skip
  (.exit 0)))
  (.seq (.block 1 (.seq (.reg [] [⟨some 67, some (.move (.tmp 12)), none⟩,
 ⟨some 68, some (.move (.tmp 13)), none⟩,
 ⟨some 69, some (.indexAddr Z4 (.tmp 67) (.tmp 68)), none⟩,
 ⟨some 70, some (.load Zd (.tmp 69)), none⟩,
 ⟨some 71, some (.binOp .gtr Zd (.tmp 70) (.const (.int .i64 0)) Zd), none⟩])
  (.cond (.tmp 71) (.seq (.reg [] [⟨some 73, some (.move (.tmp 7)), none⟩,
 ⟨some 74, some (.move (.tmp 12)), none⟩,
 ⟨some 75, some (.move (.tmp 13)), none⟩,
 ⟨some 76, some (.indexAddr Z4 (.tmp 74) (.tmp 75)), none⟩,
 ⟨some 77, some (.load Zd (.tmp 76)), none⟩,
 ⟨some 78, some (.call ⟨(.value (.func Zw)), #[.tmp 73, .tmp 77], #[Zj, Zd]⟩), none⟩,
 ⟨some 72, some (.move (.tmp 78)), none⟩,
 ⟨some 79, some (.extract (.tmp 72) 0), none⟩,
 ⟨some 80, some (.extract (.tmp 72) 1), none⟩,
 ⟨some 14, some (.assign (.tmp 79)), none⟩,
 ⟨some 15, some (.assign (.tmp 80)), none⟩])
  (.seq (.seq (.reg [] [⟨some 81, some (.move (.tmp 15)), none⟩,
 ⟨some 82, some (.binOp .neq Zd (.tmp 81) (.const (.int .i64 0)) Zd), none⟩])
  (.cond (.tmp 82) (.seq (.reg [] [⟨some 83, some (.move (.tmp 15)), none⟩,
 ⟨some 84, some (.binOp .eql Zd (.tmp 83) (.const (.int .i64 33)) Zd), none⟩,
 ⟨some 6, some (.assign (.tmp 84)), none⟩])
  .ret)
  .skip))
  (.reg [] [⟨some 85, some (.move (.tmp 12)), none⟩,
 ⟨some 86, some (.move (.tmp 13)), none⟩,
 ⟨some 87, some (.move (.tmp 14)), none⟩,
 ⟨some 88, some (.indexAddr Z4 (.tmp 85) (.tmp 86)), none⟩,
 ⟨none, some (.store Zd (.tmp 88) (.tmp 87)), none⟩])))
  .skip)))
  (.reg [] [⟨some 65, some (.move (.tmp 13)), none⟩,
 ⟨some 66, some (.binOp .add Zd (.tmp 65) (.const (.int .i64 1)) Zd), none⟩,
 ⟨some 13, some (.assign (.tmp 66)), none⟩])))
def Zbb : LCode := (.seq (.seq (.reg [] [⟨some 135, some (.move (.tmp 23)), none⟩,
 ⟨some 136, some (.binOp .lss Zd (.tmp 135) (.const (.int .i64 1)) Zd), none⟩,
 ⟨some 137, some (.move (.tmp 136)), none⟩,
 ⟨some 138, some (.move (.tmp 21)), some (some 137, false)⟩,
 ⟨some 139, some (.move (.tmp 138)), some (some 137, false)⟩,
 ⟨some 140, some (.move (.tmp 23)), some (some 139, true)⟩,
 ⟨some 141, some (.move (.tmp 20)), some (some 139, true)⟩,
 ⟨some 142, some (.call ⟨(.value (.func Zc1)), #[(.tmp 141), (.const (.int .i64 7))], #[Zn, Zd]⟩), some (some 139, true)⟩,
 ⟨some 143, some (.binOp .shl Zd (.const (.int .i64 1)) (.tmp 142) Zd), some (some 139, true)⟩,
 ⟨some 144, some (.binOp .lss Zd (.tmp 140) (.tmp 143) Zd), some (some 139, true)⟩,
 ⟨some 145, some (.pick (.tmp 139) (.tmp 144) (.const (.bool false))), some (some 137, false)⟩,
 ⟨some 146, some (.pick (.tmp 137) (.const (.bool true)) (.tmp 145)), none⟩])
  (.cond (.tmp 146) .skip
  (.exit 2)))
  (.seq (.block 3 (.seq (.seq (.reg [] [⟨some 149, some (.move (.tmp 21)), none⟩])
  (.cond (.tmp 149) (.reg [] [⟨some 150, some (.move (.tmp 20)), none⟩,
 ⟨some 151, some (.move (.tmp 23)), none⟩,
 ⟨some 152, some (.call ⟨(.value (.func Zdd)), #[.tmp 150, .tmp 151], #[Zn, Zd]⟩), none⟩,
 ⟨some 22, some (.assign (.tmp 152)), none⟩])
  .skip))
  (.seq (.reg [] [⟨some 154, some (.move (.tmp 7)), none⟩,
 ⟨some 155, some (.move (.tmp 1)), none⟩,
 ⟨some 156, some (.move (.tmp 22)), none⟩,
 ⟨some 157, some (.call ⟨(.value (.func Zez)), #[.tmp 154, .tmp 155, .tmp 156], #[Zj, Zd, Z9]⟩), none⟩,
 ⟨some 153, some (.move (.tmp 157)), none⟩,
 ⟨some 158, some (.extract (.tmp 153) 0), none⟩,
 ⟨some 159, some (.extract (.tmp 153) 1), none⟩,
 ⟨some 24, some (.alloc Za), none⟩,
 ⟨none, some (.store Za (.tmp 24) (.tmp 158)), none⟩,
 ⟨some 25, some (.assign (.tmp 159)), none⟩])
  (.seq (.reg [] [⟨some 161, some (.move (.tmp 7)), none⟩,
 ⟨some 162, some (.move (.tmp 16)), none⟩,
 ⟨some 163, some (.move (.tmp 22)), none⟩,
 ⟨some 164, some (.call ⟨(.value (.func Zez)), #[.tmp 161, .tmp 162, .tmp 163], #[Zj, Zd, Z9]⟩), none⟩,
 ⟨some 160, some (.move (.tmp 164)), none⟩,
 ⟨some 165, some (.extract (.tmp 160) 0), none⟩,
 ⟨some 166, some (.extract (.tmp 160) 1), none⟩,
 ⟨some 26, some (.alloc Za), none⟩,
 ⟨none, some (.store Za (.tmp 26) (.tmp 165)), none⟩,
 ⟨some 27, some (.assign (.tmp 166)), none⟩])
  (.seq (.reg [] [⟨some 168, some (.move (.tmp 7)), none⟩,
 ⟨some 169, some (.move (.tmp 18)), none⟩,
 ⟨some 170, some (.move (.tmp 22)), none⟩,
 ⟨some 171, some (.call ⟨(.value (.func Zez)), #[.tmp 168, .tmp 169, .tmp 170], #[Zj, Zd, Z9]⟩), none⟩,
 ⟨some 167, some (.move (.tmp 171)), none⟩,
 ⟨some 172, some (.extract (.tmp 167) 0), none⟩,
 ⟨some 173, some (.extract (.tmp 167) 1), none⟩,
 ⟨some 28, some (.alloc Za), none⟩,
 ⟨none, some (.store Za (.tmp 28) (.tmp 172)), none⟩,
 ⟨some 29, some (.assign (.tmp 173)), none⟩])
  (.seq (.reg [] [⟨some 174, some (.move (.tmp 29)), none⟩,
 ⟨some 175, some (.binOp .neq Zd (.tmp 174) (.const (.int .i64 0)) Zd), none⟩,
 ⟨some 176, some (.move (.tmp 175)), none⟩,
 ⟨some 177, some (.load Za (.tmp 24)), some (some 176, false)⟩,
 ⟨some 178, some (.load Za (.tmp 26)), some (some 176, false)⟩,
 ⟨some 179, some (.binOp .neq Za (.tmp 177) (.tmp 178) Za), some (some 176, false)⟩,
 ⟨some 180, some (.pick (.tmp 176) (.const (.bool true)) (.tmp 179)), none⟩,
 ⟨some 181, some (.move (.tmp 180)), none⟩,
 ⟨some 182, some (.load Za (.tmp 24)), some (some 181, false)⟩,
 ⟨some 183, some (.load Za (.tmp 28)), some (some 181, false)⟩,
 ⟨some 184, some (.binOp .neq Za (.tmp 182) (.tmp 183) Za), some (some 181, false)⟩,
 ⟨some 185, some (.pick (.tmp 181) (.const (.bool true)) (.tmp 184)), none⟩])
  (.cond (.tmp 185) (.seq (.reg [] [⟨some 6, some (.assign (.const (.bool false))), none⟩])
  .ret)
  .skip)))))))
  (.reg [] [⟨some 147, some (.move (.tmp 23)), none⟩,
 ⟨some 148, some (.binOp .add Zd (.tmp 147) (.const (.int .i64 1)) Zd), none⟩,
 ⟨some 23, some (.assign (.tmp 148)), none⟩])))
@[simp] theorem Zhq : defs Zbz = [63, 64, 67, 68, 69, 70, 71, 73, 74, 75, 76, 77, 78, 72, 79, 80, 14, 15, 81, 82, 83, 84, 6, 85, 86, 87, 88, 65, 66, 13] := by rfl
@[simp] theorem Zhr : defs Zbb = [135, 136, 137, 138, 139, 140, 141, 142, 143, 144, 145, 146, 149, 150, 151, 152, 22, 154, 155, 156, 157, 153, 158, 159, 24, 25, 161, 162, 163, 164, 160, 165, 166, 26, 27, 168, 169, 170, 171, 167, 172, 173, 28, 29, 174, 175, 176, 177, 178, 179, 180, 181, 182, 183, 184, 185, 6, 147, 148, 23] := by rfl
def Zeh : LCode := (.seq (.reg [] [⟨some 6, some (.assign (.const (.bool false))), none⟩])
  (.seq (.seq (.reg [] [⟨some 30, some (.call ⟨(.value (.func Zdb)), #[], #[]⟩), none⟩,
 ⟨some 31, some (.unOp .not Zbg (.tmp 30)), none⟩])
  (.cond (.tmp 31) (.seq (.reg [] [⟨some 6, some (.assign (.const (.bool false))), none⟩])
  .ret)
  .skip))
  (.seq (.reg [] [⟨some 33, some (.move (.tmp 0)), none⟩,
 ⟨some 34, some (.call ⟨(.value (.func Zdo)), #[.tmp 33], #[Zn]⟩), none⟩,
 ⟨some 32, some (.move (.tmp 34)), none⟩,
 ⟨some 35, some (.extract (.tmp 32) 0), none⟩,
 ⟨some 36, some (.extract (.tmp 32) 1), none⟩,
 ⟨some 7, some (.assign (.tmp 35)), none⟩,
 ⟨some 8, some (.assign (.tmp 36)), none⟩])
  (.seq (.seq (.reg [] [⟨some 37, some (.move (.tmp 8)), none⟩,
 ⟨some 38, some (.unOp .not Zbg (.tmp 37)), none⟩,
 ⟨some 39, some (.move (.tmp 38)), none⟩,
 ⟨some 40, some (.move (.tmp 2)), some (some 39, false)⟩,
 ⟨some 41, some (.call ⟨(.builtin .len), #[.tmp 40], #[Z9]⟩), some (some 39, false)⟩,
 ⟨some 42, some (.binOp .gtr Zd (.tmp 41) (.const (.int .i64 40)) Zd), some (some 39, false)⟩,
 ⟨some 43, some (.pick (.tmp 39) (.const (.bool true)) (.tmp 42)), none⟩])
  (.cond (.tmp 43) (.seq (.reg [] [⟨some 6, some (.assign (.const (.bool true))), none⟩])
  .ret)
  .skip))
  (.seq (.reg [] [⟨some 44, some (.move (.tmp 1)), none⟩,
 ⟨some 45, some (.move (.tmp 7)), none⟩,
 ⟨some 46, some (.call ⟨(.value (.func Zbu)), #[.tmp 45], #[Zj]⟩), none⟩,
 ⟨some 47, some (.call ⟨(.value (.func Zea)), #[.tmp 44, .tmp 46], #[Zd, Zd]⟩), none⟩,
 ⟨some 48, some (.binOp .add Zd (.const (.int .i64 1)) (.tmp 47) Zd), none⟩,
 ⟨some 1, some (.assign (.tmp 48)), none⟩])
  (.seq (.reg [] [⟨some 50, some (.move (.tmp 7)), none⟩,
 ⟨some 51, some (.move (.tmp 1)), none⟩,
 ⟨some 52, some (.call ⟨(.value (.func Zm)), #[.tmp 50, .tmp 51], #[Zj, Zd]⟩), none⟩,
 ⟨some 49, some (.move (.tmp 52)), none⟩,
 ⟨some 53, some (.extract (.tmp 49) 0), none⟩,
 ⟨some 54, some (.extract (.tmp 49) 1), none⟩,
 ⟨some 9, some (.alloc Zc), none⟩,
 ⟨none, some (.store Zc (.tmp 9) (.tmp 53)), none⟩,
 ⟨some 10, some (.assign (.tmp 54)), none⟩])
  (.seq (.reg [] [⟨some 55, some (.load Zc (.tmp 9)), none⟩,
 ⟨some 11, some (.alloc Zc), none⟩,
 ⟨none, some (.store Zc (.tmp 11) (.tmp 55)), none⟩])
  (.seq (.reg [] [⟨some 56, some (.fieldAddr Zc (.tmp 9) 2), none⟩,
 ⟨some 57, some (.load Zd (.tmp 56)), none⟩,
 ⟨some 58, some (.fieldAddr Zc (.tmp 9) 3), none⟩,
 ⟨some 59, some (.load Zd (.tmp 58)), none⟩,
 ⟨some 60, some (.fieldAddr Zc (.tmp 9) 4), none⟩,
 ⟨some 61, some (.load Zd (.tmp 60)), none⟩,
 ⟨some 62, some (.buildSlice Z4 3 #[(0, (.tmp 57)), (1, (.tmp 59)), (2, (.tmp 61))]), none⟩,
 ⟨some 12, some (.assign (.tmp 62)), none⟩])
  (.seq (.seq (.reg [] [⟨some 13, some (.assign (.const (.int .i64 0))), none⟩])
  (.block 0 (.loop Zbz)))
  (.seq (.reg [5, 8, 10, 12, 999, 1012] [⟨some 89, some (.move (.tmp 12)), none⟩,
 ⟨some 90, some (.indexAddr Z4 (.tmp 89) (.const (.int .i64 0))), none⟩,
 ⟨some 91, some (.load Zd (.tmp 90)), none⟩,
 ⟨some 92, some (.move (.tmp 12)), none⟩,
 ⟨some 93, some (.indexAddr Z4 (.tmp 92) (.const (.int .i64 1))), none⟩,
 ⟨some 94, some (.load Zd (.tmp 93)), none⟩,
 ⟨some 95, some (.move (.tmp 12)), none⟩,
 ⟨some 96, some (.indexAddr Z4 (.tmp 95) (.const (.int .i64 2))), none⟩,
 ⟨some 97, some (.load Zd (.tmp 96)), none⟩,
 ⟨some 98, some (.fieldAddr Zc (.tmp 11) 2), none⟩,
 ⟨none, some (.store Zd (.tmp 98) (.tmp 91)), none⟩,
 ⟨some 99, some (.fieldAddr Zc (.tmp 11) 3), none⟩,
 ⟨none, some (.store Zd (.tmp 99) (.tmp 94)), none⟩,
 ⟨some 100, some (.fieldAddr Zc (.tmp 11) 4), none⟩,
 ⟨none, some (.store Zd (.tmp 100) (.tmp 97)), none⟩])
  (.seq (.reg [] [⟨some 102, some (.move (.tmp 7)), none⟩,
 ⟨some 103, some (.load Zc (.tmp 11)), none⟩,
 ⟨some 104, some (.call ⟨(.value (.func Zo)), #[.tmp 102, .tmp 103], #[Zj, Zc]⟩), none⟩,
 ⟨some 101, some (.move (.tmp 104)), none⟩,
 ⟨some 105, some (.extract (.tmp 101) 0), none⟩,
 ⟨some 106, some (.extract (.tmp 101) 1), none⟩,
 ⟨some 16, some (.assign (.tmp 105)), none⟩,
 ⟨some 17, some (.assign (.tmp 106)), none⟩])
  (.seq (.reg [] [⟨some 108, some (.move (.tmp 7)), none⟩,
 ⟨some 109, some (.move (.tmp 16)), none⟩,
 ⟨some 110, some (.call ⟨(.value (.func Zw)), #[.tmp 108, .tmp 109], #[Zj, Zd]⟩), none⟩,
 ⟨some 107, some (.move (.tmp 110)), none⟩,
 ⟨some 111, some (.extract (.tmp 107) 0), none⟩,
 ⟨some 112, some (.extract (.tmp 107) 1), none⟩,
 ⟨some 18, some (.assign (.tmp 111)), none⟩,
 ⟨some 19, some (.assign (.tmp 112)), none⟩])
  (.seq (.seq (.reg [] [⟨some 113, some (.move (.tmp 17)), none⟩,
 ⟨some 114, some (.move (.tmp 19)), none⟩,
 ⟨some 115, some (.binOp .add Zd (.tmp 113) (.tmp 114) Zd), none⟩,
 ⟨some 116, some (.binOp .neq Zd (.tmp 115) (.const (.int .i64 0)) Zd), none⟩])
  (.cond (.tmp 116) (.seq (.reg [] [⟨some 117, some (.move (.tmp 17)), none⟩,
 ⟨some 118, some (.binOp .eql Zd (.tmp 117) (.const (.int .i64 33)) Zd), none⟩,
 ⟨some 119, some (.move (.tmp 118)), none⟩,
 ⟨some 120, some (.move (.tmp 17)), some (some 119, false)⟩,
 ⟨some 121, some (.binOp .eql Zd (.tmp 120) (.const (.int .i64 0)) Zd), some (some 119, false)⟩,
 ⟨some 122, some (.move (.tmp 121)), some (some 119, false)⟩,
 ⟨some 123, some (.move (.tmp 19)), some (some 122, true)⟩,
 ⟨some 124, some (.binOp .eql Zd (.tmp 123) (.const (.int .i64 33)) Zd), some (some 122, true)⟩,
 ⟨some 125, some (.pick (.tmp 122) (.tmp 124) (.const (.bool false))), some (some 119, false)⟩,
 ⟨some 126, some (.pick (.tmp 119) (.const (.bool true)) (.tmp 125)), none⟩,
 ⟨some 6, some (.assign (.tmp 126)), none⟩])
  .ret)
  .skip))
  (.seq (.reg [] [⟨some 128, some (.move (.tmp 7)), none⟩,
 ⟨some 129, some (.call ⟨(.value (.func Zdc)), #[(.tmp 128), (.const (.int .i64 7))], #[Zj, Zd]⟩), none⟩,
 ⟨some 127, some (.move (.tmp 129)), none⟩,
 ⟨some 130, some (.extract (.tmp 127) 0), none⟩,
 ⟨some 131, some (.extract (.tmp 127) 1), none⟩,
 ⟨some 20, some (.assign (.tmp 130)), none⟩,
 ⟨some 21, some (.assign (.tmp 131)), none⟩])
  (.seq (.reg [] [⟨some 132, some (.move (.tmp 7)), none⟩,
 ⟨some 133, some (.move (.tmp 2)), none⟩,
 ⟨some 134, some (.call ⟨(.value (.func Zd3)), #[.tmp 132, .tmp 133], #[Zj, Z9]⟩), none⟩,
 ⟨some 22, some (.assign (.tmp 134)), none⟩])
  (.seq (.seq (.reg [] [⟨some 23, some (.assign (.const (.int .i64 0))), none⟩])
  (.block 2 (.loop Zbb)))
  (.seq (.reg [] [⟨some 6, some (.assign (.const (.bool true))), none⟩])
  .ret)))))))))))))))))
theorem Zf0 {a0 a1 a2 : AV} {H : AHeap} : R Zbl [a0, a1, a2] H = fnK Try.prog [] H [(.tmp 6)] (evalL Try.prog KT R Zeh (Env.args [a0, a1, a2] 0) H) :=
  runs_body (D := DT) (f := Zbl) Try.func6 (by kernel_rfl) (by kernel_rfl) (by kernel_rfl) (by kernel_rfl) (by kernel_rfl) (Nat.le_of_ble_eq_true rfl)
def Zf5 : LCode := (.seq (.reg [] [⟨some 0, some (.assign (.const (.bool false))), none⟩])
  (.seq (.reg [] [⟨some 24, some (.call ⟨(.value (.func Ze0)), #[(.const (.int .i64 50))], #[Zd]⟩), none⟩,
 ⟨some 1, some (.assign (.tmp 24)), none⟩])
  (.seq (.seq (.reg [] [⟨some 25, some (.move (.tmp 1)), none⟩,
 ⟨some 26, some (.binOp .eql Zj (.tmp 25) (.const (.pointer none)) Zj), none⟩])
  (.cond (.tmp 26) (.seq (.reg [] [⟨some 0, some (.assign (.const (.bool false))), none⟩])
  .ret)
  .skip))
  (.seq (.reg [] [⟨some 28, some (.move (.tmp 1)), none⟩,
 ⟨some 29, some (.build Zc #[(0, (.const (.int .i64 2))), (1, (.const (.int .i64 4))), (8, (.const (.string { data := #[120] })))]), none⟩,
 ⟨some 30, some (.call ⟨(.value (.func Zo)), #[.tmp 28, .tmp 29], #[Zj, Zc]⟩), none⟩,
 ⟨some 27, some (.move (.tmp 30)), none⟩,
 ⟨some 31, some (.extract (.tmp 27) 0), none⟩,
 ⟨some 32, some (.extract (.tmp 27) 1), none⟩,
 ⟨some 2, some (.assign (.tmp 31)), none⟩,
 ⟨some 3, some (.assign (.tmp 32)), none⟩])
  (.seq (.reg [] [⟨some 34, some (.move (.tmp 1)), none⟩,
 ⟨some 35, some (.build Za #[(0, (.const (.int .i64 4))), (1, (.const (.int .u64 3)))]), none⟩,
 ⟨some 36, some (.build Zc #[(0, (.const (.int .i64 1))), (1, (.const (.int .i64 4))), (7, (.tmp 35))]), none⟩,
 ⟨some 37, some (.call ⟨(.value (.func Zo)), #[.tmp 34, .tmp 36], #[Zj, Zc]⟩), none⟩,
 ⟨some 33, some (.move (.tmp 37)), none⟩,
 ⟨some 38, some (.extract (.tmp 33) 0), none⟩,
 ⟨some 39, some (.extract (.tmp 33) 1), none⟩,
 ⟨some 4, some (.assign (.tmp 38)), none⟩,
 ⟨some 5, some (.assign (.tmp 39)), none⟩])
  (.seq (.reg [] [⟨some 41, some (.move (.tmp 1)), none⟩,
 ⟨some 42, some (.build Za #[(0, (.const (.int .i64 4)))]), none⟩,
 ⟨some 43, some (.build Zc #[(0, (.const (.int .i64 1))), (1, (.const (.int .i64 4))), (7, (.tmp 42))]), none⟩,
 ⟨some 44, some (.call ⟨(.value (.func Zo)), #[.tmp 41, .tmp 43], #[Zj, Zc]⟩), none⟩,
 ⟨some 40, some (.move (.tmp 44)), none⟩,
 ⟨some 45, some (.extract (.tmp 40) 0), none⟩,
 ⟨some 46, some (.extract (.tmp 40) 1), none⟩,
 ⟨some 6, some (.assign (.tmp 45)), none⟩,
 ⟨some 7, some (.assign (.tmp 46)), none⟩])
  (.seq (.reg [] [⟨some 48, some (.move (.tmp 1)), none⟩,
 ⟨some 49, some (.move (.tmp 4)), none⟩,
 ⟨some 50, some (.move (.tmp 6)), none⟩,
 ⟨some 51, some (.build Zc #[(0, (.const (.int .i64 20))), (2, (.tmp 49)), (3, (.tmp 50))]), none⟩,
 ⟨some 52, some (.call ⟨(.value (.func Zo)), #[.tmp 48, .tmp 51], #[Zj, Zc]⟩), none⟩,
 ⟨some 47, some (.move (.tmp 52)), none⟩,
 ⟨some 53, some (.extract (.tmp 47) 0), none⟩,
 ⟨some 54, some (.extract (.tmp 47) 1), none⟩,
 ⟨some 8, some (.assign (.tmp 53)), none⟩,
 ⟨some 9, some (.assign (.tmp 54)), none⟩])
  (.seq (.reg [] [⟨some 56, some (.move (.tmp 1)), none⟩,
 ⟨some 57, some (.move (.tmp 2)), none⟩,
 ⟨some 58, some (.move (.tmp 8)), none⟩,
 ⟨some 59, some (.build Zc #[(0, (.const (.int .i64 18))), (2, (.tmp 57)), (3, (.tmp 58))]), none⟩,
 ⟨some 60, some (.call ⟨(.value (.func Zo)), #[.tmp 56, .tmp 59], #[Zj, Zc]⟩), none⟩,
 ⟨some 55, some (.move (.tmp 60)), none⟩,
 ⟨some 61, some (.extract (.tmp 55) 0), none⟩,
 ⟨some 62, some (.extract (.tmp 55) 1), none⟩,
 ⟨some 10, some (.assign (.tmp 61)), none⟩,
 ⟨some 11, some (.assign (.tmp 62)), none⟩])
  (.seq (.reg [] [⟨some 64, some (.move (.tmp 1)), none⟩,
 ⟨some 65, some (.move (.tmp 2)), none⟩,
 ⟨some 66, some (.move (.tmp 2)), none⟩,
 ⟨some 67, some (.build Zc #[(0, (.const (.int .i64 8))), (2, (.tmp 65)), (3, (.tmp 66))]), none⟩,
 ⟨some 68, some (.call ⟨(.value (.func Zo)), #[.tmp 64, .tmp 67], #[Zj, Zc]⟩), none⟩,
 ⟨some 63, some (.move (.tmp 68)), none⟩,
 ⟨some 69, some (.extract (.tmp 63) 0), none⟩,
 ⟨some 70, some (.extract (.tmp 63) 1), none⟩,
 ⟨some 12, some (.assign (.tmp 69)), none⟩,
 ⟨some 13, some (.assign (.tmp 70)), none⟩])
  (.seq (.reg [] [⟨some 72, some (.move (.tmp 1)), none⟩,
 ⟨some 73, some (.move (.tmp 10)), none⟩,
 ⟨some 74, some (.call ⟨(.value (.func Zw)), #[.tmp 72, .tmp 73], #[Zj, Zd]⟩), none⟩,
 ⟨some 71, some (.move (.tmp 74)), none⟩,
 ⟨some 75, some (.extract (.tmp 71) 0), none⟩,
 ⟨some 76, some (.extract (.tmp 71) 1), none⟩,
 ⟨some 14, some (.assign (.tmp 75)), none⟩,
 ⟨some 15, some (.assign (.tmp 76)), none⟩])
  (.seq (.reg [] [⟨some 78, some (.move (.tmp 1)), none⟩,
 ⟨some 79, some (.move (.tmp 12)), none⟩,
 ⟨some 80, some (.call ⟨(.value (.func Zw)), #[.tmp 78, .tmp 79], #[Zj, Zd]⟩), none⟩,
 ⟨some 77, some (.move (.tmp 80)), none⟩,
 ⟨some 81, some (.extract (.tmp 77) 0), none⟩,
 ⟨some 82, some (.extract (.tmp 77) 1), none⟩,
 ⟨some 16, some (.assign (.tmp 81)), none⟩,
 ⟨some 17, some (.assign (.tmp 82)), none⟩])
  (.seq (.reg [] [⟨some 84, some (.move (.tmp 1)), none⟩,
 ⟨some 85, some (.move (.tmp 16)), none⟩,
 ⟨some 86, some (.call ⟨(.value (.func Zm)), #[.tmp 84, .tmp 85], #[Zj, Zd]⟩), none⟩,
 ⟨some 83, some (.move (.tmp 86)), none⟩,
 ⟨some 87, some (.extract (.tmp 83) 0), none⟩,
 ⟨some 88, some (.extract (.tmp 83) 1), none⟩,
 ⟨some 18, some (.alloc Zc), none⟩,
 ⟨none, some (.store Zc (.tmp 18) (.tmp 87)), none⟩,
 ⟨some 19, some (.assign (.tmp 88)), none⟩])
  (.seq (.reg [] [⟨some 90, some (.move (.tmp 1)), none⟩,
 ⟨some 91, some (.move (.tmp 10)), none⟩,
 ⟨some 92, some (.call ⟨(.value (.func Zem)), #[.tmp 90, .tmp 91], #[Zj, Zd]⟩), none⟩,
 ⟨some 89, some (.move (.tmp 92)), none⟩,
 ⟨some 93, some (.extract (.tmp 89) 0), none⟩,
 ⟨some 94, some (.extract (.tmp 89) 1), none⟩,
 ⟨some 20, some (.assign (.tmp 93)), none⟩,
 ⟨some 21, some (.assign (.tmp 94)), none⟩])
  (.seq (.reg [] [⟨some 96, some (.move (.tmp 1)), none⟩,
 ⟨some 97, some (.call ⟨(.value (.func Zw)), #[(.tmp 96), (.const (.int .i64 99))], #[Zj, Zd]⟩), none⟩,
 ⟨some 95, some (.move (.tmp 97)), none⟩,
 ⟨some 98, some (.extract (.tmp 95) 0), none⟩,
 ⟨some 99, some (.extract (.tmp 95) 1), none⟩,
 ⟨some 22, some (.assign (.tmp 98)), none⟩,
 ⟨some 23, some (.assign (.tmp 99)), none⟩])
  (.seq (.reg [] [⟨some 100, some (.move (.tmp 15)), none⟩,
 ⟨some 101, some (.move (.tmp 17)), none⟩,
 ⟨some 102, some (.binOp .add Zd (.tmp 100) (.tmp 101) Zd), none⟩,
 ⟨some 103, some (.move (.tmp 21)), none⟩,
 ⟨some 104, some (.binOp .add Zd (.tmp 102) (.tmp 103) Zd), none⟩,
 ⟨some 105, some (.binOp .eql Zd (.tmp 104) (.const (.int .i64 0)) Zd), none⟩,
 ⟨some 106, some (.move (.tmp 105)), none⟩,
 ⟨some 107, some (.move (.tmp 23)), some (some 106, true)⟩,
 ⟨some 108, some (.binOp .eql Zd (.tmp 107) (.const (.int .i64 70)) Zd), some (some 106, true)⟩,
 ⟨some 109, some (.pick (.tmp 106) (.tmp 108) (.const (.bool false))), none⟩,
 ⟨some 110, some (.move (.tmp 109)), none⟩,
 ⟨some 111, some (.move (.tmp 14)), some (some 110, true)⟩,
 ⟨some 112, some (.move (.tmp 2)), some (some 110, true)⟩,
 ⟨some 113, some (.binOp .eql Zd (.tmp 111) (.tmp 112) Zd), some (some 110, true)⟩,
 ⟨some 114, some (.pick (.tmp 110) (.tmp 113) (.const (.bool false))), none⟩,
 ⟨some 115, some (.move (.tmp 114)), none⟩,
 ⟨some 116, some (.move (.tmp 19)), some (some 115, true)⟩,
 ⟨some 117, some (.pick (.tmp 115) (.tmp 116) (.const (.bool false))), none⟩,
 ⟨some 118, some (.move (.tmp 117)), none⟩,
 ⟨some 119, some (.fieldAddr Zc (.tmp 18) 0), some (some 118, true)⟩,
 ⟨some 120, some (.load Zd (.tmp 119)), some (some 118, true)⟩,
 ⟨some 121, some (.binOp .eql Zd (.tmp 120) (.const (.int .i64 1)) Zd), some (some 118, true)⟩,
 ⟨some 122, some (.pick (.tmp 118) (.tmp 121) (.const (.bool false))), none⟩,
 ⟨some 123, some (.move (.tmp 122)), none⟩,
 ⟨some 124, some (.fieldAddr Zc (.tmp 18) 7), some (some 123, true)⟩,
 ⟨some 125, some (.load Za (.tmp 124)), some (some 123, true)⟩,
 ⟨some 126, some (.build Za #[(1, (.const (.int .u64 1)))]), some (some 123, true)⟩,
 ⟨some 127, some (.binOp .eql Za (.tmp 125) (.tmp 126) Za), some (some 123, true)⟩,
 ⟨some 128, some (.pick (.tmp 123) (.tmp 127) (.const (.bool false))), none⟩,
 ⟨some 129, some (.move (.tmp 128)), none⟩,
 ⟨some 130, some (.move (.tmp 20)), some (some 129, true)⟩,
 ⟨some 131, some (.binOp .eql Zd (.tmp 130) (.const (.int .i64 5)) Zd), some (some 129, true)⟩,
 ⟨some 132, some (.pick (.tmp 129) (.tmp 131) (.const (.bool false))), none⟩,
 ⟨some 0, some (.assign (.tmp 132)), none⟩])
  .ret)))))))))))))))
theorem Zhe {H : AHeap} : R Zdb [] H = fnK Try.prog [] H [(.tmp 0)] (evalL Try.prog KT R Zf5 (Env.args [] 0) H) :=
  runs_body (D := DT) (f := Zdb) Try.func7 (by kernel_rfl) (by kernel_rfl) (by kernel_rfl) (by kernel_rfl) (by kernel_rfl) (Nat.le_of_ble_eq_true rfl)
def Zc7 : LCode := (.seq (.seq (.reg [] [⟨some 10, some (.move (.tmp 5)), none⟩,
 ⟨some 11, some (.move (.tmp 0)), none⟩,
 ⟨some 12, some (.call ⟨(.builtin .len), #[.tmp 11], #[Zn]⟩), none⟩,
 ⟨some 13, some (.binOp .lss Zd (.tmp 10) (.tmp 12) Zd), none⟩])
  (.cond (.tmp 13) .skip
  (.exit 0)))
  (.seq (.block 1 (.seq (.seq (.reg [] [⟨some 16, some (.move (.tmp 0)), none⟩,
 ⟨some 17, some (.move (.tmp 5)), none⟩,
 ⟨some 18, some (.indexAddr Zn (.tmp 16) (.tmp 17)), none⟩,
 ⟨some 19, some (.fieldAddr Zc (.tmp 18) 8), none⟩,
 ⟨some 20, some (.load Zce (.tmp 19)), none⟩,
 ⟨some 21, some (.call ⟨(.builtin .len), #[.tmp 20], #[Zce]⟩), none⟩,
 ⟨some 22, some (.binOp .gtr Zd (.tmp 21) (.const (.int .i64 60)) Zd), none⟩])
  (.cond (.tmp 22) (.seq (.reg [] [⟨some 2, some (.assign (.const (.pointer none))), none⟩,
 ⟨some 3, some (.assign (.const (.bool false))), none⟩])
  .ret)
  .skip))
  (.reg [] [⟨some 23, some (.move (.tmp 4)), none⟩,
 ⟨some 24, some (.move (.tmp 0)), none⟩,
 ⟨some 25, some (.move (.tmp 5)), none⟩,
 ⟨some 26, some (.indexAddr Zn (.tmp 24) (.tmp 25)), none⟩,
 ⟨some 27, some (.load Zc (.tmp 26)), none⟩,
 ⟨some 28, some (.call ⟨(.value (.func Zo)), #[.tmp 23, .tmp 27], #[Zj, Zc]⟩), none⟩])))
  (.reg [] [⟨some 14, some (.move (.tmp 5)), none⟩,
 ⟨some 15, some (.binOp .add Zd (.tmp 14) (.const (.int .i64 1)) Zd), none⟩,
 ⟨some 5, some (.assign (.tmp 15)), none⟩])))
@[simp] theorem Zjc : defs Zc7 = [10, 11, 12, 13, 16, 17, 18, 19, 20, 21, 22, 2, 3, 23, 24, 25, 26, 27, 28, 14, 15, 5] := by rfl
def Zfh : LCode := (.seq (.reg [] [⟨some 2, some (.assign (.const (.pointer none))), none⟩,
 ⟨some 3, some (.assign (.const (.bool false))), none⟩])
  (.seq (.seq (.reg [] [⟨some 6, some (.move (.tmp 0)), none⟩,
 ⟨some 7, some (.call ⟨(.builtin .len), #[.tmp 6], #[Zn]⟩), none⟩,
 ⟨some 8, some (.binOp .gtr Zd (.tmp 7) (.const (.int .i64 60)) Zd), none⟩])
  (.cond (.tmp 8) (.seq (.reg [] [⟨some 2, some (.assign (.const (.pointer none))), none⟩,
 ⟨some 3, some (.assign (.const (.bool false))), none⟩])
  .ret)
  .skip))
  (.seq (.reg [] [⟨some 9, some (.call ⟨(.value (.func Ze0)), #[(.const (.int .i64 4096))], #[Zd]⟩), none⟩,
 ⟨some 4, some (.assign (.tmp 9)), none⟩])
  (.seq (.seq (.reg [] [⟨some 5, some (.assign (.const (.int .i64 0))), none⟩])
  (.block 0 (.loop Zc7)))
  (.seq (.reg [] [⟨some 29, some (.move (.tmp 4)), none⟩,
 ⟨some 30, some (.move (.tmp 4)), none⟩,
 ⟨some 31, some (.call ⟨(.value (.func Zbu)), #[.tmp 30], #[Zj]⟩), none⟩,
 ⟨some 32, some (.binOp .gtr Zd (.tmp 31) (.const (.int .i64 0)) Zd), none⟩,
 ⟨some 2, some (.assign (.tmp 29)), none⟩,
 ⟨some 3, some (.assign (.tmp 32)), none⟩])
  .ret)))))
theorem Zhs {a0 : AV} {H : AHeap} : R Zdo [a0] H = fnK Try.prog [] H [(.tmp 2), (.tmp 3)] (evalL Try.prog KT R Zfh (Env.args [a0] 0) H) :=
  runs_body (D := DT) (f := Zdo) Try.func8 (by kernel_rfl) (by kernel_rfl) (by kernel_rfl) (by kernel_rfl) (by kernel_rfl) (Nat.le_of_ble_eq_true rfl)
def Ze2 : LCode := (.seq (.reg [] [⟨some 4, some (.assign (.const (.int .i64 0))), none⟩])
  (.seq (.reg [] [⟨some 5, some (.move (.tmp 0)), none⟩,
 ⟨some 6, some (.move (.tmp 1)), none⟩,
 ⟨some 7, some (.binOp .rem Zd (.tmp 5) (.tmp 6) Zd), none⟩,
 ⟨some 0, some (.assign (.tmp 7)), none⟩])
  (.seq (.seq (.reg [] [⟨some 8, some (.move (.tmp 0)), none⟩,
 ⟨some 9, some (.binOp .lss Zd (.tmp 8) (.const (.int .i64 0)) Zd), none⟩])
  (.cond (.tmp 9) (.reg [] [⟨some 10, some (.move (.tmp 0)), none⟩,
 ⟨some 11, some (.move (.tmp 1)), none⟩,
 ⟨some 12, some (.binOp .add Zd (.tmp 10) (.tmp 11) Zd), none⟩,
 ⟨some 0, some (.assign (.tmp 12)), none⟩])
  .skip))
  (.seq (.reg [] [⟨some 13, some (.move (.tmp 0)), none⟩,
 ⟨some 4, some (.assign (.tmp 13)), none⟩])
  .ret))))
theorem Zhf {a0 a1 : AV} {H : AHeap} : R Zea [a0, a1] H = fnK Try.prog [] H [(.tmp 4)] (evalL Try.prog KT R Ze2 (Env.args [a0, a1] 0) H) :=
  runs_body (D := DT) (f := Zea) Try.func9 (by kernel_rfl) (by kernel_rfl) (by kernel_rfl) (by kernel_rfl) (by kernel_rfl) (Nat.le_of_ble_eq_true rfl)
def Zey : LCode := (.seq (.reg [] [⟨some 2, some (.assign (.const (.int .i64 0))), none⟩])
  (.seq (.reg [] [⟨some 3, some (.move (.tmp 0)), none⟩,
 ⟨some 4, some (.nilCheck (.tmp 3)), none⟩,
 ⟨some 5, some (.fieldAddr Z0 (.tmp 4) 1), none⟩,
 ⟨some 6, some (.load Zn (.tmp 5)), none⟩,
 ⟨some 7, some (.call ⟨(.builtin .len), #[.tmp 6], #[Zn]⟩), none⟩,
 ⟨some 2, some (.assign (.tmp 7)), none⟩])
  .ret))
theorem Zgg {a0 : AV} {H : AHeap} : R Zbu [a0] H = fnK Try.prog [] H [(.tmp 2)] (evalL Try.prog KT R Zey (Env.args [a0] 0) H) :=
  runs_body (D := DT) (f := Zbu) Try.func10 (by kernel_rfl) (by kernel_rfl) (by kernel_rfl) (by kernel_rfl) (by kernel_rfl) (Nat.le_of_ble_eq_true rfl)
def Zcq : LCode := (.seq (.reg [] [⟨some 30, some (.binOp .lss Zd (.tmp 29) (.tmp 28) Zd), none⟩])
  (.seq (.cond (.tmp 30) .skip
  (.exit 0))
  (.seq (.block 1 (.seq (.reg [] [⟨some 31, some (.indexAddr Z4 (.tmp 27) (.tmp 29)), none⟩,
 ⟨some 32, some (.load Zd (.tmp 31)), none⟩,
 ⟨some 10, some (.assign (.tmp 32)), none⟩])
  (.seq (.reg [] [⟨some 34, some (.move (.tmp 0)), none⟩,
 ⟨some 35, some (.move (.tmp 10)), none⟩,
 ⟨some 36, some (.call ⟨(.value (.func Zm)), #[.tmp 34, .tmp 35], #[Zj, Zd]⟩), none⟩,
 ⟨some 33, some (.move (.tmp 36)), none⟩,
 ⟨some 37, some (.extract (.tmp 33) 0), none⟩,
 ⟨some 38, some (.extract (.tmp 33) 1), none⟩,
 ⟨some 11, some (.alloc Zc), none⟩,
 ⟨none, some (.store Zc (.tmp 11) (.tmp 37)), none⟩,
 ⟨some 12, some (.assign (.tmp 38)), none⟩])
  (.seq (.reg [10, 17, 22, 24, 1011] [⟨some 39, some (.move (.tmp 8)), none⟩,
 ⟨some 40, some (.nilCheck (.tmp 39)), none⟩,
 ⟨some 41, some (.fieldAddr Zr (.tmp 40) 1), none⟩,
 ⟨some 42, some (.load Zcf (.tmp 41)), none⟩,
 ⟨some 43, some (.fieldAddr Zc (.tmp 11) 2), none⟩,
 ⟨some 44, some (.load Zd (.tmp 43)), none⟩,
 ⟨some 45, some (.lookup Zcf (.tmp 42) (.tmp 44) false), none⟩,
 ⟨some 46, some (.move (.tmp 8)), none⟩,
 ⟨some 47, some (.nilCheck (.tmp 46)), none⟩,
 ⟨some 48, some (.fieldAddr Zr (.tmp 47) 1), none⟩,
 ⟨some 49, some (.load Zcf (.tmp 48)), none⟩,
 ⟨some 50, some (.fieldAddr Zc (.tmp 11) 3), none⟩,
 ⟨some 51, some (.load Zd (.tmp 50)), none⟩,
 ⟨some 52, some (.lookup Zcf (.tmp 49) (.tmp 51) false), none⟩,
 ⟨some 53, some (.move (.tmp 8)), none⟩,
 ⟨some 54, some (.nilCheck (.tmp 53)), none⟩,
 ⟨some 55, some (.fieldAddr Zr (.tmp 54) 1), none⟩,
 ⟨some 56, some (.load Zcf (.tmp 55)), none⟩,
 ⟨some 57, some (.fieldAddr Zc (.tmp 11) 4), none⟩,
 ⟨some 58, some (.load Zd (.tmp 57)), none⟩,
 ⟨some 59, some (.lookup Zcf (.tmp 56) (.tmp 58) false), none⟩,
 ⟨some 60, some (.fieldAddr Zc (.tmp 11) 2), none⟩,
 ⟨none, some (.store Zd (.tmp 60) (.tmp 45)), none⟩,
 ⟨some 61, some (.fieldAddr Zc (.tmp 11) 3), none⟩,
 ⟨none, some (.store Zd (.tmp 61) (.tmp 52)), none⟩,
 ⟨some 62, some (.fieldAddr Zc (.tmp 11) 4), none⟩,
 ⟨none, some (.store Zd (.tmp 62) (.tmp 59)), none⟩])
  (.seq (.reg [3, 7, 801, 997, 1008] [⟨some 63, some (.move (.tmp 8)), none⟩,
 ⟨some 64, some (.nilCheck (.tmp 63)), none⟩,
 ⟨some 65, some (.fieldAddr Zr (.tmp 64) 1), none⟩,
 ⟨some 66, some (.load Zcf (.tmp 65)), none⟩,
 ⟨some 67, some (.move (.tmp 10)), none⟩,
 ⟨some 68, some (.move (.tmp 8)), none⟩,
 ⟨some 69, some (.load Zc (.tmp 11)), none⟩,
 ⟨some 70, some (.call ⟨(.value (.func Zk)), #[.tmp 68, .tmp 69], #[Zh, Zc]⟩), none⟩,
 ⟨none, some (.mapUpdate Zcf (.tmp 66) (.tmp 67) (.tmp 70)), none⟩])
  (.seq (.reg [] [⟨some 71, some (.move (.tmp 8)), none⟩,
 ⟨some 72, some (.nilCheck (.tmp 71)), none⟩,
 ⟨some 73, some (.fieldAddr Zr (.tmp 72) 2), none⟩,
 ⟨some 74, some (.load Z8 (.tmp 73)), none⟩,
 ⟨some 75, some (.binOp .neq Z8 (.tmp 74) (.const (.int .i64 0)) Z8), none⟩])
  (.cond (.tmp 75) (.seq (.reg [] [⟨some 76, some (.move (.tmp 8)), none⟩,
 ⟨some 77, some (.nilCheck (.tmp 76)), none⟩,
 ⟨some 78, some (.fieldAddr Zr (.tmp 77) 2), none⟩,
 ⟨some 79, some (.load Z8 (.tmp 78)), none⟩,
 ⟨some 4, some (.assign (.const (.int .i64 0))), none⟩,
 ⟨some 5, some (.assign (.tmp 79)), none⟩])
  .ret)
  .skip)))))))
  (.reg [] [⟨some 80, some (.binOp .add Zd (.tmp 29) (.const (.int .i64 1)) Zd), none⟩,
 ⟨some 29, some (.move (.tmp 80)), none⟩]))))
@[simp] theorem Ziw : defs Zcq = [30, 31, 32, 10, 34, 35, 36, 33, 37, 38, 11, 12, 39, 40, 41, 42, 43, 44, 45, 46, 47, 48, 49, 50, 51, 52, 53, 54, 55, 56, 57, 58, 59, 60, 61, 62, 63, 64, 65, 66, 67, 68, 69, 70, 71, 72, 73, 74, 75, 76, 77, 78, 79, 4, 5, 80, 29] := by rfl
def Zev : LCode := (.seq (.reg [] [⟨some 4, some (.assign (.const (.int .i64 0))), none⟩,
 ⟨some 5, some (.assign (.const (.int .i64 0))), none⟩])
  (.seq (.seq (.reg [] [⟨some 14, some (.move (.tmp 0)), none⟩,
 ⟨some 15, some (.move (.tmp 1)), none⟩,
 ⟨some 16, some (.call ⟨(.value (.func Zm)), #[.tmp 14, .tmp 15], #[Zj, Zd]⟩), none⟩,
 ⟨some 13, some (.move (.tmp 16)), none⟩,
 ⟨some 17, some (.extract (.tmp 13) 0), none⟩,
 ⟨some 18, some (.extract (.tmp 13) 1), none⟩,
 ⟨some 6, some (.alloc Zc), none⟩,
 ⟨none, some (.store Zc (.tmp 6) (.tmp 17)), none⟩,
 ⟨some 7, some (.assign (.tmp 18)), none⟩])
  (.seq (.reg [] [⟨some 19, some (.move (.tmp 7)), none⟩,
 ⟨some 20, some (.unOp .not Zbg (.tmp 19)), none⟩])
  (.cond (.tmp 20) (.seq (.reg [] [⟨some 4, some (.assign (.const (.int .i64 0))), none⟩,
 ⟨some 5, some (.assign (.const (.int .i64 70))), none⟩])
  .ret)
  .skip)))
  (.seq (.reg [] [⟨some 21, some (.move (.tmp 0)), none⟩,
 ⟨some 22, some (.makeMap Zcf none), none⟩,
 ⟨some 23, some (.build Zr #[(0, (.tmp 21)), (1, (.tmp 22))]), none⟩,
 ⟨some 24, some (.box Zr (.tmp 23)), none⟩,
 ⟨some 8, some (.assign (.tmp 24)), none⟩])
  (.seq (.seq (.reg [] [⟨some 25, some (.move (.tmp 0)), none⟩,
 ⟨some 26, some (.move (.tmp 1)), none⟩,
 ⟨some 27, some (.call ⟨(.value (.func Zbd)), #[.tmp 25, .tmp 26], #[Zj, Zd]⟩), none⟩,
 ⟨some 28, some (.call ⟨(.builtin .len), #[.tmp 27], #[Z4]⟩), none⟩,
 ⟨some 29, some (.move (.const (.int .i64 0))), none⟩])
  (.block 0 (.loop Zcq)))
  (.seq (.reg [] [⟨some 81, some (.move (.tmp 8)), none⟩,
 ⟨some 82, some (.nilCheck (.tmp 81)), none⟩,
 ⟨some 83, some (.fieldAddr Zr (.tmp 82) 1), none⟩,
 ⟨some 84, some (.load Zcf (.tmp 83)), none⟩,
 ⟨some 85, some (.move (.tmp 1)), none⟩,
 ⟨some 86, some (.lookup Zcf (.tmp 84) (.tmp 85) false), none⟩,
 ⟨some 4, some (.assign (.tmp 86)), none⟩,
 ⟨some 5, some (.assign (.const (.int .i64 0))), none⟩])
  .ret)))))
theorem Zg9 {a0 a1 : AV} {H : AHeap} : R Zw [a0, a1] H = fnK Try.prog [] H [(.tmp 4), (.tmp 5)] (evalL Try.prog KT R Zev (Env.args [a0, a1] 0) H) :=
  runs_body (D := DT) (f := Zw) Try.func11 (by kernel_rfl) (by kernel_rfl) (by kernel_rfl) (by kernel_rfl) (by kernel_rfl) (Nat.le_of_ble_eq_true rfl)
def Zgf : LCode := (.seq (.reg [] [⟨some 4, some (.assign (.const (.int .i64 0))), none⟩,
 ⟨some 5, some (.assign (.const (.int .i64 0))), none⟩])
  (.seq (.seq (.reg [] [⟨some 9, some (.move (.tmp 0)), none⟩,
 ⟨some 10, some (.move (.tmp 1)), none⟩,
 ⟨some 11, some (.call ⟨(.value (.func Zm)), #[.tmp 9, .tmp 10], #[Zj, Zd]⟩), none⟩,
 ⟨some 8, some (.move (.tmp 11)), none⟩,
 ⟨some 12, some (.extract (.tmp 8) 0), none⟩,
 ⟨some 13, some (.extract (.tmp 8) 1), none⟩,
 ⟨some 6, some (.alloc Zc), none⟩,
 ⟨none, some (.store Zc (.tmp 6) (.tmp 12)), none⟩,
 ⟨some 7, some (.assign (.tmp 13)), none⟩])
  (.seq (.reg [] [⟨some 14, some (.move (.tmp 7)), none⟩,
 ⟨some 15, some (.unOp .not Zbg (.tmp 14)), none⟩])
  (.cond (.tmp 15) (.seq (.reg [] [⟨some 4, some (.assign (.const (.int .i64 0))), none⟩,
 ⟨some 5, some (.assign (.const (.int .i64 70))), none⟩])
  .ret)
  .skip)))
  (.seq (.reg [] [⟨some 16, some (.move (.tmp 0)), none⟩,
 ⟨some 17, some (.move (.tmp 1)), none⟩,
 ⟨some 18, some (.call ⟨(.value (.func Zbd)), #[.tmp 16, .tmp 17], #[Zj, Zd]⟩), none⟩,
 ⟨some 19, some (.call ⟨(.builtin .len), #[.tmp 18], #[Z4]⟩), none⟩,
 ⟨some 4, some (.assign (.tmp 19)), none⟩,
 ⟨some 5, some (.assign (.const (.int .i64 0))), none⟩])
  .ret)))
theorem Zht {a0 a1 : AV} {H : AHeap} : R Zem [a0, a1] H = fnK Try.prog [] H [(.tmp 4), (.tmp 5)] (evalL Try.prog KT R Zgf (Env.args [a0, a1] 0) H) :=
  runs_body (D := DT) (f := Zem) Try.func12 (by kernel_rfl) (by kernel_rfl) (by kernel_rfl) (by kernel_rfl) (by kernel_rfl) (Nat.le_of_ble_eq_true rfl)
def Zb7 : LCode := (.seq (.seq (.reg [] [⟨some 29, some (.move (.tmp 7)), none⟩,
 ⟨some 30, some (.binOp .gtr Zd (.tmp 29) (.const (.int .i64 0)) Zd), none⟩])
  (.cond (.tmp 30) .skip
  (.exit 0)))
  (.seq (.block 1 (.seq (.seq (.reg [] [⟨some 33, some (.move (.tmp 5)), none⟩,
 ⟨some 34, some (.move (.tmp 7)), none⟩,
 ⟨some 35, some (.indexAddr Zfl (.tmp 33) (.tmp 34)), none⟩,
 ⟨some 36, some (.load Zbg (.tmp 35)), none⟩,
 ⟨some 37, some (.unOp .not Zbg (.tmp 36)), none⟩])
  (.cond (.tmp 37) (.exit 1)
  .skip))
  (.seq (.reg [] [⟨some 38, some (.move (.tmp 6)), none⟩,
 ⟨some 39, some (.binOp .add Zd (.tmp 38) (.const (.int .i64 1)) Zd), none⟩,
 ⟨some 6, some (.assign (.tmp 39)), none⟩])
  (.seq (.reg [] [⟨some 40, some (.move (.tmp 0)), none⟩,
 ⟨some 41, some (.nilCheck (.tmp 40)), none⟩,
 ⟨some 42, some (.fieldAddr Z0 (.tmp 41) 1), none⟩,
 ⟨some 43, some (.load Zn (.tmp 42)), none⟩,
 ⟨some 44, some (.move (.tmp 7)), none⟩,
 ⟨some 45, some (.binOp .sub Zd (.tmp 44) (.const (.int .i64 1)) Zd), none⟩,
 ⟨some 46, some (.indexAddr Zn (.tmp 43) (.tmp 45)), none⟩,
 ⟨some 47, some (.load Zc (.tmp 46)), none⟩,
 ⟨some 8, some (.alloc Zc), none⟩,
 ⟨none, some (.store Zc (.tmp 8) (.tmp 47)), none⟩])
  (.reg [5, 8, 10, 12] [⟨some 48, some (.move (.tmp 5)), none⟩,
 ⟨some 49, some (.fieldAddr Zc (.tmp 8) 2), none⟩,
 ⟨some 50, some (.load Zd (.tmp 49)), none⟩,
 ⟨some 51, some (.move (.tmp 5)), none⟩,
 ⟨some 52, some (.fieldAddr Zc (.tmp 8) 3), none⟩,
 ⟨some 53, some (.load Zd (.tmp 52)), none⟩,
 ⟨some 54, some (.move (.tmp 5)), none⟩,
 ⟨some 55, some (.fieldAddr Zc (.tmp 8) 4), none⟩,
 ⟨some 56, some (.load Zd (.tmp 55)), none⟩,
 ⟨some 57, some (.indexAddr Zfl (.tmp 48) (.tmp 50)), none⟩,
 ⟨none, some (.store Zbg (.tmp 57) (.const (.bool true))), none⟩,
 ⟨some 58, some (.indexAddr Zfl (.tmp 51) (.tmp 53)), none⟩,
 ⟨none, some (.store Zbg (.tmp 58) (.const (.bool true))), none⟩,
 ⟨some 59, some (.indexAddr Zfl (.tmp 54) (.tmp 56)), none⟩,
 ⟨none, some (.store Zbg (.tmp 59) (.const (.bool true))), none⟩])))))
  (.reg [] [⟨some 31, some (.move (.tmp 7)), none⟩,
 ⟨some 32, some (.binOp .sub Zd (.tmp 31) (.const (.int .i64 1)) Zd), none⟩,
 ⟨some 7, some (.assign (.tmp 32)), none⟩])))
def Zb8 : LCode := (.seq (.seq (.reg [] [⟨some 62, some (.move (.tmp 10)), none⟩,
 ⟨some 63, some (.move (.tmp 1)), none⟩,
 ⟨some 64, some (.binOp .leq Zd (.tmp 62) (.tmp 63) Zd), none⟩])
  (.cond (.tmp 64) .skip
  (.exit 2)))
  (.seq (.block 3 (.seq (.reg [] [⟨some 67, some (.move (.tmp 5)), none⟩,
 ⟨some 68, some (.move (.tmp 10)), none⟩,
 ⟨some 69, some (.indexAddr Zfl (.tmp 67) (.tmp 68)), none⟩,
 ⟨some 70, some (.load Zbg (.tmp 69)), none⟩])
  (.cond (.tmp 70) (.reg [] [⟨some 71, some (.move (.tmp 9)), none⟩,
 ⟨some 72, some (.move (.tmp 10)), none⟩,
 ⟨some 73, some (.buildSlice Z4 1 #[(0, (.tmp 72))]), none⟩,
 ⟨some 74, some (.call ⟨(.builtin .append), #[.tmp 71, .tmp 73], #[Z4, Z4]⟩), none⟩,
 ⟨some 9, some (.assign (.tmp 74)), none⟩])
  .skip)))
  (.reg [] [⟨some 65, some (.move (.tmp 10)), none⟩,
 ⟨some 66, some (.binOp .add Zd (.tmp 65) (.const (.int .i64 1)) Zd), none⟩,
 ⟨some 10, some (.assign (.tmp 66)), none⟩])))
@[simp] theorem Zhx : defs Zb7 = [29, 30, 33, 34, 35, 36, 37, 38, 39, 6, 40, 41, 42, 43, 44, 45, 46, 47, 8, 48, 49, 50, 51, 52, 53, 54, 55, 56, 57, 58, 59, 31, 32, 7] := by rfl
@[simp] theorem Zhy : defs Zb8 = [62, 63, 64, 67, 68, 69, 70, 71, 72, 73, 74, 9, 65, 66, 10] := by rfl
def Zcs : LCode := (.seq (.reg [] [⟨some 4, some (.assign (.const (.slice none 0 0))), none⟩])
  (.seq (.seq (.reg [] [⟨some 11, some (.move (.tmp 1)), none⟩,
 ⟨some 12, some (.binOp .lss Zd (.tmp 11) (.const (.int .i64 1)) Zd), none⟩,
 ⟨some 13, some (.move (.tmp 12)), none⟩,
 ⟨some 14, some (.move (.tmp 1)), some (some 13, false)⟩,
 ⟨some 15, some (.move (.tmp 0)), some (some 13, false)⟩,
 ⟨some 16, some (.nilCheck (.tmp 15)), some (some 13, false)⟩,
 ⟨some 17, some (.fieldAddr Z0 (.tmp 16) 1), some (some 13, false)⟩,
 ⟨some 18, some (.load Zn (.tmp 17)), some (some 13, false)⟩,
 ⟨some 19, some (.call ⟨(.builtin .len), #[.tmp 18], #[Zn]⟩), some (some 13, false)⟩,
 ⟨some 20, some (.binOp .gtr Zd (.tmp 14) (.tmp 19) Zd), some (some 13, false)⟩,
 ⟨some 21, some (.pick (.tmp 13) (.const (.bool true)) (.tmp 20)), none⟩])
  (.cond (.tmp 21) (.seq (.reg [] [⟨some 4, some (.assign (.const (.slice none 0 0))), none⟩])
  .ret)
  .skip))
  (.seq (.reg [] [⟨some 22, some (.move (.tmp 1)), none⟩,
 ⟨some 23, some (.binOp .add Zd (.tmp 22) (.const (.int .i64 1)) Zd), none⟩,
 ⟨some 24, some (.makeSlice Zfl (.tmp 23) (.tmp 23)), none⟩,
 ⟨some 5, some (.assign (.tmp 24)), none⟩])
  (.seq (.reg [] [⟨some 25, some (.move (.tmp 5)), none⟩,
 ⟨some 26, some (.move (.tmp 1)), none⟩,
 ⟨some 27, some (.indexAddr Zfl (.tmp 25) (.tmp 26)), none⟩,
 ⟨none, some (.store Zbg (.tmp 27) (.const (.bool true))), none⟩])
  (.seq (.reg [] [⟨some 6, some (.assign (.const (.int .i64 0))), none⟩])
  (.seq (.seq (.reg [] [⟨some 28, some (.move (.tmp 1)), none⟩,
 ⟨some 7, some (.assign (.tmp 28)), none⟩])
  (.block 0 (.loop Zb7)))
  (.seq (.reg [] [⟨some 60, some (.move (.tmp 6)), none⟩,
 ⟨some 61, some (.makeSlice Z4 (.const (.int .i64 0)) (.tmp 60)), none⟩,
 ⟨some 9, some (.assign (.tmp 61)), none⟩])
  (.seq (.seq (.reg [] [⟨some 10, some (.assign (.const (.int .i64 1))), none⟩])
  (.block 2 (.loop Zb8)))
  (.seq (.reg [] [⟨some 75, some (.move (.tmp 9)), none⟩,
 ⟨some 4, some (.assign (.tmp 75)), none⟩])
  .ret)))))))))
theorem Zga {a0 a1 : AV} {H : AHeap} : R Zbd [a0, a1] H = fnK Try.prog [0] H [(.tmp 4)] (evalL Try.prog KT R Zcs (Env.args [a0, a1] 0) H) :=
  runs_body (D := DT) (f := Zbd) Try.func13 (by kernel_rfl) (by kernel_rfl) (by kernel_rfl) (by kernel_rfl) (by kernel_rfl) (Nat.le_of_ble_eq_true rfl)
def Zct : LCode := (.seq (.reg [] [⟨some 4, some (.alloc Zc), none⟩,
 ⟨some 5, some (.assign (.const (.bool false))), none⟩])
  (.seq (.seq (.reg [] [⟨some 6, some (.move (.tmp 1)), none⟩,
 ⟨some 7, some (.binOp .lss Zd (.tmp 6) (.const (.int .i64 1)) Zd), none⟩,
 ⟨some 8, some (.move (.tmp 7)), none⟩,
 ⟨some 9, some (.move (.tmp 1)), some (some 8, false)⟩,
 ⟨some 10, some (.move (.tmp 0)), some (some 8, false)⟩,
 ⟨some 11, some (.nilCheck (.tmp 10)), some (some 8, false)⟩,
 ⟨some 12, some (.fieldAddr Z0 (.tmp 11) 1), some (some 8, false)⟩,
 ⟨some 13, some (.load Zn (.tmp 12)), some (some 8, false)⟩,
 ⟨some 14, some (.call ⟨(.builtin .len), #[.tmp 13], #[Zn]⟩), some (some 8, false)⟩,
 ⟨some 15, some (.binOp .gtr Zd (.tmp 9) (.tmp 14) Zd), some (some 8, false)⟩,
 ⟨some 16, some (.pick (.tmp 8) (.const (.bool true)) (.tmp 15)), none⟩])
  (.cond (.tmp 16) (.seq (.reg [] [⟨some 17, some (.build Zc #[]), none⟩,
 ⟨none, some (.store Zc (.tmp 4) (.tmp 17)), none⟩,
 ⟨some 5, some (.assign (.const (.bool false))), none⟩])
  .ret)
  .skip))
  (.seq (.reg [] [⟨some 18, some (.move (.tmp 0)), none⟩,
 ⟨some 19, some (.nilCheck (.tmp 18)), none⟩,
 ⟨some 20, some (.fieldAddr Z0 (.tmp 19) 1), none⟩,
 ⟨some 21, some (.load Zn (.tmp 20)), none⟩,
 ⟨some 22, some (.move (.tmp 1)), none⟩,
 ⟨some 23, some (.binOp .sub Zd (.tmp 22) (.const (.int .i64 1)) Zd), none⟩,
 ⟨some 24, some (.indexAddr Zn (.tmp 21) (.tmp 23)), none⟩,
 ⟨some 25, some (.load Zc (.tmp 24)), none⟩,
 ⟨none, some (.store Zc (.tmp 4) (.tmp 25)), none⟩,
 ⟨some 5, some (.assign (.const (.bool true))), none⟩])
  .ret)))
theorem Zgb {a0 a1 : AV} {H : AHeap} : R Zm [a0, a1] H = fnK Try.prog [] H [(.cell 4 Zc), (.tmp 5)] (evalL Try.prog KT R Zct (Env.args [a0, a1] 0) H) :=
  runs_body (D := DT) (f := Zm) Try.func15 (by kernel_rfl) (by kernel_rfl) (by kernel_rfl) (by kernel_rfl) (by kernel_rfl) (Nat.le_of_ble_eq_true rfl)
def Zb5 : LCode := (.seq (.reg [] [⟨some 3, some (.box Zc (.tmp 1)), none⟩,
 ⟨some 4, some (.assign (.const (.int .i64 0))), none⟩,
 ⟨some 5, some (.assign (.const (.int .i64 0))), none⟩])
  (.seq (.seq (.reg [] [⟨some 9, some (.move (.tmp 0)), none⟩,
 ⟨some 10, some (.load Zc (.tmp 3)), none⟩,
 ⟨some 11, some (.call ⟨(.value (.func Zcm)), #[.tmp 9, .tmp 10], #[Zj, Zc]⟩), none⟩,
 ⟨some 12, some (.unOp .not Zbg (.tmp 11)), none⟩])
  (.cond (.tmp 12) (.seq (.reg [] [⟨some 4, some (.assign (.const (.int .i64 0))), none⟩,
 ⟨some 5, some (.assign (.const (.int .i64 32))), none⟩])
  .ret)
  .skip))
  (.seq (.reg [] [⟨some 14, some (.move (.tmp 0)), none⟩,
 ⟨some 15, some (.load Zc (.tmp 3)), none⟩,
 ⟨some 16, some (.call ⟨(.value (.func Zcn)), #[.tmp 14, .tmp 15], #[Zj, Zc]⟩), none⟩,
 ⟨some 13, some (.move (.tmp 16)), none⟩,
 ⟨some 17, some (.extract (.tmp 13) 0), none⟩,
 ⟨some 18, some (.extract (.tmp 13) 1), none⟩,
 ⟨none, some (.store Zc (.tmp 3) (.tmp 17)), none⟩,
 ⟨some 6, some (.assign (.tmp 18)), none⟩])
  (.seq (.seq (.reg [] [⟨some 19, some (.move (.tmp 6)), none⟩,
 ⟨some 20, some (.binOp .neq Z8 (.tmp 19) (.const (.int .i64 0)) Z8), none⟩])
  (.cond (.tmp 20) (.seq (.reg [] [⟨some 21, some (.move (.tmp 6)), none⟩,
 ⟨some 4, some (.assign (.const (.int .i64 0))), none⟩,
 ⟨some 5, some (.assign (.tmp 21)), none⟩])
  .ret)
  .skip))
  (.seq (.seq (.reg [] [⟨some 22, some (.move (.tmp 0)), none⟩,
 ⟨some 23, some (.nilCheck (.tmp 22)), none⟩,
 ⟨some 24, some (.fieldAddr Z0 (.tmp 23) 2), none⟩,
 ⟨some 25, some (.load Zcj (.tmp 24)), none⟩,
 ⟨some 26, some (.load Zc (.tmp 3)), none⟩,
 ⟨some 27, some (.lookup Zcj (.tmp 25) (.tmp 26) false), none⟩,
 ⟨some 7, some (.assign (.tmp 27)), none⟩])
  (.seq (.reg [] [⟨some 28, some (.move (.tmp 7)), none⟩,
 ⟨some 29, some (.binOp .gtr Zd (.tmp 28) (.const (.int .i64 0)) Zd), none⟩])
  (.cond (.tmp 29) (.seq (.reg [] [⟨some 30, some (.move (.tmp 7)), none⟩,
 ⟨some 4, some (.assign (.tmp 30)), none⟩,
 ⟨some 5, some (.assign (.const (.int .i64 0))), none⟩])
  .ret)
  .skip)))
  (.seq (.seq (.reg [] [⟨some 31, some (.move (.tmp 0)), none⟩,
 ⟨some 32, some (.nilCheck (.tmp 31)), none⟩,
 ⟨some 33, some (.fieldAddr Z0 (.tmp 32) 1), none⟩,
 ⟨some 34, some (.load Zn (.tmp 33)), none⟩,
 ⟨some 35, some (.call ⟨(.builtin .len), #[.tmp 34], #[Zn]⟩), none⟩,
 ⟨some 36, some (.move (.tmp 0)), none⟩,
 ⟨some 37, some (.nilCheck (.tmp 36)), none⟩,
 ⟨some 38, some (.fieldAddr Z0 (.tmp 37) 0), none⟩,
 ⟨some 39, some (.load Zd (.tmp 38)), none⟩,
 ⟨some 40, some (.binOp .geq Zd (.tmp 35) (.tmp 39) Zd), none⟩])
  (.cond (.tmp 40) (.seq (.reg [] [⟨some 4, some (.assign (.const (.int .i64 0))), none⟩,
 ⟨some 5, some (.assign (.const (.int .i64 33))), none⟩])
  .ret)
  .skip))
  (.seq (.reg [] [⟨some 41, some (.move (.tmp 0)), none⟩,
 ⟨some 42, some (.move (.tmp 0)), none⟩,
 ⟨some 43, some (.nilCheck (.tmp 42)), none⟩,
 ⟨some 44, some (.fieldAddr Z0 (.tmp 43) 1), none⟩,
 ⟨some 45, some (.load Zn (.tmp 44)), none⟩,
 ⟨some 46, some (.load Zc (.tmp 3)), none⟩,
 ⟨some 47, some (.buildSlice Zn 1 #[(0, (.tmp 46))]), none⟩,
 ⟨some 48, some (.call ⟨(.builtin .append), #[.tmp 45, .tmp 47], #[Zn, Zn]⟩), none⟩,
 ⟨some 49, some (.nilCheck (.tmp 41)), none⟩,
 ⟨some 50, some (.fieldAddr Z0 (.tmp 49) 1), none⟩,
 ⟨none, some (.store Zn (.tmp 50) (.tmp 48)), none⟩])
  (.seq (.reg [] [⟨some 51, some (.move (.tmp 0)), none⟩,
 ⟨some 52, some (.nilCheck (.tmp 51)), none⟩,
 ⟨some 53, some (.fieldAddr Z0 (.tmp 52) 1), none⟩,
 ⟨some 54, some (.load Zn (.tmp 53)), none⟩,
 ⟨some 55, some (.call ⟨(.builtin .len), #[.tmp 54], #[Zn]⟩), none⟩,
 ⟨some 8, some (.assign (.tmp 55)), none⟩])
  (.seq (.reg [] [⟨some 56, some (.move (.tmp 0)), none⟩,
 ⟨some 57, some (.nilCheck (.tmp 56)), none⟩,
 ⟨some 58, some (.fieldAddr Z0 (.tmp 57) 2), none⟩,
 ⟨some 59, some (.load Zcj (.tmp 58)), none⟩,
 ⟨some 60, some (.load Zc (.tmp 3)), none⟩,
 ⟨some 61, some (.move (.tmp 8)), none⟩,
 ⟨none, some (.mapUpdate Zcj (.tmp 59) (.tmp 60) (.tmp 61)), none⟩])
  (.seq (.seq (.reg [] [⟨some 62, some (.fieldAddr Zc (.tmp 3) 0), none⟩,
 ⟨some 63, some (.load Zd (.tmp 62)), none⟩,
 ⟨some 64, some (.binOp .eql Zd (.tmp 63) (.const (.int .i64 2)) Zd), none⟩])
  (.cond (.tmp 64) (.reg [] [⟨some 65, some (.move (.tmp 0)), none⟩,
 ⟨some 66, some (.nilCheck (.tmp 65)), none⟩,
 ⟨some 67, some (.fieldAddr Z0 (.tmp 66) 3), none⟩,
 ⟨some 68, some (.load Zcw (.tmp 67)), none⟩,
 ⟨some 69, some (.fieldAddr Zc (.tmp 3) 8), none⟩,
 ⟨some 70, some (.load Zce (.tmp 69)), none⟩,
 ⟨some 71, some (.move (.tmp 8)), none⟩,
 ⟨none, some (.mapUpdate Zcw (.tmp 68) (.tmp 70) (.tmp 71)), none⟩])
  .skip))
  (.seq (.reg [] [⟨some 72, some (.move (.tmp 8)), none⟩,
 ⟨some 4, some (.assign (.tmp 72)), none⟩,
 ⟨some 5, some (.assign (.const (.int .i64 0))), none⟩])
  .ret)))))))))))
theorem Zgc {a0 a1 : AV} {H : AHeap} : R Zo [a0, a1] H = fnK Try.prog [] H [(.tmp 4), (.tmp 5)] (evalL Try.prog KT R Zb5 (Env.args [a0, a1] 0) H) :=
  runs_body (D := DT) (f := Zo) Try.func19 (by kernel_rfl) (by kernel_rfl) (by kernel_rfl) (by kernel_rfl) (by kernel_rfl) (Nat.le_of_ble_eq_true rfl)
def Zde : LCode := (.seq (.seq (.reg [] [⟨some 13, some (.move (.tmp 8)), none⟩,
 ⟨some 14, some (.move (.tmp 7)), none⟩,
 ⟨some 15, some (.call ⟨(.builtin .len), #[.tmp 14], #[Z4]⟩), none⟩,
 ⟨some 16, some (.binOp .lss Zd (.tmp 13) (.tmp 15) Zd), none⟩])
  (.cond (.tmp 16) .skip
  (.exit 0)))
  (.seq (.block 1 (.seq (.reg [] [⟨some 20, some (.move (.tmp 0)), none⟩,
 ⟨some 21, some (.move (.tmp 7)), none⟩,
 ⟨some 22, some (.move (.tmp 8)), none⟩,
 ⟨some 23, some (.indexAddr Z4 (.tmp 21) (.tmp 22)), none⟩,
 ⟨some 24, some (.load Zd (.tmp 23)), none⟩,
 ⟨some 25, some (.call ⟨(.value (.func Zm)), #[.tmp 20, .tmp 24], #[Zj, Zd]⟩), none⟩,
 ⟨some 19, some (.move (.tmp 25)), none⟩,
 ⟨some 26, some (.extract (.tmp 19) 0), none⟩,
 ⟨some 27, some (.extract (.tmp 19) 1), none⟩,
 ⟨some 9, some (.alloc Zc), none⟩,
 ⟨none, some (.store Zc (.tmp 9) (.tmp 26)), none⟩,
 ⟨some 10, some (.assign (.tmp 27)), none⟩])
  (.reg [] [⟨some 28, some (.move (.tmp 6)), none⟩,
 ⟨some 29, some (.load Zc (.tmp 9)), none⟩,
 ⟨some 30, some (.buildSlice Zn 1 #[(0, (.tmp 29))]), none⟩,
 ⟨some 31, some (.call ⟨(.builtin .append), #[.tmp 28, .tmp 30], #[Zn, Zn]⟩), none⟩,
 ⟨some 6, some (.assign (.tmp 31)), none⟩])))
  (.reg [] [⟨some 17, some (.move (.tmp 8)), none⟩,
 ⟨some 18, some (.binOp .add Zd (.tmp 17) (.const (.int .i64 1)) Zd), none⟩,
 ⟨some 8, some (.assign (.tmp 18)), none⟩])))
@[simp] theorem Zjd : defs Zde = [13, 14, 15, 16, 20, 21, 22, 23, 24, 25, 19, 26, 27, 9, 10, 28, 29, 30, 31, 6, 17, 18, 8] := by rfl
def Zgj : LCode := (.seq (.reg [] [⟨some 4, some (.assign (.const (.slice none 0 0))), none⟩,
 ⟨some 5, some (.assign (.const (.bool false))), none⟩])
  (.seq (.reg [] [⟨some 6, some (.assign (.const (.slice none 0 0))), none⟩])
  (.seq (.reg [] [⟨some 11, some (.move (.tmp 0)), none⟩,
 ⟨some 12, some (.call ⟨(.value (.func Zb4)), #[.tmp 11], #[Zj]⟩), none⟩,
 ⟨some 7, some (.assign (.tmp 12)), none⟩])
  (.seq (.seq (.reg [] [⟨some 8, some (.assign (.const (.int .i64 0))), none⟩])
  (.block 0 (.loop Zde)))
  (.seq (.reg [] [⟨some 32, some (.move (.tmp 6)), none⟩,
 ⟨some 33, some (.move (.tmp 6)), none⟩,
 ⟨some 34, some (.move (.tmp 1)), none⟩,
 ⟨some 35, some (.call ⟨(.value (.func Zc1)), #[.tmp 33, .tmp 34], #[Zn, Zd]⟩), none⟩,
 ⟨some 36, some (.move (.tmp 1)), none⟩,
 ⟨some 37, some (.binOp .leq Zd (.tmp 35) (.tmp 36) Zd), none⟩,
 ⟨some 4, some (.assign (.tmp 32)), none⟩,
 ⟨some 5, some (.assign (.tmp 37)), none⟩])
  .ret)))))
theorem Zhz {a0 a1 : AV} {H : AHeap} : R Zdc [a0, a1] H = fnK Try.prog [0, 0] H [(.tmp 4), (.tmp 5)] (evalL Try.prog KT R Zgj (Env.args [a0, a1] 0) H) :=
  runs_body (D := DT) (f := Zdc) Try.func21 (by kernel_rfl) (by kernel_rfl) (by kernel_rfl) (by kernel_rfl) (by kernel_rfl) (Nat.le_of_ble_eq_true rfl)
def Zdf : LCode := (.seq (.reg [] [⟨some 18, some (.binOp .lss Zd (.tmp 17) (.tmp 16) Zd), none⟩])
  (.seq (.cond (.tmp 18) .skip
  (.exit 0))
  (.seq (.block 1 (.seq (.reg [] [⟨some 19, some (.indexAddr Z4 (.tmp 15) (.tmp 17)), none⟩,
 ⟨some 20, some (.load Zd (.tmp 19)), none⟩,
 ⟨some 8, some (.assign (.tmp 20)), none⟩])
  (.seq (.reg [] [⟨some 22, some (.move (.tmp 0)), none⟩,
 ⟨some 23, some (.move (.tmp 8)), none⟩,
 ⟨some 24, some (.call ⟨(.value (.func Zm)), #[.tmp 22, .tmp 23], #[Zj, Zd]⟩), none⟩,
 ⟨some 21, some (.move (.tmp 24)), none⟩,
 ⟨some 25, some (.extract (.tmp 21) 0), none⟩,
 ⟨some 26, some (.extract (.tmp 21) 1), none⟩,
 ⟨some 9, some (.alloc Zc), none⟩,
 ⟨none, some (.store Zc (.tmp 9) (.tmp 25)), none⟩,
 ⟨some 10, some (.assign (.tmp 26)), none⟩])
  (.seq (.reg [] [⟨some 27, some (.move (.tmp 5)), none⟩,
 ⟨some 28, some (.fieldAddr Zc (.tmp 9) 8), none⟩,
 ⟨some 29, some (.load Zce (.tmp 28)), none⟩,
 ⟨some 30, some (.lookup Zbw (.tmp 27) (.tmp 29) false), none⟩,
 ⟨some 11, some (.alloc Za), none⟩,
 ⟨none, some (.store Za (.tmp 11) (.tmp 30)), none⟩])
  (.seq (.seq (.reg [] [⟨some 31, some (.load Za (.tmp 11)), none⟩,
 ⟨some 32, some (.fieldAddr Zc (.tmp 9) 1), none⟩,
 ⟨some 33, some (.load Zd (.tmp 32)), none⟩,
 ⟨some 34, some (.call ⟨(.value (.func Zfr)), #[.tmp 31, .tmp 33], #[Za, Zd]⟩), none⟩,
 ⟨some 35, some (.unOp .not Zbg (.tmp 34)), none⟩])
  (.cond (.tmp 35) (.reg [] [⟨some 36, some (.fieldAddr Zc (.tmp 9) 1), none⟩,
 ⟨some 37, some (.load Zd (.tmp 36)), none⟩,
 ⟨some 38, some (.build Za #[(0, (.tmp 37))]), none⟩,
 ⟨none, some (.store Za (.tmp 11) (.tmp 38)), none⟩])
  .skip))
  (.reg [] [⟨some 39, some (.move (.tmp 6)), none⟩,
 ⟨some 40, some (.fieldAddr Zc (.tmp 9) 8), none⟩,
 ⟨some 41, some (.load Zce (.tmp 40)), none⟩,
 ⟨some 42, some (.load Za (.tmp 11)), none⟩,
 ⟨some 43, some (.build Zbx #[(0, (.tmp 41)), (1, (.tmp 42))]), none⟩,
 ⟨some 44, some (.buildSlice Z9 1 #[(0, (.tmp 43))]), none⟩,
 ⟨some 45, some (.call ⟨(.builtin .append), #[.tmp 39, .tmp 44], #[Z9, Z9]⟩), none⟩,
 ⟨some 6, some (.assign (.tmp 45)), none⟩]))))))
  (.reg [] [⟨some 46, some (.binOp .add Zd (.tmp 17) (.const (.int .i64 1)) Zd), none⟩,
 ⟨some 17, some (.move (.tmp 46)), none⟩]))))
@[simp] theorem Zje : defs Zdf = [18, 19, 20, 8, 22, 23, 24, 21, 25, 26, 9, 10, 27, 28, 29, 30, 11, 31, 32, 33, 34, 35, 36, 37, 38, 39, 40, 41, 42, 43, 44, 45, 6, 46, 17] := by rfl
def Zgk : LCode := (.seq (.reg [] [⟨some 4, some (.assign (.const (.slice none 0 0))), none⟩])
  (.seq (.reg [] [⟨some 12, some (.move (.tmp 1)), none⟩,
 ⟨some 13, some (.call ⟨(.value (.func Ze6)), #[.tmp 12], #[Z9]⟩), none⟩,
 ⟨some 5, some (.assign (.tmp 13)), none⟩])
  (.seq (.reg [] [⟨some 6, some (.assign (.const (.slice none 0 0))), none⟩])
  (.seq (.seq (.reg [] [⟨some 14, some (.move (.tmp 0)), none⟩,
 ⟨some 15, some (.call ⟨(.value (.func Zb4)), #[.tmp 14], #[Zj]⟩), none⟩,
 ⟨some 16, some (.call ⟨(.builtin .len), #[.tmp 15], #[Z4]⟩), none⟩,
 ⟨some 17, some (.move (.const (.int .i64 0))), none⟩])
  (.block 0 (.loop Zdf)))
  (.seq (.reg [] [⟨some 47, some (.move (.tmp 6)), none⟩,
 ⟨some 4, some (.assign (.tmp 47)), none⟩])
  .ret)))))
theorem Zh0 {a0 a1 : AV} {H : AHeap} : R Zd3 [a0, a1] H = fnK Try.prog [0] H [(.tmp 4)] (evalL Try.prog KT R Zgk (Env.args [a0, a1] 0) H) :=
  runs_body (D := DT) (f := Zd3) Try.func22 (by kernel_rfl) (by kernel_rfl) (by kernel_rfl) (by kernel_rfl) (by kernel_rfl) (Nat.le_of_ble_eq_true rfl)
def Zh1 : LCode := (.seq (.reg [] [⟨some 6, some (.alloc Za), none⟩,
 ⟨some 7, some (.assign (.const (.int .i64 0))), none⟩])
  (.seq (.reg [] [⟨some 8, some (.move (.tmp 0)), none⟩,
 ⟨some 9, some (.move (.tmp 1)), none⟩,
 ⟨some 10, some (.move (.tmp 2)), none⟩,
 ⟨some 11, some (.call ⟨(.value (.func Ze6)), #[.tmp 10], #[Z9]⟩), none⟩,
 ⟨some 12, some (.call ⟨(.value (.func Ze7)), #[.tmp 8, .tmp 9, .tmp 11], #[Zj, Zd, Zbw]⟩), none⟩,
 ⟨some 13, some (.extract (.tmp 12) 0), none⟩,
 ⟨some 14, some (.extract (.tmp 12) 1), none⟩,
 ⟨none, some (.store Za (.tmp 6) (.tmp 13)), none⟩,
 ⟨some 7, some (.assign (.tmp 14)), none⟩])
  .ret))
theorem Zjf {a0 a1 a2 : AV} {H : AHeap} : R Zez [a0, a1, a2] H = fnK Try.prog [] H [(.cell 6 Za), (.tmp 7)] (evalL Try.prog KT R Zh1 (Env.args [a0, a1, a2] 0) H) :=
  runs_body (D := DT) (f := Zez) Try.func23 (by kernel_rfl) (by kernel_rfl) (by kernel_rfl) (by kernel_rfl) (by kernel_rfl) (Nat.le_of_ble_eq_true rfl)
def Zc3 : LCode := (.seq (.seq (.reg [] [⟨some 7, some (.move (.tmp 6)), none⟩,
 ⟨some 8, some (.move (.tmp 0)), none⟩,
 ⟨some 9, some (.call ⟨(.builtin .len), #[.tmp 8], #[Zn]⟩), none⟩,
 ⟨some 10, some (.binOp .lss Zd (.tmp 7) (.tmp 9) Zd), none⟩,
 ⟨some 11, some (.move (.tmp 10)), none⟩,
 ⟨some 12, some (.move (.tmp 5)), some (some 11, true)⟩,
 ⟨some 13, some (.move (.tmp 1)), some (some 11, true)⟩,
 ⟨some 14, some (.binOp .leq Zd (.tmp 12) (.tmp 13) Zd), some (some 11, true)⟩,
 ⟨some 15, some (.pick (.tmp 11) (.tmp 14) (.const (.bool false))), none⟩])
  (.cond (.tmp 15) .skip
  (.exit 0)))
  (.seq (.block 1 (.reg [] [⟨some 18, some (.move (.tmp 5)), none⟩,
 ⟨some 19, some (.move (.tmp 0)), none⟩,
 ⟨some 20, some (.move (.tmp 6)), none⟩,
 ⟨some 21, some (.indexAddr Zn (.tmp 19) (.tmp 20)), none⟩,
 ⟨some 22, some (.fieldAddr Zc (.tmp 21) 1), none⟩,
 ⟨some 23, some (.load Zd (.tmp 22)), none⟩,
 ⟨some 24, some (.call ⟨(.builtin .max), #[(.tmp 23), (.const (.int .i64 1))], #[Zd, Zd]⟩), none⟩,
 ⟨some 25, some (.binOp .add Zd (.tmp 18) (.tmp 24) Zd), none⟩,
 ⟨some 5, some (.assign (.tmp 25)), none⟩]))
  (.reg [] [⟨some 16, some (.move (.tmp 6)), none⟩,
 ⟨some 17, some (.binOp .add Zd (.tmp 16) (.const (.int .i64 1)) Zd), none⟩,
 ⟨some 6, some (.assign (.tmp 17)), none⟩])))
@[simp] theorem Zix : defs Zc3 = [7, 8, 9, 10, 11, 12, 13, 14, 15, 18, 19, 20, 21, 22, 23, 24, 25, 5, 16, 17, 6] := by rfl
def Zf6 : LCode := (.seq (.reg [] [⟨some 4, some (.assign (.const (.int .i64 0))), none⟩])
  (.seq (.reg [] [⟨some 5, some (.assign (.const (.int .i64 0))), none⟩])
  (.seq (.seq (.reg [] [⟨some 6, some (.assign (.const (.int .i64 0))), none⟩])
  (.block 0 (.loop Zc3)))
  (.seq (.reg [] [⟨some 26, some (.move (.tmp 5)), none⟩,
 ⟨some 4, some (.assign (.tmp 26)), none⟩])
  .ret))))
theorem Zhg {a0 a1 : AV} {H : AHeap} : R Zc1 [a0, a1] H = fnK Try.prog [] H [(.tmp 4)] (evalL Try.prog KT R Zf6 (Env.args [a0, a1] 0) H) :=
  runs_body (D := DT) (f := Zc1) Try.func24 (by kernel_rfl) (by kernel_rfl) (by kernel_rfl) (by kernel_rfl) (by kernel_rfl) (Nat.le_of_ble_eq_true rfl)
def Zdg : LCode := (.seq (.seq (.reg [] [⟨some 9, some (.move (.tmp 6)), none⟩,
 ⟨some 10, some (.move (.tmp 0)), none⟩,
 ⟨some 11, some (.call ⟨(.builtin .len), #[.tmp 10], #[Zn]⟩), none⟩,
 ⟨some 12, some (.binOp .lss Zd (.tmp 9) (.tmp 11) Zd), none⟩])
  (.cond (.tmp 12) .skip
  (.exit 0)))
  (.seq (.block 1 (.seq (.reg [] [⟨some 15, some (.move (.tmp 0)), none⟩,
 ⟨some 16, some (.move (.tmp 6)), none⟩,
 ⟨some 17, some (.indexAddr Zn (.tmp 15) (.tmp 16)), none⟩,
 ⟨some 18, some (.fieldAddr Zc (.tmp 17) 1), none⟩,
 ⟨some 19, some (.load Zd (.tmp 18)), none⟩,
 ⟨some 20, some (.call ⟨(.builtin .max), #[(.tmp 19), (.const (.int .i64 1))], #[Zd, Zd]⟩), none⟩,
 ⟨some 7, some (.assign (.tmp 20)), none⟩])
  (.seq (.reg [] [⟨some 21, some (.move (.tmp 0)), none⟩,
 ⟨some 22, some (.move (.tmp 6)), none⟩,
 ⟨some 23, some (.indexAddr Zn (.tmp 21) (.tmp 22)), none⟩,
 ⟨some 24, some (.fieldAddr Zc (.tmp 23) 1), none⟩,
 ⟨some 25, some (.load Zd (.tmp 24)), none⟩,
 ⟨some 26, some (.move (.tmp 1)), none⟩,
 ⟨some 27, some (.convert Zd Ze (.tmp 26)), none⟩,
 ⟨some 28, some (.move (.tmp 7)), none⟩,
 ⟨some 29, some (.binOp .shl Ze (.const (.int .u64 1)) (.tmp 28) Zd), none⟩,
 ⟨some 30, some (.binOp .sub Ze (.tmp 29) (.const (.int .u64 1)) Ze), none⟩,
 ⟨some 31, some (.binOp .and Ze (.tmp 27) (.tmp 30) Ze), none⟩,
 ⟨some 32, some (.build Za #[(0, (.tmp 25)), (1, (.tmp 31))]), none⟩,
 ⟨some 8, some (.alloc Za), none⟩,
 ⟨none, some (.store Za (.tmp 8) (.tmp 32)), none⟩])
  (.seq (.reg [] [⟨some 33, some (.move (.tmp 1)), none⟩,
 ⟨some 34, some (.move (.tmp 7)), none⟩,
 ⟨some 35, some (.binOp .shr Zd (.tmp 33) (.tmp 34) Zd), none⟩,
 ⟨some 1, some (.assign (.tmp 35)), none⟩])
  (.reg [] [⟨some 36, some (.move (.tmp 5)), none⟩,
 ⟨some 37, some (.move (.tmp 0)), none⟩,
 ⟨some 38, some (.move (.tmp 6)), none⟩,
 ⟨some 39, some (.indexAddr Zn (.tmp 37) (.tmp 38)), none⟩,
 ⟨some 40, some (.fieldAddr Zc (.tmp 39) 8), none⟩,
 ⟨some 41, some (.load Zce (.tmp 40)), none⟩,
 ⟨some 42, some (.load Za (.tmp 8)), none⟩,
 ⟨some 43, some (.build Zbx #[(0, (.tmp 41)), (1, (.tmp 42))]), none⟩,
 ⟨some 44, some (.buildSlice Z9 1 #[(0, (.tmp 43))]), none⟩,
 ⟨some 45, some (.call ⟨(.builtin .append), #[.tmp 36, .tmp 44], #[Z9, Z9]⟩), none⟩,
 ⟨some 5, some (.assign (.tmp 45)), none⟩])))))
  (.reg [] [⟨some 13, some (.move (.tmp 6)), none⟩,
 ⟨some 14, some (.binOp .add Zd (.tmp 13) (.const (.int .i64 1)) Zd), none⟩,
 ⟨some 6, some (.assign (.tmp 14)), none⟩])))
@[simp] theorem Zjg : defs Zdg = [9, 10, 11, 12, 15, 16, 17, 18, 19, 20, 7, 21, 22, 23, 24, 25, 26, 27, 28, 29, 30, 31, 32, 8, 33, 34, 35, 1, 36, 37, 38, 39, 40, 41, 42, 43, 44, 45, 5, 13, 14, 6] := by rfl
def Zgl : LCode := (.seq (.reg [] [⟨some 4, some (.assign (.const (.slice none 0 0))), none⟩])
  (.seq (.reg [] [⟨some 5, some (.assign (.const (.slice none 0 0))), none⟩])
  (.seq (.seq (.reg [] [⟨some 6, some (.assign (.const (.int .i64 0))), none⟩])
  (.block 0 (.loop Zdg)))
  (.seq (.reg [] [⟨some 46, some (.move (.tmp 5)), none⟩,
 ⟨some 4, some (.assign (.tmp 46)), none⟩])
  .ret))))
theorem Zh2 {a0 a1 : AV} {H : AHeap} : R Zdd [a0, a1] H = fnK Try.prog [0] H [(.tmp 4)] (evalL Try.prog KT R Zgl (Env.args [a0, a1] 0) H) :=
  runs_body (D := DT) (f := Zdd) Try.func25 (by kernel_rfl) (by kernel_rfl) (by kernel_rfl) (by kernel_rfl) (by kernel_rfl) (Nat.le_of_ble_eq_true rfl)
def Zin : LCode := (.seq (.reg [] [⟨some 2, some (.assign (.const (.pointer none))), none⟩])
  (.seq (.reg [] [⟨some 3, some (.move (.tmp 0)), none⟩,
 ⟨some 4, some (.call ⟨(.builtin .max), #[(.tmp 3), (.const (.int .i64 1))], #[Zd, Zd]⟩), none⟩,
 ⟨some 5, some (.call ⟨(.builtin .min), #[(.tmp 4), (.const (.int .i64 4096))], #[Zd, Zd]⟩), none⟩,
 ⟨some 6, some (.makeMap Zcj none), none⟩,
 ⟨some 7, some (.makeMap Zcw none), none⟩,
 ⟨some 8, some (.build Z0 #[(0, (.tmp 5)), (2, (.tmp 6)), (3, (.tmp 7))]), none⟩,
 ⟨some 9, some (.box Z0 (.tmp 8)), none⟩,
 ⟨some 2, some (.assign (.tmp 9)), none⟩])
  .ret))
theorem Zjq {a0 : AV} {H : AHeap} : R Ze0 [a0] H = fnK Try.prog [] H [(.tmp 2)] (evalL Try.prog KT R Zin (Env.args [a0] 0) H) :=
  runs_body (D := DT) (f := Ze0) Try.func26 (by kernel_rfl) (by kernel_rfl) (by kernel_rfl) (by kernel_rfl) (by kernel_rfl) (Nat.le_of_ble_eq_true rfl)
def Zbp : LCode := (.seq (.reg [] [⟨some 3, some (.box Zc (.tmp 1)), none⟩,
 ⟨some 4, some (.assign (.const (.int .i64 0))), none⟩])
  (.seq (.seq (.reg [] [⟨some 5, some (.move (.tmp 0)), none⟩,
 ⟨some 6, some (.nilCheck (.tmp 5)), none⟩,
 ⟨some 7, some (.fieldAddr Zr (.tmp 6) 2), none⟩,
 ⟨some 8, some (.load Z8 (.tmp 7)), none⟩,
 ⟨some 9, some (.binOp .neq Z8 (.tmp 8) (.const (.int .i64 0)) Z8), none⟩])
  (.cond (.tmp 9) (.seq (.reg [] [⟨some 4, some (.assign (.const (.int .i64 0))), none⟩])
  .ret)
  .skip))
  (.seq (.seq (.reg [] [⟨some 10, some (.fieldAddr Zc (.tmp 3) 0), none⟩,
 ⟨some 11, some (.load Zd (.tmp 10)), none⟩,
 ⟨some 12, some (.call ⟨(.value (.func Zdi)), #[.tmp 11], #[Zd]⟩), none⟩])
  (.block 0 (.seq (.reg [] [⟨some 14, some (.binOp .eql Zd (.tmp 12) (.const (.int .i64 0)) Zd), none⟩,
 ⟨some 13, some (.assign (.tmp 14)), none⟩])
  (.cond (.tmp 13) (.seq (.reg [] [⟨some 15, some (.move (.tmp 0)), none⟩,
 ⟨some 16, some (.load Zc (.tmp 3)), none⟩,
 ⟨some 17, some (.call ⟨(.value (.func Zf)), #[.tmp 15, .tmp 16], #[Zh, Zc]⟩), none⟩,
 ⟨some 4, some (.assign (.tmp 17)), none⟩])
  .ret)
  (.seq (.reg [] [⟨some 19, some (.binOp .eql Zd (.tmp 12) (.const (.int .i64 1)) Zd), none⟩,
 ⟨some 18, some (.assign (.tmp 19)), none⟩])
  (.cond (.tmp 18) (.seq (.reg [] [⟨some 20, some (.move (.tmp 0)), none⟩,
 ⟨some 21, some (.load Zc (.tmp 3)), none⟩,
 ⟨some 22, some (.call ⟨(.value (.func Zbh)), #[.tmp 20, .tmp 21], #[Zh, Zc]⟩), none⟩,
 ⟨some 4, some (.assign (.tmp 22)), none⟩])
  .ret)
  (.seq (.reg [] [⟨some 24, some (.binOp .eql Zd (.tmp 12) (.const (.int .i64 3)) Zd), none⟩,
 ⟨some 23, some (.assign (.tmp 24)), none⟩])
  (.cond (.tmp 23) (.seq (.reg [] [⟨some 25, some (.move (.tmp 0)), none⟩,
 ⟨some 26, some (.load Zc (.tmp 3)), none⟩,
 ⟨some 27, some (.call ⟨(.value (.func Zbj)), #[.tmp 25, .tmp 26], #[Zh, Zc]⟩), none⟩,
 ⟨some 4, some (.assign (.tmp 27)), none⟩])
  .ret)
  .skip))))))))
  (.seq (.reg [] [⟨some 28, some (.move (.tmp 0)), none⟩,
 ⟨some 29, some (.load Zc (.tmp 3)), none⟩,
 ⟨some 30, some (.call ⟨(.value (.func Zbr)), #[.tmp 28, .tmp 29], #[Zh, Zc]⟩), none⟩,
 ⟨some 4, some (.assign (.tmp 30)), none⟩])
  .ret))))
theorem Zd6 {a0 a1 : AV} {H : AHeap} : R Zk [a0, a1] H = fnK Try.prog [] H [(.tmp 4)] (evalL Try.prog KT R Zbp (Env.args [a0, a1] 0) H) :=
  runs_body (D := DT) (f := Zk) Try.func27 (by kernel_rfl) (by kernel_rfl) (by kernel_rfl) (by kernel_rfl) (by kernel_rfl) (Nat.le_of_ble_eq_true rfl)
def Zb0 : LCode := (.seq (.reg [] [⟨some 19, some (.binOp .lss Zd (.tmp 18) (.const (.int .i64 3)) Zd), none⟩])
  (.seq (.cond (.tmp 19) .skip
  (.exit 0))
  (.seq (.block 1 (.seq (.reg [] [⟨some 20, some (.move (.tmp 18)), none⟩,
 ⟨some 21, some (.index Zes (.tmp 17) (.tmp 18)), none⟩,
 ⟨some 6, some (.assign (.tmp 20)), none⟩,
 ⟨some 7, some (.assign (.tmp 21)), none⟩])
  (.seq (.reg [] [⟨some 22, some (.move (.tmp 6)), none⟩,
 ⟨some 23, some (.move (.tmp 5)), none⟩,
 ⟨some 24, some (.binOp .lss Zd (.tmp 22) (.tmp 23) Zd), none⟩,
 ⟨some 25, some (.move (.tmp 24)), none⟩,
 ⟨some 26, some (.move (.tmp 7)), some (some 25, true)⟩,
 ⟨some 27, some (.binOp .lss Zd (.tmp 26) (.const (.int .i64 1)) Zd), some (some 25, true)⟩,
 ⟨some 28, some (.move (.tmp 27)), some (some 25, true)⟩,
 ⟨some 29, some (.move (.tmp 7)), some (some 28, false)⟩,
 ⟨some 30, some (.move (.tmp 0)), some (some 28, false)⟩,
 ⟨some 31, some (.nilCheck (.tmp 30)), some (some 28, false)⟩,
 ⟨some 32, some (.fieldAddr Z0 (.tmp 31) 1), some (some 28, false)⟩,
 ⟨some 33, some (.load Zn (.tmp 32)), some (some 28, false)⟩,
 ⟨some 34, some (.call ⟨(.builtin .len), #[.tmp 33], #[Zn]⟩), some (some 28, false)⟩,
 ⟨some 35, some (.binOp .gtr Zd (.tmp 29) (.tmp 34) Zd), some (some 28, false)⟩,
 ⟨some 36, some (.pick (.tmp 28) (.const (.bool true)) (.tmp 35)), some (some 25, true)⟩,
 ⟨some 37, some (.pick (.tmp 25) (.tmp 36) (.const (.bool false))), none⟩,
 ⟨some 38, some (.move (.tmp 37)), none⟩,
 ⟨some 39, some (.move (.tmp 6)), some (some 38, false)⟩,
 ⟨some 40, some (.move (.tmp 5)), some (some 38, false)⟩,
 ⟨some 41, some (.binOp .geq Zd (.tmp 39) (.tmp 40) Zd), some (some 38, false)⟩,
 ⟨some 42, some (.move (.tmp 41)), some (some 38, false)⟩,
 ⟨some 43, some (.move (.tmp 7)), some (some 42, true)⟩,
 ⟨some 44, some (.binOp .neq Zd (.tmp 43) (.const (.int .i64 0)) Zd), some (some 42, true)⟩,
 ⟨some 45, some (.pick (.tmp 42) (.tmp 44) (.const (.bool false))), some (some 38, false)⟩,
 ⟨some 46, some (.pick (.tmp 38) (.const (.bool true)) (.tmp 45)), none⟩])
  (.cond (.tmp 46) (.seq (.reg [] [⟨some 4, some (.assign (.const (.bool false))), none⟩])
  .ret)
  .skip))))
  (.reg [] [⟨some 47, some (.binOp .add Zd (.tmp 18) (.const (.int .i64 1)) Zd), none⟩,
 ⟨some 18, some (.move (.tmp 47)), none⟩]))))
@[simp] theorem Zhu : defs Zb0 = [19, 20, 21, 6, 7, 22, 23, 24, 25, 26, 27, 28, 29, 30, 31, 32, 33, 34, 35, 36, 37, 38, 39, 40, 41, 42, 43, 44, 45, 46, 4, 47, 18] := by rfl
def Zei : LCode := (.seq (.reg [] [⟨some 3, some (.box Zc (.tmp 1)), none⟩,
 ⟨some 4, some (.assign (.const (.bool false))), none⟩])
  (.seq (.reg [] [⟨some 8, some (.fieldAddr Zc (.tmp 3) 0), none⟩,
 ⟨some 9, some (.load Zd (.tmp 8)), none⟩,
 ⟨some 10, some (.call ⟨(.value (.func Zdi)), #[.tmp 9], #[Zd]⟩), none⟩,
 ⟨some 5, some (.assign (.tmp 10)), none⟩])
  (.seq (.seq (.reg [] [⟨some 11, some (.fieldAddr Zc (.tmp 3) 2), none⟩,
 ⟨some 12, some (.load Zd (.tmp 11)), none⟩,
 ⟨some 13, some (.fieldAddr Zc (.tmp 3) 3), none⟩,
 ⟨some 14, some (.load Zd (.tmp 13)), none⟩,
 ⟨some 15, some (.fieldAddr Zc (.tmp 3) 4), none⟩,
 ⟨some 16, some (.load Zd (.tmp 15)), none⟩,
 ⟨some 17, some (.build Zes #[(0, (.tmp 12)), (1, (.tmp 14)), (2, (.tmp 16))]), none⟩,
 ⟨some 18, some (.move (.const (.int .i64 0))), none⟩])
  (.block 0 (.loop Zb0)))
  (.seq (.reg [] [⟨some 48, some (.move (.tmp 5)), none⟩,
 ⟨some 49, some (.binOp .geq Zd (.tmp 48) (.const (.int .i64 0)) Zd), none⟩,
 ⟨some 50, some (.move (.tmp 49)), none⟩,
 ⟨some 51, some (.fieldAddr Zc (.tmp 3) 0), some (some 50, true)⟩,
 ⟨some 52, some (.load Zd (.tmp 51)), some (some 50, true)⟩,
 ⟨some 53, some (.binOp .eql Zd (.tmp 52) (.const (.int .i64 1)) Zd), some (some 50, true)⟩,
 ⟨some 54, some (.move (.tmp 53)), some (some 50, true)⟩,
 ⟨some 55, some (.fieldAddr Zc (.tmp 3) 7), some (some 54, false)⟩,
 ⟨some 56, some (.load Za (.tmp 55)), some (some 54, false)⟩,
 ⟨some 57, some (.build Za #[]), some (some 54, false)⟩,
 ⟨some 58, some (.binOp .eql Za (.tmp 56) (.tmp 57) Za), some (some 54, false)⟩,
 ⟨some 59, some (.pick (.tmp 54) (.const (.bool true)) (.tmp 58)), some (some 50, true)⟩,
 ⟨some 60, some (.pick (.tmp 50) (.tmp 59) (.const (.bool false))), none⟩,
 ⟨some 61, some (.move (.tmp 60)), none⟩,
 ⟨some 62, some (.fieldAddr Zc (.tmp 3) 0), some (some 61, true)⟩,
 ⟨some 63, some (.load Zd (.tmp 62)), some (some 61, true)⟩,
 ⟨some 64, some (.binOp .eql Zd (.tmp 63) (.const (.int .i64 2)) Zd), some (some 61, true)⟩,
 ⟨some 65, some (.move (.tmp 64)), some (some 61, true)⟩,
 ⟨some 66, some (.fieldAddr Zc (.tmp 3) 8), some (some 65, false)⟩,
 ⟨some 67, some (.load Zce (.tmp 66)), some (some 65, false)⟩,
 ⟨some 68, some (.binOp .eql Zce (.tmp 67) (.const (.string { data := #[] })) Zce), some (some 65, false)⟩,
 ⟨some 69, some (.pick (.tmp 65) (.const (.bool true)) (.tmp 68)), some (some 61, true)⟩,
 ⟨some 70, some (.pick (.tmp 61) (.tmp 69) (.const (.bool false))), none⟩,
 ⟨some 4, some (.assign (.tmp 70)), none⟩])
  .ret))))
theorem Zf1 {a0 a1 : AV} {H : AHeap} : R Zcm [a0, a1] H = fnK Try.prog [] H [(.tmp 4)] (evalL Try.prog KT R Zei (Env.args [a0, a1] 0) H) :=
  runs_body (D := DT) (f := Zcm) Try.func28 (by kernel_rfl) (by kernel_rfl) (by kernel_rfl) (by kernel_rfl) (by kernel_rfl) (Nat.le_of_ble_eq_true rfl)
def Zb1 : LCode := (.seq (.reg [] [⟨some 94, some (.binOp .lss Zd (.tmp 93) (.const (.int .i64 3)) Zd), none⟩])
  (.seq (.cond (.tmp 94) .skip
  (.exit 1))
  (.seq (.block 2 (.seq (.reg [] [⟨some 95, some (.index Zes (.tmp 92) (.tmp 93)), none⟩,
 ⟨some 9, some (.assign (.tmp 95)), none⟩])
  (.seq (.reg [] [⟨some 96, some (.move (.tmp 9)), none⟩,
 ⟨some 97, some (.binOp .gtr Zd (.tmp 96) (.const (.int .i64 0)) Zd), none⟩])
  (.cond (.tmp 97) (.reg [] [⟨some 98, some (.move (.tmp 7)), none⟩,
 ⟨some 99, some (.move (.tmp 0)), none⟩,
 ⟨some 100, some (.nilCheck (.tmp 99)), none⟩,
 ⟨some 101, some (.fieldAddr Z0 (.tmp 100) 1), none⟩,
 ⟨some 102, some (.load Zn (.tmp 101)), none⟩,
 ⟨some 103, some (.move (.tmp 9)), none⟩,
 ⟨some 104, some (.binOp .sub Zd (.tmp 103) (.const (.int .i64 1)) Zd), none⟩,
 ⟨some 105, some (.indexAddr Zn (.tmp 102) (.tmp 104)), none⟩,
 ⟨some 106, some (.fieldAddr Zc (.tmp 105) 1), none⟩,
 ⟨some 107, some (.load Zd (.tmp 106)), none⟩,
 ⟨some 108, some (.buildSlice Z4 1 #[(0, (.tmp 107))]), none⟩,
 ⟨some 109, some (.call ⟨(.builtin .append), #[.tmp 98, .tmp 108], #[Z4, Z4]⟩), none⟩,
 ⟨some 7, some (.assign (.tmp 109)), none⟩])
  .skip))))
  (.reg [] [⟨some 110, some (.binOp .add Zd (.tmp 93) (.const (.int .i64 1)) Zd), none⟩,
 ⟨some 93, some (.move (.tmp 110)), none⟩]))))
@[simp] theorem Zhv : defs Zb1 = [94, 95, 9, 96, 97, 98, 99, 100, 101, 102, 103, 104, 105, 106, 107, 108, 109, 7, 110, 93] := by rfl
def Zs : LCode := (.seq (.reg [] [⟨some 3, some (.box Zc (.tmp 1)), none⟩,
 ⟨some 4, some (.alloc Zc), none⟩,
 ⟨some 5, some (.assign (.const (.int .i64 0))), none⟩])
  (.seq (.seq (.reg [] [⟨some 11, some (.fieldAddr Zc (.tmp 3) 0), none⟩,
 ⟨some 12, some (.load Zd (.tmp 11)), none⟩])
  (.block 0 (.seq (.reg [] [⟨some 14, some (.binOp .eql Zd (.tmp 12) (.const (.int .i64 1)) Zd), none⟩,
 ⟨some 13, some (.assign (.tmp 14)), none⟩])
  (.cond (.tmp 13) (.seq (.seq (.reg [] [⟨some 15, some (.fieldAddr Zc (.tmp 3) 7), none⟩,
 ⟨some 16, some (.load Za (.tmp 15)), none⟩,
 ⟨some 17, some (.call ⟨(.value (.func Zdt)), #[.tmp 16], #[Za]⟩), none⟩,
 ⟨some 18, some (.unOp .not Zbg (.tmp 17)), none⟩,
 ⟨some 19, some (.move (.tmp 18)), none⟩,
 ⟨some 20, some (.fieldAddr Zc (.tmp 3) 7), some (some 19, false)⟩,
 ⟨some 21, some (.fieldAddr Za (.tmp 20) 0), some (some 19, false)⟩,
 ⟨some 22, some (.load Zd (.tmp 21)), some (some 19, false)⟩,
 ⟨some 23, some (.fieldAddr Zc (.tmp 3) 1), some (some 19, false)⟩,
 ⟨some 24, some (.load Zd (.tmp 23)), some (some 19, false)⟩,
 ⟨some 25, some (.binOp .neq Zd (.tmp 22) (.tmp 24) Zd), some (some 19, false)⟩,
 ⟨some 26, some (.pick (.tmp 19) (.const (.bool true)) (.tmp 25)), none⟩,
 ⟨some 27, some (.move (.tmp 26)), none⟩,
 ⟨some 28, some (.fieldAddr Zc (.tmp 3) 5), some (some 27, false)⟩,
 ⟨some 29, some (.load Zd (.tmp 28)), some (some 27, false)⟩,
 ⟨some 30, some (.binOp .neq Zd (.tmp 29) (.const (.int .i64 0)) Zd), some (some 27, false)⟩,
 ⟨some 31, some (.pick (.tmp 27) (.const (.bool true)) (.tmp 30)), none⟩,
 ⟨some 32, some (.move (.tmp 31)), none⟩,
 ⟨some 33, some (.fieldAddr Zc (.tmp 3) 6), some (some 32, false)⟩,
 ⟨some 34, some (.load Zd (.tmp 33)), some (some 32, false)⟩,
 ⟨some 35, some (.binOp .neq Zd (.tmp 34) (.const (.int .i64 0)) Zd), some (some 32, false)⟩,
 ⟨some 36, some (.pick (.tmp 32) (.const (.bool true)) (.tmp 35)), none⟩])
  (.cond (.tmp 36) (.seq (.reg [] [⟨some 37, some (.load Zc (.tmp 3)), none⟩,
 ⟨none, some (.store Zc (.tmp 4) (.tmp 37)), none⟩,
 ⟨some 5, some (.assign (.const (.int .i64 30))), none⟩])
  .ret)
  .skip))
  (.seq (.reg [] [⟨some 38, some (.load Zc (.tmp 3)), none⟩,
 ⟨none, some (.store Zc (.tmp 4) (.tmp 38)), none⟩,
 ⟨some 5, some (.assign (.const (.int .i64 0))), none⟩])
  .ret))
  (.seq (.reg [] [⟨some 40, some (.binOp .eql Zd (.tmp 12) (.const (.int .i64 2)) Zd), none⟩,
 ⟨some 39, some (.assign (.tmp 40)), none⟩])
  (.cond (.tmp 39) (.seq (.seq (.reg [] [⟨some 41, some (.fieldAddr Zc (.tmp 3) 1), none⟩,
 ⟨some 42, some (.load Zd (.tmp 41)), none⟩,
 ⟨some 43, some (.call ⟨(.value (.func Zfs)), #[.tmp 42], #[Zd]⟩), none⟩,
 ⟨some 44, some (.unOp .not Zbg (.tmp 43)), none⟩,
 ⟨some 45, some (.move (.tmp 44)), none⟩,
 ⟨some 46, some (.fieldAddr Zc (.tmp 3) 5), some (some 45, false)⟩,
 ⟨some 47, some (.load Zd (.tmp 46)), some (some 45, false)⟩,
 ⟨some 48, some (.binOp .neq Zd (.tmp 47) (.const (.int .i64 0)) Zd), some (some 45, false)⟩,
 ⟨some 49, some (.pick (.tmp 45) (.const (.bool true)) (.tmp 48)), none⟩,
 ⟨some 50, some (.move (.tmp 49)), none⟩,
 ⟨some 51, some (.fieldAddr Zc (.tmp 3) 6), some (some 50, false)⟩,
 ⟨some 52, some (.load Zd (.tmp 51)), some (some 50, false)⟩,
 ⟨some 53, some (.binOp .neq Zd (.tmp 52) (.const (.int .i64 0)) Zd), some (some 50, false)⟩,
 ⟨some 54, some (.pick (.tmp 50) (.const (.bool true)) (.tmp 53)), none⟩])
  (.cond (.tmp 54) (.seq (.reg [] [⟨some 55, some (.load Zc (.tmp 3)), none⟩,
 ⟨none, some (.store Zc (.tmp 4) (.tmp 55)), none⟩,
 ⟨some 5, some (.assign (.const (.int .i64 30))), none⟩])
  .ret)
  .skip))
  (.seq (.seq (.reg [] [⟨some 56, some (.move (.tmp 0)), none⟩,
 ⟨some 57, some (.nilCheck (.tmp 56)), none⟩,
 ⟨some 58, some (.fieldAddr Z0 (.tmp 57) 3), none⟩,
 ⟨some 59, some (.load Zcw (.tmp 58)), none⟩,
 ⟨some 60, some (.fieldAddr Zc (.tmp 3) 8), none⟩,
 ⟨some 61, some (.load Zce (.tmp 60)), none⟩,
 ⟨some 62, some (.lookup Zcw (.tmp 59) (.tmp 61) false), none⟩,
 ⟨some 6, some (.assign (.tmp 62)), none⟩])
  (.seq (.reg [] [⟨some 63, some (.fieldAddr Zc (.tmp 3) 8), none⟩,
 ⟨some 64, some (.load Zce (.tmp 63)), none⟩,
 ⟨some 65, some (.binOp .eql Zce (.tmp 64) (.const (.string { data := #[] })) Zce), none⟩,
 ⟨some 66, some (.move (.tmp 65)), none⟩,
 ⟨some 67, some (.move (.tmp 6)), some (some 66, false)⟩,
 ⟨some 68, some (.binOp .gtr Zd (.tmp 67) (.const (.int .i64 0)) Zd), some (some 66, false)⟩,
 ⟨some 69, some (.move (.tmp 68)), some (some 66, false)⟩,
 ⟨some 70, some (.move (.tmp 0)), some (some 69, true)⟩,
 ⟨some 71, some (.nilCheck (.tmp 70)), some (some 69, true)⟩,
 ⟨some 72, some (.fieldAddr Z0 (.tmp 71) 1), some (some 69, true)⟩,
 ⟨some 73, some (.load Zn (.tmp 72)), some (some 69, true)⟩,
 ⟨some 74, some (.move (.tmp 6)), some (some 69, true)⟩,
 ⟨some 75, some (.binOp .sub Zd (.tmp 74) (.const (.int .i64 1)) Zd), some (some 69, true)⟩,
 ⟨some 76, some (.indexAddr Zn (.tmp 73) (.tmp 75)), some (some 69, true)⟩,
 ⟨some 77, some (.fieldAddr Zc (.tmp 76) 1), some (some 69, true)⟩,
 ⟨some 78, some (.load Zd (.tmp 77)), some (some 69, true)⟩,
 ⟨some 79, some (.fieldAddr Zc (.tmp 3) 1), some (some 69, true)⟩,
 ⟨some 80, some (.load Zd (.tmp 79)), some (some 69, true)⟩,
 ⟨some 81, some (.binOp .neq Zd (.tmp 78) (.tmp 80) Zd), some (some 69, true)⟩,
 ⟨some 82, some (.pick (.tmp 69) (.tmp 81) (.const (.bool false))), some (some 66, false)⟩,
 ⟨some 83, some (.pick (.tmp 66) (.const (.bool true)) (.tmp 82)), none⟩])
  (.cond (.tmp 83) (.seq (.reg [] [⟨some 84, some (.load Zc (.tmp 3)), none⟩,
 ⟨none, some (.store Zc (.tmp 4) (.tmp 84)), none⟩,
 ⟨some 5, some (.assign (.const (.int .i64 34))), none⟩])
  .ret)
  .skip)))
  (.seq (.reg [] [⟨some 85, some (.load Zc (.tmp 3)), none⟩,
 ⟨none, some (.store Zc (.tmp 4) (.tmp 85)), none⟩,
 ⟨some 5, some (.assign (.const (.int .i64 0))), none⟩])
  .ret)))
  .skip))))))
  (.seq (.reg [] [⟨some 7, some (.assign (.const (.slice none 0 0))), none⟩])
  (.seq (.seq (.reg [] [⟨some 86, some (.fieldAddr Zc (.tmp 3) 2), none⟩,
 ⟨some 87, some (.load Zd (.tmp 86)), none⟩,
 ⟨some 88, some (.fieldAddr Zc (.tmp 3) 3), none⟩,
 ⟨some 89, some (.load Zd (.tmp 88)), none⟩,
 ⟨some 90, some (.fieldAddr Zc (.tmp 3) 4), none⟩,
 ⟨some 91, some (.load Zd (.tmp 90)), none⟩,
 ⟨some 92, some (.build Zes #[(0, (.tmp 87)), (1, (.tmp 89)), (2, (.tmp 91))]), none⟩,
 ⟨some 93, some (.move (.const (.int .i64 0))), none⟩])
  (.block 1 (.loop Zb1)))
  (.seq (.reg [] [⟨some 10, some (.assign (.const (.int .i64 0))), none⟩])
  (.seq (.reg [] [⟨some 112, some (.fieldAddr Zc (.tmp 3) 0), none⟩,
 ⟨some 113, some (.load Zd (.tmp 112)), none⟩,
 ⟨some 114, some (.fieldAddr Zc (.tmp 3) 5), none⟩,
 ⟨some 115, some (.load Zd (.tmp 114)), none⟩,
 ⟨some 116, some (.fieldAddr Zc (.tmp 3) 6), none⟩,
 ⟨some 117, some (.load Zd (.tmp 116)), none⟩,
 ⟨some 118, some (.move (.tmp 7)), none⟩,
 ⟨some 119, some (.call ⟨(.value (.func Ze1)), #[.tmp 113, .tmp 115, .tmp 117, .tmp 118], #[Zd, Zd, Zd, Z4]⟩), none⟩,
 ⟨some 111, some (.move (.tmp 119)), none⟩,
 ⟨some 120, some (.extract (.tmp 111) 0), none⟩,
 ⟨some 121, some (.extract (.tmp 111) 1), none⟩,
 ⟨some 122, some (.fieldAddr Zc (.tmp 3) 1), none⟩,
 ⟨none, some (.store Zd (.tmp 122) (.tmp 120)), none⟩,
 ⟨some 10, some (.assign (.tmp 121)), none⟩])
  (.seq (.reg [] [⟨some 123, some (.load Zc (.tmp 3)), none⟩,
 ⟨some 124, some (.move (.tmp 10)), none⟩,
 ⟨none, some (.store Zc (.tmp 4) (.tmp 123)), none⟩,
 ⟨some 5, some (.assign (.tmp 124)), none⟩])
  .ret)))))))
theorem Zf2 {a0 a1 : AV} {H : AHeap} : R Zcn [a0, a1] H = fnK Try.prog [] H [(.cell 4 Zc), (.tmp 5)] (evalL Try.prog KT R Zs (Env.args [a0, a1] 0) H) :=
  runs_body (D := DT) (f := Zcn) Try.func29 (by kernel_rfl) (by kernel_rfl) (by kernel_rfl) (by kernel_rfl) (by kernel_rfl) (Nat.le_of_ble_eq_true rfl)
def Zb9 : LCode := (.seq (.reg [] [⟨some 12, some (.binOp .lss Zd (.tmp 11) (.tmp 10) Zd), none⟩])
  (.seq (.cond (.tmp 12) .skip
  (.exit 0))
  (.seq (.block 1 (.seq (.reg [] [⟨some 13, some (.move (.tmp 11)), none⟩,
 ⟨some 14, some (.indexAddr Zn (.tmp 9) (.tmp 11)), none⟩,
 ⟨some 15, some (.load Zc (.tmp 14)), none⟩,
 ⟨some 5, some (.alloc Zc), none⟩,
 ⟨some 4, some (.assign (.tmp 13)), none⟩,
 ⟨none, some (.store Zc (.tmp 5) (.tmp 15)), none⟩])
  (.seq (.reg [] [⟨some 16, some (.fieldAddr Zc (.tmp 5) 0), none⟩,
 ⟨some 17, some (.load Zd (.tmp 16)), none⟩,
 ⟨some 18, some (.binOp .eql Zd (.tmp 17) (.const (.int .i64 2)) Zd), none⟩])
  (.cond (.tmp 18) (.reg [] [⟨some 19, some (.move (.tmp 3)), none⟩,
 ⟨some 20, some (.move (.tmp 4)), none⟩,
 ⟨some 21, some (.binOp .add Zd (.tmp 20) (.const (.int .i64 1)) Zd), none⟩,
 ⟨some 22, some (.buildSlice Z4 1 #[(0, (.tmp 21))]), none⟩,
 ⟨some 23, some (.call ⟨(.builtin .append), #[.tmp 19, .tmp 22], #[Z4, Z4]⟩), none⟩,
 ⟨some 3, some (.assign (.tmp 23)), none⟩])
  .skip))))
  (.reg [] [⟨some 24, some (.binOp .add Zd (.tmp 11) (.const (.int .i64 1)) Zd), none⟩,
 ⟨some 11, some (.move (.tmp 24)), none⟩]))))
@[simp] theorem Zh3 : defs Zb9 = [12, 13, 14, 15, 5, 4, 16, 17, 18, 19, 20, 21, 22, 23, 3, 24, 11] := by rfl
def Zew : LCode := (.seq (.reg [] [⟨some 2, some (.assign (.const (.slice none 0 0))), none⟩])
  (.seq (.reg [] [⟨some 3, some (.assign (.const (.slice none 0 0))), none⟩])
  (.seq (.seq (.reg [] [⟨some 6, some (.move (.tmp 0)), none⟩,
 ⟨some 7, some (.nilCheck (.tmp 6)), none⟩,
 ⟨some 8, some (.fieldAddr Z0 (.tmp 7) 1), none⟩,
 ⟨some 9, some (.load Zn (.tmp 8)), none⟩,
 ⟨some 10, some (.call ⟨(.builtin .len), #[.tmp 9], #[Zn]⟩), none⟩,
 ⟨some 11, some (.move (.const (.int .i64 0))), none⟩])
  (.block 0 (.loop Zb9)))
  (.seq (.reg [] [⟨some 25, some (.move (.tmp 3)), none⟩,
 ⟨some 2, some (.assign (.tmp 25)), none⟩])
  .ret))))
theorem Zgd {a0 : AV} {H : AHeap} : R Zb4 [a0] H = fnK Try.prog [0] H [(.tmp 2)] (evalL Try.prog KT R Zew (Env.args [a0] 0) H) :=
  runs_body (D := DT) (f := Zb4) Try.func30 (by kernel_rfl) (by kernel_rfl) (by kernel_rfl) (by kernel_rfl) (by kernel_rfl) (Nat.le_of_ble_eq_true rfl)
def Zej : LCode := (.seq (.reg [] [⟨some 12, some (.binOp .lss Zd (.tmp 11) (.tmp 10) Zd), none⟩])
  (.seq (.cond (.tmp 12) .skip
  (.exit 0))
  (.seq (.block 1 (.seq (.reg [] [⟨some 13, some (.indexAddr Z9 (.tmp 9) (.tmp 11)), none⟩,
 ⟨some 14, some (.load Zbx (.tmp 13)), none⟩,
 ⟨some 5, some (.alloc Zbx), none⟩,
 ⟨none, some (.store Zbx (.tmp 5) (.tmp 14)), none⟩])
  (.seq (.reg [] [⟨some 16, some (.move (.tmp 3)), none⟩,
 ⟨some 17, some (.fieldAddr Zbx (.tmp 5) 0), none⟩,
 ⟨some 18, some (.load Zce (.tmp 17)), none⟩,
 ⟨some 19, some (.lookup Zbw (.tmp 16) (.tmp 18) true), none⟩,
 ⟨some 15, some (.move (.tmp 19)), none⟩,
 ⟨some 20, some (.extract (.tmp 15) 0), none⟩,
 ⟨some 21, some (.extract (.tmp 15) 1), none⟩,
 ⟨some 6, some (.alloc Za), none⟩,
 ⟨none, some (.store Za (.tmp 6) (.tmp 20)), none⟩,
 ⟨some 7, some (.assign (.tmp 21)), none⟩])
  (.seq (.reg [] [⟨some 22, some (.move (.tmp 7)), none⟩,
 ⟨some 23, some (.unOp .not Zbg (.tmp 22)), none⟩])
  (.cond (.tmp 23) (.reg [] [⟨some 24, some (.move (.tmp 3)), none⟩,
 ⟨some 25, some (.fieldAddr Zbx (.tmp 5) 0), none⟩,
 ⟨some 26, some (.load Zce (.tmp 25)), none⟩,
 ⟨some 27, some (.fieldAddr Zbx (.tmp 5) 1), none⟩,
 ⟨some 28, some (.load Za (.tmp 27)), none⟩,
 ⟨none, some (.mapUpdate Zbw (.tmp 24) (.tmp 26) (.tmp 28)), none⟩])
  .skip)))))
  (.reg [] [⟨some 29, some (.binOp .add Zd (.tmp 11) (.const (.int .i64 1)) Zd), none⟩,
 ⟨some 11, some (.move (.tmp 29)), none⟩]))))
@[simp] theorem Zjt : defs Zej = [12, 13, 14, 5, 16, 17, 18, 19, 15, 20, 21, 6, 7, 22, 23, 24, 25, 26, 27, 28, 29, 11] := by rfl
def Zhj : LCode := (.seq (.reg [] [⟨some 2, some (.assign (.const (.map none))), none⟩])
  (.seq (.reg [] [⟨some 8, some (.makeMap Zbw none), none⟩,
 ⟨some 3, some (.assign (.tmp 8)), none⟩])
  (.seq (.seq (.reg [] [⟨some 9, some (.move (.tmp 0)), none⟩,
 ⟨some 10, some (.call ⟨(.builtin .len), #[.tmp 9], #[Z9]⟩), none⟩,
 ⟨some 11, some (.move (.const (.int .i64 0))), none⟩])
  (.block 0 (.loop Zej)))
  (.seq (.reg [] [⟨some 30, some (.move (.tmp 3)), none⟩,
 ⟨some 2, some (.assign (.tmp 30)), none⟩])
  .ret))))
theorem Ziy {a0 : AV} {H : AHeap} : R Ze6 [a0] H = fnK Try.prog [] H [(.tmp 2)] (evalL Try.prog KT R Zhj (Env.args [a0] 0) H) :=
  runs_body (D := DT) (f := Ze6) Try.func31 (by kernel_rfl) (by kernel_rfl) (by kernel_rfl) (by kernel_rfl) (by kernel_rfl) (Nat.le_of_ble_eq_true rfl)
def Zh4 : LCode := (.seq (.reg [] [⟨some 2, some (.box Za (.tmp 0)), none⟩,
 ⟨some 4, some (.assign (.const (.bool false))), none⟩])
  (.seq (.reg [] [⟨some 5, some (.load Za (.tmp 2)), none⟩,
 ⟨some 6, some (.call ⟨(.value (.func Zdt)), #[.tmp 5], #[Za]⟩), none⟩,
 ⟨some 7, some (.move (.tmp 6)), none⟩,
 ⟨some 8, some (.fieldAddr Za (.tmp 2) 0), some (some 7, true)⟩,
 ⟨some 9, some (.load Zd (.tmp 8)), some (some 7, true)⟩,
 ⟨some 10, some (.move (.tmp 1)), some (some 7, true)⟩,
 ⟨some 11, some (.binOp .eql Zd (.tmp 9) (.tmp 10) Zd), some (some 7, true)⟩,
 ⟨some 12, some (.pick (.tmp 7) (.tmp 11) (.const (.bool false))), none⟩,
 ⟨some 4, some (.assign (.tmp 12)), none⟩])
  .ret))
theorem Zjh {a0 a1 : AV} {H : AHeap} : R Zfr [a0, a1] H = fnK Try.prog [] H [(.tmp 4)] (evalL Try.prog KT R Zh4 (Env.args [a0, a1] 0) H) :=
  runs_body (D := DT) (f := Zfr) Try.func32 (by kernel_rfl) (by kernel_rfl) (by kernel_rfl) (by kernel_rfl) (by kernel_rfl) (Nat.le_of_ble_eq_true rfl)
def Zek : LCode := (.seq (.reg [] [⟨some 35, some (.binOp .lss Zd (.tmp 34) (.tmp 33) Zd), none⟩])
  (.seq (.cond (.tmp 35) .skip
  (.exit 0))
  (.seq (.block 1 (.seq (.reg [] [⟨some 36, some (.indexAddr Z4 (.tmp 32) (.tmp 34)), none⟩,
 ⟨some 37, some (.load Zd (.tmp 36)), none⟩,
 ⟨some 12, some (.assign (.tmp 37)), none⟩])
  (.seq (.reg [] [⟨some 39, some (.move (.tmp 0)), none⟩,
 ⟨some 40, some (.move (.tmp 12)), none⟩,
 ⟨some 41, some (.call ⟨(.value (.func Zm)), #[.tmp 39, .tmp 40], #[Zj, Zd]⟩), none⟩,
 ⟨some 38, some (.move (.tmp 41)), none⟩,
 ⟨some 42, some (.extract (.tmp 38) 0), none⟩,
 ⟨some 43, some (.extract (.tmp 38) 1), none⟩,
 ⟨some 13, some (.alloc Zc), none⟩,
 ⟨none, some (.store Zc (.tmp 13) (.tmp 42)), none⟩,
 ⟨some 14, some (.assign (.tmp 43)), none⟩])
  (.seq (.reg [] [⟨some 44, some (.fieldAddr Zc (.tmp 13) 0), none⟩,
 ⟨some 45, some (.load Zd (.tmp 44)), none⟩])
  (.block 2 (.seq (.reg [] [⟨some 82, some (.binOp .eql Zd (.tmp 45) (.const (.int .i64 1)) Zd), none⟩,
 ⟨some 81, some (.assign (.tmp 82)), none⟩])
  (.cond (.tmp 81) (.reg [] [⟨some 83, some (.move (.tmp 10)), none⟩,
 ⟨some 84, some (.move (.tmp 12)), none⟩,
 ⟨some 85, some (.fieldAddr Zc (.tmp 13) 7), none⟩,
 ⟨some 86, some (.load Za (.tmp 85)), none⟩,
 ⟨none, some (.mapUpdate Zb3 (.tmp 83) (.tmp 84) (.tmp 86)), none⟩])
  (.seq (.reg [] [⟨some 88, some (.binOp .eql Zd (.tmp 45) (.const (.int .i64 2)) Zd), none⟩,
 ⟨some 87, some (.assign (.tmp 88)), none⟩])
  (.cond (.tmp 87) (.seq (.reg [] [⟨some 90, some (.move (.tmp 2)), none⟩,
 ⟨some 91, some (.fieldAddr Zc (.tmp 13) 8), none⟩,
 ⟨some 92, some (.load Zce (.tmp 91)), none⟩,
 ⟨some 93, some (.lookup Zbw (.tmp 90) (.tmp 92) true), none⟩,
 ⟨some 89, some (.move (.tmp 93)), none⟩,
 ⟨some 94, some (.extract (.tmp 89) 0), none⟩,
 ⟨some 95, some (.extract (.tmp 89) 1), none⟩,
 ⟨some 15, some (.alloc Za), none⟩,
 ⟨none, some (.store Za (.tmp 15) (.tmp 94)), none⟩,
 ⟨some 16, some (.assign (.tmp 95)), none⟩])
  (.seq (.seq (.reg [] [⟨some 96, some (.move (.tmp 16)), none⟩,
 ⟨some 97, some (.unOp .not Zbg (.tmp 96)), none⟩,
 ⟨some 98, some (.move (.tmp 97)), none⟩,
 ⟨some 99, some (.load Za (.tmp 15)), some (some 98, false)⟩,
 ⟨some 100, some (.fieldAddr Zc (.tmp 13) 1), some (some 98, false)⟩,
 ⟨some 101, some (.load Zd (.tmp 100)), some (some 98, false)⟩,
 ⟨some 102, some (.call ⟨(.value (.func Zfr)), #[.tmp 99, .tmp 101], #[Za, Zd]⟩), some (some 98, false)⟩,
 ⟨some 103, some (.unOp .not Zbg (.tmp 102)), some (some 98, false)⟩,
 ⟨some 104, some (.pick (.tmp 98) (.const (.bool true)) (.tmp 103)), none⟩])
  (.cond (.tmp 104) (.seq (.reg [] [⟨some 105, some (.build Za #[]), none⟩,
 ⟨none, some (.store Za (.tmp 6) (.tmp 105)), none⟩,
 ⟨some 7, some (.assign (.const (.int .i64 41))), none⟩])
  .ret)
  .skip))
  (.reg [] [⟨some 106, some (.move (.tmp 10)), none⟩,
 ⟨some 107, some (.move (.tmp 12)), none⟩,
 ⟨some 108, some (.load Za (.tmp 15)), none⟩,
 ⟨none, some (.mapUpdate Zb3 (.tmp 106) (.tmp 107) (.tmp 108)), none⟩])))
  (.seq (.reg [14, 15, 6215] [⟨some 46, some (.move (.tmp 10)), none⟩,
 ⟨some 47, some (.fieldAddr Zc (.tmp 13) 2), none⟩,
 ⟨some 48, some (.load Zd (.tmp 47)), none⟩,
 ⟨some 49, some (.lookup Zb3 (.tmp 46) (.tmp 48) false), none⟩,
 ⟨some 50, some (.move (.tmp 10)), none⟩,
 ⟨some 51, some (.fieldAddr Zc (.tmp 13) 3), none⟩,
 ⟨some 52, some (.load Zd (.tmp 51)), none⟩,
 ⟨some 53, some (.lookup Zb3 (.tmp 50) (.tmp 52) false), none⟩,
 ⟨some 54, some (.move (.tmp 10)), none⟩,
 ⟨some 55, some (.fieldAddr Zc (.tmp 13) 4), none⟩,
 ⟨some 56, some (.load Zd (.tmp 55)), none⟩,
 ⟨some 57, some (.lookup Zb3 (.tmp 54) (.tmp 56) false), none⟩,
 ⟨some 59, some (.fieldAddr Zc (.tmp 13) 0), none⟩,
 ⟨some 60, some (.load Zd (.tmp 59)), none⟩,
 ⟨some 61, some (.call ⟨(.value (.func Zdi)), #[.tmp 60], #[Zd]⟩), none⟩,
 ⟨some 58, some (.buildSlice Zp 3 #[(0, (.tmp 49)), (1, (.tmp 53)), (2, (.tmp 57))]), none⟩,
 ⟨some 62, some (.slice Zp (.tmp 58) none (some (.tmp 61)) none), none⟩,
 ⟨some 17, some (.assign (.tmp 62)), none⟩])
  (.seq (.reg [] [⟨some 64, some (.fieldAddr Zc (.tmp 13) 0), none⟩,
 ⟨some 65, some (.load Zd (.tmp 64)), none⟩,
 ⟨some 66, some (.fieldAddr Zc (.tmp 13) 5), none⟩,
 ⟨some 67, some (.load Zd (.tmp 66)), none⟩,
 ⟨some 68, some (.fieldAddr Zc (.tmp 13) 6), none⟩,
 ⟨some 69, some (.load Zd (.tmp 68)), none⟩,
 ⟨some 70, some (.move (.tmp 17)), none⟩,
 ⟨some 71, some (.call ⟨(.value (.func Zeo)), #[.tmp 65, .tmp 67, .tmp 69, .tmp 70], #[Zd, Zd, Zd, Zp]⟩), none⟩,
 ⟨some 63, some (.move (.tmp 71)), none⟩,
 ⟨some 72, some (.extract (.tmp 63) 0), none⟩,
 ⟨some 73, some (.extract (.tmp 63) 1), none⟩,
 ⟨some 18, some (.alloc Za), none⟩,
 ⟨none, some (.store Za (.tmp 18) (.tmp 72)), none⟩,
 ⟨some 19, some (.assign (.tmp 73)), none⟩])
  (.seq (.seq (.reg [] [⟨some 74, some (.move (.tmp 19)), none⟩,
 ⟨some 75, some (.binOp .neq Z8 (.tmp 74) (.const (.int .i64 0)) Z8), none⟩])
  (.cond (.tmp 75) (.seq (.reg [] [⟨some 76, some (.build Za #[]), none⟩,
 ⟨some 77, some (.move (.tmp 19)), none⟩,
 ⟨none, some (.store Za (.tmp 6) (.tmp 76)), none⟩,
 ⟨some 7, some (.assign (.tmp 77)), none⟩])
  .ret)
  .skip))
  (.reg [] [⟨some 78, some (.move (.tmp 10)), none⟩,
 ⟨some 79, some (.move (.tmp 12)), none⟩,
 ⟨some 80, some (.load Za (.tmp 18)), none⟩,
 ⟨none, some (.mapUpdate Zb3 (.tmp 78) (.tmp 79) (.tmp 80)), none⟩])))))))))))))
  (.reg [] [⟨some 109, some (.binOp .add Zd (.tmp 34) (.const (.int .i64 1)) Zd), none⟩,
 ⟨some 34, some (.move (.tmp 109)), none⟩]))))
@[simp] theorem Zju : defs Zek = [35, 36, 37, 12, 39, 40, 41, 38, 42, 43, 13, 14, 44, 45, 82, 81, 83, 84, 85, 86, 88, 87, 90, 91, 92, 93, 89, 94, 95, 15, 16, 96, 97, 98, 99, 100, 101, 102, 103, 104, 105, 7, 106, 107, 108, 46, 47, 48, 49, 50, 51, 52, 53, 54, 55, 56, 57, 59, 60, 61, 58, 62, 17, 64, 65, 66, 67, 68, 69, 70, 71, 63, 72, 73, 18, 19, 74, 75, 76, 77, 7, 78, 79, 80, 109, 34] := by rfl
def Zgm : LCode := (.seq (.reg [] [⟨some 6, some (.alloc Za), none⟩,
 ⟨some 7, some (.assign (.const (.int .i64 0))), none⟩])
  (.seq (.seq (.reg [] [⟨some 21, some (.move (.tmp 0)), none⟩,
 ⟨some 22, some (.move (.tmp 1)), none⟩,
 ⟨some 23, some (.call ⟨(.value (.func Zm)), #[.tmp 21, .tmp 22], #[Zj, Zd]⟩), none⟩,
 ⟨some 20, some (.move (.tmp 23)), none⟩,
 ⟨some 24, some (.extract (.tmp 20) 0), none⟩,
 ⟨some 25, some (.extract (.tmp 20) 1), none⟩,
 ⟨some 8, some (.alloc Zc), none⟩,
 ⟨none, some (.store Zc (.tmp 8) (.tmp 24)), none⟩,
 ⟨some 9, some (.assign (.tmp 25)), none⟩])
  (.seq (.reg [] [⟨some 26, some (.move (.tmp 9)), none⟩,
 ⟨some 27, some (.unOp .not Zbg (.tmp 26)), none⟩])
  (.cond (.tmp 27) (.seq (.reg [] [⟨some 28, some (.build Za #[]), none⟩,
 ⟨none, some (.store Za (.tmp 6) (.tmp 28)), none⟩,
 ⟨some 7, some (.assign (.const (.int .i64 40))), none⟩])
  .ret)
  .skip)))
  (.seq (.reg [] [⟨some 29, some (.makeMap Zb3 none), none⟩,
 ⟨some 10, some (.assign (.tmp 29)), none⟩])
  (.seq (.seq (.reg [] [⟨some 30, some (.move (.tmp 0)), none⟩,
 ⟨some 31, some (.move (.tmp 1)), none⟩,
 ⟨some 32, some (.call ⟨(.value (.func Zbd)), #[.tmp 30, .tmp 31], #[Zj, Zd]⟩), none⟩,
 ⟨some 33, some (.call ⟨(.builtin .len), #[.tmp 32], #[Z4]⟩), none⟩,
 ⟨some 34, some (.move (.const (.int .i64 0))), none⟩])
  (.block 0 (.loop Zek)))
  (.seq (.reg [] [⟨some 110, some (.move (.tmp 10)), none⟩,
 ⟨some 111, some (.move (.tmp 1)), none⟩,
 ⟨some 112, some (.lookup Zb3 (.tmp 110) (.tmp 111) false), none⟩,
 ⟨none, some (.store Za (.tmp 6) (.tmp 112)), none⟩,
 ⟨some 7, some (.assign (.const (.int .i64 0))), none⟩])
  .ret)))))
theorem Ziz {a0 a1 a2 : AV} {H : AHeap} : R Ze7 [a0, a1, a2] H = fnK Try.prog [] H [(.cell 6 Za), (.tmp 7)] (evalL Try.prog KT R Zgm (Env.args [a0, a1, a2] 0) H) :=
  runs_body (D := DT) (f := Ze7) Try.func33 (by kernel_rfl) (by kernel_rfl) (by kernel_rfl) (by kernel_rfl) (by kernel_rfl) (Nat.le_of_ble_eq_true rfl)
def Zcy : LCode := (.seq (.reg [] [⟨some 2, some (.assign (.const (.int .i64 0))), none⟩])
  (.seq (.block 0 (.seq (.reg [] [⟨some 4, some (.move (.tmp 0)), none⟩,
 ⟨some 5, some (.binOp .lss Zd (.tmp 4) (.const (.int .i64 1)) Zd), none⟩,
 ⟨some 6, some (.move (.tmp 5)), none⟩,
 ⟨some 7, some (.move (.tmp 0)), some (some 6, false)⟩,
 ⟨some 8, some (.binOp .gtr Zd (.tmp 7) (.const (.int .i64 44)) Zd), some (some 6, false)⟩,
 ⟨some 9, some (.pick (.tmp 6) (.const (.bool true)) (.tmp 8)), none⟩,
 ⟨some 3, some (.assign (.tmp 9)), none⟩])
  (.cond (.tmp 3) (.seq (.reg [] [⟨some 2, some (.assign (.const (.int .i64 (-1)))), none⟩])
  .ret)
  (.seq (.reg [] [⟨some 11, some (.move (.tmp 0)), none⟩,
 ⟨some 12, some (.binOp .leq Zd (.tmp 11) (.const (.int .i64 2)) Zd), none⟩,
 ⟨some 10, some (.assign (.tmp 12)), none⟩])
  (.cond (.tmp 10) (.seq (.reg [] [⟨some 2, some (.assign (.const (.int .i64 0))), none⟩])
  .ret)
  (.seq (.reg [] [⟨some 14, some (.move (.tmp 0)), none⟩,
 ⟨some 15, some (.binOp .eql Zd (.tmp 14) (.const (.int .i64 3)) Zd), none⟩,
 ⟨some 16, some (.move (.tmp 15)), none⟩,
 ⟨some 17, some (.move (.tmp 0)), some (some 16, false)⟩,
 ⟨some 18, some (.binOp .eql Zd (.tmp 17) (.const (.int .i64 10)) Zd), some (some 16, false)⟩,
 ⟨some 19, some (.pick (.tmp 16) (.const (.bool true)) (.tmp 18)), none⟩,
 ⟨some 20, some (.move (.tmp 19)), none⟩,
 ⟨some 21, some (.move (.tmp 0)), some (some 20, false)⟩,
 ⟨some 22, some (.binOp .eql Zd (.tmp 21) (.const (.int .i64 11)) Zd), some (some 20, false)⟩,
 ⟨some 23, some (.pick (.tmp 20) (.const (.bool true)) (.tmp 22)), none⟩,
 ⟨some 24, some (.move (.tmp 23)), none⟩,
 ⟨some 25, some (.move (.tmp 0)), some (some 24, false)⟩,
 ⟨some 26, some (.binOp .geq Zd (.tmp 25) (.const (.int .i64 39)) Zd), some (some 24, false)⟩,
 ⟨some 27, some (.pick (.tmp 24) (.const (.bool true)) (.tmp 26)), none⟩,
 ⟨some 13, some (.assign (.tmp 27)), none⟩])
  (.cond (.tmp 13) (.seq (.reg [] [⟨some 2, some (.assign (.const (.int .i64 1))), none⟩])
  .ret)
  (.seq (.reg [] [⟨some 29, some (.move (.tmp 0)), none⟩,
 ⟨some 30, some (.binOp .eql Zd (.tmp 29) (.const (.int .i64 9)) Zd), none⟩,
 ⟨some 28, some (.assign (.tmp 30)), none⟩])
  (.cond (.tmp 28) (.seq (.reg [] [⟨some 2, some (.assign (.const (.int .i64 3))), none⟩])
  .ret)
  .skip)))))))))
  (.seq (.reg [] [⟨some 2, some (.assign (.const (.int .i64 2))), none⟩])
  .ret)))
theorem Zi0 {a0 : AV} {H : AHeap} : R Zdi [a0] H = fnK Try.prog [] H [(.tmp 2)] (evalL Try.prog KT R Zcy (Env.args [a0] 0) H) :=
  runs_body (D := DT) (f := Zdi) Try.func34 (by kernel_rfl) (by kernel_rfl) (by kernel_rfl) (by kernel_rfl) (by kernel_rfl) (Nat.le_of_ble_eq_true rfl)
def Zc4 : LCode := (.seq (.reg [] [⟨some 3, some (.box Zc (.tmp 1)), none⟩,
 ⟨some 4, some (.assign (.const (.int .i64 0))), none⟩])
  (.seq (.reg [] [⟨some 8, some (.move (.tmp 0)), none⟩,
 ⟨some 9, some (.nilCheck (.tmp 8)), none⟩,
 ⟨some 10, some (.fieldAddr Zr (.tmp 9) 0), none⟩,
 ⟨some 11, some (.load Zj (.tmp 10)), none⟩,
 ⟨some 12, some (.load Zc (.tmp 3)), none⟩,
 ⟨some 13, some (.call ⟨(.value (.func Zo)), #[.tmp 11, .tmp 12], #[Zj, Zc]⟩), none⟩,
 ⟨some 7, some (.move (.tmp 13)), none⟩,
 ⟨some 14, some (.extract (.tmp 7) 0), none⟩,
 ⟨some 15, some (.extract (.tmp 7) 1), none⟩,
 ⟨some 5, some (.assign (.tmp 14)), none⟩,
 ⟨some 6, some (.assign (.tmp 15)), none⟩])
  (.seq (.seq (.reg [] [⟨some 16, some (.move (.tmp 0)), none⟩,
 ⟨some 17, some (.nilCheck (.tmp 16)), none⟩,
 ⟨some 18, some (.fieldAddr Zr (.tmp 17) 2), none⟩,
 ⟨some 19, some (.load Z8 (.tmp 18)), none⟩,
 ⟨some 20, some (.binOp .eql Z8 (.tmp 19) (.const (.int .i64 0)) Z8), none⟩])
  (.cond (.tmp 20) (.reg [] [⟨some 21, some (.move (.tmp 0)), none⟩,
 ⟨some 22, some (.move (.tmp 6)), none⟩,
 ⟨some 23, some (.nilCheck (.tmp 21)), none⟩,
 ⟨some 24, some (.fieldAddr Zr (.tmp 23) 2), none⟩,
 ⟨none, some (.store Z8 (.tmp 24) (.tmp 22)), none⟩])
  .skip))
  (.seq (.reg [] [⟨some 25, some (.move (.tmp 5)), none⟩,
 ⟨some 4, some (.assign (.tmp 25)), none⟩])
  .ret))))
theorem Zd7 {a0 a1 : AV} {H : AHeap} : R Zf [a0, a1] H = fnK Try.prog [] H [(.tmp 4)] (evalL Try.prog KT R Zc4 (Env.args [a0, a1] 0) H) :=
  runs_body (D := DT) (f := Zf) Try.func35 (by kernel_rfl) (by kernel_rfl) (by kernel_rfl) (by kernel_rfl) (by kernel_rfl) (Nat.le_of_ble_eq_true rfl)
def Zq : LCode := (.seq (.reg [] [⟨some 3, some (.box Zc (.tmp 1)), none⟩,
 ⟨some 4, some (.assign (.const (.int .i64 0))), none⟩])
  (.seq (.seq (.reg [] [⟨some 8, some (.move (.tmp 0)), none⟩,
 ⟨some 9, some (.load Zc (.tmp 3)), none⟩,
 ⟨some 10, some (.call ⟨(.value (.func Zx)), #[.tmp 8, .tmp 9], #[Zh, Zc]⟩), none⟩,
 ⟨some 5, some (.assign (.tmp 10)), none⟩])
  (.seq (.reg [] [⟨some 11, some (.move (.tmp 5)), none⟩,
 ⟨some 12, some (.binOp .gtr Zd (.tmp 11) (.const (.int .i64 0)) Zd), none⟩,
 ⟨some 13, some (.move (.tmp 12)), none⟩,
 ⟨some 14, some (.move (.tmp 0)), some (some 13, false)⟩,
 ⟨some 15, some (.nilCheck (.tmp 14)), some (some 13, false)⟩,
 ⟨some 16, some (.fieldAddr Zr (.tmp 15) 2), some (some 13, false)⟩,
 ⟨some 17, some (.load Z8 (.tmp 16)), some (some 13, false)⟩,
 ⟨some 18, some (.binOp .neq Z8 (.tmp 17) (.const (.int .i64 0)) Z8), some (some 13, false)⟩,
 ⟨some 19, some (.pick (.tmp 13) (.const (.bool true)) (.tmp 18)), none⟩])
  (.cond (.tmp 19) (.seq (.reg [] [⟨some 20, some (.move (.tmp 5)), none⟩,
 ⟨some 4, some (.assign (.tmp 20)), none⟩])
  .ret)
  .skip)))
  (.seq (.reg [10] [⟨some 22, some (.move (.tmp 0)), none⟩,
 ⟨some 23, some (.nilCheck (.tmp 22)), none⟩,
 ⟨some 24, some (.fieldAddr Zr (.tmp 23) 0), none⟩,
 ⟨some 25, some (.load Zj (.tmp 24)), none⟩,
 ⟨some 26, some (.fieldAddr Zc (.tmp 3) 2), none⟩,
 ⟨some 27, some (.load Zd (.tmp 26)), none⟩,
 ⟨some 28, some (.call ⟨(.value (.func Zm)), #[.tmp 25, .tmp 27], #[Zj, Zd]⟩), none⟩,
 ⟨some 21, some (.move (.tmp 28)), none⟩,
 ⟨some 29, some (.extract (.tmp 21) 0), none⟩,
 ⟨some 30, some (.extract (.tmp 21) 1), none⟩,
 ⟨some 6, some (.alloc Zc), none⟩,
 ⟨none, some (.store Zc (.tmp 6) (.tmp 29)), none⟩,
 ⟨some 7, some (.assign (.tmp 30)), none⟩])
  (.seq (.block 0 (.seq (.reg [] [⟨some 32, some (.fieldAddr Zc (.tmp 3) 0), none⟩,
 ⟨some 33, some (.load Zd (.tmp 32)), none⟩,
 ⟨some 34, some (.call ⟨(.value (.func Zeg)), #[.tmp 33], #[Zd]⟩), none⟩,
 ⟨some 35, some (.binOp .and Zd (.tmp 34) (.const (.int .i64 128)) Zd), none⟩,
 ⟨some 36, some (.binOp .neq Zd (.tmp 35) (.const (.int .i64 0)) Zd), none⟩,
 ⟨some 37, some (.move (.tmp 36)), none⟩,
 ⟨some 38, some (.fieldAddr Zc (.tmp 6) 0), some (some 37, true)⟩,
 ⟨some 39, some (.load Zd (.tmp 38)), some (some 37, true)⟩,
 ⟨some 40, some (.fieldAddr Zc (.tmp 3) 0), some (some 37, true)⟩,
 ⟨some 41, some (.load Zd (.tmp 40)), some (some 37, true)⟩,
 ⟨some 42, some (.binOp .eql Zd (.tmp 39) (.tmp 41) Zd), some (some 37, true)⟩,
 ⟨some 43, some (.pick (.tmp 37) (.tmp 42) (.const (.bool false))), none⟩,
 ⟨some 31, some (.assign (.tmp 43)), none⟩])
  (.cond (.tmp 31) (.seq (.reg [] [⟨some 44, some (.fieldAddr Zc (.tmp 6) 2), none⟩,
 ⟨some 45, some (.load Zd (.tmp 44)), none⟩,
 ⟨some 4, some (.assign (.tmp 45)), none⟩])
  .ret)
  (.seq (.reg [] [⟨some 47, some (.fieldAddr Zc (.tmp 3) 0), none⟩,
 ⟨some 48, some (.load Zd (.tmp 47)), none⟩,
 ⟨some 49, some (.binOp .eql Zd (.tmp 48) (.const (.int .i64 39)) Zd), none⟩,
 ⟨some 50, some (.move (.tmp 49)), none⟩,
 ⟨some 51, some (.fieldAddr Zc (.tmp 3) 6), some (some 50, true)⟩,
 ⟨some 52, some (.load Zd (.tmp 51)), some (some 50, true)⟩,
 ⟨some 53, some (.binOp .eql Zd (.tmp 52) (.const (.int .i64 0)) Zd), some (some 50, true)⟩,
 ⟨some 54, some (.pick (.tmp 50) (.tmp 53) (.const (.bool false))), none⟩,
 ⟨some 55, some (.move (.tmp 54)), none⟩,
 ⟨some 56, some (.fieldAddr Zc (.tmp 3) 5), some (some 55, true)⟩,
 ⟨some 57, some (.load Zd (.tmp 56)), some (some 55, true)⟩,
 ⟨some 58, some (.fieldAddr Zc (.tmp 6) 1), some (some 55, true)⟩,
 ⟨some 59, some (.load Zd (.tmp 58)), some (some 55, true)⟩,
 ⟨some 60, some (.binOp .sub Zd (.tmp 59) (.const (.int .i64 1)) Zd), some (some 55, true)⟩,
 ⟨some 61, some (.binOp .eql Zd (.tmp 57) (.tmp 60) Zd), some (some 55, true)⟩,
 ⟨some 62, some (.pick (.tmp 55) (.tmp 61) (.const (.bool false))), none⟩,
 ⟨some 46, some (.assign (.tmp 62)), none⟩])
  (.cond (.tmp 46) (.seq (.reg [] [⟨some 63, some (.fieldAddr Zc (.tmp 3) 2), none⟩,
 ⟨some 64, some (.load Zd (.tmp 63)), none⟩,
 ⟨some 4, some (.assign (.tmp 64)), none⟩])
  .ret)
  (.seq (.reg [] [⟨some 66, some (.fieldAddr Zc (.tmp 3) 0), none⟩,
 ⟨some 67, some (.load Zd (.tmp 66)), none⟩,
 ⟨some 68, some (.binOp .eql Zd (.tmp 67) (.const (.int .i64 40)) Zd), none⟩,
 ⟨some 69, some (.move (.tmp 68)), none⟩,
 ⟨some 70, some (.fieldAddr Zc (.tmp 3) 0), some (some 69, false)⟩,
 ⟨some 71, some (.load Zd (.tmp 70)), some (some 69, false)⟩,
 ⟨some 72, some (.binOp .eql Zd (.tmp 71) (.const (.int .i64 41)) Zd), some (some 69, false)⟩,
 ⟨some 73, some (.pick (.tmp 69) (.const (.bool true)) (.tmp 72)), none⟩,
 ⟨some 74, some (.move (.tmp 73)), none⟩,
 ⟨some 75, some (.fieldAddr Zc (.tmp 3) 5), some (some 74, true)⟩,
 ⟨some 76, some (.load Zd (.tmp 75)), some (some 74, true)⟩,
 ⟨some 77, some (.binOp .eql Zd (.tmp 76) (.const (.int .i64 0)) Zd), some (some 74, true)⟩,
 ⟨some 78, some (.pick (.tmp 74) (.tmp 77) (.const (.bool false))), none⟩,
 ⟨some 65, some (.assign (.tmp 78)), none⟩])
  (.cond (.tmp 65) (.seq (.reg [] [⟨some 79, some (.fieldAddr Zc (.tmp 3) 2), none⟩,
 ⟨some 80, some (.load Zd (.tmp 79)), none⟩,
 ⟨some 4, some (.assign (.tmp 80)), none⟩])
  .ret)
  (.seq (.reg [] [⟨some 82, some (.fieldAddr Zc (.tmp 3) 0), none⟩,
 ⟨some 83, some (.load Zd (.tmp 82)), none⟩,
 ⟨some 84, some (.binOp .eql Zd (.tmp 83) (.const (.int .i64 42)) Zd), none⟩,
 ⟨some 85, some (.move (.tmp 84)), none⟩,
 ⟨some 86, some (.fieldAddr Zc (.tmp 3) 0), some (some 85, false)⟩,
 ⟨some 87, some (.load Zd (.tmp 86)), some (some 85, false)⟩,
 ⟨some 88, some (.binOp .eql Zd (.tmp 87) (.const (.int .i64 43)) Zd), some (some 85, false)⟩,
 ⟨some 89, some (.pick (.tmp 85) (.const (.bool true)) (.tmp 88)), none⟩,
 ⟨some 90, some (.move (.tmp 89)), none⟩,
 ⟨some 91, some (.fieldAddr Zc (.tmp 3) 5), some (some 90, true)⟩,
 ⟨some 92, some (.load Zd (.tmp 91)), some (some 90, true)⟩,
 ⟨some 93, some (.fieldAddr Zc (.tmp 6) 1), some (some 90, true)⟩,
 ⟨some 94, some (.load Zd (.tmp 93)), some (some 90, true)⟩,
 ⟨some 95, some (.binOp .rem Zd (.tmp 92) (.tmp 94) Zd), some (some 90, true)⟩,
 ⟨some 96, some (.binOp .eql Zd (.tmp 95) (.const (.int .i64 0)) Zd), some (some 90, true)⟩,
 ⟨some 97, some (.pick (.tmp 90) (.tmp 96) (.const (.bool false))), none⟩,
 ⟨some 81, some (.assign (.tmp 97)), none⟩])
  (.cond (.tmp 81) (.seq (.reg [] [⟨some 98, some (.fieldAddr Zc (.tmp 3) 2), none⟩,
 ⟨some 99, some (.load Zd (.tmp 98)), none⟩,
 ⟨some 4, some (.assign (.tmp 99)), none⟩])
  .ret)
  (.seq (.reg [] [⟨some 101, some (.fieldAddr Zc (.tmp 3) 0), none⟩,
 ⟨some 102, some (.load Zd (.tmp 101)), none⟩,
 ⟨some 103, some (.binOp .eql Zd (.tmp 102) (.const (.int .i64 44)) Zd), none⟩,
 ⟨some 104, some (.move (.tmp 103)), none⟩,
 ⟨some 105, some (.fieldAddr Zc (.tmp 3) 5), some (some 104, true)⟩,
 ⟨some 106, some (.load Zd (.tmp 105)), some (some 104, true)⟩,
 ⟨some 107, some (.binOp .eql Zd (.tmp 106) (.const (.int .i64 1)) Zd), some (some 104, true)⟩,
 ⟨some 108, some (.pick (.tmp 104) (.tmp 107) (.const (.bool false))), none⟩,
 ⟨some 100, some (.assign (.tmp 108)), none⟩])
  (.cond (.tmp 100) (.seq (.reg [] [⟨some 109, some (.fieldAddr Zc (.tmp 3) 2), none⟩,
 ⟨some 110, some (.load Zd (.tmp 109)), none⟩,
 ⟨some 4, some (.assign (.tmp 110)), none⟩])
  .ret)
  (.seq (.reg [] [⟨some 112, some (.fieldAddr Zc (.tmp 3) 0), none⟩,
 ⟨some 113, some (.load Zd (.tmp 112)), none⟩,
 ⟨some 114, some (.binOp .eql Zd (.tmp 113) (.const (.int .i64 39)) Zd), none⟩,
 ⟨some 111, some (.assign (.tmp 114)), none⟩])
  (.cond (.tmp 111) (.seq (.reg [] [⟨some 115, some (.move (.tmp 0)), none⟩,
 ⟨some 116, some (.load Zc (.tmp 3)), none⟩,
 ⟨some 117, some (.load Zc (.tmp 6)), none⟩,
 ⟨some 118, some (.call ⟨(.value (.func Z6)), #[.tmp 115, .tmp 116, .tmp 117], #[Zh, Zc, Zc]⟩), none⟩,
 ⟨some 4, some (.assign (.tmp 118)), none⟩])
  .ret)
  .skip)))))))))))))
  (.seq (.reg [] [⟨some 119, some (.move (.tmp 0)), none⟩,
 ⟨some 120, some (.load Zc (.tmp 3)), none⟩,
 ⟨some 121, some (.call ⟨(.value (.func Zf)), #[.tmp 119, .tmp 120], #[Zh, Zc]⟩), none⟩,
 ⟨some 4, some (.assign (.tmp 121)), none⟩])
  .ret)))))
theorem Zfw {a0 a1 : AV} {H : AHeap} : R Zbh [a0, a1] H = fnK Try.prog [] H [(.tmp 4)] (evalL Try.prog KT R Zq (Env.args [a0, a1] 0) H) :=
  runs_body (D := DT) (f := Zbh) Try.func36 (by kernel_rfl) (by kernel_rfl) (by kernel_rfl) (by kernel_rfl) (by kernel_rfl) (Nat.le_of_ble_eq_true rfl)
def Zbs : LCode := (.seq (.reg [] [⟨some 3, some (.box Zc (.tmp 1)), none⟩,
 ⟨some 4, some (.assign (.const (.int .i64 0))), none⟩])
  (.seq (.reg [] [⟨some 8, some (.move (.tmp 0)), none⟩,
 ⟨some 9, some (.fieldAddr Zc (.tmp 3) 2), none⟩,
 ⟨some 10, some (.load Zd (.tmp 9)), none⟩,
 ⟨some 11, some (.call ⟨(.value (.func Zz)), #[.tmp 8, .tmp 10], #[Zh, Zd]⟩), none⟩,
 ⟨some 7, some (.move (.tmp 11)), none⟩,
 ⟨some 12, some (.extract (.tmp 7) 0), none⟩,
 ⟨some 13, some (.extract (.tmp 7) 1), none⟩,
 ⟨some 5, some (.alloc Za), none⟩,
 ⟨none, some (.store Za (.tmp 5) (.tmp 12)), none⟩,
 ⟨some 6, some (.assign (.tmp 13)), none⟩])
  (.seq (.block 0 (.seq (.reg [] [⟨some 15, some (.fieldAddr Zc (.tmp 3) 3), none⟩,
 ⟨some 16, some (.load Zd (.tmp 15)), none⟩,
 ⟨some 17, some (.fieldAddr Zc (.tmp 3) 4), none⟩,
 ⟨some 18, some (.load Zd (.tmp 17)), none⟩,
 ⟨some 19, some (.binOp .eql Zd (.tmp 16) (.tmp 18) Zd), none⟩,
 ⟨some 14, some (.assign (.tmp 19)), none⟩])
  (.cond (.tmp 14) (.seq (.reg [] [⟨some 20, some (.fieldAddr Zc (.tmp 3) 3), none⟩,
 ⟨some 21, some (.load Zd (.tmp 20)), none⟩,
 ⟨some 4, some (.assign (.tmp 21)), none⟩])
  .ret)
  (.seq (.reg [] [⟨some 23, some (.move (.tmp 6)), none⟩,
 ⟨some 24, some (.move (.tmp 23)), none⟩,
 ⟨some 25, some (.fieldAddr Za (.tmp 5) 1), some (some 24, true)⟩,
 ⟨some 26, some (.load Ze (.tmp 25)), some (some 24, true)⟩,
 ⟨some 27, some (.binOp .eql Ze (.tmp 26) (.const (.int .u64 1)) Ze), some (some 24, true)⟩,
 ⟨some 28, some (.pick (.tmp 24) (.tmp 27) (.const (.bool false))), none⟩,
 ⟨some 22, some (.assign (.tmp 28)), none⟩])
  (.cond (.tmp 22) (.seq (.reg [] [⟨some 29, some (.fieldAddr Zc (.tmp 3) 3), none⟩,
 ⟨some 30, some (.load Zd (.tmp 29)), none⟩,
 ⟨some 4, some (.assign (.tmp 30)), none⟩])
  .ret)
  (.seq (.reg [] [⟨some 32, some (.move (.tmp 6)), none⟩,
 ⟨some 31, some (.assign (.tmp 32)), none⟩])
  (.cond (.tmp 31) (.seq (.reg [] [⟨some 33, some (.fieldAddr Zc (.tmp 3) 4), none⟩,
 ⟨some 34, some (.load Zd (.tmp 33)), none⟩,
 ⟨some 4, some (.assign (.tmp 34)), none⟩])
  .ret)
  .skip)))))))
  (.seq (.reg [] [⟨some 35, some (.move (.tmp 0)), none⟩,
 ⟨some 36, some (.load Zc (.tmp 3)), none⟩,
 ⟨some 37, some (.call ⟨(.value (.func Zf)), #[.tmp 35, .tmp 36], #[Zh, Zc]⟩), none⟩,
 ⟨some 4, some (.assign (.tmp 37)), none⟩])
  .ret))))
theorem Zfi {a0 a1 : AV} {H : AHeap} : R Zbj [a0, a1] H = fnK Try.prog [] H [(.tmp 4)] (evalL Try.prog KT R Zbs (Env.args [a0, a1] 0) H) :=
  runs_body (D := DT) (f := Zbj) Try.func37 (by kernel_rfl) (by kernel_rfl) (by kernel_rfl) (by kernel_rfl) (by kernel_rfl) (Nat.le_of_ble_eq_true rfl)
def Zbi : LCode := (.seq (.reg [] [⟨some 3, some (.box Zc (.tmp 1)), none⟩,
 ⟨some 4, some (.assign (.const (.int .i64 0))), none⟩])
  (.seq (.seq (.reg [] [⟨some 8, some (.move (.tmp 0)), none⟩,
 ⟨some 9, some (.load Zc (.tmp 3)), none⟩,
 ⟨some 10, some (.call ⟨(.value (.func Zx)), #[.tmp 8, .tmp 9], #[Zh, Zc]⟩), none⟩,
 ⟨some 5, some (.assign (.tmp 10)), none⟩])
  (.seq (.reg [] [⟨some 11, some (.move (.tmp 5)), none⟩,
 ⟨some 12, some (.binOp .gtr Zd (.tmp 11) (.const (.int .i64 0)) Zd), none⟩,
 ⟨some 13, some (.move (.tmp 12)), none⟩,
 ⟨some 14, some (.move (.tmp 0)), some (some 13, false)⟩,
 ⟨some 15, some (.nilCheck (.tmp 14)), some (some 13, false)⟩,
 ⟨some 16, some (.fieldAddr Zr (.tmp 15) 2), some (some 13, false)⟩,
 ⟨some 17, some (.load Z8 (.tmp 16)), some (some 13, false)⟩,
 ⟨some 18, some (.binOp .neq Z8 (.tmp 17) (.const (.int .i64 0)) Z8), some (some 13, false)⟩,
 ⟨some 19, some (.pick (.tmp 13) (.const (.bool true)) (.tmp 18)), none⟩])
  (.cond (.tmp 19) (.seq (.reg [] [⟨some 20, some (.move (.tmp 5)), none⟩,
 ⟨some 4, some (.assign (.tmp 20)), none⟩])
  .ret)
  .skip)))
  (.seq (.reg [] [⟨some 21, some (.fieldAddr Zc (.tmp 3) 0), none⟩,
 ⟨some 22, some (.load Zd (.tmp 21)), none⟩,
 ⟨some 23, some (.call ⟨(.value (.func Zeg)), #[.tmp 22], #[Zd]⟩), none⟩,
 ⟨some 6, some (.assign (.tmp 23)), none⟩])
  (.seq (.seq (.reg [] [⟨some 24, some (.fieldAddr Zc (.tmp 3) 2), none⟩,
 ⟨some 25, some (.load Zd (.tmp 24)), none⟩,
 ⟨some 26, some (.fieldAddr Zc (.tmp 3) 3), none⟩,
 ⟨some 27, some (.load Zd (.tmp 26)), none⟩,
 ⟨some 28, some (.binOp .eql Zd (.tmp 25) (.tmp 27) Zd), none⟩])
  (.cond (.tmp 28) (.block 0 (.seq (.reg [] [⟨some 30, some (.move (.tmp 6)), none⟩,
 ⟨some 31, some (.binOp .and Zd (.tmp 30) (.const (.int .i64 1)) Zd), none⟩,
 ⟨some 32, some (.binOp .neq Zd (.tmp 31) (.const (.int .i64 0)) Zd), none⟩,
 ⟨some 29, some (.assign (.tmp 32)), none⟩])
  (.cond (.tmp 29) (.seq (.reg [] [⟨some 33, some (.fieldAddr Zc (.tmp 3) 2), none⟩,
 ⟨some 34, some (.load Zd (.tmp 33)), none⟩,
 ⟨some 4, some (.assign (.tmp 34)), none⟩])
  .ret)
  (.seq (.reg [] [⟨some 36, some (.move (.tmp 6)), none⟩,
 ⟨some 37, some (.binOp .and Zd (.tmp 36) (.const (.int .i64 2)) Zd), none⟩,
 ⟨some 38, some (.binOp .neq Zd (.tmp 37) (.const (.int .i64 0)) Zd), none⟩,
 ⟨some 35, some (.assign (.tmp 38)), none⟩])
  (.cond (.tmp 35) (.seq (.reg [] [⟨some 39, some (.move (.tmp 0)), none⟩,
 ⟨some 40, some (.move (.tmp 0)), none⟩,
 ⟨some 41, some (.load Zc (.tmp 3)), none⟩,
 ⟨some 42, some (.call ⟨(.value (.func Zby)), #[.tmp 40, .tmp 41], #[Zh, Zc]⟩), none⟩,
 ⟨some 43, some (.call ⟨(.value (.func Zg)), #[.tmp 39, .tmp 42], #[Zh, Za]⟩), none⟩,
 ⟨some 4, some (.assign (.tmp 43)), none⟩])
  .ret)
  (.seq (.reg [] [⟨some 45, some (.move (.tmp 6)), none⟩,
 ⟨some 46, some (.binOp .and Zd (.tmp 45) (.const (.int .i64 4)) Zd), none⟩,
 ⟨some 47, some (.binOp .neq Zd (.tmp 46) (.const (.int .i64 0)) Zd), none⟩,
 ⟨some 44, some (.assign (.tmp 47)), none⟩])
  (.cond (.tmp 44) (.seq (.reg [] [⟨some 48, some (.move (.tmp 0)), none⟩,
 ⟨some 49, some (.call ⟨(.value (.func Zd4)), #[(.const (.bool true))], #[Zbg]⟩), none⟩,
 ⟨some 50, some (.call ⟨(.value (.func Zg)), #[.tmp 48, .tmp 49], #[Zh, Za]⟩), none⟩,
 ⟨some 4, some (.assign (.tmp 50)), none⟩])
  .ret)
  .skip)))))))
  .skip))
  (.seq (.seq (.reg [] [⟨some 51, some (.move (.tmp 0)), none⟩,
 ⟨some 52, some (.load Zc (.tmp 3)), none⟩,
 ⟨some 53, some (.call ⟨(.value (.func Zbm)), #[.tmp 51, .tmp 52], #[Zh, Zc]⟩), none⟩,
 ⟨some 7, some (.assign (.tmp 53)), none⟩])
  (.seq (.reg [] [⟨some 54, some (.move (.tmp 7)), none⟩,
 ⟨some 55, some (.binOp .gtr Zd (.tmp 54) (.const (.int .i64 0)) Zd), none⟩])
  (.cond (.tmp 55) (.seq (.reg [] [⟨some 56, some (.move (.tmp 7)), none⟩,
 ⟨some 4, some (.assign (.tmp 56)), none⟩])
  .ret)
  .skip)))
  (.seq (.reg [] [⟨some 57, some (.move (.tmp 0)), none⟩,
 ⟨some 58, some (.load Zc (.tmp 3)), none⟩,
 ⟨some 59, some (.move (.tmp 6)), none⟩,
 ⟨some 60, some (.call ⟨(.value (.func Zy)), #[.tmp 57, .tmp 58, .tmp 59], #[Zh, Zc, Zd]⟩), none⟩,
 ⟨some 4, some (.assign (.tmp 60)), none⟩])
  .ret))))))
theorem Zfx {a0 a1 : AV} {H : AHeap} : R Zbr [a0, a1] H = fnK Try.prog [] H [(.tmp 4)] (evalL Try.prog KT R Zbi (Env.args [a0, a1] 0) H) :=
  runs_body (D := DT) (f := Zbr) Try.func38 (by kernel_rfl) (by kernel_rfl) (by kernel_rfl) (by kernel_rfl) (by kernel_rfl) (Nat.le_of_ble_eq_true rfl)
def Zfq : LCode := (.seq (.reg [] [⟨some 1, some (.box Za (.tmp 0)), none⟩,
 ⟨some 2, some (.assign (.const (.bool false))), none⟩])
  (.seq (.seq (.reg [] [⟨some 3, some (.fieldAddr Za (.tmp 1) 0), none⟩,
 ⟨some 4, some (.load Zd (.tmp 3)), none⟩,
 ⟨some 5, some (.binOp .eql Zd (.tmp 4) (.const (.int .i64 0)) Zd), none⟩])
  (.cond (.tmp 5) (.seq (.reg [] [⟨some 6, some (.fieldAddr Za (.tmp 1) 1), none⟩,
 ⟨some 7, some (.load Ze (.tmp 6)), none⟩,
 ⟨some 8, some (.binOp .leq Ze (.tmp 7) (.const (.int .u64 1)) Ze), none⟩,
 ⟨some 9, some (.move (.tmp 8)), none⟩,
 ⟨some 10, some (.fieldAddr Za (.tmp 1) 2), some (some 9, true)⟩,
 ⟨some 11, some (.load Ze (.tmp 10)), some (some 9, true)⟩,
 ⟨some 12, some (.binOp .eql Ze (.tmp 11) (.const (.int .u64 0)) Ze), some (some 9, true)⟩,
 ⟨some 13, some (.pick (.tmp 9) (.tmp 12) (.const (.bool false))), none⟩,
 ⟨some 2, some (.assign (.tmp 13)), none⟩])
  .ret)
  .skip))
  (.seq (.reg [12, 13] [⟨some 14, some (.fieldAddr Za (.tmp 1) 0), none⟩,
 ⟨some 15, some (.load Zd (.tmp 14)), none⟩,
 ⟨some 16, some (.binOp .gtr Zd (.tmp 15) (.const (.int .i64 0)) Zd), none⟩,
 ⟨some 17, some (.move (.tmp 16)), none⟩,
 ⟨some 18, some (.fieldAddr Za (.tmp 1) 0), some (some 17, true)⟩,
 ⟨some 19, some (.load Zd (.tmp 18)), some (some 17, true)⟩,
 ⟨some 20, some (.binOp .leq Zd (.tmp 19) (.const (.int .i64 128)) Zd), some (some 17, true)⟩,
 ⟨some 21, some (.pick (.tmp 17) (.tmp 20) (.const (.bool false))), none⟩,
 ⟨some 22, some (.move (.tmp 21)), none⟩,
 ⟨some 23, some (.fieldAddr Za (.tmp 1) 0), some (some 22, true)⟩,
 ⟨some 24, some (.load Zd (.tmp 23)), some (some 22, true)⟩,
 ⟨some 25, some (.load Za (.tmp 1)), some (some 22, true)⟩,
 ⟨some 26, some (.call ⟨(.value (.func Zcl)), #[.tmp 25], #[Za]⟩), some (some 22, true)⟩,
 ⟨some 27, some (.call ⟨(.value (.func Zcr)), #[.tmp 24, .tmp 26], #[Zd, Zb]⟩), some (some 22, true)⟩,
 ⟨some 28, some (.load Za (.tmp 1)), some (some 22, true)⟩,
 ⟨some 29, some (.binOp .eql Za (.tmp 27) (.tmp 28) Za), some (some 22, true)⟩,
 ⟨some 30, some (.pick (.tmp 22) (.tmp 29) (.const (.bool false))), none⟩,
 ⟨some 2, some (.assign (.tmp 30)), none⟩])
  .ret)))
theorem Zio {a0 : AV} {H : AHeap} : R Zdt [a0] H = fnK Try.prog [] H [(.tmp 2)] (evalL Try.prog KT R Zfq (Env.args [a0] 0) H) :=
  runs_body (D := DT) (f := Zdt) Try.func39 (by kernel_rfl) (by kernel_rfl) (by kernel_rfl) (by kernel_rfl) (by kernel_rfl) (Nat.le_of_ble_eq_true rfl)
def Zh5 : LCode := (.seq (.reg [] [⟨some 2, some (.assign (.const (.bool false))), none⟩])
  (.seq (.reg [] [⟨some 3, some (.move (.tmp 0)), none⟩,
 ⟨some 4, some (.binOp .geq Zd (.tmp 3) (.const (.int .i64 0)) Zd), none⟩,
 ⟨some 5, some (.move (.tmp 4)), none⟩,
 ⟨some 6, some (.move (.tmp 0)), some (some 5, true)⟩,
 ⟨some 7, some (.binOp .leq Zd (.tmp 6) (.const (.int .i64 128)) Zd), some (some 5, true)⟩,
 ⟨some 8, some (.pick (.tmp 5) (.tmp 7) (.const (.bool false))), none⟩,
 ⟨some 2, some (.assign (.tmp 8)), none⟩])
  .ret))
theorem Zji {a0 : AV} {H : AHeap} : R Zfs [a0] H = fnK Try.prog [] H [(.tmp 2)] (evalL Try.prog KT R Zh5 (Env.args [a0] 0) H) :=
  runs_body (D := DT) (f := Zfs) Try.func40 (by kernel_rfl) (by kernel_rfl) (by kernel_rfl) (by kernel_rfl) (by kernel_rfl) (Nat.le_of_ble_eq_true rfl)
def Ze3 : LCode := (.seq (.reg [] [⟨some 8, some (.assign (.const (.int .i64 0))), none⟩,
 ⟨some 9, some (.assign (.const (.int .i64 0))), none⟩])
  (.seq (.reg [] [⟨some 13, some (.move (.tmp 0)), none⟩,
 ⟨some 14, some (.call ⟨(.value (.func Zdi)), #[.tmp 13], #[Zd]⟩), none⟩,
 ⟨some 10, some (.assign (.tmp 14)), none⟩])
  (.seq (.seq (.reg [] [⟨some 15, some (.move (.tmp 10)), none⟩,
 ⟨some 16, some (.binOp .lss Zd (.tmp 15) (.const (.int .i64 1)) Zd), none⟩])
  (.cond (.tmp 16) (.seq (.reg [] [⟨some 8, some (.assign (.const (.int .i64 0))), none⟩,
 ⟨some 9, some (.assign (.const (.int .i64 32))), none⟩])
  .ret)
  .skip))
  (.seq (.seq (.reg [] [⟨some 17, some (.move (.tmp 3)), none⟩,
 ⟨some 18, some (.call ⟨(.builtin .len), #[.tmp 17], #[Z4]⟩), none⟩,
 ⟨some 19, some (.move (.tmp 10)), none⟩,
 ⟨some 20, some (.binOp .neq Zd (.tmp 18) (.tmp 19) Zd), none⟩,
 ⟨some 21, some (.move (.tmp 20)), none⟩,
 ⟨some 22, some (.move (.tmp 3)), some (some 21, false)⟩,
 ⟨some 23, some (.call ⟨(.value (.func Zcb)), #[(.tmp 22), (.func Zdk)], #[Z4, Zj8]⟩), some (some 21, false)⟩,
 ⟨some 24, some (.pick (.tmp 21) (.const (.bool true)) (.tmp 23)), none⟩])
  (.cond (.tmp 24) (.seq (.reg [] [⟨some 8, some (.assign (.const (.int .i64 0))), none⟩,
 ⟨some 9, some (.assign (.const (.int .i64 30))), none⟩])
  .ret)
  .skip))
  (.seq (.reg [] [⟨some 26, some (.move (.tmp 0)), none⟩,
 ⟨some 27, some (.move (.tmp 1)), none⟩,
 ⟨some 28, some (.move (.tmp 2)), none⟩,
 ⟨some 29, some (.move (.tmp 3)), none⟩,
 ⟨some 30, some (.call ⟨(.value (.func Zf8)), #[.tmp 26, .tmp 27, .tmp 28, .tmp 29], #[Zd, Zd, Zd, Z4]⟩), none⟩,
 ⟨some 25, some (.move (.tmp 30)), none⟩,
 ⟨some 31, some (.extract (.tmp 25) 0), none⟩,
 ⟨some 32, some (.extract (.tmp 25) 1), none⟩,
 ⟨some 11, some (.assign (.tmp 31)), none⟩,
 ⟨some 12, some (.assign (.tmp 32)), none⟩])
  (.seq (.block 0 (.seq (.reg [] [⟨some 34, some (.move (.tmp 12)), none⟩,
 ⟨some 35, some (.unOp .not Zbg (.tmp 34)), none⟩,
 ⟨some 33, some (.assign (.tmp 35)), none⟩])
  (.cond (.tmp 33) (.seq (.reg [] [⟨some 8, some (.assign (.const (.int .i64 0))), none⟩,
 ⟨some 9, some (.assign (.const (.int .i64 30))), none⟩])
  .ret)
  (.seq (.reg [] [⟨some 37, some (.move (.tmp 11)), none⟩,
 ⟨some 38, some (.binOp .gtr Zd (.tmp 37) (.const (.int .i64 128)) Zd), none⟩,
 ⟨some 36, some (.assign (.tmp 38)), none⟩])
  (.cond (.tmp 36) (.seq (.reg [] [⟨some 8, some (.assign (.const (.int .i64 0))), none⟩,
 ⟨some 9, some (.assign (.const (.int .i64 31))), none⟩])
  .ret)
  .skip)))))
  (.seq (.reg [] [⟨some 39, some (.move (.tmp 11)), none⟩,
 ⟨some 8, some (.assign (.tmp 39)), none⟩,
 ⟨some 9, some (.assign (.const (.int .i64 0))), none⟩])
  .ret)))))))
theorem Zjj {a0 a1 a2 a3 : AV} {H : AHeap} : R Ze1 [a0, a1, a2, a3] H = fnK Try.prog [] H [(.tmp 8), (.tmp 9)] (evalL Try.prog KT R Ze3 (Env.args [a0, a1, a2, a3] 0) H) :=
  runs_body (D := DT) (f := Ze1) Try.func41 (by kernel_rfl) (by kernel_rfl) (by kernel_rfl) (by kernel_rfl) (by kernel_rfl) (Nat.le_of_ble_eq_true rfl)
def Zel : LCode := (.seq (.reg [] [⟨some 23, some (.binOp .lss Zd (.tmp 22) (.tmp 21) Zd), none⟩])
  (.seq (.cond (.tmp 23) .skip
  (.exit 0))
  (.seq (.block 1 (.seq (.reg [] [⟨some 24, some (.move (.tmp 22)), none⟩,
 ⟨some 25, some (.indexAddr Zp (.tmp 20) (.tmp 22)), none⟩,
 ⟨some 26, some (.load Za (.tmp 25)), none⟩,
 ⟨some 12, some (.alloc Za), none⟩,
 ⟨some 11, some (.assign (.tmp 24)), none⟩,
 ⟨none, some (.store Za (.tmp 12) (.tmp 26)), none⟩])
  (.seq (.reg [] [⟨some 27, some (.move (.tmp 10)), none⟩,
 ⟨some 28, some (.move (.tmp 11)), none⟩,
 ⟨some 29, some (.fieldAddr Za (.tmp 12) 0), none⟩,
 ⟨some 30, some (.load Zd (.tmp 29)), none⟩,
 ⟨some 31, some (.indexAddr Z4 (.tmp 27) (.tmp 28)), none⟩,
 ⟨none, some (.store Zd (.tmp 31) (.tmp 30)), none⟩])
  (.seq (.reg [] [⟨some 32, some (.load Za (.tmp 12)), none⟩,
 ⟨some 33, some (.call ⟨(.value (.func Zdt)), #[.tmp 32], #[Za]⟩), none⟩,
 ⟨some 34, some (.unOp .not Zbg (.tmp 33)), none⟩])
  (.cond (.tmp 34) (.reg [] [⟨some 35, some (.move (.tmp 10)), none⟩,
 ⟨some 36, some (.move (.tmp 11)), none⟩,
 ⟨some 37, some (.indexAddr Z4 (.tmp 35) (.tmp 36)), none⟩,
 ⟨none, some (.store Zd (.tmp 37) (.const (.int .i64 (-1)))), none⟩])
  .skip)))))
  (.reg [] [⟨some 38, some (.binOp .add Zd (.tmp 22) (.const (.int .i64 1)) Zd), none⟩,
 ⟨some 22, some (.move (.tmp 38)), none⟩]))))
@[simp] theorem Zjv : defs Zel = [23, 24, 25, 26, 12, 11, 27, 28, 29, 30, 31, 32, 33, 34, 35, 36, 37, 38, 22] := by rfl
def Zhk : LCode := (.seq (.reg [] [⟨some 8, some (.alloc Za), none⟩,
 ⟨some 9, some (.assign (.const (.int .i64 0))), none⟩])
  (.seq (.reg [] [⟨some 17, some (.move (.tmp 3)), none⟩,
 ⟨some 18, some (.call ⟨(.builtin .len), #[.tmp 17], #[Zp]⟩), none⟩,
 ⟨some 19, some (.makeSlice Z4 (.tmp 18) (.tmp 18)), none⟩,
 ⟨some 10, some (.assign (.tmp 19)), none⟩])
  (.seq (.seq (.reg [] [⟨some 20, some (.move (.tmp 3)), none⟩,
 ⟨some 21, some (.call ⟨(.builtin .len), #[.tmp 20], #[Zp]⟩), none⟩,
 ⟨some 22, some (.move (.const (.int .i64 0))), none⟩])
  (.block 0 (.loop Zel)))
  (.seq (.seq (.reg [] [⟨some 40, some (.move (.tmp 0)), none⟩,
 ⟨some 41, some (.move (.tmp 1)), none⟩,
 ⟨some 42, some (.move (.tmp 2)), none⟩,
 ⟨some 43, some (.move (.tmp 10)), none⟩,
 ⟨some 44, some (.call ⟨(.value (.func Ze1)), #[.tmp 40, .tmp 41, .tmp 42, .tmp 43], #[Zd, Zd, Zd, Z4]⟩), none⟩,
 ⟨some 39, some (.move (.tmp 44)), none⟩,
 ⟨some 45, some (.extract (.tmp 39) 0), none⟩,
 ⟨some 46, some (.extract (.tmp 39) 1), none⟩,
 ⟨some 13, some (.assign (.tmp 45)), none⟩,
 ⟨some 14, some (.assign (.tmp 46)), none⟩])
  (.seq (.reg [] [⟨some 47, some (.move (.tmp 14)), none⟩,
 ⟨some 48, some (.binOp .neq Z8 (.tmp 47) (.const (.int .i64 0)) Z8), none⟩])
  (.cond (.tmp 48) (.seq (.reg [] [⟨some 49, some (.build Za #[]), none⟩,
 ⟨some 50, some (.move (.tmp 14)), none⟩,
 ⟨none, some (.store Za (.tmp 8) (.tmp 49)), none⟩,
 ⟨some 9, some (.assign (.tmp 50)), none⟩])
  .ret)
  .skip)))
  (.seq (.reg [] [⟨some 52, some (.move (.tmp 0)), none⟩,
 ⟨some 53, some (.call ⟨(.value (.func Zep)), #[.tmp 52], #[Zd]⟩), none⟩,
 ⟨some 51, some (.move (.tmp 53)), none⟩,
 ⟨some 54, some (.extract (.tmp 51) 0), none⟩,
 ⟨some 55, some (.extract (.tmp 51) 1), none⟩,
 ⟨some 15, some (.alloc Zt), none⟩,
 ⟨none, some (.store Zt (.tmp 15) (.tmp 54)), none⟩,
 ⟨some 16, some (.assign (.tmp 55)), none⟩])
  (.seq (.seq (.reg [] [⟨some 56, some (.move (.tmp 16)), none⟩,
 ⟨some 57, some (.unOp .not Zbg (.tmp 56)), none⟩])
  (.cond (.tmp 57) (.reg [] [⟨some 58, some (.move (.tmp 0)), none⟩,
 ⟨some 59, some (.call ⟨(.value (.func Zfz)), #[.tmp 58], #[Zd]⟩), none⟩,
 ⟨none, some (.store Zt (.tmp 15) (.tmp 59)), none⟩])
  .skip))
  (.seq (.reg [] [⟨some 60, some (.fieldAddr Zt (.tmp 15) 0), none⟩,
 ⟨some 61, some (.load Zj6 (.tmp 60)), none⟩,
 ⟨some 62, some (.move (.tmp 1)), none⟩,
 ⟨some 63, some (.move (.tmp 2)), none⟩,
 ⟨some 64, some (.move (.tmp 3)), none⟩,
 ⟨some 65, some (.call ⟨(.value (.tmp 61)), #[.tmp 62, .tmp 63, .tmp 64], #[Zd, Zd, Zp]⟩), none⟩,
 ⟨some 66, some (.extract (.tmp 65) 0), none⟩,
 ⟨some 67, some (.extract (.tmp 65) 1), none⟩,
 ⟨none, some (.store Za (.tmp 8) (.tmp 66)), none⟩,
 ⟨some 9, some (.assign (.tmp 67)), none⟩])
  .ret)))))))
theorem Zi1 {a0 a1 a2 a3 : AV} {H : AHeap} : R Zeo [a0, a1, a2, a3] H = fnK Try.prog [] H [(.cell 8 Za), (.tmp 9)] (evalL Try.prog KT R Zhk (Env.args [a0, a1, a2, a3] 0) H) :=
  runs_body (D := DT) (f := Zeo) Try.func42 (by kernel_rfl) (by kernel_rfl) (by kernel_rfl) (by kernel_rfl) (by kernel_rfl) (Nat.le_of_ble_eq_true rfl)
def Zbq : LCode := (.seq (.reg [] [⟨some 25, some (.binOp .lss Zd (.tmp 24) (.tmp 23) Zd), none⟩])
  (.seq (.cond (.tmp 25) .skip
  (.exit 0))
  (.seq (.block 1 (.seq (.reg [] [⟨some 26, some (.indexAddr Z4 (.tmp 22) (.tmp 24)), none⟩,
 ⟨some 27, some (.load Zd (.tmp 26)), none⟩,
 ⟨some 7, some (.assign (.tmp 27)), none⟩])
  (.seq (.reg [] [⟨some 29, some (.move (.tmp 0)), none⟩,
 ⟨some 30, some (.move (.tmp 7)), none⟩,
 ⟨some 31, some (.call ⟨(.value (.func Zz)), #[.tmp 29, .tmp 30], #[Zh, Zd]⟩), none⟩,
 ⟨some 28, some (.move (.tmp 31)), none⟩,
 ⟨some 32, some (.extract (.tmp 28) 0), none⟩,
 ⟨some 33, some (.extract (.tmp 28) 1), none⟩,
 ⟨some 8, some (.alloc Za), none⟩,
 ⟨none, some (.store Za (.tmp 8) (.tmp 32)), none⟩,
 ⟨some 9, some (.assign (.tmp 33)), none⟩])
  (.seq (.seq (.reg [] [⟨some 34, some (.move (.tmp 9)), none⟩,
 ⟨some 35, some (.unOp .not Zbg (.tmp 34)), none⟩])
  (.cond (.tmp 35) (.seq (.reg [] [⟨some 4, some (.assign (.const (.int .i64 0))), none⟩])
  .ret)
  .skip))
  (.reg [] [⟨some 36, some (.move (.tmp 5)), none⟩,
 ⟨some 37, some (.load Za (.tmp 8)), none⟩,
 ⟨some 38, some (.buildSlice Zp 1 #[(0, (.tmp 37))]), none⟩,
 ⟨some 39, some (.call ⟨(.builtin .append), #[.tmp 36, .tmp 38], #[Zp, Zp]⟩), none⟩,
 ⟨some 5, some (.assign (.tmp 39)), none⟩])))))
  (.reg [] [⟨some 40, some (.binOp .add Zd (.tmp 24) (.const (.int .i64 1)) Zd), none⟩,
 ⟨some 24, some (.move (.tmp 40)), none⟩]))))
@[simp] theorem Zha : defs Zbq = [25, 26, 27, 7, 29, 30, 31, 28, 32, 33, 8, 9, 34, 35, 4, 36, 37, 38, 39, 5, 40, 24] := by rfl
def Zdq : LCode := (.seq (.reg [] [⟨some 3, some (.box Zc (.tmp 1)), none⟩,
 ⟨some 4, some (.assign (.const (.int .i64 0))), none⟩])
  (.seq (.reg [] [⟨some 5, some (.assign (.const (.slice none 0 0))), none⟩])
  (.seq (.seq (.reg [8, 9, 5609] [⟨some 12, some (.fieldAddr Zc (.tmp 3) 2), none⟩,
 ⟨some 13, some (.load Zd (.tmp 12)), none⟩,
 ⟨some 14, some (.fieldAddr Zc (.tmp 3) 3), none⟩,
 ⟨some 15, some (.load Zd (.tmp 14)), none⟩,
 ⟨some 16, some (.fieldAddr Zc (.tmp 3) 4), none⟩,
 ⟨some 17, some (.load Zd (.tmp 16)), none⟩,
 ⟨some 19, some (.fieldAddr Zc (.tmp 3) 0), none⟩,
 ⟨some 20, some (.load Zd (.tmp 19)), none⟩,
 ⟨some 21, some (.call ⟨(.value (.func Zdi)), #[.tmp 20], #[Zd]⟩), none⟩,
 ⟨some 18, some (.buildSlice Z4 3 #[(0, (.tmp 13)), (1, (.tmp 15)), (2, (.tmp 17))]), none⟩,
 ⟨some 22, some (.slice Z4 (.tmp 18) none (some (.tmp 21)) none), none⟩,
 ⟨some 23, some (.call ⟨(.builtin .len), #[.tmp 22], #[Z4]⟩), none⟩,
 ⟨some 24, some (.move (.const (.int .i64 0))), none⟩])
  (.block 0 (.loop Zbq)))
  (.seq (.reg [] [⟨some 42, some (.fieldAddr Zc (.tmp 3) 0), none⟩,
 ⟨some 43, some (.load Zd (.tmp 42)), none⟩,
 ⟨some 44, some (.fieldAddr Zc (.tmp 3) 5), none⟩,
 ⟨some 45, some (.load Zd (.tmp 44)), none⟩,
 ⟨some 46, some (.fieldAddr Zc (.tmp 3) 6), none⟩,
 ⟨some 47, some (.load Zd (.tmp 46)), none⟩,
 ⟨some 48, some (.move (.tmp 5)), none⟩,
 ⟨some 49, some (.call ⟨(.value (.func Zeo)), #[.tmp 43, .tmp 45, .tmp 47, .tmp 48], #[Zd, Zd, Zd, Zp]⟩), none⟩,
 ⟨some 41, some (.move (.tmp 49)), none⟩,
 ⟨some 50, some (.extract (.tmp 41) 0), none⟩,
 ⟨some 51, some (.extract (.tmp 41) 1), none⟩,
 ⟨some 10, some (.alloc Za), none⟩,
 ⟨none, some (.store Za (.tmp 10) (.tmp 50)), none⟩,
 ⟨some 11, some (.assign (.tmp 51)), none⟩])
  (.seq (.seq (.reg [] [⟨some 52, some (.move (.tmp 11)), none⟩,
 ⟨some 53, some (.binOp .neq Z8 (.tmp 52) (.const (.int .i64 0)) Z8), none⟩])
  (.cond (.tmp 53) (.seq (.reg [] [⟨some 4, some (.assign (.const (.int .i64 0))), none⟩])
  .ret)
  .skip))
  (.seq (.reg [] [⟨some 54, some (.move (.tmp 0)), none⟩,
 ⟨some 55, some (.load Za (.tmp 10)), none⟩,
 ⟨some 56, some (.call ⟨(.value (.func Zg)), #[.tmp 54, .tmp 55], #[Zh, Za]⟩), none⟩,
 ⟨some 4, some (.assign (.tmp 56)), none⟩])
  .ret))))))
theorem Zfj {a0 a1 : AV} {H : AHeap} : R Zx [a0, a1] H = fnK Try.prog [] H [(.tmp 4)] (evalL Try.prog KT R Zdq (Env.args [a0, a1] 0) H) :=
  runs_body (D := DT) (f := Zx) Try.func43 (by kernel_rfl) (by kernel_rfl) (by kernel_rfl) (by kernel_rfl) (by kernel_rfl) (Nat.le_of_ble_eq_true rfl)
def Zv : LCode := (.seq (.reg [] [⟨some 2, some (.assign (.const (.int .i64 0))), none⟩])
  (.seq (.seq (.reg [] [⟨some 3, some (.move (.tmp 0)), none⟩])
  (.block 0 (.seq (.seq (.reg [] [⟨some 5, some (.binOp .eql Zd (.tmp 3) (.const (.int .i64 4)) Zd), none⟩,
 ⟨some 4, some (.assign (.tmp 5)), none⟩])
  (.cond (.tmp 4) .skip
  (.reg [] [⟨some 6, some (.binOp .eql Zd (.tmp 3) (.const (.int .i64 5)) Zd), none⟩,
 ⟨some 4, some (.assign (.tmp 6)), none⟩])))
  (.cond (.tmp 4) (.seq (.reg [] [⟨some 2, some (.assign (.const (.int .i64 1))), none⟩])
  .ret)
  (.seq (.seq (.reg [] [⟨some 8, some (.binOp .eql Zd (.tmp 3) (.const (.int .i64 6)) Zd), none⟩,
 ⟨some 7, some (.assign (.tmp 8)), none⟩])
  (.cond (.tmp 7) .skip
  (.seq (.reg [] [⟨some 9, some (.binOp .eql Zd (.tmp 3) (.const (.int .i64 29)) Zd), none⟩,
 ⟨some 7, some (.assign (.tmp 9)), none⟩])
  (.cond (.tmp 7) .skip
  (.seq (.reg [] [⟨some 10, some (.binOp .eql Zd (.tmp 3) (.const (.int .i64 31)) Zd), none⟩,
 ⟨some 7, some (.assign (.tmp 10)), none⟩])
  (.cond (.tmp 7) .skip
  (.seq (.reg [] [⟨some 11, some (.binOp .eql Zd (.tmp 3) (.const (.int .i64 33)) Zd), none⟩,
 ⟨some 7, some (.assign (.tmp 11)), none⟩])
  (.cond (.tmp 7) .skip
  (.reg [] [⟨some 12, some (.binOp .eql Zd (.tmp 3) (.const (.int .i64 35)) Zd), none⟩,
 ⟨some 7, some (.assign (.tmp 12)), none⟩])))))))))
  (.cond (.tmp 7) (.seq (.reg [] [⟨some 2, some (.assign (.const (.int .i64 2))), none⟩])
  .ret)
  (.seq (.seq (.reg [] [⟨some 14, some (.binOp .eql Zd (.tmp 3) (.const (.int .i64 8)) Zd), none⟩,
 ⟨some 13, some (.assign (.tmp 14)), none⟩])
  (.cond (.tmp 13) .skip
  (.seq (.reg [] [⟨some 15, some (.binOp .eql Zd (.tmp 3) (.const (.int .i64 30)) Zd), none⟩,
 ⟨some 13, some (.assign (.tmp 15)), none⟩])
  (.cond (.tmp 13) .skip
  (.seq (.reg [] [⟨some 16, some (.binOp .eql Zd (.tmp 3) (.const (.int .i64 32)) Zd), none⟩,
 ⟨some 13, some (.assign (.tmp 16)), none⟩])
  (.cond (.tmp 13) .skip
  (.seq (.reg [] [⟨some 17, some (.binOp .eql Zd (.tmp 3) (.const (.int .i64 34)) Zd), none⟩,
 ⟨some 13, some (.assign (.tmp 17)), none⟩])
  (.cond (.tmp 13) .skip
  (.seq (.reg [] [⟨some 18, some (.binOp .eql Zd (.tmp 3) (.const (.int .i64 36)) Zd), none⟩,
 ⟨some 13, some (.assign (.tmp 18)), none⟩])
  (.cond (.tmp 13) .skip
  (.reg [] [⟨some 19, some (.binOp .eql Zd (.tmp 3) (.const (.int .i64 7)) Zd), none⟩,
 ⟨some 13, some (.assign (.tmp 19)), none⟩])))))))))))
  (.cond (.tmp 13) (.seq (.reg [] [⟨some 2, some (.assign (.const (.int .i64 4))), none⟩])
  .ret)
  (.seq (.reg [] [⟨some 21, some (.binOp .eql Zd (.tmp 3) (.const (.int .i64 12)) Zd), none⟩,
 ⟨some 20, some (.assign (.tmp 21)), none⟩])
  (.cond (.tmp 20) (.seq (.reg [] [⟨some 2, some (.assign (.const (.int .i64 9))), none⟩])
  .ret)
  (.seq (.reg [] [⟨some 23, some (.binOp .eql Zd (.tmp 3) (.const (.int .i64 13)) Zd), none⟩,
 ⟨some 22, some (.assign (.tmp 23)), none⟩])
  (.cond (.tmp 22) (.seq (.reg [] [⟨some 2, some (.assign (.const (.int .i64 17))), none⟩])
  .ret)
  (.seq (.reg [] [⟨some 25, some (.binOp .eql Zd (.tmp 3) (.const (.int .i64 14)) Zd), none⟩,
 ⟨some 24, some (.assign (.tmp 25)), none⟩])
  (.cond (.tmp 24) (.seq (.reg [] [⟨some 2, some (.assign (.const (.int .i64 18))), none⟩])
  .ret)
  (.seq (.reg [] [⟨some 27, some (.binOp .eql Zd (.tmp 3) (.const (.int .i64 18)) Zd), none⟩,
 ⟨some 26, some (.assign (.tmp 27)), none⟩])
  (.cond (.tmp 26) (.seq (.reg [] [⟨some 2, some (.assign (.const (.int .i64 16))), none⟩])
  .ret)
  (.seq (.reg [] [⟨some 29, some (.binOp .eql Zd (.tmp 3) (.const (.int .i64 19)) Zd), none⟩,
 ⟨some 28, some (.assign (.tmp 29)), none⟩])
  (.cond (.tmp 28) (.seq (.reg [] [⟨some 2, some (.assign (.const (.int .i64 34))), none⟩])
  .ret)
  (.seq (.reg [] [⟨some 31, some (.binOp .eql Zd (.tmp 3) (.const (.int .i64 20)) Zd), none⟩,
 ⟨some 30, some (.assign (.tmp 31)), none⟩])
  (.cond (.tmp 30) (.seq (.reg [] [⟨some 2, some (.assign (.const (.int .i64 264))), none⟩])
  .ret)
  (.seq (.reg [] [⟨some 33, some (.binOp .eql Zd (.tmp 3) (.const (.int .i64 21)) Zd), none⟩,
 ⟨some 32, some (.assign (.tmp 33)), none⟩])
  (.cond (.tmp 32) (.seq (.reg [] [⟨some 2, some (.assign (.const (.int .i64 256))), none⟩])
  .ret)
  (.seq (.seq (.reg [] [⟨some 35, some (.binOp .eql Zd (.tmp 3) (.const (.int .i64 26)) Zd), none⟩,
 ⟨some 34, some (.assign (.tmp 35)), none⟩])
  (.cond (.tmp 34) .skip
  (.seq (.reg [] [⟨some 36, some (.binOp .eql Zd (.tmp 3) (.const (.int .i64 27)) Zd), none⟩,
 ⟨some 34, some (.assign (.tmp 36)), none⟩])
  (.cond (.tmp 34) .skip
  (.reg [] [⟨some 37, some (.binOp .eql Zd (.tmp 3) (.const (.int .i64 28)) Zd), none⟩,
 ⟨some 34, some (.assign (.tmp 37)), none⟩])))))
  (.cond (.tmp 34) (.seq (.reg [] [⟨some 2, some (.assign (.const (.int .i64 96))), none⟩])
  .ret)
  (.seq (.seq (.reg [] [⟨some 39, some (.binOp .eql Zd (.tmp 3) (.const (.int .i64 3)) Zd), none⟩,
 ⟨some 38, some (.assign (.tmp 39)), none⟩])
  (.cond (.tmp 38) .skip
  (.seq (.reg [] [⟨some 40, some (.binOp .eql Zd (.tmp 3) (.const (.int .i64 10)) Zd), none⟩,
 ⟨some 38, some (.assign (.tmp 40)), none⟩])
  (.cond (.tmp 38) .skip
  (.reg [] [⟨some 41, some (.binOp .eql Zd (.tmp 3) (.const (.int .i64 11)) Zd), none⟩,
 ⟨some 38, some (.assign (.tmp 41)), none⟩])))))
  (.cond (.tmp 38) (.seq (.reg [] [⟨some 2, some (.assign (.const (.int .i64 128))), none⟩])
  .ret)
  .skip))))))))))))))))))))))))))
  (.seq (.reg [] [⟨some 2, some (.assign (.const (.int .i64 0))), none⟩])
  .ret)))
theorem Zid {a0 : AV} {H : AHeap} : R Zeg [a0] H = fnK Try.prog [] H [(.tmp 2)] (evalL Try.prog KT R Zv (Env.args [a0] 0) H) :=
  runs_body (D := DT) (f := Zeg) Try.func44 (by kernel_rfl) (by kernel_rfl) (by kernel_rfl) (by kernel_rfl) (by kernel_rfl) (Nat.le_of_ble_eq_true rfl)
def Z7 : LCode := (.seq (.reg [] [⟨some 4, some (.box Zc (.tmp 1)), none⟩,
 ⟨some 5, some (.box Zc (.tmp 2)), none⟩,
 ⟨some 6, some (.assign (.const (.int .i64 0))), none⟩])
  (.seq (.seq (.reg [] [⟨some 11, some (.fieldAddr Zc (.tmp 5) 0), none⟩,
 ⟨some 12, some (.load Zd (.tmp 11)), none⟩])
  (.block 0 (.seq (.reg [] [⟨some 14, some (.binOp .eql Zd (.tmp 12) (.const (.int .i64 39)) Zd), none⟩,
 ⟨some 13, some (.assign (.tmp 14)), none⟩])
  (.cond (.tmp 13) (.seq (.reg [] [⟨some 15, some (.move (.tmp 0)), none⟩,
 ⟨some 16, some (.fieldAddr Zc (.tmp 5) 2), none⟩,
 ⟨some 17, some (.load Zd (.tmp 16)), none⟩,
 ⟨some 18, some (.fieldAddr Zc (.tmp 4) 5), none⟩,
 ⟨some 19, some (.load Zd (.tmp 18)), none⟩,
 ⟨some 20, some (.fieldAddr Zc (.tmp 5) 6), none⟩,
 ⟨some 21, some (.load Zd (.tmp 20)), none⟩,
 ⟨some 22, some (.binOp .add Zd (.tmp 19) (.tmp 21) Zd), none⟩,
 ⟨some 23, some (.fieldAddr Zc (.tmp 4) 6), none⟩,
 ⟨some 24, some (.load Zd (.tmp 23)), none⟩,
 ⟨some 25, some (.fieldAddr Zc (.tmp 5) 6), none⟩,
 ⟨some 26, some (.load Zd (.tmp 25)), none⟩,
 ⟨some 27, some (.binOp .add Zd (.tmp 24) (.tmp 26) Zd), none⟩,
 ⟨some 28, some (.build Zc #[(0, (.const (.int .i64 39))), (2, (.tmp 17)), (5, (.tmp 22)), (6, (.tmp 27))]), none⟩,
 ⟨some 29, some (.call ⟨(.value (.func Zk)), #[.tmp 15, .tmp 28], #[Zh, Zc]⟩), none⟩,
 ⟨some 6, some (.assign (.tmp 29)), none⟩])
  .ret)
  (.seq (.reg [] [⟨some 31, some (.binOp .eql Zd (.tmp 12) (.const (.int .i64 38)) Zd), none⟩,
 ⟨some 30, some (.assign (.tmp 31)), none⟩])
  (.cond (.tmp 30) (.seq (.reg [10] [⟨some 33, some (.move (.tmp 0)), none⟩,
 ⟨some 34, some (.nilCheck (.tmp 33)), none⟩,
 ⟨some 35, some (.fieldAddr Zr (.tmp 34) 0), none⟩,
 ⟨some 36, some (.load Zj (.tmp 35)), none⟩,
 ⟨some 37, some (.fieldAddr Zc (.tmp 5) 3), none⟩,
 ⟨some 38, some (.load Zd (.tmp 37)), none⟩,
 ⟨some 39, some (.call ⟨(.value (.func Zm)), #[.tmp 36, .tmp 38], #[Zj, Zd]⟩), none⟩,
 ⟨some 32, some (.move (.tmp 39)), none⟩,
 ⟨some 40, some (.extract (.tmp 32) 0), none⟩,
 ⟨some 41, some (.extract (.tmp 32) 1), none⟩,
 ⟨some 7, some (.alloc Zc), none⟩,
 ⟨none, some (.store Zc (.tmp 7) (.tmp 40)), none⟩,
 ⟨some 8, some (.assign (.tmp 41)), none⟩])
  (.seq (.seq (.reg [] [⟨some 42, some (.fieldAddr Zc (.tmp 4) 6), none⟩,
 ⟨some 43, some (.load Zd (.tmp 42)), none⟩,
 ⟨some 44, some (.fieldAddr Zc (.tmp 7) 1), none⟩,
 ⟨some 45, some (.load Zd (.tmp 44)), none⟩,
 ⟨some 46, some (.binOp .geq Zd (.tmp 43) (.tmp 45) Zd), none⟩])
  (.cond (.tmp 46) (.seq (.reg [] [⟨some 47, some (.move (.tmp 0)), none⟩,
 ⟨some 48, some (.fieldAddr Zc (.tmp 5) 2), none⟩,
 ⟨some 49, some (.load Zd (.tmp 48)), none⟩,
 ⟨some 50, some (.fieldAddr Zc (.tmp 4) 5), none⟩,
 ⟨some 51, some (.load Zd (.tmp 50)), none⟩,
 ⟨some 52, some (.fieldAddr Zc (.tmp 7) 1), none⟩,
 ⟨some 53, some (.load Zd (.tmp 52)), none⟩,
 ⟨some 54, some (.binOp .sub Zd (.tmp 51) (.tmp 53) Zd), none⟩,
 ⟨some 55, some (.fieldAddr Zc (.tmp 4) 6), none⟩,
 ⟨some 56, some (.load Zd (.tmp 55)), none⟩,
 ⟨some 57, some (.fieldAddr Zc (.tmp 7) 1), none⟩,
 ⟨some 58, some (.load Zd (.tmp 57)), none⟩,
 ⟨some 59, some (.binOp .sub Zd (.tmp 56) (.tmp 58) Zd), none⟩,
 ⟨some 60, some (.build Zc #[(0, (.const (.int .i64 39))), (2, (.tmp 49)), (5, (.tmp 54)), (6, (.tmp 59))]), none⟩,
 ⟨some 61, some (.call ⟨(.value (.func Zk)), #[.tmp 47, .tmp 60], #[Zh, Zc]⟩), none⟩,
 ⟨some 6, some (.assign (.tmp 61)), none⟩])
  .ret)
  .skip))
  (.seq (.reg [] [⟨some 62, some (.fieldAddr Zc (.tmp 4) 5), none⟩,
 ⟨some 63, some (.load Zd (.tmp 62)), none⟩,
 ⟨some 64, some (.fieldAddr Zc (.tmp 7) 1), none⟩,
 ⟨some 65, some (.load Zd (.tmp 64)), none⟩,
 ⟨some 66, some (.binOp .lss Zd (.tmp 63) (.tmp 65) Zd), none⟩])
  (.cond (.tmp 66) (.seq (.reg [] [⟨some 67, some (.move (.tmp 0)), none⟩,
 ⟨some 68, some (.fieldAddr Zc (.tmp 5) 3), none⟩,
 ⟨some 69, some (.load Zd (.tmp 68)), none⟩,
 ⟨some 70, some (.fieldAddr Zc (.tmp 4) 5), none⟩,
 ⟨some 71, some (.load Zd (.tmp 70)), none⟩,
 ⟨some 72, some (.fieldAddr Zc (.tmp 4) 6), none⟩,
 ⟨some 73, some (.load Zd (.tmp 72)), none⟩,
 ⟨some 74, some (.build Zc #[(0, (.const (.int .i64 39))), (2, (.tmp 69)), (5, (.tmp 71)), (6, (.tmp 73))]), none⟩,
 ⟨some 75, some (.call ⟨(.value (.func Zk)), #[.tmp 67, .tmp 74], #[Zh, Zc]⟩), none⟩,
 ⟨some 6, some (.assign (.tmp 75)), none⟩])
  .ret)
  .skip))))
  (.seq (.seq (.reg [] [⟨some 77, some (.binOp .eql Zd (.tmp 12) (.const (.int .i64 40)) Zd), none⟩,
 ⟨some 76, some (.assign (.tmp 77)), none⟩])
  (.cond (.tmp 76) .skip
  (.reg [] [⟨some 78, some (.binOp .eql Zd (.tmp 12) (.const (.int .i64 41)) Zd), none⟩,
 ⟨some 76, some (.assign (.tmp 78)), none⟩])))
  (.cond (.tmp 76) (.seq (.reg [10] [⟨some 80, some (.move (.tmp 0)), none⟩,
 ⟨some 81, some (.nilCheck (.tmp 80)), none⟩,
 ⟨some 82, some (.fieldAddr Zr (.tmp 81) 0), none⟩,
 ⟨some 83, some (.load Zj (.tmp 82)), none⟩,
 ⟨some 84, some (.fieldAddr Zc (.tmp 5) 2), none⟩,
 ⟨some 85, some (.load Zd (.tmp 84)), none⟩,
 ⟨some 86, some (.call ⟨(.value (.func Zm)), #[.tmp 83, .tmp 85], #[Zj, Zd]⟩), none⟩,
 ⟨some 79, some (.move (.tmp 86)), none⟩,
 ⟨some 87, some (.extract (.tmp 79) 0), none⟩,
 ⟨some 88, some (.extract (.tmp 79) 1), none⟩,
 ⟨some 9, some (.alloc Zc), none⟩,
 ⟨none, some (.store Zc (.tmp 9) (.tmp 87)), none⟩,
 ⟨some 10, some (.assign (.tmp 88)), none⟩])
  (.seq (.reg [] [⟨some 89, some (.fieldAddr Zc (.tmp 4) 5), none⟩,
 ⟨some 90, some (.load Zd (.tmp 89)), none⟩,
 ⟨some 91, some (.fieldAddr Zc (.tmp 9) 1), none⟩,
 ⟨some 92, some (.load Zd (.tmp 91)), none⟩,
 ⟨some 93, some (.binOp .lss Zd (.tmp 90) (.tmp 92) Zd), none⟩])
  (.cond (.tmp 93) (.seq (.reg [] [⟨some 94, some (.move (.tmp 0)), none⟩,
 ⟨some 95, some (.fieldAddr Zc (.tmp 5) 2), none⟩,
 ⟨some 96, some (.load Zd (.tmp 95)), none⟩,
 ⟨some 97, some (.fieldAddr Zc (.tmp 4) 5), none⟩,
 ⟨some 98, some (.load Zd (.tmp 97)), none⟩,
 ⟨some 99, some (.fieldAddr Zc (.tmp 4) 6), none⟩,
 ⟨some 100, some (.load Zd (.tmp 99)), none⟩,
 ⟨some 101, some (.build Zc #[(0, (.const (.int .i64 39))), (2, (.tmp 96)), (5, (.tmp 98)), (6, (.tmp 100))]), none⟩,
 ⟨some 102, some (.call ⟨(.value (.func Zk)), #[.tmp 94, .tmp 101], #[Zh, Zc]⟩), none⟩,
 ⟨some 6, some (.assign (.tmp 102)), none⟩])
  .ret)
  .skip)))
  .skip))))))))
  (.seq (.reg [] [⟨some 103, some (.move (.tmp 0)), none⟩,
 ⟨some 104, some (.load Zc (.tmp 4)), none⟩,
 ⟨some 105, some (.call ⟨(.value (.func Zf)), #[.tmp 103, .tmp 104], #[Zh, Zc]⟩), none⟩,
 ⟨some 6, some (.assign (.tmp 105)), none⟩])
  .ret)))
theorem Zfn {a0 a1 a2 : AV} {H : AHeap} : R Z6 [a0, a1, a2] H = fnK Try.prog [] H [(.tmp 6)] (evalL Try.prog KT R Z7 (Env.args [a0, a1, a2] 0) H) :=
  runs_body (D := DT) (f := Z6) Try.func45 (by kernel_rfl) (by kernel_rfl) (by kernel_rfl) (by kernel_rfl) (by kernel_rfl) (Nat.le_of_ble_eq_true rfl)
def Zd1 : LCode := (.seq (.reg [] [⟨some 4, some (.alloc Za), none⟩,
 ⟨some 5, some (.assign (.const (.bool false))), none⟩])
  (.seq (.reg [] [⟨some 9, some (.move (.tmp 0)), none⟩,
 ⟨some 10, some (.nilCheck (.tmp 9)), none⟩,
 ⟨some 11, some (.fieldAddr Zr (.tmp 10) 0), none⟩,
 ⟨some 12, some (.load Zj (.tmp 11)), none⟩,
 ⟨some 13, some (.move (.tmp 1)), none⟩,
 ⟨some 14, some (.call ⟨(.value (.func Zm)), #[.tmp 12, .tmp 13], #[Zj, Zd]⟩), none⟩,
 ⟨some 8, some (.move (.tmp 14)), none⟩,
 ⟨some 15, some (.extract (.tmp 8) 0), none⟩,
 ⟨some 16, some (.extract (.tmp 8) 1), none⟩,
 ⟨some 6, some (.alloc Zc), none⟩,
 ⟨none, some (.store Zc (.tmp 6) (.tmp 15)), none⟩,
 ⟨some 7, some (.assign (.tmp 16)), none⟩])
  (.seq (.reg [3, 5, 999, 1006] [⟨some 17, some (.fieldAddr Zc (.tmp 6) 7), none⟩,
 ⟨some 18, some (.load Za (.tmp 17)), none⟩,
 ⟨some 19, some (.fieldAddr Zc (.tmp 6) 0), none⟩,
 ⟨some 20, some (.load Zd (.tmp 19)), none⟩,
 ⟨some 21, some (.binOp .eql Zd (.tmp 20) (.const (.int .i64 1)) Zd), none⟩,
 ⟨none, some (.store Za (.tmp 4) (.tmp 18)), none⟩,
 ⟨some 5, some (.assign (.tmp 21)), none⟩])
  .ret)))
theorem Zfo {a0 a1 : AV} {H : AHeap} : R Zz [a0, a1] H = fnK Try.prog [] H [(.cell 4 Za), (.tmp 5)] (evalL Try.prog KT R Zd1 (Env.args [a0, a1] 0) H) :=
  runs_body (D := DT) (f := Zz) Try.func46 (by kernel_rfl) (by kernel_rfl) (by kernel_rfl) (by kernel_rfl) (by kernel_rfl) (Nat.le_of_ble_eq_true rfl)
def Zdh : LCode := (.seq (.reg [] [⟨some 3, some (.box Za (.tmp 1)), none⟩,
 ⟨some 4, some (.assign (.const (.int .i64 0))), none⟩])
  (.seq (.reg [] [⟨some 5, some (.move (.tmp 0)), none⟩,
 ⟨some 6, some (.fieldAddr Za (.tmp 3) 0), none⟩,
 ⟨some 7, some (.load Zd (.tmp 6)), none⟩,
 ⟨some 8, some (.load Za (.tmp 3)), none⟩,
 ⟨some 9, some (.build Zc #[(0, (.const (.int .i64 1))), (1, (.tmp 7)), (7, (.tmp 8))]), none⟩,
 ⟨some 10, some (.call ⟨(.value (.func Zf)), #[.tmp 5, .tmp 9], #[Zh, Zc]⟩), none⟩,
 ⟨some 4, some (.assign (.tmp 10)), none⟩])
  .ret))
theorem Ze4 {a0 a1 : AV} {H : AHeap} : R Zg [a0, a1] H = fnK Try.prog [] H [(.tmp 4)] (evalL Try.prog KT R Zdh (Env.args [a0, a1] 0) H) :=
  runs_body (D := DT) (f := Zg) Try.func47 (by kernel_rfl) (by kernel_rfl) (by kernel_rfl) (by kernel_rfl) (by kernel_rfl) (Nat.le_of_ble_eq_true rfl)
def Zcg : LCode := (.seq (.reg [] [⟨some 3, some (.box Zc (.tmp 1)), none⟩,
 ⟨some 4, some (.alloc Za), none⟩])
  (.seq (.seq (.reg [] [⟨some 7, some (.fieldAddr Zc (.tmp 3) 0), none⟩,
 ⟨some 8, some (.load Zd (.tmp 7)), none⟩,
 ⟨some 9, some (.binOp .eql Zd (.tmp 8) (.const (.int .i64 14)) Zd), none⟩,
 ⟨some 10, some (.move (.tmp 9)), none⟩,
 ⟨some 11, some (.fieldAddr Zc (.tmp 3) 0), some (some 10, false)⟩,
 ⟨some 12, some (.load Zd (.tmp 11)), some (some 10, false)⟩,
 ⟨some 13, some (.binOp .eql Zd (.tmp 12) (.const (.int .i64 19)) Zd), some (some 10, false)⟩,
 ⟨some 14, some (.pick (.tmp 10) (.const (.bool true)) (.tmp 13)), none⟩])
  (.cond (.tmp 14) (.seq (.reg [10] [⟨some 16, some (.move (.tmp 0)), none⟩,
 ⟨some 17, some (.nilCheck (.tmp 16)), none⟩,
 ⟨some 18, some (.fieldAddr Zr (.tmp 17) 0), none⟩,
 ⟨some 19, some (.load Zj (.tmp 18)), none⟩,
 ⟨some 20, some (.fieldAddr Zc (.tmp 3) 2), none⟩,
 ⟨some 21, some (.load Zd (.tmp 20)), none⟩,
 ⟨some 22, some (.call ⟨(.value (.func Zm)), #[.tmp 19, .tmp 21], #[Zj, Zd]⟩), none⟩,
 ⟨some 15, some (.move (.tmp 22)), none⟩,
 ⟨some 23, some (.extract (.tmp 15) 0), none⟩,
 ⟨some 24, some (.extract (.tmp 15) 1), none⟩,
 ⟨some 5, some (.alloc Zc), none⟩,
 ⟨none, some (.store Zc (.tmp 5) (.tmp 23)), none⟩,
 ⟨some 6, some (.assign (.tmp 24)), none⟩])
  (.seq (.reg [] [⟨some 25, some (.fieldAddr Zc (.tmp 5) 1), none⟩,
 ⟨some 26, some (.load Zd (.tmp 25)), none⟩,
 ⟨some 27, some (.build Za #[(0, (.tmp 26))]), none⟩,
 ⟨none, some (.store Za (.tmp 4) (.tmp 27)), none⟩])
  .ret))
  .skip))
  (.seq (.reg [] [⟨some 28, some (.build Za #[]), none⟩,
 ⟨none, some (.store Za (.tmp 4) (.tmp 28)), none⟩])
  .ret)))
theorem Zfv {a0 a1 : AV} {H : AHeap} : R Zby [a0, a1] H = fnK Try.prog [] H [(.cell 4 Za)] (evalL Try.prog KT R Zcg (Env.args [a0, a1] 0) H) :=
  runs_body (D := DT) (f := Zby) Try.func48 (by kernel_rfl) (by kernel_rfl) (by kernel_rfl) (by kernel_rfl) (by kernel_rfl) (Nat.le_of_ble_eq_true rfl)
def Zh6 : LCode := (.seq (.reg [] [⟨some 2, some (.alloc Za), none⟩])
  (.seq (.seq (.reg [] [⟨some 3, some (.move (.tmp 0)), none⟩])
  (.cond (.tmp 3) (.seq (.reg [] [⟨some 4, some (.build Za #[(1, (.const (.int .u64 1)))]), none⟩,
 ⟨none, some (.store Za (.tmp 2) (.tmp 4)), none⟩])
  .ret)
  .skip))
  (.seq (.reg [] [⟨some 5, some (.build Za #[]), none⟩,
 ⟨none, some (.store Za (.tmp 2) (.tmp 5)), none⟩])
  .ret)))
theorem Zi2 {a0 : AV} {H : AHeap} : R Zd4 [a0] H = fnK Try.prog [] H [(.cell 2 Za)] (evalL Try.prog KT R Zh6 (Env.args [a0] 0) H) :=
  runs_body (D := DT) (f := Zd4) Try.func49 (by kernel_rfl) (by kernel_rfl) (by kernel_rfl) (by kernel_rfl) (by kernel_rfl) (Nat.le_of_ble_eq_true rfl)
def Zi : LCode := (.seq (.reg [] [⟨some 3, some (.box Zc (.tmp 1)), none⟩,
 ⟨some 4, some (.assign (.const (.int .i64 0))), none⟩])
  (.seq (.seq (.reg [] [⟨some 10, some (.fieldAddr Zc (.tmp 3) 0), none⟩,
 ⟨some 11, some (.load Zd (.tmp 10)), none⟩,
 ⟨some 12, some (.binOp .lss Zd (.tmp 11) (.const (.int .i64 4)) Zd), none⟩,
 ⟨some 13, some (.move (.tmp 12)), none⟩,
 ⟨some 14, some (.fieldAddr Zc (.tmp 3) 0), some (some 13, false)⟩,
 ⟨some 15, some (.load Zd (.tmp 14)), some (some 13, false)⟩,
 ⟨some 16, some (.binOp .gtr Zd (.tmp 15) (.const (.int .i64 8)) Zd), some (some 13, false)⟩,
 ⟨some 17, some (.pick (.tmp 13) (.const (.bool true)) (.tmp 16)), none⟩])
  (.cond (.tmp 17) (.seq (.reg [] [⟨some 4, some (.assign (.const (.int .i64 0))), none⟩])
  .ret)
  .skip))
  (.seq (.reg [] [⟨some 18, some (.fieldAddr Zc (.tmp 3) 2), none⟩,
 ⟨some 19, some (.load Zd (.tmp 18)), none⟩,
 ⟨some 20, some (.fieldAddr Zc (.tmp 3) 3), none⟩,
 ⟨some 21, some (.load Zd (.tmp 20)), none⟩,
 ⟨some 5, some (.assign (.tmp 19)), none⟩,
 ⟨some 6, some (.assign (.tmp 21)), none⟩])
  (.seq (.reg [] [⟨some 23, some (.move (.tmp 0)), none⟩,
 ⟨some 24, some (.move (.tmp 5)), none⟩,
 ⟨some 25, some (.call ⟨(.value (.func Zz)), #[.tmp 23, .tmp 24], #[Zh, Zd]⟩), none⟩,
 ⟨some 22, some (.move (.tmp 25)), none⟩,
 ⟨some 26, some (.extract (.tmp 22) 0), none⟩,
 ⟨some 27, some (.extract (.tmp 22) 1), none⟩,
 ⟨some 7, some (.alloc Za), none⟩,
 ⟨none, some (.store Za (.tmp 7) (.tmp 26)), none⟩,
 ⟨some 8, some (.assign (.tmp 27)), none⟩])
  (.seq (.seq (.reg [] [⟨some 28, some (.move (.tmp 8)), none⟩,
 ⟨some 29, some (.unOp .not Zbg (.tmp 28)), none⟩,
 ⟨some 30, some (.move (.tmp 29)), none⟩,
 ⟨some 31, some (.fieldAddr Zc (.tmp 3) 0), some (some 30, true)⟩,
 ⟨some 32, some (.load Zd (.tmp 31)), some (some 30, true)⟩,
 ⟨some 33, some (.binOp .neq Zd (.tmp 32) (.const (.int .i64 7)) Zd), some (some 30, true)⟩,
 ⟨some 34, some (.pick (.tmp 30) (.tmp 33) (.const (.bool false))), none⟩])
  (.cond (.tmp 34) (.seq (.reg [] [⟨some 35, some (.move (.tmp 6)), none⟩,
 ⟨some 36, some (.move (.tmp 5)), none⟩,
 ⟨some 5, some (.assign (.tmp 35)), none⟩,
 ⟨some 6, some (.assign (.tmp 36)), none⟩])
  (.reg [] [⟨some 38, some (.move (.tmp 0)), none⟩,
 ⟨some 39, some (.move (.tmp 5)), none⟩,
 ⟨some 40, some (.call ⟨(.value (.func Zz)), #[.tmp 38, .tmp 39], #[Zh, Zd]⟩), none⟩,
 ⟨some 37, some (.move (.tmp 40)), none⟩,
 ⟨some 41, some (.extract (.tmp 37) 0), none⟩,
 ⟨some 42, some (.extract (.tmp 37) 1), none⟩,
 ⟨none, some (.store Za (.tmp 7) (.tmp 41)), none⟩,
 ⟨some 8, some (.assign (.tmp 42)), none⟩]))
  .skip))
  (.seq (.seq (.reg [] [⟨some 43, some (.move (.tmp 8)), none⟩,
 ⟨some 44, some (.unOp .not Zbg (.tmp 43)), none⟩,
 ⟨some 45, some (.move (.tmp 44)), none⟩,
 ⟨some 46, some (.fieldAddr Za (.tmp 7) 0), some (some 45, false)⟩,
 ⟨some 47, some (.load Zd (.tmp 46)), some (some 45, false)⟩,
 ⟨some 48, some (.binOp .gtr Zd (.tmp 47) (.const (.int .i64 0)) Zd), some (some 45, false)⟩,
 ⟨some 49, some (.pick (.tmp 45) (.const (.bool true)) (.tmp 48)), none⟩])
  (.cond (.tmp 49) (.seq (.reg [] [⟨some 4, some (.assign (.const (.int .i64 0))), none⟩])
  .ret)
  .skip))
  (.seq (.reg [] [⟨some 50, some (.fieldAddr Za (.tmp 7) 1), none⟩,
 ⟨some 51, some (.load Ze (.tmp 50)), none⟩,
 ⟨some 52, some (.binOp .eql Ze (.tmp 51) (.const (.int .u64 1)) Ze), none⟩,
 ⟨some 9, some (.assign (.tmp 52)), none⟩])
  (.seq (.seq (.reg [] [⟨some 53, some (.fieldAddr Zc (.tmp 3) 0), none⟩,
 ⟨some 54, some (.load Zd (.tmp 53)), none⟩])
  (.block 0 (.seq (.reg [] [⟨some 56, some (.binOp .eql Zd (.tmp 54) (.const (.int .i64 4)) Zd), none⟩,
 ⟨some 55, some (.assign (.tmp 56)), none⟩])
  (.cond (.tmp 55) (.seq (.seq (.reg [] [⟨some 57, some (.move (.tmp 9)), none⟩])
  (.cond (.tmp 57) (.seq (.reg [] [⟨some 58, some (.move (.tmp 6)), none⟩,
 ⟨some 4, some (.assign (.tmp 58)), none⟩])
  .ret)
  .skip))
  (.seq (.reg [] [⟨some 59, some (.move (.tmp 5)), none⟩,
 ⟨some 4, some (.assign (.tmp 59)), none⟩])
  .ret))
  (.seq (.reg [] [⟨some 61, some (.binOp .eql Zd (.tmp 54) (.const (.int .i64 5)) Zd), none⟩,
 ⟨some 60, some (.assign (.tmp 61)), none⟩])
  (.cond (.tmp 60) (.seq (.seq (.reg [] [⟨some 62, some (.move (.tmp 9)), none⟩])
  (.cond (.tmp 62) (.seq (.reg [] [⟨some 63, some (.move (.tmp 5)), none⟩,
 ⟨some 4, some (.assign (.tmp 63)), none⟩])
  .ret)
  .skip))
  (.seq (.reg [] [⟨some 64, some (.move (.tmp 6)), none⟩,
 ⟨some 4, some (.assign (.tmp 64)), none⟩])
  .ret))
  (.seq (.reg [] [⟨some 66, some (.binOp .eql Zd (.tmp 54) (.const (.int .i64 7)) Zd), none⟩,
 ⟨some 65, some (.assign (.tmp 66)), none⟩])
  (.cond (.tmp 65) (.seq (.seq (.reg [] [⟨some 67, some (.move (.tmp 9)), none⟩])
  (.cond (.tmp 67) (.seq (.reg [] [⟨some 68, some (.move (.tmp 6)), none⟩,
 ⟨some 4, some (.assign (.tmp 68)), none⟩])
  .ret)
  .skip))
  (.seq (.reg [] [⟨some 69, some (.move (.tmp 0)), none⟩,
 ⟨some 70, some (.call ⟨(.value (.func Zd4)), #[(.const (.bool true))], #[Zbg]⟩), none⟩,
 ⟨some 71, some (.call ⟨(.value (.func Zg)), #[.tmp 69, .tmp 70], #[Zh, Za]⟩), none⟩,
 ⟨some 4, some (.assign (.tmp 71)), none⟩])
  .ret))
  (.seq (.reg [] [⟨some 73, some (.binOp .eql Zd (.tmp 54) (.const (.int .i64 6)) Zd), none⟩,
 ⟨some 72, some (.assign (.tmp 73)), none⟩])
  (.cond (.tmp 72) (.reg [] [⟨some 74, some (.move (.tmp 9)), none⟩,
 ⟨some 75, some (.unOp .not Zbg (.tmp 74)), none⟩,
 ⟨some 9, some (.assign (.tmp 75)), none⟩])
  .skip))))))))))
  (.seq (.seq (.reg [] [⟨some 76, some (.move (.tmp 9)), none⟩])
  (.cond (.tmp 76) (.seq (.reg [] [⟨some 77, some (.move (.tmp 6)), none⟩,
 ⟨some 4, some (.assign (.tmp 77)), none⟩])
  .ret)
  .skip))
  (.seq (.reg [] [⟨some 78, some (.move (.tmp 0)), none⟩,
 ⟨some 79, some (.move (.tmp 6)), none⟩,
 ⟨some 80, some (.build Zc #[(0, (.const (.int .i64 3))), (2, (.tmp 79))]), none⟩,
 ⟨some 81, some (.call ⟨(.value (.func Zk)), #[.tmp 78, .tmp 80], #[Zh, Zc]⟩), none⟩,
 ⟨some 4, some (.assign (.tmp 81)), none⟩])
  .ret))))))))))
theorem Zfp {a0 a1 : AV} {H : AHeap} : R Zbm [a0, a1] H = fnK Try.prog [] H [(.tmp 4)] (evalL Try.prog KT R Zi (Env.args [a0, a1] 0) H) :=
  runs_body (D := DT) (f := Zbm) Try.func50 (by kernel_rfl) (by kernel_rfl) (by kernel_rfl) (by kernel_rfl) (by kernel_rfl) (Nat.le_of_ble_eq_true rfl)
def Zl : LCode := (.seq (.reg [] [⟨some 4, some (.box Zc (.tmp 1)), none⟩,
 ⟨some 6, some (.assign (.const (.int .i64 0))), none⟩])
  (.seq (.block 0 (.seq (.seq (.reg [] [⟨some 10, some (.move (.tmp 2)), none⟩,
 ⟨some 11, some (.binOp .and Zd (.tmp 10) (.const (.int .i64 8)) Zd), none⟩,
 ⟨some 12, some (.binOp .neq Zd (.tmp 11) (.const (.int .i64 0)) Zd), none⟩,
 ⟨some 13, some (.move (.tmp 12)), none⟩,
 ⟨some 14, some (.move (.tmp 0)), some (some 13, true)⟩,
 ⟨some 15, some (.fieldAddr Zc (.tmp 4) 2), some (some 13, true)⟩,
 ⟨some 16, some (.load Zd (.tmp 15)), some (some 13, true)⟩,
 ⟨some 17, some (.call ⟨(.value (.func Z2)), #[(.tmp 14), (.tmp 16), (.const (.int .u64 0))], #[Zh, Zd, Ze]⟩), some (some 13, true)⟩,
 ⟨some 18, some (.move (.tmp 17)), some (some 13, true)⟩,
 ⟨some 19, some (.move (.tmp 0)), some (some 18, false)⟩,
 ⟨some 20, some (.fieldAddr Zc (.tmp 4) 3), some (some 18, false)⟩,
 ⟨some 21, some (.load Zd (.tmp 20)), some (some 18, false)⟩,
 ⟨some 22, some (.call ⟨(.value (.func Z2)), #[(.tmp 19), (.tmp 21), (.const (.int .u64 0))], #[Zh, Zd, Ze]⟩), some (some 18, false)⟩,
 ⟨some 23, some (.pick (.tmp 18) (.const (.bool true)) (.tmp 22)), some (some 13, true)⟩,
 ⟨some 24, some (.pick (.tmp 13) (.tmp 23) (.const (.bool false))), none⟩,
 ⟨some 9, some (.assign (.tmp 24)), none⟩])
  (.cond (.tmp 9) .skip
  (.reg [] [⟨some 25, some (.move (.tmp 2)), none⟩,
 ⟨some 26, some (.binOp .and Zd (.tmp 25) (.const (.int .i64 64)) Zd), none⟩,
 ⟨some 27, some (.binOp .neq Zd (.tmp 26) (.const (.int .i64 0)) Zd), none⟩,
 ⟨some 28, some (.move (.tmp 27)), none⟩,
 ⟨some 29, some (.move (.tmp 0)), some (some 28, true)⟩,
 ⟨some 30, some (.fieldAddr Zc (.tmp 4) 2), some (some 28, true)⟩,
 ⟨some 31, some (.load Zd (.tmp 30)), some (some 28, true)⟩,
 ⟨some 32, some (.call ⟨(.value (.func Z2)), #[(.tmp 29), (.tmp 31), (.const (.int .u64 0))], #[Zh, Zd, Ze]⟩), some (some 28, true)⟩,
 ⟨some 33, some (.pick (.tmp 28) (.tmp 32) (.const (.bool false))), none⟩,
 ⟨some 9, some (.assign (.tmp 33)), none⟩])))
  (.cond (.tmp 9) (.seq (.reg [10] [⟨some 35, some (.move (.tmp 0)), none⟩,
 ⟨some 36, some (.nilCheck (.tmp 35)), none⟩,
 ⟨some 37, some (.fieldAddr Zr (.tmp 36) 0), none⟩,
 ⟨some 38, some (.load Zj (.tmp 37)), none⟩,
 ⟨some 39, some (.fieldAddr Zc (.tmp 4) 2), none⟩,
 ⟨some 40, some (.load Zd (.tmp 39)), none⟩,
 ⟨some 41, some (.call ⟨(.value (.func Zm)), #[.tmp 38, .tmp 40], #[Zj, Zd]⟩), none⟩,
 ⟨some 34, some (.move (.tmp 41)), none⟩,
 ⟨some 42, some (.extract (.tmp 34) 0), none⟩,
 ⟨some 43, some (.extract (.tmp 34) 1), none⟩,
 ⟨some 7, some (.alloc Zc), none⟩,
 ⟨none, some (.store Zc (.tmp 7) (.tmp 42)), none⟩,
 ⟨some 8, some (.assign (.tmp 43)), none⟩])
  (.seq (.reg [] [⟨some 44, some (.move (.tmp 0)), none⟩,
 ⟨some 45, some (.fieldAddr Zc (.tmp 7) 1), none⟩,
 ⟨some 46, some (.load Zd (.tmp 45)), none⟩,
 ⟨some 47, some (.build Za #[(0, (.tmp 46))]), none⟩,
 ⟨some 48, some (.call ⟨(.value (.func Zg)), #[.tmp 44, .tmp 47], #[Zh, Za]⟩), none⟩,
 ⟨some 6, some (.assign (.tmp 48)), none⟩])
  .ret))
  (.seq (.seq (.reg [] [⟨some 50, some (.move (.tmp 2)), none⟩,
 ⟨some 51, some (.binOp .and Zd (.tmp 50) (.const (.int .i64 48)) Zd), none⟩,
 ⟨some 52, some (.binOp .neq Zd (.tmp 51) (.const (.int .i64 0)) Zd), none⟩,
 ⟨some 53, some (.move (.tmp 52)), none⟩,
 ⟨some 54, some (.move (.tmp 0)), some (some 53, true)⟩,
 ⟨some 55, some (.fieldAddr Zc (.tmp 4) 3), some (some 53, true)⟩,
 ⟨some 56, some (.load Zd (.tmp 55)), some (some 53, true)⟩,
 ⟨some 57, some (.call ⟨(.value (.func Z2)), #[(.tmp 54), (.tmp 56), (.const (.int .u64 0))], #[Zh, Zd, Ze]⟩), some (some 53, true)⟩,
 ⟨some 58, some (.pick (.tmp 53) (.tmp 57) (.const (.bool false))), none⟩,
 ⟨some 49, some (.assign (.tmp 58)), none⟩])
  (.cond (.tmp 49) .skip
  (.reg [] [⟨some 59, some (.move (.tmp 2)), none⟩,
 ⟨some 60, some (.binOp .and Zd (.tmp 59) (.const (.int .i64 256)) Zd), none⟩,
 ⟨some 61, some (.binOp .neq Zd (.tmp 60) (.const (.int .i64 0)) Zd), none⟩,
 ⟨some 62, some (.move (.tmp 61)), none⟩,
 ⟨some 63, some (.move (.tmp 0)), some (some 62, true)⟩,
 ⟨some 64, some (.fieldAddr Zc (.tmp 4) 3), some (some 62, true)⟩,
 ⟨some 65, some (.load Zd (.tmp 64)), some (some 62, true)⟩,
 ⟨some 66, some (.call ⟨(.value (.func Z2)), #[(.tmp 63), (.tmp 65), (.const (.int .u64 1))], #[Zh, Zd, Ze]⟩), some (some 62, true)⟩,
 ⟨some 67, some (.pick (.tmp 62) (.tmp 66) (.const (.bool false))), none⟩,
 ⟨some 49, some (.assign (.tmp 67)), none⟩])))
  (.cond (.tmp 49) (.seq (.reg [] [⟨some 68, some (.fieldAddr Zc (.tmp 4) 2), none⟩,
 ⟨some 69, some (.load Zd (.tmp 68)), none⟩,
 ⟨some 6, some (.assign (.tmp 69)), none⟩])
  .ret)
  (.seq (.seq (.reg [] [⟨some 71, some (.move (.tmp 2)), none⟩,
 ⟨some 72, some (.binOp .and Zd (.tmp 71) (.const (.int .i64 16)) Zd), none⟩,
 ⟨some 73, some (.binOp .neq Zd (.tmp 72) (.const (.int .i64 0)) Zd), none⟩,
 ⟨some 74, some (.move (.tmp 73)), none⟩,
 ⟨some 75, some (.move (.tmp 0)), some (some 74, true)⟩,
 ⟨some 76, some (.fieldAddr Zc (.tmp 4) 2), some (some 74, true)⟩,
 ⟨some 77, some (.load Zd (.tmp 76)), some (some 74, true)⟩,
 ⟨some 78, some (.call ⟨(.value (.func Z2)), #[(.tmp 75), (.tmp 77), (.const (.int .u64 0))], #[Zh, Zd, Ze]⟩), some (some 74, true)⟩,
 ⟨some 79, some (.pick (.tmp 74) (.tmp 78) (.const (.bool false))), none⟩,
 ⟨some 70, some (.assign (.tmp 79)), none⟩])
  (.cond (.tmp 70) .skip
  (.reg [] [⟨some 80, some (.fieldAddr Zc (.tmp 4) 0), none⟩,
 ⟨some 81, some (.load Zd (.tmp 80)), none⟩,
 ⟨some 82, some (.binOp .eql Zd (.tmp 81) (.const (.int .i64 20)) Zd), none⟩,
 ⟨some 83, some (.move (.tmp 82)), none⟩,
 ⟨some 84, some (.move (.tmp 0)), some (some 83, true)⟩,
 ⟨some 85, some (.fieldAddr Zc (.tmp 4) 2), some (some 83, true)⟩,
 ⟨some 86, some (.load Zd (.tmp 85)), some (some 83, true)⟩,
 ⟨some 87, some (.call ⟨(.value (.func Z2)), #[(.tmp 84), (.tmp 86), (.const (.int .u64 1))], #[Zh, Zd, Ze]⟩), some (some 83, true)⟩,
 ⟨some 88, some (.pick (.tmp 83) (.tmp 87) (.const (.bool false))), none⟩,
 ⟨some 70, some (.assign (.tmp 88)), none⟩])))
  (.cond (.tmp 70) (.seq (.reg [] [⟨some 89, some (.fieldAddr Zc (.tmp 4) 3), none⟩,
 ⟨some 90, some (.load Zd (.tmp 89)), none⟩,
 ⟨some 6, some (.assign (.tmp 90)), none⟩])
  .ret)
  .skip)))))))
  (.seq (.seq (.reg [] [⟨some 91, some (.fieldAddr Zc (.tmp 4) 0), none⟩,
 ⟨some 92, some (.load Zd (.tmp 91)), none⟩,
 ⟨some 93, some (.binOp .eql Zd (.tmp 92) (.const (.int .i64 20)) Zd), none⟩])
  (.cond (.tmp 93) (.seq (.reg [] [⟨some 94, some (.move (.tmp 0)), none⟩,
 ⟨some 95, some (.load Zc (.tmp 4)), none⟩,
 ⟨some 96, some (.call ⟨(.value (.func Z1)), #[.tmp 94, .tmp 95], #[Zh, Zc]⟩), none⟩,
 ⟨some 6, some (.assign (.tmp 96)), none⟩])
  .ret)
  .skip))
  (.seq (.reg [] [⟨some 97, some (.move (.tmp 0)), none⟩,
 ⟨some 98, some (.load Zc (.tmp 4)), none⟩,
 ⟨some 99, some (.call ⟨(.value (.func Zf)), #[.tmp 97, .tmp 98], #[Zh, Zc]⟩), none⟩,
 ⟨some 6, some (.assign (.tmp 99)), none⟩])
  .ret))))
theorem Zdr {a0 a1 a2 : AV} {H : AHeap} : R Zy [a0, a1, a2] H = fnK Try.prog [] H [(.tmp 6)] (evalL Try.prog KT R Zl (Env.args [a0, a1, a2] 0) H) :=
  runs_body (D := DT) (f := Zy) Try.func51 (by kernel_rfl) (by kernel_rfl) (by kernel_rfl) (by kernel_rfl) (by kernel_rfl) (Nat.le_of_ble_eq_true rfl)
def Zjo : LCode := (.seq (.reg [] [⟨some 3, some (.box Zb (.tmp 1)), none⟩,
 ⟨some 4, some (.alloc Za), none⟩])
  (.seq (.reg [] [⟨some 6, some (.move (.tmp 0)), none⟩,
 ⟨some 7, some (.call ⟨(.value (.func Zet)), #[.tmp 6], #[Zd]⟩), none⟩,
 ⟨some 5, some (.alloc Zb), none⟩,
 ⟨none, some (.store Zb (.tmp 5) (.tmp 7)), none⟩])
  (.seq (.reg [] [⟨some 8, some (.move (.tmp 0)), none⟩,
 ⟨some 9, some (.fieldAddr Zb (.tmp 3) 0), none⟩,
 ⟨some 10, some (.load Ze (.tmp 9)), none⟩,
 ⟨some 11, some (.fieldAddr Zb (.tmp 5) 0), none⟩,
 ⟨some 12, some (.load Ze (.tmp 11)), none⟩,
 ⟨some 13, some (.binOp .and Ze (.tmp 10) (.tmp 12) Ze), none⟩,
 ⟨some 14, some (.fieldAddr Zb (.tmp 3) 1), none⟩,
 ⟨some 15, some (.load Ze (.tmp 14)), none⟩,
 ⟨some 16, some (.fieldAddr Zb (.tmp 5) 1), none⟩,
 ⟨some 17, some (.load Ze (.tmp 16)), none⟩,
 ⟨some 18, some (.binOp .and Ze (.tmp 15) (.tmp 17) Ze), none⟩,
 ⟨some 19, some (.build Za #[(0, (.tmp 8)), (1, (.tmp 13)), (2, (.tmp 18))]), none⟩,
 ⟨none, some (.store Za (.tmp 4) (.tmp 19)), none⟩])
  .ret)))
theorem Zj2 {a0 a1 : AV} {H : AHeap} : R Zcr [a0, a1] H = fnK Try.prog [] H [(.cell 4 Za)] (evalL Try.prog KT R Zjo (Env.args [a0, a1] 0) H) :=
  runs_body (D := DT) (f := Zcr) Try.func52 (by kernel_rfl) (by kernel_rfl) (by kernel_rfl) (by kernel_rfl) (by kernel_rfl) (Nat.le_of_ble_eq_true rfl)
def Zjw : LCode := (.seq (.reg [] [⟨some 1, some (.box Za (.tmp 0)), none⟩,
 ⟨some 2, some (.alloc Zb), none⟩])
  (.seq (.reg [] [⟨some 3, some (.fieldAddr Za (.tmp 1) 1), none⟩,
 ⟨some 4, some (.load Ze (.tmp 3)), none⟩,
 ⟨some 5, some (.fieldAddr Za (.tmp 1) 2), none⟩,
 ⟨some 6, some (.load Ze (.tmp 5)), none⟩,
 ⟨some 7, some (.build Zb #[(0, (.tmp 4)), (1, (.tmp 6))]), none⟩,
 ⟨none, some (.store Zb (.tmp 2) (.tmp 7)), none⟩])
  .ret))
theorem Zj7 {a0 : AV} {H : AHeap} : R Zcl [a0] H = fnK Try.prog [] H [(.cell 2 Zb)] (evalL Try.prog KT R Zjw (Env.args [a0] 0) H) :=
  runs_body (D := DT) (f := Zcl) Try.func53 (by kernel_rfl) (by kernel_rfl) (by kernel_rfl) (by kernel_rfl) (by kernel_rfl) (Nat.le_of_ble_eq_true rfl)
def Zds : LCode := (.seq (.reg [] [⟨some 4, some (.assign (.const (.bool false))), none⟩])
  (.seq (.reg [] [⟨some 5, some (.move (.tmp 0)), none⟩,
 ⟨some 6, some (.move (.tmp 1)), none⟩,
 ⟨some 7, some (.call ⟨(.value (.func Zck)), #[.tmp 5, .tmp 6], #[Z4, Zj8]⟩), none⟩,
 ⟨some 8, some (.binOp .geq Zd (.tmp 7) (.const (.int .i64 0)) Zd), none⟩,
 ⟨some 4, some (.assign (.tmp 8)), none⟩])
  .ret))
theorem Zfk {a0 a1 : AV} {H : AHeap} : R Zcb [a0, a1] H = fnK Try.prog [] H [(.tmp 4)] (evalL Try.prog KT R Zds (Env.args [a0, a1] 0) H) :=
  runs_body (D := DT) (f := Zcb) Try.func54 (by kernel_rfl) (by kernel_rfl) (by kernel_rfl) (by kernel_rfl) (by kernel_rfl) (Nat.le_of_ble_eq_true rfl)
def Zhb : LCode := (.seq (.reg [] [⟨some 2, some (.assign (.const (.bool false))), none⟩])
  (.seq (.reg [] [⟨some 3, some (.move (.tmp 0)), none⟩,
 ⟨some 4, some (.call ⟨(.value (.func Zfs)), #[.tmp 3], #[Zd]⟩), none⟩,
 ⟨some 5, some (.unOp .not Zbg (.tmp 4)), none⟩,
 ⟨some 2, some (.assign (.tmp 5)), none⟩])
  .ret))
theorem Zir {a0 : AV} {H : AHeap} : R Zdk [a0] H = fnK Try.prog [] H [(.tmp 2)] (evalL Try.prog KT R Zhb (Env.args [a0] 0) H) :=
  runs_body (D := DT) (f := Zdk) Try.func55 (by kernel_rfl) (by kernel_rfl) (by kernel_rfl) (by kernel_rfl) (by kernel_rfl) (Nat.le_of_ble_eq_true rfl)
def Zu : LCode := (.seq (.reg [] [⟨some 8, some (.assign (.const (.int .i64 0))), none⟩,
 ⟨some 9, some (.assign (.const (.bool false))), none⟩])
  (.seq (.reg [] [⟨some 15, some (.move (.tmp 1)), none⟩,
 ⟨some 16, some (.binOp .eql Zd (.tmp 15) (.const (.int .i64 0)) Zd), none⟩,
 ⟨some 17, some (.move (.tmp 16)), none⟩,
 ⟨some 18, some (.move (.tmp 2)), some (some 17, true)⟩,
 ⟨some 19, some (.binOp .eql Zd (.tmp 18) (.const (.int .i64 0)) Zd), some (some 17, true)⟩,
 ⟨some 20, some (.pick (.tmp 17) (.tmp 19) (.const (.bool false))), none⟩,
 ⟨some 10, some (.assign (.tmp 20)), none⟩])
  (.seq (.reg [] [⟨some 21, some (.move (.tmp 3)), none⟩,
 ⟨some 22, some (.indexAddr Z4 (.tmp 21) (.const (.int .i64 0))), none⟩,
 ⟨some 23, some (.load Zd (.tmp 22)), none⟩,
 ⟨some 24, some (.move (.tmp 3)), none⟩,
 ⟨some 25, some (.move (.tmp 3)), none⟩,
 ⟨some 26, some (.call ⟨(.builtin .len), #[.tmp 25], #[Z4]⟩), none⟩,
 ⟨some 27, some (.binOp .sub Zd (.tmp 26) (.const (.int .i64 1)) Zd), none⟩,
 ⟨some 28, some (.indexAddr Z4 (.tmp 24) (.tmp 27)), none⟩,
 ⟨some 29, some (.load Zd (.tmp 28)), none⟩,
 ⟨some 11, some (.assign (.tmp 23)), none⟩,
 ⟨some 12, some (.assign (.tmp 29)), none⟩])
  (.seq (.block 0 (.seq (.reg [] [⟨some 31, some (.move (.tmp 0)), none⟩,
 ⟨some 32, some (.binOp .leq Zd (.tmp 31) (.const (.int .i64 7)) Zd), none⟩,
 ⟨some 30, some (.assign (.tmp 32)), none⟩])
  (.cond (.tmp 30) (.seq (.reg [] [⟨some 33, some (.move (.tmp 10)), none⟩,
 ⟨some 34, some (.move (.tmp 33)), none⟩,
 ⟨some 35, some (.move (.tmp 11)), some (some 34, true)⟩,
 ⟨some 36, some (.binOp .eql Zd (.tmp 35) (.const (.int .i64 0)) Zd), some (some 34, true)⟩,
 ⟨some 37, some (.pick (.tmp 34) (.tmp 36) (.const (.bool false))), none⟩,
 ⟨some 38, some (.move (.tmp 37)), none⟩,
 ⟨some 39, some (.move (.tmp 12)), some (some 38, true)⟩,
 ⟨some 40, some (.binOp .eql Zd (.tmp 39) (.const (.int .i64 0)) Zd), some (some 38, true)⟩,
 ⟨some 41, some (.pick (.tmp 38) (.tmp 40) (.const (.bool false))), none⟩,
 ⟨some 8, some (.assign (.const (.int .i64 0))), none⟩,
 ⟨some 9, some (.assign (.tmp 41)), none⟩])
  .ret)
  (.seq (.reg [] [⟨some 43, some (.move (.tmp 0)), none⟩,
 ⟨some 44, some (.binOp .eql Zd (.tmp 43) (.const (.int .i64 8)) Zd), none⟩,
 ⟨some 42, some (.assign (.tmp 44)), none⟩])
  (.cond (.tmp 42) (.seq (.reg [] [⟨some 45, some (.move (.tmp 10)), none⟩,
 ⟨some 46, some (.move (.tmp 45)), none⟩,
 ⟨some 47, some (.move (.tmp 11)), some (some 46, true)⟩,
 ⟨some 48, some (.move (.tmp 12)), some (some 46, true)⟩,
 ⟨some 49, some (.binOp .eql Zd (.tmp 47) (.tmp 48) Zd), some (some 46, true)⟩,
 ⟨some 50, some (.pick (.tmp 46) (.tmp 49) (.const (.bool false))), none⟩,
 ⟨some 8, some (.assign (.const (.int .i64 0))), none⟩,
 ⟨some 9, some (.assign (.tmp 50)), none⟩])
  .ret)
  (.seq (.reg [] [⟨some 52, some (.move (.tmp 0)), none⟩,
 ⟨some 53, some (.binOp .eql Zd (.tmp 52) (.const (.int .i64 9)) Zd), none⟩,
 ⟨some 51, some (.assign (.tmp 53)), none⟩])
  (.cond (.tmp 51) (.seq (.reg [] [⟨some 54, some (.move (.tmp 12)), none⟩,
 ⟨some 55, some (.move (.tmp 10)), none⟩,
 ⟨some 56, some (.move (.tmp 55)), none⟩,
 ⟨some 57, some (.move (.tmp 11)), some (some 56, true)⟩,
 ⟨some 58, some (.binOp .eql Zd (.tmp 57) (.const (.int .i64 0)) Zd), some (some 56, true)⟩,
 ⟨some 59, some (.pick (.tmp 56) (.tmp 58) (.const (.bool false))), none⟩,
 ⟨some 60, some (.move (.tmp 59)), none⟩,
 ⟨some 61, some (.move (.tmp 3)), some (some 60, true)⟩,
 ⟨some 62, some (.indexAddr Z4 (.tmp 61) (.const (.int .i64 1))), some (some 60, true)⟩,
 ⟨some 63, some (.load Zd (.tmp 62)), some (some 60, true)⟩,
 ⟨some 64, some (.move (.tmp 12)), some (some 60, true)⟩,
 ⟨some 65, some (.binOp .eql Zd (.tmp 63) (.tmp 64) Zd), some (some 60, true)⟩,
 ⟨some 66, some (.pick (.tmp 60) (.tmp 65) (.const (.bool false))), none⟩,
 ⟨some 8, some (.assign (.tmp 54)), none⟩,
 ⟨some 9, some (.assign (.tmp 66)), none⟩])
  .ret)
  (.seq (.reg [] [⟨some 68, some (.move (.tmp 0)), none⟩,
 ⟨some 69, some (.binOp .eql Zd (.tmp 68) (.const (.int .i64 38)) Zd), none⟩,
 ⟨some 67, some (.assign (.tmp 69)), none⟩])
  (.cond (.tmp 67) (.seq (.reg [] [⟨some 70, some (.move (.tmp 11)), none⟩,
 ⟨some 71, some (.move (.tmp 12)), none⟩,
 ⟨some 72, some (.binOp .add Zd (.tmp 70) (.tmp 71) Zd), none⟩,
 ⟨some 73, some (.move (.tmp 10)), none⟩,
 ⟨some 74, some (.move (.tmp 73)), none⟩,
 ⟨some 75, some (.move (.tmp 11)), some (some 74, true)⟩,
 ⟨some 76, some (.binOp .gtr Zd (.tmp 75) (.const (.int .i64 0)) Zd), some (some 74, true)⟩,
 ⟨some 77, some (.pick (.tmp 74) (.tmp 76) (.const (.bool false))), none⟩,
 ⟨some 78, some (.move (.tmp 77)), none⟩,
 ⟨some 79, some (.move (.tmp 12)), some (some 78, true)⟩,
 ⟨some 80, some (.binOp .gtr Zd (.tmp 79) (.const (.int .i64 0)) Zd), some (some 78, true)⟩,
 ⟨some 81, some (.pick (.tmp 78) (.tmp 80) (.const (.bool false))), none⟩,
 ⟨some 8, some (.assign (.tmp 72)), none⟩,
 ⟨some 9, some (.assign (.tmp 81)), none⟩])
  .ret)
  (.seq (.reg [] [⟨some 83, some (.move (.tmp 0)), none⟩,
 ⟨some 84, some (.binOp .geq Zd (.tmp 83) (.const (.int .i64 39)) Zd), none⟩,
 ⟨some 82, some (.assign (.tmp 84)), none⟩])
  (.cond (.tmp 82) (.seq (.reg [] [⟨some 86, some (.move (.tmp 0)), none⟩,
 ⟨some 87, some (.move (.tmp 1)), none⟩,
 ⟨some 88, some (.move (.tmp 2)), none⟩,
 ⟨some 89, some (.move (.tmp 11)), none⟩,
 ⟨some 90, some (.call ⟨(.value (.func Zeu)), #[.tmp 86, .tmp 87, .tmp 88, .tmp 89], #[Zd, Zd, Zd, Zd]⟩), none⟩,
 ⟨some 85, some (.move (.tmp 90)), none⟩,
 ⟨some 91, some (.extract (.tmp 85) 0), none⟩,
 ⟨some 92, some (.extract (.tmp 85) 1), none⟩,
 ⟨some 13, some (.assign (.tmp 91)), none⟩,
 ⟨some 14, some (.assign (.tmp 92)), none⟩])
  (.seq (.reg [] [⟨some 93, some (.move (.tmp 13)), none⟩,
 ⟨some 94, some (.move (.tmp 14)), none⟩,
 ⟨some 95, some (.move (.tmp 94)), none⟩,
 ⟨some 96, some (.move (.tmp 11)), some (some 95, true)⟩,
 ⟨some 97, some (.binOp .gtr Zd (.tmp 96) (.const (.int .i64 0)) Zd), some (some 95, true)⟩,
 ⟨some 98, some (.pick (.tmp 95) (.tmp 97) (.const (.bool false))), none⟩,
 ⟨some 8, some (.assign (.tmp 93)), none⟩,
 ⟨some 9, some (.assign (.tmp 98)), none⟩])
  .ret))
  (.seq (.reg [] [⟨some 100, some (.move (.tmp 0)), none⟩,
 ⟨some 101, some (.binOp .eql Zd (.tmp 100) (.const (.int .i64 37)) Zd), none⟩,
 ⟨some 99, some (.assign (.tmp 101)), none⟩])
  (.cond (.tmp 99) (.seq (.reg [] [⟨some 102, some (.move (.tmp 10)), none⟩,
 ⟨some 103, some (.move (.tmp 102)), none⟩,
 ⟨some 104, some (.move (.tmp 11)), some (some 103, true)⟩,
 ⟨some 105, some (.move (.tmp 12)), some (some 103, true)⟩,
 ⟨some 106, some (.binOp .eql Zd (.tmp 104) (.tmp 105) Zd), some (some 103, true)⟩,
 ⟨some 107, some (.pick (.tmp 103) (.tmp 106) (.const (.bool false))), none⟩,
 ⟨some 108, some (.move (.tmp 107)), none⟩,
 ⟨some 109, some (.move (.tmp 11)), some (some 108, true)⟩,
 ⟨some 110, some (.binOp .gtr Zd (.tmp 109) (.const (.int .i64 0)) Zd), some (some 108, true)⟩,
 ⟨some 111, some (.pick (.tmp 108) (.tmp 110) (.const (.bool false))), none⟩,
 ⟨some 8, some (.assign (.const (.int .i64 1))), none⟩,
 ⟨some 9, some (.assign (.tmp 111)), none⟩])
  .ret)
  (.seq (.reg [] [⟨some 113, some (.move (.tmp 0)), none⟩,
 ⟨some 114, some (.binOp .geq Zd (.tmp 113) (.const (.int .i64 29)) Zd), none⟩,
 ⟨some 112, some (.assign (.tmp 114)), none⟩])
  (.cond (.tmp 112) (.seq (.reg [] [⟨some 115, some (.move (.tmp 10)), none⟩,
 ⟨some 116, some (.move (.tmp 115)), none⟩,
 ⟨some 117, some (.move (.tmp 11)), some (some 116, true)⟩,
 ⟨some 118, some (.move (.tmp 12)), some (some 116, true)⟩,
 ⟨some 119, some (.binOp .eql Zd (.tmp 117) (.tmp 118) Zd), some (some 116, true)⟩,
 ⟨some 120, some (.pick (.tmp 116) (.tmp 119) (.const (.bool false))), none⟩,
 ⟨some 121, some (.move (.tmp 120)), none⟩,
 ⟨some 122, some (.move (.tmp 11)), some (some 121, true)⟩,
 ⟨some 123, some (.binOp .gtr Zd (.tmp 122) (.const (.int .i64 0)) Zd), some (some 121, true)⟩,
 ⟨some 124, some (.pick (.tmp 121) (.tmp 123) (.const (.bool false))), none⟩,
 ⟨some 8, some (.assign (.const (.int .i64 0))), none⟩,
 ⟨some 9, some (.assign (.tmp 124)), none⟩])
  .ret)
  .skip)))))))))))))))
  (.seq (.reg [] [⟨some 125, some (.move (.tmp 11)), none⟩,
 ⟨some 126, some (.move (.tmp 10)), none⟩,
 ⟨some 127, some (.move (.tmp 126)), none⟩,
 ⟨some 128, some (.move (.tmp 11)), some (some 127, true)⟩,
 ⟨some 129, some (.move (.tmp 12)), some (some 127, true)⟩,
 ⟨some 130, some (.binOp .eql Zd (.tmp 128) (.tmp 129) Zd), some (some 127, true)⟩,
 ⟨some 131, some (.pick (.tmp 127) (.tmp 130) (.const (.bool false))), none⟩,
 ⟨some 132, some (.move (.tmp 131)), none⟩,
 ⟨some 133, some (.move (.tmp 11)), some (some 132, true)⟩,
 ⟨some 134, some (.binOp .gtr Zd (.tmp 133) (.const (.int .i64 0)) Zd), some (some 132, true)⟩,
 ⟨some 135, some (.pick (.tmp 132) (.tmp 134) (.const (.bool false))), none⟩,
 ⟨some 8, some (.assign (.tmp 125)), none⟩,
 ⟨some 9, some (.assign (.tmp 135)), none⟩])
  .ret)))))
theorem Zjk {a0 a1 a2 a3 : AV} {H : AHeap} : R Zf8 [a0, a1, a2, a3] H = fnK Try.prog [] H [(.tmp 8), (.tmp 9)] (evalL Try.prog KT R Zu (Env.args [a0, a1, a2, a3] 0) H) :=
  runs_body (D := DT) (f := Zf8) Try.func56 (by kernel_rfl) (by kernel_rfl) (by kernel_rfl) (by kernel_rfl) (by kernel_rfl) (Nat.le_of_ble_eq_true rfl)
def Zc8 : LCode := (.seq (.reg [] [⟨some 2, some (.alloc Zt), none⟩,
 ⟨some 3, some (.assign (.const (.bool false))), none⟩])
  (.seq (.seq (.reg [] [⟨some 4, some (.move (.tmp 0)), none⟩])
  (.block 0 (.seq (.reg [] [⟨some 6, some (.binOp .eql Zd (.tmp 4) (.const (.int .i64 3)) Zd), none⟩,
 ⟨some 5, some (.assign (.tmp 6)), none⟩])
  (.cond (.tmp 5) (.seq (.reg [] [⟨some 7, some (.call ⟨(.value (.func Zcx)), #[(.func Zdu)], #[Zg8]⟩), none⟩,
 ⟨none, some (.store Zt (.tmp 2) (.tmp 7)), none⟩,
 ⟨some 3, some (.assign (.const (.bool true))), none⟩])
  .ret)
  (.seq (.reg [] [⟨some 9, some (.binOp .eql Zd (.tmp 4) (.const (.int .i64 4)) Zd), none⟩,
 ⟨some 8, some (.assign (.tmp 9)), none⟩])
  (.cond (.tmp 8) (.seq (.reg [] [⟨some 10, some (.call ⟨(.value (.func Zcx)), #[(.func Zdv)], #[Zg8]⟩), none⟩,
 ⟨none, some (.store Zt (.tmp 2) (.tmp 10)), none⟩,
 ⟨some 3, some (.assign (.const (.bool true))), none⟩])
  .ret)
  (.seq (.reg [] [⟨some 12, some (.binOp .eql Zd (.tmp 4) (.const (.int .i64 5)) Zd), none⟩,
 ⟨some 11, some (.assign (.tmp 12)), none⟩])
  (.cond (.tmp 11) (.seq (.reg [] [⟨some 13, some (.call ⟨(.value (.func Zcx)), #[(.func Zdw)], #[Zg8]⟩), none⟩,
 ⟨none, some (.store Zt (.tmp 2) (.tmp 13)), none⟩,
 ⟨some 3, some (.assign (.const (.bool true))), none⟩])
  .ret)
  (.seq (.reg [] [⟨some 15, some (.binOp .eql Zd (.tmp 4) (.const (.int .i64 6)) Zd), none⟩,
 ⟨some 14, some (.assign (.tmp 15)), none⟩])
  (.cond (.tmp 14) (.seq (.reg [] [⟨some 16, some (.call ⟨(.value (.func Zcx)), #[(.func Zc9)], #[Zg8]⟩), none⟩,
 ⟨none, some (.store Zt (.tmp 2) (.tmp 16)), none⟩,
 ⟨some 3, some (.assign (.const (.bool true))), none⟩])
  .ret)
  (.seq (.reg [] [⟨some 18, some (.binOp .eql Zd (.tmp 4) (.const (.int .i64 7)) Zd), none⟩,
 ⟨some 17, some (.assign (.tmp 18)), none⟩])
  (.cond (.tmp 17) (.seq (.reg [] [⟨some 19, some (.call ⟨(.value (.func Zcx)), #[(.func Zdx)], #[Zg8]⟩), none⟩,
 ⟨none, some (.store Zt (.tmp 2) (.tmp 19)), none⟩,
 ⟨some 3, some (.assign (.const (.bool true))), none⟩])
  .ret)
  (.seq (.reg [] [⟨some 21, some (.binOp .eql Zd (.tmp 4) (.const (.int .i64 8)) Zd), none⟩,
 ⟨some 20, some (.assign (.tmp 21)), none⟩])
  (.cond (.tmp 20) (.seq (.reg [] [⟨some 22, some (.call ⟨(.value (.func Zcx)), #[(.func Zdy)], #[Zg8]⟩), none⟩,
 ⟨none, some (.store Zt (.tmp 2) (.tmp 22)), none⟩,
 ⟨some 3, some (.assign (.const (.bool true))), none⟩])
  .ret)
  (.seq (.reg [] [⟨some 24, some (.binOp .eql Zd (.tmp 4) (.const (.int .i64 9)) Zd), none⟩,
 ⟨some 23, some (.assign (.tmp 24)), none⟩])
  (.cond (.tmp 23) (.seq (.reg [] [⟨some 25, some (.build Zt #[(0, (.func Zdz))]), none⟩,
 ⟨none, some (.store Zt (.tmp 2) (.tmp 25)), none⟩,
 ⟨some 3, some (.assign (.const (.bool true))), none⟩])
  .ret)
  .skip))))))))))))))))
  (.seq (.reg [] [⟨some 26, some (.build Zt #[]), none⟩,
 ⟨none, some (.store Zt (.tmp 2) (.tmp 26)), none⟩,
 ⟨some 3, some (.assign (.const (.bool false))), none⟩])
  .ret)))
theorem Zi3 {a0 : AV} {H : AHeap} : R Zep [a0] H = fnK Try.prog [] H [(.cell 2 Zt), (.tmp 3)] (evalL Try.prog KT R Zc8 (Env.args [a0] 0) H) :=
  runs_body (D := DT) (f := Zep) Try.func57 (by kernel_rfl) (by kernel_rfl) (by kernel_rfl) (by kernel_rfl) (by kernel_rfl) (Nat.le_of_ble_eq_true rfl)
def Zhl : LCode := (.seq (.reg [] [⟨some 1, some (.box Zd (.tmp 0)), none⟩,
 ⟨some 2, some (.alloc Zt), none⟩])
  (.seq (.reg [] [⟨some 3, some (.makeFunc (.func Zbt) #[] #[.tmp 1]), none⟩,
 ⟨some 4, some (.build Zt #[(0, (.tmp 3))]), none⟩,
 ⟨none, some (.store Zt (.tmp 2) (.tmp 4)), none⟩])
  .ret))
theorem Zi4 {a0 : AV} {H : AHeap} : R Zfz [a0] H = fnK Try.prog [] H [(.cell 2 Zt)] (evalL Try.prog KT R Zhl (Env.args [a0] 0) H) :=
  runs_body (D := DT) (f := Zfz) Try.func58 (by kernel_rfl) (by kernel_rfl) (by kernel_rfl) (by kernel_rfl) (by kernel_rfl) (Nat.le_of_ble_eq_true rfl)
def Zca : LCode := (.seq (.reg [] [⟨some 6, some (.assign (.const (.bool false))), none⟩])
  (.seq (.reg [] [⟨some 10, some (.move (.tmp 0)), none⟩,
 ⟨some 11, some (.move (.tmp 1)), none⟩,
 ⟨some 12, some (.call ⟨(.value (.func Zz)), #[.tmp 10, .tmp 11], #[Zh, Zd]⟩), none⟩,
 ⟨some 9, some (.move (.tmp 12)), none⟩,
 ⟨some 13, some (.extract (.tmp 9) 0), none⟩,
 ⟨some 14, some (.extract (.tmp 9) 1), none⟩,
 ⟨some 7, some (.alloc Za), none⟩,
 ⟨none, some (.store Za (.tmp 7) (.tmp 13)), none⟩,
 ⟨some 8, some (.assign (.tmp 14)), none⟩])
  (.seq (.reg [] [⟨some 15, some (.move (.tmp 8)), none⟩,
 ⟨some 16, some (.move (.tmp 15)), none⟩,
 ⟨some 17, some (.fieldAddr Za (.tmp 7) 0), some (some 16, true)⟩,
 ⟨some 18, some (.load Zd (.tmp 17)), some (some 16, true)⟩,
 ⟨some 19, some (.binOp .gtr Zd (.tmp 18) (.const (.int .i64 0)) Zd), some (some 16, true)⟩,
 ⟨some 20, some (.pick (.tmp 16) (.tmp 19) (.const (.bool false))), none⟩,
 ⟨some 21, some (.move (.tmp 20)), none⟩,
 ⟨some 22, some (.fieldAddr Za (.tmp 7) 1), some (some 21, true)⟩,
 ⟨some 23, some (.load Ze (.tmp 22)), some (some 21, true)⟩,
 ⟨some 24, some (.move (.tmp 2)), some (some 21, true)⟩,
 ⟨some 25, some (.binOp .eql Ze (.tmp 23) (.tmp 24) Ze), some (some 21, true)⟩,
 ⟨some 26, some (.pick (.tmp 21) (.tmp 25) (.const (.bool false))), none⟩,
 ⟨some 27, some (.move (.tmp 26)), none⟩,
 ⟨some 28, some (.fieldAddr Za (.tmp 7) 2), some (some 27, true)⟩,
 ⟨some 29, some (.load Ze (.tmp 28)), some (some 27, true)⟩,
 ⟨some 30, some (.binOp .eql Ze (.tmp 29) (.const (.int .u64 0)) Ze), some (some 27, true)⟩,
 ⟨some 31, some (.pick (.tmp 27) (.tmp 30) (.const (.bool false))), none⟩,
 ⟨some 6, some (.assign (.tmp 31)), none⟩])
  .ret)))
theorem Zf3 {a0 a1 a2 : AV} {H : AHeap} : R Z2 [a0, a1, a2] H = fnK Try.prog [] H [(.tmp 6)] (evalL Try.prog KT R Zca (Env.args [a0, a1, a2] 0) H) :=
  runs_body (D := DT) (f := Z2) Try.func59 (by kernel_rfl) (by kernel_rfl) (by kernel_rfl) (by kernel_rfl) (by kernel_rfl) (Nat.le_of_ble_eq_true rfl)
def Zbn : LCode := (.seq (.reg [] [⟨some 40, some (.binOp .lss Zd (.tmp 39) (.tmp 38) Zd), none⟩])
  (.seq (.cond (.tmp 40) .skip
  (.exit 2))
  (.seq (.block 3 (.seq (.reg [] [⟨some 41, some (.move (.tmp 39)), none⟩,
 ⟨some 9, some (.assign (.tmp 41)), none⟩])
  (.seq (.reg [] [⟨some 43, some (.fieldAddr Za (.tmp 7) 0), none⟩,
 ⟨some 44, some (.load Zd (.tmp 43)), none⟩,
 ⟨some 45, some (.call ⟨(.value (.func Zgw)), #[(.tmp 44), (.const (.int .u64 1)), (.const (.int .u64 0))], #[Zd, Ze, Ze]⟩), none⟩,
 ⟨some 42, some (.move (.tmp 45)), none⟩,
 ⟨some 46, some (.extract (.tmp 42) 0), none⟩,
 ⟨some 47, some (.extract (.tmp 42) 1), none⟩,
 ⟨some 10, some (.alloc Za), none⟩,
 ⟨none, some (.store Za (.tmp 10) (.tmp 46)), none⟩,
 ⟨some 11, some (.assign (.tmp 47)), none⟩])
  (.seq (.reg [3] [⟨some 48, some (.load Za (.tmp 7)), none⟩,
 ⟨some 49, some (.load Za (.tmp 10)), none⟩,
 ⟨some 50, some (.move (.tmp 9)), none⟩,
 ⟨some 51, some (.call ⟨(.value (.func Zfm)), #[.tmp 49, .tmp 50], #[Za, Zd]⟩), none⟩,
 ⟨some 52, some (.binOp .eql Za (.tmp 48) (.tmp 51) Za), none⟩])
  (.cond (.tmp 52) (.seq (.reg [] [⟨some 54, some (.fieldAddr Za (.tmp 7) 0), none⟩,
 ⟨some 55, some (.load Zd (.tmp 54)), none⟩,
 ⟨some 56, some (.move (.tmp 9)), none⟩,
 ⟨some 57, some (.convert Zd Ze (.tmp 56)), none⟩,
 ⟨some 58, some (.call ⟨(.value (.func Zgw)), #[(.tmp 55), (.tmp 57), (.const (.int .u64 0))], #[Zd, Ze, Ze]⟩), none⟩,
 ⟨some 53, some (.move (.tmp 58)), none⟩,
 ⟨some 59, some (.extract (.tmp 53) 0), none⟩,
 ⟨some 60, some (.extract (.tmp 53) 1), none⟩,
 ⟨some 12, some (.alloc Za), none⟩,
 ⟨none, some (.store Za (.tmp 12) (.tmp 59)), none⟩,
 ⟨some 13, some (.assign (.tmp 60)), none⟩])
  (.seq (.reg [2, 5, 997, 1006] [⟨some 61, some (.move (.tmp 0)), none⟩,
 ⟨some 62, some (.indexAddr Zd9 (.tmp 6) (.const (.int .i64 0))), none⟩,
 ⟨some 63, some (.load Zd (.tmp 62)), none⟩,
 ⟨some 64, some (.move (.tmp 0)), none⟩,
 ⟨some 65, some (.load Za (.tmp 12)), none⟩,
 ⟨some 66, some (.call ⟨(.value (.func Zg)), #[.tmp 64, .tmp 65], #[Zh, Za]⟩), none⟩,
 ⟨some 67, some (.build Zc #[(0, (.const (.int .i64 26))), (2, (.tmp 63)), (3, (.tmp 66))]), none⟩,
 ⟨some 68, some (.call ⟨(.value (.func Zk)), #[.tmp 61, .tmp 67], #[Zh, Zc]⟩), none⟩,
 ⟨some 4, some (.assign (.tmp 68)), none⟩])
  .ret))
  .skip)))))
  (.reg [] [⟨some 69, some (.binOp .add Zd (.tmp 39) (.const (.int .i64 1)) Zd), none⟩,
 ⟨some 39, some (.move (.tmp 69)), none⟩]))))
def Zbo : LCode := (.seq (.reg [] [⟨some 26, some (.binOp .lss Zd (.tmp 25) (.const (.int .i64 2)) Zd), none⟩])
  (.seq (.cond (.tmp 26) .skip
  (.exit 0))
  (.seq (.block 1 (.seq (.reg [] [⟨some 27, some (.index Zd2 (.tmp 24) (.tmp 25)), none⟩,
 ⟨some 6, some (.alloc Zd9), none⟩,
 ⟨none, some (.store Zd9 (.tmp 6) (.tmp 27)), none⟩])
  (.seq (.reg [] [⟨some 29, some (.move (.tmp 0)), none⟩,
 ⟨some 30, some (.indexAddr Zd9 (.tmp 6) (.const (.int .i64 1))), none⟩,
 ⟨some 31, some (.load Zd (.tmp 30)), none⟩,
 ⟨some 32, some (.call ⟨(.value (.func Zz)), #[.tmp 29, .tmp 31], #[Zh, Zd]⟩), none⟩,
 ⟨some 28, some (.move (.tmp 32)), none⟩,
 ⟨some 33, some (.extract (.tmp 28) 0), none⟩,
 ⟨some 34, some (.extract (.tmp 28) 1), none⟩,
 ⟨some 7, some (.alloc Za), none⟩,
 ⟨none, some (.store Za (.tmp 7) (.tmp 33)), none⟩,
 ⟨some 8, some (.assign (.tmp 34)), none⟩])
  (.seq (.seq (.reg [] [⟨some 35, some (.move (.tmp 8)), none⟩,
 ⟨some 36, some (.unOp .not Zbg (.tmp 35)), none⟩])
  (.cond (.tmp 36) (.exit 1)
  .skip))
  (.seq (.reg [] [⟨some 37, some (.fieldAddr Za (.tmp 7) 0), none⟩,
 ⟨some 38, some (.load Zd (.tmp 37)), none⟩,
 ⟨some 39, some (.move (.const (.int .i64 0))), none⟩])
  (.block 2 (.loop Zbn)))))))
  (.reg [] [⟨some 70, some (.binOp .add Zd (.tmp 25) (.const (.int .i64 1)) Zd), none⟩,
 ⟨some 25, some (.move (.tmp 70)), none⟩]))))
@[simp] theorem Zg6 : defs Zbn = [40, 41, 9, 43, 44, 45, 42, 46, 47, 10, 11, 48, 49, 50, 51, 52, 54, 55, 56, 57, 58, 53, 59, 60, 12, 13, 61, 62, 63, 64, 65, 66, 67, 68, 4, 69, 39] := by rfl
@[simp] theorem Zg7 : defs Zbo = [26, 27, 6, 29, 30, 31, 32, 28, 33, 34, 7, 8, 35, 36, 37, 38, 39, 40, 41, 9, 43, 44, 45, 42, 46, 47, 10, 11, 48, 49, 50, 51, 52, 54, 55, 56, 57, 58, 53, 59, 60, 12, 13, 61, 62, 63, 64, 65, 66, 67, 68, 4, 69, 39, 70, 25] := by rfl
def Zdj : LCode := (.seq (.reg [] [⟨some 3, some (.box Zc (.tmp 1)), none⟩,
 ⟨some 4, some (.assign (.const (.int .i64 0))), none⟩])
  (.seq (.seq (.reg [] [⟨some 14, some (.fieldAddr Zc (.tmp 3) 2), none⟩,
 ⟨some 15, some (.load Zd (.tmp 14)), none⟩,
 ⟨some 16, some (.fieldAddr Zc (.tmp 3) 3), none⟩,
 ⟨some 17, some (.load Zd (.tmp 16)), none⟩,
 ⟨some 18, some (.build Zd9 #[(0, (.tmp 15)), (1, (.tmp 17))]), none⟩,
 ⟨some 19, some (.fieldAddr Zc (.tmp 3) 3), none⟩,
 ⟨some 20, some (.load Zd (.tmp 19)), none⟩,
 ⟨some 21, some (.fieldAddr Zc (.tmp 3) 2), none⟩,
 ⟨some 22, some (.load Zd (.tmp 21)), none⟩,
 ⟨some 23, some (.build Zd9 #[(0, (.tmp 20)), (1, (.tmp 22))]), none⟩,
 ⟨some 24, some (.build Zd2 #[(0, (.tmp 18)), (1, (.tmp 23))]), none⟩,
 ⟨some 25, some (.move (.const (.int .i64 0))), none⟩])
  (.block 0 (.loop Zbo)))
  (.seq (.reg [] [⟨some 71, some (.move (.tmp 0)), none⟩,
 ⟨some 72, some (.load Zc (.tmp 3)), none⟩,
 ⟨some 73, some (.call ⟨(.value (.func Zf)), #[.tmp 71, .tmp 72], #[Zh, Zc]⟩), none⟩,
 ⟨some 4, some (.assign (.tmp 73)), none⟩])
  .ret)))
theorem Ze9 {a0 a1 : AV} {H : AHeap} : R Z1 [a0, a1] H = fnK Try.prog [] H [(.tmp 4)] (evalL Try.prog KT R Zdj (Env.args [a0, a1] 0) H) :=
  runs_body (D := DT) (f := Z1) Try.func60 (by kernel_rfl) (by kernel_rfl) (by kernel_rfl) (by kernel_rfl) (by kernel_rfl) (Nat.le_of_ble_eq_true rfl)
def Zi5 : LCode := (.seq (.reg [] [⟨some 2, some (.alloc Zb), none⟩])
  (.seq (.reg [] [⟨some 3, some (.build Zb #[]), none⟩,
 ⟨some 4, some (.call ⟨(.value (.func Zba)), #[.tmp 3], #[Zb]⟩), none⟩,
 ⟨some 5, some (.move (.tmp 0)), none⟩,
 ⟨some 6, some (.binOp .sub Zd (.const (.int .i64 128)) (.tmp 5) Zd), none⟩,
 ⟨some 7, some (.call ⟨(.value (.func Z3)), #[.tmp 4, .tmp 6], #[Zb, Zd]⟩), none⟩,
 ⟨none, some (.store Zb (.tmp 2) (.tmp 7)), none⟩])
  .ret))
theorem Zjx {a0 : AV} {H : AHeap} : R Zet [a0] H = fnK Try.prog [] H [(.cell 2 Zb)] (evalL Try.prog KT R Zi5 (Env.args [a0] 0) H) :=
  runs_body (D := DT) (f := Zet) Try.func61 (by kernel_rfl) (by kernel_rfl) (by kernel_rfl) (by kernel_rfl) (by kernel_rfl) (Nat.le_of_ble_eq_true rfl)
def Zbv : LCode := (.seq (.reg [] [⟨some 9, some (.binOp .lss Zd (.tmp 8) (.tmp 7) Zd), none⟩])
  (.seq (.cond (.tmp 9) .skip
  (.exit 0))
  (.seq (.block 1 (.seq (.reg [] [⟨some 10, some (.move (.tmp 8)), none⟩,
 ⟨some 5, some (.assign (.tmp 10)), none⟩])
  (.seq (.reg [] [⟨some 11, some (.move (.tmp 1)), none⟩,
 ⟨some 12, some (.move (.tmp 0)), none⟩,
 ⟨some 13, some (.move (.tmp 5)), none⟩,
 ⟨some 14, some (.indexAddr Z4 (.tmp 12) (.tmp 13)), none⟩,
 ⟨some 15, some (.load Zd (.tmp 14)), none⟩,
 ⟨some 16, some (.call ⟨(.value (.tmp 11)), #[.tmp 15], #[Zd]⟩), none⟩])
  (.cond (.tmp 16) (.seq (.reg [] [⟨some 17, some (.move (.tmp 5)), none⟩,
 ⟨some 4, some (.assign (.tmp 17)), none⟩])
  .ret)
  .skip))))
  (.reg [] [⟨some 18, some (.binOp .add Zd (.tmp 8) (.const (.int .i64 1)) Zd), none⟩,
 ⟨some 8, some (.move (.tmp 18)), none⟩]))))
@[simp] theorem Zhm : defs Zbv = [9, 10, 5, 11, 12, 13, 14, 15, 16, 17, 4, 18, 8] := by rfl
def Zef : LCode := (.seq (.reg [] [⟨some 4, some (.assign (.const (.int .i64 0))), none⟩])
  (.seq (.seq (.reg [] [⟨some 6, some (.move (.tmp 0)), none⟩,
 ⟨some 7, some (.call ⟨(.builtin .len), #[.tmp 6], #[Z4]⟩), none⟩,
 ⟨some 8, some (.move (.const (.int .i64 0))), none⟩])
  (.block 0 (.loop Zbv)))
  (.seq (.reg [] [⟨some 4, some (.assign (.const (.int .i64 (-1)))), none⟩])
  .ret)))
theorem Zfy {a0 a1 : AV} {H : AHeap} : R Zck [a0, a1] H = fnK Try.prog [] H [(.tmp 4)] (evalL Try.prog KT R Zef (Env.args [a0, a1] 0) H) :=
  runs_body (D := DT) (f := Zck) Try.func62 (by kernel_rfl) (by kernel_rfl) (by kernel_rfl) (by kernel_rfl) (by kernel_rfl) (Nat.le_of_ble_eq_true rfl)
def Zb2 : LCode := (.seq (.reg [] [⟨some 8, some (.assign (.const (.int .i64 0))), none⟩,
 ⟨some 9, some (.assign (.const (.bool false))), none⟩])
  (.seq (.seq (.reg [] [⟨some 10, some (.move (.tmp 0)), none⟩])
  (.block 0 (.seq (.reg [] [⟨some 12, some (.binOp .eql Zd (.tmp 10) (.const (.int .i64 39)) Zd), none⟩,
 ⟨some 11, some (.assign (.tmp 12)), none⟩])
  (.cond (.tmp 11) (.seq (.reg [] [⟨some 13, some (.move (.tmp 1)), none⟩,
 ⟨some 14, some (.move (.tmp 2)), none⟩,
 ⟨some 15, some (.binOp .sub Zd (.tmp 13) (.tmp 14) Zd), none⟩,
 ⟨some 16, some (.binOp .add Zd (.tmp 15) (.const (.int .i64 1)) Zd), none⟩,
 ⟨some 17, some (.move (.tmp 2)), none⟩,
 ⟨some 18, some (.binOp .geq Zd (.tmp 17) (.const (.int .i64 0)) Zd), none⟩,
 ⟨some 19, some (.move (.tmp 18)), none⟩,
 ⟨some 20, some (.move (.tmp 1)), some (some 19, true)⟩,
 ⟨some 21, some (.move (.tmp 2)), some (some 19, true)⟩,
 ⟨some 22, some (.binOp .geq Zd (.tmp 20) (.tmp 21) Zd), some (some 19, true)⟩,
 ⟨some 23, some (.pick (.tmp 19) (.tmp 22) (.const (.bool false))), none⟩,
 ⟨some 24, some (.move (.tmp 23)), none⟩,
 ⟨some 25, some (.move (.tmp 1)), some (some 24, true)⟩,
 ⟨some 26, some (.move (.tmp 3)), some (some 24, true)⟩,
 ⟨some 27, some (.binOp .lss Zd (.tmp 25) (.tmp 26) Zd), some (some 24, true)⟩,
 ⟨some 28, some (.pick (.tmp 24) (.tmp 27) (.const (.bool false))), none⟩,
 ⟨some 8, some (.assign (.tmp 16)), none⟩,
 ⟨some 9, some (.assign (.tmp 28)), none⟩])
  .ret)
  (.seq (.seq (.reg [] [⟨some 30, some (.binOp .eql Zd (.tmp 10) (.const (.int .i64 42)) Zd), none⟩,
 ⟨some 29, some (.assign (.tmp 30)), none⟩])
  (.cond (.tmp 29) .skip
  (.reg [] [⟨some 31, some (.binOp .eql Zd (.tmp 10) (.const (.int .i64 43)) Zd), none⟩,
 ⟨some 29, some (.assign (.tmp 31)), none⟩])))
  (.cond (.tmp 29) (.seq (.reg [] [⟨some 32, some (.move (.tmp 3)), none⟩,
 ⟨some 33, some (.move (.tmp 1)), none⟩,
 ⟨some 34, some (.binOp .geq Zd (.tmp 33) (.const (.int .i64 0)) Zd), none⟩,
 ⟨some 35, some (.move (.tmp 34)), none⟩,
 ⟨some 36, some (.move (.tmp 2)), some (some 35, true)⟩,
 ⟨some 37, some (.binOp .eql Zd (.tmp 36) (.const (.int .i64 0)) Zd), some (some 35, true)⟩,
 ⟨some 38, some (.pick (.tmp 35) (.tmp 37) (.const (.bool false))), none⟩,
 ⟨some 8, some (.assign (.tmp 32)), none⟩,
 ⟨some 9, some (.assign (.tmp 38)), none⟩])
  .ret)
  (.seq (.reg [] [⟨some 40, some (.binOp .eql Zd (.tmp 10) (.const (.int .i64 44)) Zd), none⟩,
 ⟨some 39, some (.assign (.tmp 40)), none⟩])
  (.cond (.tmp 39) (.seq (.reg [] [⟨some 41, some (.move (.tmp 3)), none⟩,
 ⟨some 42, some (.move (.tmp 1)), none⟩,
 ⟨some 43, some (.call ⟨(.builtin .min), #[(.tmp 42), (.const (.int .i64 129))], #[Zd, Zd]⟩), none⟩,
 ⟨some 44, some (.binOp .mul Zd (.tmp 41) (.tmp 43) Zd), none⟩,
 ⟨some 45, some (.move (.tmp 1)), none⟩,
 ⟨some 46, some (.binOp .geq Zd (.tmp 45) (.const (.int .i64 1)) Zd), none⟩,
 ⟨some 47, some (.move (.tmp 46)), none⟩,
 ⟨some 48, some (.move (.tmp 2)), some (some 47, true)⟩,
 ⟨some 49, some (.binOp .eql Zd (.tmp 48) (.const (.int .i64 0)) Zd), some (some 47, true)⟩,
 ⟨some 50, some (.pick (.tmp 47) (.tmp 49) (.const (.bool false))), none⟩,
 ⟨some 8, some (.assign (.tmp 44)), none⟩,
 ⟨some 9, some (.assign (.tmp 50)), none⟩])
  .ret)
  .skip))))))))
  (.seq (.reg [] [⟨some 51, some (.move (.tmp 3)), none⟩,
 ⟨some 52, some (.move (.tmp 1)), none⟩,
 ⟨some 53, some (.call ⟨(.builtin .max), #[(.tmp 52), (.const (.int .i64 0))], #[Zd, Zd]⟩), none⟩,
 ⟨some 54, some (.call ⟨(.builtin .min), #[(.tmp 53), (.const (.int .i64 128))], #[Zd, Zd]⟩), none⟩,
 ⟨some 55, some (.binOp .add Zd (.tmp 51) (.tmp 54) Zd), none⟩,
 ⟨some 56, some (.move (.tmp 1)), none⟩,
 ⟨some 57, some (.binOp .geq Zd (.tmp 56) (.const (.int .i64 0)) Zd), none⟩,
 ⟨some 58, some (.move (.tmp 57)), none⟩,
 ⟨some 59, some (.move (.tmp 2)), some (some 58, true)⟩,
 ⟨some 60, some (.binOp .eql Zd (.tmp 59) (.const (.int .i64 0)) Zd), some (some 58, true)⟩,
 ⟨some 61, some (.pick (.tmp 58) (.tmp 60) (.const (.bool false))), none⟩,
 ⟨some 8, some (.assign (.tmp 55)), none⟩,
 ⟨some 9, some (.assign (.tmp 61)), none⟩])
  .ret)))
theorem Zh7 {a0 a1 a2 a3 : AV} {H : AHeap} : R Zeu [a0, a1, a2, a3] H = fnK Try.prog [] H [(.tmp 8), (.tmp 9)] (evalL Try.prog KT R Zb2 (Env.args [a0, a1, a2, a3] 0) H) :=
  runs_body (D := DT) (f := Zeu) Try.func63 (by kernel_rfl) (by kernel_rfl) (by kernel_rfl) (by kernel_rfl) (by kernel_rfl) (Nat.le_of_ble_eq_true rfl)
def Zhn : LCode := (.seq (.reg [] [⟨some 1, some (.box Zg8 (.tmp 0)), none⟩,
 ⟨some 2, some (.alloc Zt), none⟩])
  (.seq (.reg [] [⟨some 3, some (.makeFunc (.func Zb6) #[] #[.tmp 1]), none⟩,
 ⟨some 4, some (.build Zt #[(0, (.tmp 3))]), none⟩,
 ⟨none, some (.store Zt (.tmp 2) (.tmp 4)), none⟩])
  .ret))
theorem Zi6 {a0 : AV} {H : AHeap} : R Zcx [a0] H = fnK Try.prog [] H [(.cell 2 Zt)] (evalL Try.prog KT R Zhn (Env.args [a0] 0) H) :=
  runs_body (D := DT) (f := Zcx) Try.func64 (by kernel_rfl) (by kernel_rfl) (by kernel_rfl) (by kernel_rfl) (by kernel_rfl) (Nat.le_of_ble_eq_true rfl)
def Zgx : LCode := (.seq (.reg [] [⟨some 2, some (.assign (.const (.bool false))), none⟩])
  (.seq (.reg [] [⟨some 3, some (.move (.tmp 0)), none⟩,
 ⟨some 4, some (.indexAddr Zp (.tmp 3) (.const (.int .i64 0))), none⟩,
 ⟨some 5, some (.load Za (.tmp 4)), none⟩,
 ⟨some 6, some (.call ⟨(.value (.func Zc2)), #[.tmp 5], #[Za]⟩), none⟩,
 ⟨some 7, some (.unOp .not Zbg (.tmp 6)), none⟩,
 ⟨some 2, some (.assign (.tmp 7)), none⟩])
  .ret))
theorem Zie {a0 : AV} {H : AHeap} : R Zdu [a0] H = fnK Try.prog [] H [(.tmp 2)] (evalL Try.prog KT R Zgx (Env.args [a0] 0) H) :=
  runs_body (D := DT) (f := Zdu) Try.func65 (by kernel_rfl) (by kernel_rfl) (by kernel_rfl) (by kernel_rfl) (by kernel_rfl) (Nat.le_of_ble_eq_true rfl)
def Zip : LCode := (.seq (.reg [] [⟨some 1, some (.box Za (.tmp 0)), none⟩,
 ⟨some 2, some (.assign (.const (.bool false))), none⟩])
  (.seq (.reg [] [⟨some 3, some (.fieldAddr Za (.tmp 1) 1), none⟩,
 ⟨some 4, some (.load Ze (.tmp 3)), none⟩,
 ⟨some 5, some (.binOp .eql Ze (.tmp 4) (.const (.int .u64 1)) Ze), none⟩,
 ⟨some 2, some (.assign (.tmp 5)), none⟩])
  .ret))
theorem Zjr {a0 : AV} {H : AHeap} : R Zc2 [a0] H = fnK Try.prog [] H [(.tmp 2)] (evalL Try.prog KT R Zip (Env.args [a0] 0) H) :=
  runs_body (D := DT) (f := Zc2) Try.func66 (by kernel_rfl) (by kernel_rfl) (by kernel_rfl) (by kernel_rfl) (by kernel_rfl) (Nat.le_of_ble_eq_true rfl)
def Zgy : LCode := (.seq (.reg [] [⟨some 2, some (.assign (.const (.bool false))), none⟩])
  (.seq (.reg [] [⟨some 3, some (.move (.tmp 0)), none⟩,
 ⟨some 4, some (.indexAddr Zp (.tmp 3) (.const (.int .i64 0))), none⟩,
 ⟨some 5, some (.load Za (.tmp 4)), none⟩,
 ⟨some 6, some (.call ⟨(.value (.func Zc2)), #[.tmp 5], #[Za]⟩), none⟩,
 ⟨some 7, some (.move (.tmp 6)), none⟩,
 ⟨some 8, some (.move (.tmp 0)), some (some 7, true)⟩,
 ⟨some 9, some (.indexAddr Zp (.tmp 8) (.const (.int .i64 1))), some (some 7, true)⟩,
 ⟨some 10, some (.load Za (.tmp 9)), some (some 7, true)⟩,
 ⟨some 11, some (.call ⟨(.value (.func Zc2)), #[.tmp 10], #[Za]⟩), some (some 7, true)⟩,
 ⟨some 12, some (.pick (.tmp 7) (.tmp 11) (.const (.bool false))), none⟩,
 ⟨some 2, some (.assign (.tmp 12)), none⟩])
  .ret))
theorem Zif {a0 : AV} {H : AHeap} : R Zdv [a0] H = fnK Try.prog [] H [(.tmp 2)] (evalL Try.prog KT R Zgy (Env.args [a0] 0) H) :=
  runs_body (D := DT) (f := Zdv) Try.func67 (by kernel_rfl) (by kernel_rfl) (by kernel_rfl) (by kernel_rfl) (by kernel_rfl) (Nat.le_of_ble_eq_true rfl)
end Go.Proofs.Ytiobohfiaapgeaa
end
