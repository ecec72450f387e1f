/- Texts AT1 of this claim, one behind the other. -/
import Derived.Test.YtiaoojghohfkjaaGreatChecked
import Derived.Test.YtiaoojghohfkjaaGreatK3
section
namespace Go.Proofs.YtiaoojghohfkjaaGreat
open Go.RowKit
def Zc : TypeId := 3
def Zi : TypeId := 4
def Zbd : TypeId := 9
def Zh : TypeId := 22
def Zj : TypeId := 23
def Zk : TypeId := 24
def Zr : TypeId := 26
def Zbu : TypeId := 27
def Zl : TypeId := 31
def Ze : TypeId := 32
def Za : TypeId := 34
def Zfd : TypeId := 35
def Zf : TypeId := 40
def Zd : TypeId := 51
def Z3 : TypeId := 53
def Zbn : TypeId := 59
def Zcq : TypeId := 71
def Zdk : TypeId := 72
def Zt : TypeId := 74
def Zna : TypeId := 79
def Zn : TypeId := 81
def Znb : TypeId := 85
def Zbz : TypeId := 89
def Zg : TypeId := 90
def Zf7 : TypeId := 100
def Zb : TypeId := 103
def Zjb : TypeId := 108
def Zfo : TypeId := 139
def Zcc : FuncId := 3
def Zel : FuncId := 4
def Zeu : FuncId := 5
def Zdt : FuncId := 6
def Zc8 : FuncId := 7
def Ze0 : FuncId := 8
def Zcu : FuncId := 9
def Zc0 : FuncId := 10
def Zdc : FuncId := 11
def Zgg : FuncId := 12
def Zu : FuncId := 13
def Zfe : FuncId := 14
def Zff : FuncId := 15
def Z2 : FuncId := 16
def Zfz : FuncId := 17
def Zf0 : FuncId := 18
def Zbr : FuncId := 19
def Zev : FuncId := 20
def Zcd : FuncId := 21
def Zp : FuncId := 22
def Zdp : FuncId := 23
def Zch : FuncId := 24
def Zba : FuncId := 25
def Zg9 : FuncId := 26
def Zbs : FuncId := 27
def Zcx : FuncId := 28
def Zcy : FuncId := 29
def Ze1 : FuncId := 30
def Zgh : FuncId := 31
def Zf1 : FuncId := 32
def Zhk : FuncId := 33
def Zcr : FuncId := 34
def Zfr : FuncId := 35
def Zbv : FuncId := 36
def Zc9 : FuncId := 37
def Zbo : FuncId := 38
def Zf2 : FuncId := 39
def Z0 : FuncId := 40
def Z4 : FuncId := 41
def Z9 : FuncId := 42
def Zbi : FuncId := 43
def Zdu : FuncId := 44
def Zc4 : FuncId := 45
def Zdv : FuncId := 46
def Zc5 : FuncId := 47
def Zci : FuncId := 48
def Zc6 : FuncId := 49
def Zc1 : FuncId := 50
def Zha : FuncId := 51
def Zd2 : FuncId := 52
def Zcv : FuncId := 53
def Zcb : FuncId := 54
def Zep : FuncId := 55
def Zhy : FuncId := 56
def Zdl : FuncId := 57
def Ze2 : FuncId := 58
def Zdq : FuncId := 59
def Ze3 : FuncId := 60
def Ze4 : FuncId := 61
def Zei : FuncId := 62
def Ze5 : FuncId := 63
def Ze6 : FuncId := 64
def Ze7 : FuncId := 65
def Zbq : FuncId := 66
def Zhl : FuncId := 67
def Zeq : FuncId := 68
def Zf3 : FuncId := 69
def Zgi : FuncId := 70
def Zfg : FuncId := 71
def Zgj : FuncId := 72
def Zhm : FuncId := 73
def Zek : FuncId := 74
def Zdr : FuncId := 75
def Zd4 : FuncId := 76
def Zbh : FuncId := 77
def Zcj : FuncId := 78
def Zck : FuncId := 79
def Z6 : FuncId := 80
def Zds : FuncId := 81
def Zcl : FuncId := 82
def Zb1 : FuncId := 83
def Zf8 : FuncId := 84
def Zcs : FuncId := 85
def Zf9 : FuncId := 86
def Zb4 : FuncId := 87
def Zga : FuncId := 88
def Zdw : FuncId := 89
def Z5 : FuncId := 90
def Zbb : FuncId := 91
def Z1 : FuncId := 92
def Zx : FuncId := 93
def Zcp : FuncId := 94
def Zf4 : FuncId := 95
def Zer : FuncId := 96
def Zf5 : FuncId := 97
def Zfk : FuncId := 98
def Zb5 : FuncId := 99
def Zfw : FuncId := 100
def Zdx : FuncId := 101
def Zem : FuncId := 102
def Zb6 : FuncId := 103
def Zb0 : FuncId := 104
def Zew : FuncId := 105
def Zcz : FuncId := 106
def Zcm : FuncId := 107
def Zda : FuncId := 108
def Zbc : FuncId := 109
def Zce : FuncId := 110
def Zbe : FuncId := 111
def Zcf : FuncId := 112
def Zc2 : FuncId := 113
def Zex : FuncId := 114
def Zes : FuncId := 115
def Zhr : FuncId := 116
def Z8 : FuncId := 117
def Zd5 : FuncId := 118
def Zfl : FuncId := 119
def Zfm : FuncId := 120
def Zc3 : FuncId := 121
def KT : TypeId → Option (List Sc) := fun t => if t = Za then some [(.i .i64), (.i .u64), (.i .u64)] else if t = Zd then some [(.i .i64), (.i .i64), (.i .i64), (.i .i64), (.i .i64), (.i .i64), (.i .i64), (.i .i64), (.i .u64), (.i .u64), .s] else if t = Z3 then some [.s, (.i .i64), (.i .u64), (.i .u64)] else if t = Zb then some [(.i .u64), (.i .u64)] else none
def DT : Quiets := fun f r => if f = Zc8 then (if r = 11 then [14, 16] else []) else if f = Ze0 then (if r = 1000000 then [0, 0] else []) else if f = Zc0 then (if r = 1000000 then [0] else []) else if f = Zdc then (if r = 1000000 then [0] else []) else if f = Zfz then (if r = 10 then [14, 15, 6215] else []) else if f = Zbr then (if r = 12 then [5, 8, 10, 12] else if r = 1000000 then [0] else []) else if f = Zcd then (if r = 5 then [1, 2] else []) else if f = Zch then (if r = 1000000 then [0] else []) else if f = Zbs then (if r = 1000000 then [0] else []) else if f = Ze1 then (if r = 3 then [12, 13] else []) else if f = Zbo then (if r = 12 then [5, 8, 10, 12] else if r = 1000000 then [0] else []) else if f = Zc4 then (if r = 3 then [1] else []) else if f = Zc1 then (if r = 3 then [1] else []) else if f = Zei then (if r = 1 then [3] else []) else if f = Zhl then (if r = 4 then [3, 4] else if r = 6 then [3, 4] else []) else if f = Zeq then (if r = 3 then [1, 5] else []) else if f = Zfg then (if r = 8 then [1, 3, 5, 11, 12] else []) else if f = Zhm then (if r = 4 then [4, 6, 7] else if r = 6 then [5] else if r = 8 then [5] else []) else if f = Zcj then (if r = 1000000 then [0] else []) else if f = Zck then (if r = 1 then [1, 4] else if r = 1000000 then [0] else []) else if f = Zds then (if r = 1000000 then [0, 0] else []) else if f = Zcl then (if r = 1000000 then [0] else []) else if f = Zcp then (if r = 1 then [1] else []) else if f = Zer then (if r = 1 then [1, 4, 5] else if r = 16 then [3, 5, 10, 11] else if r = 17 then [1, 3] else if r = 19 then [3, 5, 10, 11] else if r = 20 then [1] else []) else if f = Zfk then (if r = 1 then [1, 4, 5] else []) else if f = Zb5 then (if r = 1000000 then [0] else []) else if f = Zdx then (if r = 1000000 then [0] else []) else if f = Zem then (if r = 1000000 then [0] else []) else if f = Zb6 then (if r = 1 then [5] else if r = 1000000 then [0, 0] else []) else if f = Zb0 then (if r = 1000000 then [0] else []) else if f = Zew then (if r = 1000000 then [0] else []) else if f = Zda then (if r = 1000000 then [0] else []) else if f = Zbe then (if r = 1 then [2] else []) else if f = Zc2 then (if r = 2 then [1, 2, 3, 1006] else []) else if f = Zex then (if r = 2 then [3, 4] else []) else if f = Zhr then (if r = 1 then [3, 5, 10, 11] else if r = 5 then [1] else if r = 7 then [2] else []) else if f = Zc3 then (if r = 10 then [3] else if r = 11 then [1, 2, 999, 1005] else []) else []
noncomputable def R : Calling := runs Tryz.prog KT DT
theorem good : Good Tryz.prog KT := by
  refine ⟨fun t sh h => ?_, Tryz.checked.mixed⟩
  unfold KT at h
  split at h
  · rename_i ht; subst ht; cases h; exact keyOK_of (d := 8) (by kernel_rfl) (by omega) (by kernel_rfl) (by kernel_rfl)
  split at h
  · rename_i ht; subst ht; cases h; exact keyOK_of (d := 8) (by kernel_rfl) (by omega) (by kernel_rfl) (by kernel_rfl)
  split at h
  · rename_i ht; subst ht; cases h; exact keyOK_of (d := 8) (by kernel_rfl) (by omega) (by kernel_rfl) (by kernel_rfl)
  split at h
  · rename_i ht; subst ht; cases h; exact keyOK_of (d := 8) (by kernel_rfl) (by omega) (by kernel_rfl) (by kernel_rfl)
  cases h
@[simp] theorem ty0 : lnS Tryz.prog Zj = .slice := by kernel_rfl
@[simp] theorem ty1 : lnS Tryz.prog Zk = .slice := by kernel_rfl
@[simp] theorem ty2 : faS Tryz.prog Zl 0 = some 0 := by kernel_rfl
@[simp] theorem ty3 : ldS Tryz.prog Zh = some none := by kernel_rfl
@[simp] theorem ty4 : lnS Tryz.prog Zh = .slice := by kernel_rfl
@[simp] theorem ty5 : tZ Tryz.prog Za = some [(.int .i64 0), (u 0#64), (u 0#64)] := by kernel_rfl
@[simp] theorem ty6 : tS Tryz.prog Za = some 3 := by kernel_rfl
@[simp] theorem ty7 : ldS Tryz.prog Za = some (some 3) := by kernel_rfl
@[simp] theorem ty8 : KT Za = some [(.i .i64), (.i .u64), (.i .u64)] := by kernel_rfl
@[simp] theorem ty9 : eszS Tryz.prog Zk = some 1 := by kernel_rfl
@[simp] theorem ty10 : ldS Tryz.prog Zc = some none := by kernel_rfl
@[simp] theorem ty11 : lnS Tryz.prog Zf = .slice := by kernel_rfl
@[simp] theorem ty12 : eszS Tryz.prog Zf = some 3 := by kernel_rfl
@[simp] theorem ty13 : eqS Tryz.prog Zr = .ptr := by kernel_rfl
@[simp] theorem ty14 : tZ Tryz.prog Zd = some [(.int .i64 0), (.int .i64 0), (.int .i64 0), (.int .i64 0), (.int .i64 0), (.int .i64 0), (.int .i64 0), (.int .i64 0), (u 0#64), (u 0#64), (.str .empty)] := by kernel_rfl
@[simp] theorem ty15 : blS Tryz.prog Zd = some true := by kernel_rfl
@[simp] theorem ty16 : plS Tryz.prog Zd 0 = some (0, 1) := by kernel_rfl
@[simp] theorem ty17 : plS Tryz.prog Zd 1 = some (1, 1) := by kernel_rfl
@[simp] theorem ty18 : plS Tryz.prog Zd 8 = some (10, 1) := by kernel_rfl
@[simp] theorem ty19 : plS Tryz.prog Zd 2 = some (2, 1) := by kernel_rfl
@[simp] theorem ty20 : plS Tryz.prog Zd 3 = some (3, 1) := by kernel_rfl
@[simp] theorem ty21 : blS Tryz.prog Za = some true := by kernel_rfl
@[simp] theorem ty22 : plS Tryz.prog Za 0 = some (0, 1) := by kernel_rfl
@[simp] theorem ty23 : plS Tryz.prog Za 1 = some (1, 1) := by kernel_rfl
@[simp] theorem ty24 : tZ Tryz.prog Z3 = some [(.str .empty), (.int .i64 0), (u 0#64), (u 0#64)] := by kernel_rfl
@[simp] theorem ty25 : blS Tryz.prog Z3 = some true := by kernel_rfl
@[simp] theorem ty26 : plS Tryz.prog Z3 0 = some (0, 1) := by kernel_rfl
@[simp] theorem ty27 : plS Tryz.prog Z3 1 = some (1, 3) := by kernel_rfl
@[simp] theorem ty28 : bsS Tryz.prog Zj = some (4, [(.str .empty), (.int .i64 0), (u 0#64), (u 0#64)]) := by kernel_rfl
@[simp] theorem ty29 : bsS Tryz.prog Zf = some (3, [(.int .i64 0), (u 0#64), (u 0#64)]) := by kernel_rfl
@[simp] theorem ty30 : bsS Tryz.prog Zk = some (1, [(.int .i64 0)]) := by kernel_rfl
@[simp] theorem ty31 : tS Tryz.prog Zd = some 11 := by kernel_rfl
@[simp] theorem ty32 : mkeyS Tryz.prog KT Zbz = some (.one (.i .i64)) := by kernel_rfl
@[simp] theorem ty33 : mapS Tryz.prog KT Zbz = some ((.one (.i .i64)), (.agg [(.int .i64 0), (u 0#64), (u 0#64)])) := by kernel_rfl
@[simp] theorem ty34 : faS Tryz.prog Zd 0 = some 0 := by kernel_rfl
@[simp] theorem ty35 : faS Tryz.prog Zd 7 = some 7 := by kernel_rfl
@[simp] theorem ty36 : faS Tryz.prog Zd 8 = some 10 := by kernel_rfl
@[simp] theorem ty37 : ldS Tryz.prog Zbd = some none := by kernel_rfl
@[simp] theorem ty38 : mkeyS Tryz.prog KT Zbn = some (.one .s) := by kernel_rfl
@[simp] theorem ty39 : mapS Tryz.prog KT Zbn = some ((.one .s), (.agg [(.int .i64 0), (u 0#64), (u 0#64)])) := by kernel_rfl
@[simp] theorem ty40 : faS Tryz.prog Zd 1 = some 1 := by kernel_rfl
@[simp] theorem ty41 : faS Tryz.prog Zd 2 = some 2 := by kernel_rfl
@[simp] theorem ty42 : faS Tryz.prog Zd 3 = some 3 := by kernel_rfl
@[simp] theorem ty43 : faS Tryz.prog Zd 4 = some 4 := by kernel_rfl
@[simp] theorem ty44 : faS Tryz.prog Zd 5 = some 5 := by kernel_rfl
@[simp] theorem ty45 : faS Tryz.prog Zd 6 = some 6 := by kernel_rfl
@[simp] theorem ty46 : mkS Tryz.prog Zk = some (1, 8, [(.int .i64 0)]) := by kernel_rfl
@[simp] theorem ty47 : faS Tryz.prog Za 0 = some 0 := by kernel_rfl
@[simp] theorem ty48 : tS Tryz.prog Zc = some 1 := by kernel_rfl
@[simp] theorem ty49 : tZ Tryz.prog Zn = some [.nilf] := by kernel_rfl
@[simp] theorem ty50 : tS Tryz.prog Zn = some 1 := by kernel_rfl
@[simp] theorem ty51 : faS Tryz.prog Zn 0 = some 0 := by kernel_rfl
@[simp] theorem ty52 : ldS Tryz.prog Zna = some none := by kernel_rfl
@[simp] theorem ty53 : faS Tryz.prog Za 1 = some 1 := by kernel_rfl
@[simp] theorem ty54 : ldS Tryz.prog Ze = some none := by kernel_rfl
@[simp] theorem ty55 : faS Tryz.prog Za 2 = some 2 := by kernel_rfl
@[simp] theorem ty56 : tZ Tryz.prog Zb = some [(u 0#64), (u 0#64)] := by kernel_rfl
@[simp] theorem ty57 : tS Tryz.prog Zb = some 2 := by kernel_rfl
@[simp] theorem ty58 : faS Tryz.prog Zb 0 = some 0 := by kernel_rfl
@[simp] theorem ty59 : faS Tryz.prog Zb 1 = some 1 := by kernel_rfl
@[simp] theorem ty60 : plS Tryz.prog Za 2 = some (2, 1) := by kernel_rfl
@[simp] theorem ty61 : blS Tryz.prog Zb = some true := by kernel_rfl
@[simp] theorem ty62 : ldS Tryz.prog Zb = some (some 2) := by kernel_rfl
@[simp] theorem ty63 : plS Tryz.prog Zb 0 = some (0, 1) := by kernel_rfl
@[simp] theorem ty64 : plS Tryz.prog Zb 1 = some (1, 1) := by kernel_rfl
@[simp] theorem ty65 : cvS Tryz.prog Zc Zfo = some (some .u64) := by kernel_rfl
@[simp] theorem ty66 : blS Tryz.prog Zn = some true := by kernel_rfl
@[simp] theorem ty67 : plS Tryz.prog Zn 0 = some (0, 1) := by kernel_rfl
@[simp] theorem ty68 : ldS Tryz.prog Zn = some (some 1) := by kernel_rfl
@[simp] theorem ty69 : ldS Tryz.prog Zjb = some none := by kernel_rfl
@[simp] theorem ty70 : eqS Tryz.prog Zi = .bool := by kernel_rfl
@[simp] theorem ty71 : fdS Tryz.prog Zb 0 = some (0, none) := by kernel_rfl
@[simp] theorem ty72 : fdS Tryz.prog Za 1 = some (1, none) := by kernel_rfl
@[simp] theorem ty73 : KT Zb = some [(.i .u64), (.i .u64)] := by kernel_rfl
@[simp] theorem ty74 : tS Tryz.prog Ze = some 1 := by kernel_rfl
@[simp] theorem ty75 : cvS Tryz.prog Zc Ze = some (some .u64) := by kernel_rfl
@[simp] theorem ty76 : cvS Tryz.prog Ze Zc = some (some .i64) := by kernel_rfl
@[simp] theorem ty77 : faS Tryz.prog Zt 1 = some 1 := by kernel_rfl
@[simp] theorem ty78 : eszS Tryz.prog Zh = some 11 := by kernel_rfl
@[simp] theorem ty79 : ldS Tryz.prog Zd = some (some 11) := by kernel_rfl
@[simp] theorem ty80 : mkS Tryz.prog Zg = some (1, 1, [(.bool false)]) := by kernel_rfl
@[simp] theorem ty81 : eszS Tryz.prog Zg = some 1 := by kernel_rfl
@[simp] theorem ty82 : tS Tryz.prog Zi = some 1 := by kernel_rfl
@[simp] theorem ty83 : ldS Tryz.prog Zi = some none := by kernel_rfl
@[simp] theorem ty84 : eszS Tryz.prog Zj = some 4 := by kernel_rfl
@[simp] theorem ty85 : ldS Tryz.prog Z3 = some (some 4) := by kernel_rfl
@[simp] theorem ty86 : tS Tryz.prog Z3 = some 4 := by kernel_rfl
@[simp] theorem ty87 : faS Tryz.prog Z3 0 = some 0 := by kernel_rfl
@[simp] theorem ty88 : faS Tryz.prog Z3 1 = some 1 := by kernel_rfl
@[simp] theorem ty89 : mkS Tryz.prog Zf = some (3, 24, [(.int .i64 0), (u 0#64), (u 0#64)]) := by kernel_rfl
@[simp] theorem ty90 : KT Z3 = some [.s, (.i .i64), (.i .u64), (.i .u64)] := by kernel_rfl
@[simp] theorem ty91 : mkS Tryz.prog Zj = some (4, 40, [(.str .empty), (.int .i64 0), (u 0#64), (u 0#64)]) := by kernel_rfl
@[simp] theorem ty92 : mkeyS Tryz.prog KT Zcq = some (.many [(.i .i64), (.i .i64), (.i .i64), (.i .i64), (.i .i64), (.i .i64), (.i .i64), (.i .i64), (.i .u64), (.i .u64), .s]) := by kernel_rfl
@[simp] theorem ty93 : mapS Tryz.prog KT Zcq = some ((.many [(.i .i64), (.i .i64), (.i .i64), (.i .i64), (.i .i64), (.i .i64), (.i .i64), (.i .i64), (.i .u64), (.i .u64), .s]), (.int .i64 0)) := by kernel_rfl
@[simp] theorem ty94 : mkeyS Tryz.prog KT Zdk = some (.one .s) := by kernel_rfl
@[simp] theorem ty95 : mapS Tryz.prog KT Zdk = some ((.one .s), (.int .i64 0)) := by kernel_rfl
@[simp] theorem ty96 : tZ Tryz.prog Zt = some [(.int .i64 0), .nils, .nilm, .nilm] := by kernel_rfl
@[simp] theorem ty97 : blS Tryz.prog Zt = some true := by kernel_rfl
@[simp] theorem ty98 : plS Tryz.prog Zt 0 = some (0, 1) := by kernel_rfl
@[simp] theorem ty99 : plS Tryz.prog Zt 2 = some (2, 1) := by kernel_rfl
@[simp] theorem ty100 : plS Tryz.prog Zt 3 = some (3, 1) := by kernel_rfl
@[simp] theorem ty101 : faS Tryz.prog Zt 2 = some 2 := by kernel_rfl
@[simp] theorem ty102 : ldS Tryz.prog Zcq = some none := by kernel_rfl
@[simp] theorem ty103 : faS Tryz.prog Zt 0 = some 0 := by kernel_rfl
@[simp] theorem ty104 : bsS Tryz.prog Zh = some (11, [(.int .i64 0), (.int .i64 0), (.int .i64 0), (.int .i64 0), (.int .i64 0), (.int .i64 0), (.int .i64 0), (.int .i64 0), (u 0#64), (u 0#64), (.str .empty)]) := by kernel_rfl
@[simp] theorem ty105 : mkS Tryz.prog Zh = some (11, 96, [(.int .i64 0), (.int .i64 0), (.int .i64 0), (.int .i64 0), (.int .i64 0), (.int .i64 0), (.int .i64 0), (.int .i64 0), (u 0#64), (u 0#64), (.str .empty)]) := by kernel_rfl
@[simp] theorem ty106 : tS Tryz.prog Zh = some 1 := by kernel_rfl
@[simp] theorem ty107 : faS Tryz.prog Zt 3 = some 3 := by kernel_rfl
@[simp] theorem ty108 : ldS Tryz.prog Zdk = some none := by kernel_rfl
@[simp] theorem ty109 : tZ Tryz.prog Zf7 = some [(.int .i64 0), (.int .i64 0), (.int .i64 0)] := by kernel_rfl
@[simp] theorem ty110 : blS Tryz.prog Zf7 = some true := by kernel_rfl
@[simp] theorem ty111 : plS Tryz.prog Zf7 0 = some (0, 1) := by kernel_rfl
@[simp] theorem ty112 : plS Tryz.prog Zf7 1 = some (1, 1) := by kernel_rfl
@[simp] theorem ty113 : plS Tryz.prog Zf7 2 = some (2, 1) := by kernel_rfl
@[simp] theorem ty114 : arrS Tryz.prog Zf7 = some (3, 1) := by kernel_rfl
@[simp] theorem ty115 : arrL Tryz.prog Zf7 = some none := by kernel_rfl
@[simp] theorem ty116 : lnS Tryz.prog Zbd = .str := by kernel_rfl
@[simp] theorem ty117 : tZ Tryz.prog Zl = some [.nils, (.int .i64 0)] := by kernel_rfl
@[simp] theorem ty118 : blS Tryz.prog Zl = some true := by kernel_rfl
@[simp] theorem ty119 : plS Tryz.prog Zl 1 = some (1, 1) := by kernel_rfl
@[simp] theorem ty120 : KT Zd = some [(.i .i64), (.i .i64), (.i .i64), (.i .i64), (.i .i64), (.i .i64), (.i .i64), (.i .i64), (.i .u64), (.i .u64), .s] := by kernel_rfl
@[simp] theorem ty121 : faS Tryz.prog Zl 1 = some 1 := by kernel_rfl
@[simp] theorem ty122 : lnS Tryz.prog Zg = .slice := by kernel_rfl
@[simp] theorem ty123 : bsS Tryz.prog Zg = some (1, [(.bool false)]) := by kernel_rfl
def Zcn : LCode := (.seq (.seq (.reg [] [⟨some 38, some (.move (.tmp 10)), none⟩,
 ⟨some 39, some (.move (.tmp 8)), none⟩,
 ⟨some 40, some (.nilCheck (.tmp 39)), none⟩,
 ⟨some 41, some (.fieldAddr Zl (.tmp 40) 0), none⟩,
 ⟨some 42, some (.load Zh (.tmp 41)), none⟩,
 ⟨some 43, some (.call ⟨(.builtin .len), #[.tmp 42], #[Zh]⟩), none⟩,
 ⟨some 44, some (.binOp .leq Zc (.tmp 38) (.tmp 43) Zc), none⟩])
  (.cond (.tmp 44) .skip
  (.exit 0)))
  (.seq (.block 1 (.seq (.reg [] [⟨some 48, some (.move (.tmp 7)), none⟩,
 ⟨some 49, some (.move (.tmp 10)), none⟩,
 ⟨some 50, some (.move (.tmp 1)), none⟩,
 ⟨some 51, some (.call ⟨(.value (.func Zdt)), #[.tmp 48, .tmp 49, .tmp 50], #[Zr, Zc, Zj]⟩), none⟩,
 ⟨some 47, some (.move (.tmp 51)), none⟩,
 ⟨some 52, some (.extract (.tmp 47) 0), none⟩,
 ⟨some 53, some (.extract (.tmp 47) 1), none⟩,
 ⟨some 11, some (.alloc Za), none⟩,
 ⟨none, some (.store Za (.tmp 11) (.tmp 52)), none⟩,
 ⟨some 12, some (.assign (.tmp 53)), none⟩])
  (.seq (.reg [] [⟨some 55, some (.move (.tmp 8)), none⟩,
 ⟨some 56, some (.move (.tmp 10)), none⟩,
 ⟨some 57, some (.move (.tmp 1)), none⟩,
 ⟨some 58, some (.call ⟨(.value (.func Zc8)), #[.tmp 55, .tmp 56, .tmp 57], #[Zbu, Zc, Zj]⟩), none⟩,
 ⟨some 54, some (.move (.tmp 58)), none⟩,
 ⟨some 59, some (.extract (.tmp 54) 0), none⟩,
 ⟨some 60, some (.extract (.tmp 54) 1), none⟩,
 ⟨some 13, some (.alloc Za), none⟩,
 ⟨none, some (.store Za (.tmp 13) (.tmp 59)), none⟩,
 ⟨some 14, some (.assign (.tmp 60)), none⟩])
  (.seq (.reg [] [⟨some 61, some (.load Za (.tmp 11)), none⟩,
 ⟨some 62, some (.load Za (.tmp 13)), none⟩,
 ⟨some 63, some (.binOp .neq Za (.tmp 61) (.tmp 62) Za), none⟩,
 ⟨some 64, some (.move (.tmp 63)), none⟩,
 ⟨some 65, some (.move (.tmp 12)), some (some 64, false)⟩,
 ⟨some 66, some (.move (.tmp 14)), some (some 64, false)⟩,
 ⟨some 67, some (.binOp .neq Zc (.tmp 65) (.tmp 66) Zc), some (some 64, false)⟩,
 ⟨some 68, some (.pick (.tmp 64) (.const (.bool true)) (.tmp 67)), none⟩])
  (.cond (.tmp 68) (.seq (.reg [] [⟨some 6, some (.assign (.const (.bool false))), none⟩])
  .ret)
  .skip)))))
  (.reg [] [⟨some 45, some (.move (.tmp 10)), none⟩,
 ⟨some 46, some (.binOp .add Zc (.tmp 45) (.const (.int .i64 1)) Zc), none⟩,
 ⟨some 10, some (.assign (.tmp 46)), none⟩])))
def Zbf : LCode := (.seq (.seq (.reg [] [⟨some 76, some (.move (.tmp 17)), none⟩,
 ⟨some 77, some (.move (.tmp 2)), none⟩,
 ⟨some 78, some (.call ⟨(.builtin .len), #[.tmp 77], #[Zk]⟩), none⟩,
 ⟨some 79, some (.binOp .lss Zc (.tmp 76) (.tmp 78) Zc), none⟩])
  (.cond (.tmp 79) .skip
  (.exit 2)))
  (.seq (.block 3 (.seq (.reg [] [⟨some 83, some (.move (.tmp 8)), none⟩,
 ⟨some 84, some (.move (.tmp 2)), none⟩,
 ⟨some 85, some (.move (.tmp 17)), none⟩,
 ⟨some 86, some (.indexAddr Zk (.tmp 84) (.tmp 85)), none⟩,
 ⟨some 87, some (.load Zc (.tmp 86)), none⟩,
 ⟨some 88, some (.move (.tmp 1)), none⟩,
 ⟨some 89, some (.call ⟨(.value (.func Zc8)), #[.tmp 83, .tmp 87, .tmp 88], #[Zbu, Zc, Zj]⟩), none⟩,
 ⟨some 82, some (.move (.tmp 89)), none⟩,
 ⟨some 90, some (.extract (.tmp 82) 0), none⟩,
 ⟨some 91, some (.extract (.tmp 82) 1), none⟩,
 ⟨some 18, some (.alloc Za), none⟩,
 ⟨none, some (.store Za (.tmp 18) (.tmp 90)), none⟩,
 ⟨some 19, some (.assign (.tmp 91)), none⟩])
  (.seq (.seq (.reg [] [⟨some 92, some (.move (.tmp 19)), none⟩,
 ⟨some 93, some (.binOp .neq Zc (.tmp 92) (.const (.int .i64 0)) Zc), none⟩])
  (.cond (.tmp 93) (.seq (.reg [] [⟨some 94, some (.move (.tmp 16)), none⟩,
 ⟨some 95, some (.move (.tmp 19)), none⟩,
 ⟨some 96, some (.binOp .eql Zc (.tmp 94) (.tmp 95) Zc), none⟩,
 ⟨some 97, some (.move (.tmp 96)), none⟩,
 ⟨some 98, some (.move (.tmp 15)), some (some 97, true)⟩,
 ⟨some 99, some (.call ⟨(.builtin .len), #[.tmp 98], #[Zf]⟩), some (some 97, true)⟩,
 ⟨some 100, some (.binOp .eql Zc (.tmp 99) (.const (.int .i64 0)) Zc), some (some 97, true)⟩,
 ⟨some 101, some (.pick (.tmp 97) (.tmp 100) (.const (.bool false))), none⟩,
 ⟨some 6, some (.assign (.tmp 101)), none⟩])
  .ret)
  .skip))
  (.seq (.reg [] [⟨some 102, some (.move (.tmp 17)), none⟩,
 ⟨some 103, some (.move (.tmp 15)), none⟩,
 ⟨some 104, some (.call ⟨(.builtin .len), #[.tmp 103], #[Zf]⟩), none⟩,
 ⟨some 105, some (.binOp .lss Zc (.tmp 102) (.tmp 104) Zc), none⟩,
 ⟨some 106, some (.move (.tmp 105)), none⟩,
 ⟨some 107, some (.move (.tmp 15)), some (some 106, true)⟩,
 ⟨some 108, some (.move (.tmp 17)), some (some 106, true)⟩,
 ⟨some 109, some (.indexAddr Zf (.tmp 107) (.tmp 108)), some (some 106, true)⟩,
 ⟨some 110, some (.load Za (.tmp 109)), some (some 106, true)⟩,
 ⟨some 111, some (.load Za (.tmp 18)), some (some 106, true)⟩,
 ⟨some 112, some (.binOp .neq Za (.tmp 110) (.tmp 111) Za), some (some 106, true)⟩,
 ⟨some 113, some (.pick (.tmp 106) (.tmp 112) (.const (.bool false))), none⟩])
  (.cond (.tmp 113) (.seq (.reg [] [⟨some 6, some (.assign (.const (.bool false))), none⟩])
  .ret)
  .skip)))))
  (.reg [] [⟨some 80, some (.move (.tmp 17)), none⟩,
 ⟨some 81, some (.binOp .add Zc (.tmp 80) (.const (.int .i64 1)) Zc), none⟩,
 ⟨some 17, some (.assign (.tmp 81)), none⟩])))
@[simp] theorem Zk1 : defs Zcn = [38, 39, 40, 41, 42, 43, 44, 48, 49, 50, 51, 47, 52, 53, 11, 12, 55, 56, 57, 58, 54, 59, 60, 13, 14, 61, 62, 63, 64, 65, 66, 67, 68, 6, 45, 46, 10] := by rfl
@[simp] theorem Zk2 : defs Zbf = [76, 77, 78, 79, 83, 84, 85, 86, 87, 88, 89, 82, 90, 91, 18, 19, 92, 93, 94, 95, 96, 97, 98, 99, 100, 101, 6, 102, 103, 104, 105, 106, 107, 108, 109, 110, 111, 112, 113, 6, 80, 81, 17] := by rfl
def Zd7 : LCode := (.seq (.reg [] [⟨some 6, some (.assign (.const (.bool false))), none⟩])
  (.seq (.seq (.reg [] [⟨some 20, some (.call ⟨(.value (.func Zel)), #[], #[]⟩), none⟩,
 ⟨some 21, some (.unOp .not Zi (.tmp 20)), none⟩])
  (.cond (.tmp 21) (.seq (.reg [] [⟨some 6, some (.assign (.const (.bool false))), none⟩])
  .ret)
  .skip))
  (.seq (.seq (.reg [] [⟨some 22, some (.move (.tmp 1)), none⟩,
 ⟨some 23, some (.call ⟨(.builtin .len), #[.tmp 22], #[Zj]⟩), none⟩,
 ⟨some 24, some (.binOp .gtr Zc (.tmp 23) (.const (.int .i64 50)) Zc), none⟩,
 ⟨some 25, some (.move (.tmp 24)), none⟩,
 ⟨some 26, some (.move (.tmp 2)), some (some 25, false)⟩,
 ⟨some 27, some (.call ⟨(.builtin .len), #[.tmp 26], #[Zk]⟩), some (some 25, false)⟩,
 ⟨some 28, some (.binOp .gtr Zc (.tmp 27) (.const (.int .i64 50)) Zc), some (some 25, false)⟩,
 ⟨some 29, some (.pick (.tmp 25) (.const (.bool true)) (.tmp 28)), none⟩])
  (.cond (.tmp 29) (.seq (.reg [] [⟨some 6, some (.assign (.const (.bool true))), none⟩])
  .ret)
  .skip))
  (.seq (.reg [] [⟨some 31, some (.move (.tmp 0)), none⟩,
 ⟨some 32, some (.call ⟨(.value (.func Zeu)), #[.tmp 31], #[Zh]⟩), none⟩,
 ⟨some 30, some (.move (.tmp 32)), none⟩,
 ⟨some 33, some (.extract (.tmp 30) 0), none⟩,
 ⟨some 34, some (.extract (.tmp 30) 1), none⟩,
 ⟨some 35, some (.extract (.tmp 30) 2), none⟩,
 ⟨some 7, some (.assign (.tmp 33)), none⟩,
 ⟨some 8, some (.assign (.tmp 34)), none⟩,
 ⟨some 9, some (.assign (.tmp 35)), none⟩])
  (.seq (.seq (.reg [] [⟨some 36, some (.move (.tmp 9)), none⟩,
 ⟨some 37, some (.unOp .not Zi (.tmp 36)), none⟩])
  (.cond (.tmp 37) (.seq (.reg [] [⟨some 6, some (.assign (.const (.bool true))), none⟩])
  .ret)
  .skip))
  (.seq (.seq (.reg [] [⟨some 10, some (.assign (.const (.int .i64 0))), none⟩])
  (.block 0 (.loop Zcn)))
  (.seq (.reg [] [⟨some 70, some (.move (.tmp 7)), none⟩,
 ⟨some 71, some (.move (.tmp 2)), none⟩,
 ⟨some 72, some (.move (.tmp 1)), none⟩,
 ⟨some 73, some (.call ⟨(.value (.func Ze0)), #[.tmp 70, .tmp 71, .tmp 72], #[Zr, Zk, Zj]⟩), none⟩,
 ⟨some 69, some (.move (.tmp 73)), none⟩,
 ⟨some 74, some (.extract (.tmp 69) 0), none⟩,
 ⟨some 75, some (.extract (.tmp 69) 1), none⟩,
 ⟨some 15, some (.assign (.tmp 74)), none⟩,
 ⟨some 16, some (.assign (.tmp 75)), none⟩])
  (.seq (.seq (.reg [] [⟨some 17, some (.assign (.const (.int .i64 0))), none⟩])
  (.block 2 (.loop Zbf)))
  (.seq (.reg [] [⟨some 114, some (.move (.tmp 16)), none⟩,
 ⟨some 115, some (.binOp .eql Zc (.tmp 114) (.const (.int .i64 0)) Zc), none⟩,
 ⟨some 116, some (.move (.tmp 115)), none⟩,
 ⟨some 117, some (.move (.tmp 15)), some (some 116, true)⟩,
 ⟨some 118, some (.call ⟨(.builtin .len), #[.tmp 117], #[Zf]⟩), some (some 116, true)⟩,
 ⟨some 119, some (.move (.tmp 2)), some (some 116, true)⟩,
 ⟨some 120, some (.call ⟨(.builtin .len), #[.tmp 119], #[Zk]⟩), some (some 116, true)⟩,
 ⟨some 121, some (.binOp .eql Zc (.tmp 118) (.tmp 120) Zc), some (some 116, true)⟩,
 ⟨some 122, some (.pick (.tmp 116) (.tmp 121) (.const (.bool false))), none⟩,
 ⟨some 123, some (.move (.tmp 122)), none⟩,
 ⟨some 124, some (.move (.tmp 7)), some (some 123, true)⟩,
 ⟨some 125, some (.move (.tmp 1)), some (some 123, true)⟩,
 ⟨some 126, some (.call ⟨(.value (.func Zc0)), #[.tmp 124, .tmp 125], #[Zr, Zj]⟩), some (some 123, true)⟩,
 ⟨some 127, some (.move (.tmp 8)), some (some 123, true)⟩,
 ⟨some 128, some (.move (.tmp 1)), some (some 123, true)⟩,
 ⟨some 129, some (.call ⟨(.value (.func Zdc)), #[.tmp 127, .tmp 128], #[Zbu, Zj]⟩), some (some 123, true)⟩,
 ⟨some 130, some (.call ⟨(.value (.func Zcu)), #[.tmp 126, .tmp 129], #[Zj, Zj]⟩), some (some 123, true)⟩,
 ⟨some 131, some (.pick (.tmp 123) (.tmp 130) (.const (.bool false))), none⟩,
 ⟨some 6, some (.assign (.tmp 131)), none⟩])
  .ret)))))))))
theorem Zih {a0 a1 a2 : AV} {H : AHeap} : R Zcc [a0, a1, a2] H = fnK Tryz.prog [] H [(.tmp 6)] (evalL Tryz.prog KT R Zd7 (Env.args [a0, a1, a2] 0) H) :=
  runs_body (D := DT) (f := Zcc) Tryz.func3 (by kernel_rfl) (by kernel_rfl) (by kernel_rfl) (by kernel_rfl) (by kernel_rfl) (Nat.le_of_ble_eq_true rfl)
def Zhs : LCode := (.seq (.reg [] [⟨some 0, some (.assign (.const (.bool false))), none⟩])
  (.seq (.reg [] [⟨some 15, some (.call ⟨(.value (.func Zgg)), #[(.const (.int .i64 9))], #[Zc]⟩), none⟩,
 ⟨some 1, some (.assign (.tmp 15)), none⟩])
  (.seq (.seq (.reg [] [⟨some 16, some (.move (.tmp 1)), none⟩,
 ⟨some 17, some (.binOp .eql Zr (.tmp 16) (.const (.pointer none)) Zr), none⟩])
  (.cond (.tmp 17) (.seq (.reg [] [⟨some 0, some (.assign (.const (.bool false))), none⟩])
  .ret)
  .skip))
  (.seq (.reg [] [⟨some 18, some (.move (.tmp 1)), none⟩,
 ⟨some 19, some (.build Zd #[(0, (.const (.int .i64 2))), (1, (.const (.int .i64 4))), (8, (.const (.string { data := #[120] })))]), none⟩,
 ⟨some 20, some (.call ⟨(.value (.func Zu)), #[.tmp 18, .tmp 19], #[Zr, Zd]⟩), none⟩])
  (.seq (.reg [] [⟨some 21, some (.move (.tmp 1)), none⟩,
 ⟨some 22, some (.build Zd #[(0, (.const (.int .i64 18))), (2, (.const (.int .i64 1))), (3, (.const (.int .i64 1)))]), none⟩,
 ⟨some 23, some (.call ⟨(.value (.func Zu)), #[.tmp 21, .tmp 22], #[Zr, Zd]⟩), none⟩])
  (.seq (.reg [] [⟨some 24, some (.move (.tmp 1)), none⟩,
 ⟨some 25, some (.build Zd #[(0, (.const (.int .i64 29))), (2, (.const (.int .i64 1))), (3, (.const (.int .i64 2)))]), none⟩,
 ⟨some 26, some (.call ⟨(.value (.func Zu)), #[.tmp 24, .tmp 25], #[Zr, Zd]⟩), none⟩])
  (.seq (.reg [] [⟨some 27, some (.build Za #[(0, (.const (.int .i64 4))), (1, (.const (.int .u64 9)))]), none⟩,
 ⟨some 28, some (.build Z3 #[(0, (.const (.string { data := #[120] }))), (1, (.tmp 27))]), none⟩,
 ⟨some 29, some (.buildSlice Zj 1 #[(0, (.tmp 28))]), none⟩,
 ⟨some 2, some (.assign (.tmp 29)), none⟩])
  (.seq (.reg [] [⟨some 31, some (.move (.tmp 1)), none⟩,
 ⟨some 32, some (.move (.tmp 2)), none⟩,
 ⟨some 33, some (.call ⟨(.value (.func Zdt)), #[(.tmp 31), (.const (.int .i64 2)), (.tmp 32)], #[Zr, Zc, Zj]⟩), none⟩,
 ⟨some 30, some (.move (.tmp 33)), none⟩,
 ⟨some 34, some (.extract (.tmp 30) 0), none⟩,
 ⟨some 35, some (.extract (.tmp 30) 1), none⟩,
 ⟨some 3, some (.alloc Za), none⟩,
 ⟨none, some (.store Za (.tmp 3) (.tmp 34)), none⟩,
 ⟨some 4, some (.assign (.tmp 35)), none⟩])
  (.seq (.reg [] [⟨some 37, some (.move (.tmp 1)), none⟩,
 ⟨some 38, some (.move (.tmp 2)), none⟩,
 ⟨some 39, some (.call ⟨(.value (.func Zdt)), #[(.tmp 37), (.const (.int .i64 3)), (.tmp 38)], #[Zr, Zc, Zj]⟩), none⟩,
 ⟨some 36, some (.move (.tmp 39)), none⟩,
 ⟨some 40, some (.extract (.tmp 36) 0), none⟩,
 ⟨some 41, some (.extract (.tmp 36) 1), none⟩,
 ⟨some 5, some (.alloc Za), none⟩,
 ⟨none, some (.store Za (.tmp 5) (.tmp 40)), none⟩,
 ⟨some 6, some (.assign (.tmp 41)), none⟩])
  (.seq (.reg [] [⟨some 43, some (.move (.tmp 1)), none⟩,
 ⟨some 44, some (.call ⟨(.value (.func Zdt)), #[(.tmp 43), (.const (.int .i64 3)), (.const (.slice none 0 0))], #[Zr, Zc, Zj]⟩), none⟩,
 ⟨some 42, some (.move (.tmp 44)), none⟩,
 ⟨some 45, some (.extract (.tmp 42) 0), none⟩,
 ⟨some 46, some (.extract (.tmp 42) 1), none⟩,
 ⟨some 7, some (.alloc Za), none⟩,
 ⟨none, some (.store Za (.tmp 7) (.tmp 45)), none⟩,
 ⟨some 8, some (.assign (.tmp 46)), none⟩])
  (.seq (.reg [] [⟨some 48, some (.move (.tmp 1)), none⟩,
 ⟨some 49, some (.move (.tmp 2)), none⟩,
 ⟨some 50, some (.call ⟨(.value (.func Zdt)), #[(.tmp 48), (.const (.int .i64 4)), (.tmp 49)], #[Zr, Zc, Zj]⟩), none⟩,
 ⟨some 47, some (.move (.tmp 50)), none⟩,
 ⟨some 51, some (.extract (.tmp 47) 0), none⟩,
 ⟨some 52, some (.extract (.tmp 47) 1), none⟩,
 ⟨some 9, some (.alloc Za), none⟩,
 ⟨none, some (.store Za (.tmp 9) (.tmp 51)), none⟩,
 ⟨some 10, some (.assign (.tmp 52)), none⟩])
  (.seq (.reg [] [⟨some 54, some (.build Za #[(1, (.const (.int .u64 1)))]), none⟩,
 ⟨some 55, some (.build Za #[(0, (.const (.int .i64 2))), (1, (.const (.int .u64 3)))]), none⟩,
 ⟨some 56, some (.build Za #[(0, (.const (.int .i64 2)))]), none⟩,
 ⟨some 57, some (.buildSlice Zf 3 #[(0, (.tmp 54)), (1, (.tmp 55)), (2, (.tmp 56))]), none⟩,
 ⟨some 58, some (.call ⟨(.value (.func Zfe)), #[(.const (.int .i64 9)), (.const (.int .i64 0)), (.const (.int .i64 0)), (.tmp 57)], #[Zc, Zc, Zc, Zf]⟩), none⟩,
 ⟨some 53, some (.move (.tmp 58)), none⟩,
 ⟨some 59, some (.extract (.tmp 53) 0), none⟩,
 ⟨some 60, some (.extract (.tmp 53) 1), none⟩,
 ⟨some 11, some (.alloc Za), none⟩,
 ⟨none, some (.store Za (.tmp 11) (.tmp 59)), none⟩,
 ⟨some 12, some (.assign (.tmp 60)), none⟩])
  (.seq (.reg [] [⟨some 62, some (.move (.tmp 1)), none⟩,
 ⟨some 63, some (.buildSlice Zk 2 #[(0, (.const (.int .i64 1))), (1, (.const (.int .i64 2)))]), none⟩,
 ⟨some 64, some (.move (.tmp 2)), none⟩,
 ⟨some 65, some (.call ⟨(.value (.func Ze0)), #[.tmp 62, .tmp 63, .tmp 64], #[Zr, Zk, Zj]⟩), none⟩,
 ⟨some 61, some (.move (.tmp 65)), none⟩,
 ⟨some 66, some (.extract (.tmp 61) 0), none⟩,
 ⟨some 67, some (.extract (.tmp 61) 1), none⟩,
 ⟨some 13, some (.assign (.tmp 66)), none⟩,
 ⟨some 14, some (.assign (.tmp 67)), none⟩])
  (.seq (.reg [] [⟨some 68, some (.move (.tmp 4)), none⟩,
 ⟨some 69, some (.move (.tmp 6)), none⟩,
 ⟨some 70, some (.binOp .add Zc (.tmp 68) (.tmp 69) Zc), none⟩,
 ⟨some 71, some (.move (.tmp 12)), none⟩,
 ⟨some 72, some (.binOp .add Zc (.tmp 70) (.tmp 71) Zc), none⟩,
 ⟨some 73, some (.move (.tmp 14)), none⟩,
 ⟨some 74, some (.binOp .add Zc (.tmp 72) (.tmp 73) Zc), none⟩,
 ⟨some 75, some (.binOp .eql Zc (.tmp 74) (.const (.int .i64 0)) Zc), none⟩,
 ⟨some 76, some (.move (.tmp 75)), none⟩,
 ⟨some 77, some (.load Za (.tmp 3)), some (some 76, true)⟩,
 ⟨some 78, some (.build Za #[(0, (.const (.int .i64 4))), (1, (.const (.int .u64 2)))]), some (some 76, true)⟩,
 ⟨some 79, some (.binOp .eql Za (.tmp 77) (.tmp 78) Za), some (some 76, true)⟩,
 ⟨some 80, some (.pick (.tmp 76) (.tmp 79) (.const (.bool false))), none⟩,
 ⟨some 81, some (.move (.tmp 80)), none⟩,
 ⟨some 82, some (.load Za (.tmp 5)), some (some 81, true)⟩,
 ⟨some 83, some (.build Za #[]), some (some 81, true)⟩,
 ⟨some 84, some (.binOp .eql Za (.tmp 82) (.tmp 83) Za), some (some 81, true)⟩,
 ⟨some 85, some (.pick (.tmp 81) (.tmp 84) (.const (.bool false))), none⟩,
 ⟨some 86, some (.move (.tmp 85)), none⟩,
 ⟨some 87, some (.move (.tmp 8)), some (some 86, true)⟩,
 ⟨some 88, some (.binOp .eql Zc (.tmp 87) (.const (.int .i64 41)) Zc), some (some 86, true)⟩,
 ⟨some 89, some (.pick (.tmp 86) (.tmp 88) (.const (.bool false))), none⟩,
 ⟨some 90, some (.move (.tmp 89)), none⟩,
 ⟨some 91, some (.move (.tmp 10)), some (some 90, true)⟩,
 ⟨some 92, some (.binOp .eql Zc (.tmp 91) (.const (.int .i64 40)) Zc), some (some 90, true)⟩,
 ⟨some 93, some (.pick (.tmp 90) (.tmp 92) (.const (.bool false))), none⟩,
 ⟨some 94, some (.move (.tmp 93)), none⟩,
 ⟨some 95, some (.load Za (.tmp 11)), some (some 94, true)⟩,
 ⟨some 96, some (.build Za #[(0, (.const (.int .i64 2))), (1, (.const (.int .u64 3)))]), some (some 94, true)⟩,
 ⟨some 97, some (.binOp .eql Za (.tmp 95) (.tmp 96) Za), some (some 94, true)⟩,
 ⟨some 98, some (.pick (.tmp 94) (.tmp 97) (.const (.bool false))), none⟩,
 ⟨some 99, some (.move (.tmp 98)), none⟩,
 ⟨some 100, some (.move (.tmp 13)), some (some 99, true)⟩,
 ⟨some 101, some (.call ⟨(.builtin .len), #[.tmp 100], #[Zf]⟩), some (some 99, true)⟩,
 ⟨some 102, some (.binOp .eql Zc (.tmp 101) (.const (.int .i64 2)) Zc), some (some 99, true)⟩,
 ⟨some 103, some (.pick (.tmp 99) (.tmp 102) (.const (.bool false))), none⟩,
 ⟨some 104, some (.move (.tmp 103)), none⟩,
 ⟨some 105, some (.move (.tmp 1)), some (some 104, true)⟩,
 ⟨some 106, some (.call ⟨(.value (.func Zc0)), #[(.tmp 105), (.const (.slice none 0 0))], #[Zr, Zj]⟩), some (some 104, true)⟩,
 ⟨some 107, some (.build Za #[(0, (.const (.int .i64 4)))]), some (some 104, true)⟩,
 ⟨some 108, some (.build Z3 #[(0, (.const (.string { data := #[120] }))), (1, (.tmp 107))]), some (some 104, true)⟩,
 ⟨some 109, some (.buildSlice Zj 1 #[(0, (.tmp 108))]), some (some 104, true)⟩,
 ⟨some 110, some (.call ⟨(.value (.func Zcu)), #[.tmp 106, .tmp 109], #[Zj, Zj]⟩), some (some 104, true)⟩,
 ⟨some 111, some (.pick (.tmp 104) (.tmp 110) (.const (.bool false))), none⟩,
 ⟨some 0, some (.assign (.tmp 111)), none⟩])
  .ret))))))))))))))
theorem Zjn {H : AHeap} : R Zel [] H = fnK Tryz.prog [] H [(.tmp 0)] (evalL Tryz.prog KT R Zhs (Env.args [] 0) H) :=
  runs_body (D := DT) (f := Zel) Tryz.func4 (by kernel_rfl) (by kernel_rfl) (by kernel_rfl) (by kernel_rfl) (by kernel_rfl) (Nat.le_of_ble_eq_true rfl)
def Zd8 : LCode := (.seq (.seq (.reg [] [⟨some 17, some (.move (.tmp 7)), none⟩,
 ⟨some 18, some (.move (.tmp 0)), none⟩,
 ⟨some 19, some (.call ⟨(.builtin .len), #[.tmp 18], #[Zh]⟩), none⟩,
 ⟨some 20, some (.binOp .lss Zc (.tmp 17) (.tmp 19) Zc), none⟩])
  (.cond (.tmp 20) .skip
  (.exit 0)))
  (.seq (.block 1 (.seq (.seq (.reg [] [⟨some 23, some (.move (.tmp 0)), none⟩,
 ⟨some 24, some (.move (.tmp 7)), none⟩,
 ⟨some 25, some (.indexAddr Zh (.tmp 23) (.tmp 24)), none⟩,
 ⟨some 26, some (.fieldAddr Zd (.tmp 25) 8), none⟩,
 ⟨some 27, some (.load Zbd (.tmp 26)), none⟩,
 ⟨some 28, some (.call ⟨(.builtin .len), #[.tmp 27], #[Zbd]⟩), none⟩,
 ⟨some 29, some (.binOp .gtr Zc (.tmp 28) (.const (.int .i64 100)) Zc), none⟩])
  (.cond (.tmp 29) (.seq (.reg [] [⟨some 2, some (.assign (.const (.pointer none))), none⟩,
 ⟨some 3, some (.assign (.const (.pointer none))), none⟩,
 ⟨some 4, some (.assign (.const (.bool false))), none⟩])
  .ret)
  .skip))
  (.seq (.reg [] [⟨some 31, some (.move (.tmp 5)), none⟩,
 ⟨some 32, some (.move (.tmp 0)), none⟩,
 ⟨some 33, some (.move (.tmp 7)), none⟩,
 ⟨some 34, some (.indexAddr Zh (.tmp 32) (.tmp 33)), none⟩,
 ⟨some 35, some (.load Zd (.tmp 34)), none⟩,
 ⟨some 36, some (.call ⟨(.value (.func Zu)), #[.tmp 31, .tmp 35], #[Zr, Zd]⟩), none⟩,
 ⟨some 30, some (.move (.tmp 36)), none⟩,
 ⟨some 37, some (.extract (.tmp 30) 0), none⟩,
 ⟨some 38, some (.extract (.tmp 30) 1), none⟩,
 ⟨some 8, some (.assign (.tmp 37)), none⟩,
 ⟨some 9, some (.assign (.tmp 38)), none⟩])
  (.seq (.reg [] [⟨some 40, some (.move (.tmp 6)), none⟩,
 ⟨some 41, some (.move (.tmp 0)), none⟩,
 ⟨some 42, some (.move (.tmp 7)), none⟩,
 ⟨some 43, some (.indexAddr Zh (.tmp 41) (.tmp 42)), none⟩,
 ⟨some 44, some (.load Zd (.tmp 43)), none⟩,
 ⟨some 45, some (.call ⟨(.value (.func Z2)), #[.tmp 40, .tmp 44], #[Zbu, Zd]⟩), none⟩,
 ⟨some 39, some (.move (.tmp 45)), none⟩,
 ⟨some 46, some (.extract (.tmp 39) 0), none⟩,
 ⟨some 47, some (.extract (.tmp 39) 1), none⟩,
 ⟨some 10, some (.assign (.tmp 46)), none⟩,
 ⟨some 11, some (.assign (.tmp 47)), none⟩])
  (.seq (.reg [] [⟨some 48, some (.move (.tmp 8)), none⟩,
 ⟨some 49, some (.move (.tmp 10)), none⟩,
 ⟨some 50, some (.binOp .neq Zc (.tmp 48) (.tmp 49) Zc), none⟩])
  (.cond (.tmp 50) (.seq (.reg [] [⟨some 2, some (.assign (.const (.pointer none))), none⟩,
 ⟨some 3, some (.assign (.const (.pointer none))), none⟩,
 ⟨some 4, some (.assign (.const (.bool false))), none⟩])
  .ret)
  .skip))))))
  (.reg [] [⟨some 21, some (.move (.tmp 7)), none⟩,
 ⟨some 22, some (.binOp .add Zc (.tmp 21) (.const (.int .i64 1)) Zc), none⟩,
 ⟨some 7, some (.assign (.tmp 22)), none⟩])))
@[simp] theorem Zl9 : defs Zd8 = [17, 18, 19, 20, 23, 24, 25, 26, 27, 28, 29, 2, 3, 4, 31, 32, 33, 34, 35, 36, 30, 37, 38, 8, 9, 40, 41, 42, 43, 44, 45, 39, 46, 47, 10, 11, 48, 49, 50, 2, 3, 4, 21, 22, 7] := by rfl
def Zgz : LCode := (.seq (.reg [] [⟨some 2, some (.assign (.const (.pointer none))), none⟩,
 ⟨some 3, some (.assign (.const (.pointer none))), none⟩,
 ⟨some 4, some (.assign (.const (.bool false))), none⟩])
  (.seq (.seq (.reg [] [⟨some 12, some (.move (.tmp 0)), none⟩,
 ⟨some 13, some (.call ⟨(.builtin .len), #[.tmp 12], #[Zh]⟩), none⟩,
 ⟨some 14, some (.binOp .gtr Zc (.tmp 13) (.const (.int .i64 120)) Zc), none⟩])
  (.cond (.tmp 14) (.seq (.reg [] [⟨some 2, some (.assign (.const (.pointer none))), none⟩,
 ⟨some 3, some (.assign (.const (.pointer none))), none⟩,
 ⟨some 4, some (.assign (.const (.bool false))), none⟩])
  .ret)
  .skip))
  (.seq (.reg [] [⟨some 15, some (.call ⟨(.value (.func Zgg)), #[(.const (.int .i64 4096))], #[Zc]⟩), none⟩,
 ⟨some 16, some (.call ⟨(.value (.func Zff)), #[(.const (.int .i64 4096))], #[Zc]⟩), none⟩,
 ⟨some 5, some (.assign (.tmp 15)), none⟩,
 ⟨some 6, some (.assign (.tmp 16)), none⟩])
  (.seq (.seq (.reg [] [⟨some 7, some (.assign (.const (.int .i64 0))), none⟩])
  (.block 0 (.loop Zd8)))
  (.seq (.reg [] [⟨some 51, some (.move (.tmp 5)), none⟩,
 ⟨some 52, some (.move (.tmp 6)), none⟩,
 ⟨some 2, some (.assign (.tmp 51)), none⟩,
 ⟨some 3, some (.assign (.tmp 52)), none⟩,
 ⟨some 4, some (.assign (.const (.bool true))), none⟩])
  .ret)))))
theorem Zj5 {a0 : AV} {H : AHeap} : R Zeu [a0] H = fnK Tryz.prog [] H [(.tmp 2), (.tmp 3), (.tmp 4)] (evalL Tryz.prog KT R Zgz (Env.args [a0] 0) H) :=
  runs_body (D := DT) (f := Zeu) Tryz.func5 (by kernel_rfl) (by kernel_rfl) (by kernel_rfl) (by kernel_rfl) (by kernel_rfl) (Nat.le_of_ble_eq_true rfl)
def Zkk : LCode := (.seq (.reg [] [⟨some 6, some (.alloc Za), none⟩,
 ⟨some 7, some (.assign (.const (.int .i64 0))), none⟩])
  (.seq (.reg [] [⟨some 8, some (.move (.tmp 0)), none⟩,
 ⟨some 9, some (.move (.tmp 1)), none⟩,
 ⟨some 10, some (.move (.tmp 2)), none⟩,
 ⟨some 11, some (.call ⟨(.value (.func Zf0)), #[.tmp 10], #[Zj]⟩), none⟩,
 ⟨some 12, some (.call ⟨(.value (.func Zfz)), #[.tmp 8, .tmp 9, .tmp 11], #[Zr, Zc, Zbn]⟩), none⟩,
 ⟨some 13, some (.extract (.tmp 12) 0), none⟩,
 ⟨some 14, some (.extract (.tmp 12) 1), none⟩,
 ⟨none, some (.store Za (.tmp 6) (.tmp 13)), none⟩,
 ⟨some 7, some (.assign (.tmp 14)), none⟩])
  .ret))
theorem Zmh {a0 a1 a2 : AV} {H : AHeap} : R Zdt [a0, a1, a2] H = fnK Tryz.prog [] H [(.cell 6 Za), (.tmp 7)] (evalL Tryz.prog KT R Zkk (Env.args [a0, a1, a2] 0) H) :=
  runs_body (D := DT) (f := Zdt) Tryz.func6 (by kernel_rfl) (by kernel_rfl) (by kernel_rfl) (by kernel_rfl) (by kernel_rfl) (Nat.le_of_ble_eq_true rfl)
def Zd9 : LCode := (.seq (.seq (.reg [] [⟨some 25, some (.move (.tmp 10)), none⟩,
 ⟨some 26, some (.move (.tmp 8)), none⟩,
 ⟨some 27, some (.call ⟨(.builtin .len), #[.tmp 26], #[Zk]⟩), none⟩,
 ⟨some 28, some (.binOp .lss Zc (.tmp 25) (.tmp 27) Zc), none⟩])
  (.cond (.tmp 28) .skip
  (.exit 0)))
  (.seq (.block 1 (.seq (.reg [] [⟨some 31, some (.move (.tmp 0)), none⟩,
 ⟨some 32, some (.nilCheck (.tmp 31)), none⟩,
 ⟨some 33, some (.fieldAddr Zl (.tmp 32) 0), none⟩,
 ⟨some 34, some (.load Zh (.tmp 33)), none⟩,
 ⟨some 35, some (.move (.tmp 8)), none⟩,
 ⟨some 36, some (.move (.tmp 10)), none⟩,
 ⟨some 37, some (.indexAddr Zk (.tmp 35) (.tmp 36)), none⟩,
 ⟨some 38, some (.load Zc (.tmp 37)), none⟩,
 ⟨some 39, some (.binOp .sub Zc (.tmp 38) (.const (.int .i64 1)) Zc), none⟩,
 ⟨some 40, some (.indexAddr Zh (.tmp 34) (.tmp 39)), none⟩,
 ⟨some 41, some (.load Zd (.tmp 40)), none⟩,
 ⟨some 11, some (.alloc Zd), none⟩,
 ⟨none, some (.store Zd (.tmp 11) (.tmp 41)), none⟩])
  (.seq (.reg [] [⟨some 42, some (.fieldAddr Zd (.tmp 11) 0), none⟩,
 ⟨some 43, some (.load Zc (.tmp 42)), none⟩])
  (.block 2 (.seq (.reg [] [⟨some 79, some (.binOp .eql Zc (.tmp 43) (.const (.int .i64 1)) Zc), none⟩,
 ⟨some 78, some (.assign (.tmp 79)), none⟩])
  (.cond (.tmp 78) (.reg [] [⟨some 80, some (.move (.tmp 9)), none⟩,
 ⟨some 81, some (.move (.tmp 8)), none⟩,
 ⟨some 82, some (.move (.tmp 10)), none⟩,
 ⟨some 83, some (.indexAddr Zk (.tmp 81) (.tmp 82)), none⟩,
 ⟨some 84, some (.load Zc (.tmp 83)), none⟩,
 ⟨some 85, some (.fieldAddr Zd (.tmp 11) 7), none⟩,
 ⟨some 86, some (.load Za (.tmp 85)), none⟩,
 ⟨some 87, some (.indexAddr Zf (.tmp 80) (.tmp 84)), none⟩,
 ⟨none, some (.store Za (.tmp 87) (.tmp 86)), none⟩])
  (.seq (.reg [] [⟨some 89, some (.binOp .eql Zc (.tmp 43) (.const (.int .i64 2)) Zc), none⟩,
 ⟨some 88, some (.assign (.tmp 89)), none⟩])
  (.cond (.tmp 88) (.seq (.reg [] [⟨some 91, some (.move (.tmp 2)), none⟩,
 ⟨some 92, some (.fieldAddr Zd (.tmp 11) 8), none⟩,
 ⟨some 93, some (.load Zbd (.tmp 92)), none⟩,
 ⟨some 94, some (.call ⟨(.value (.func Zev)), #[.tmp 91, .tmp 93], #[Zj, Zbd]⟩), none⟩,
 ⟨some 90, some (.move (.tmp 94)), none⟩,
 ⟨some 95, some (.extract (.tmp 90) 0), none⟩,
 ⟨some 96, some (.extract (.tmp 90) 1), none⟩,
 ⟨some 12, some (.alloc Za), none⟩,
 ⟨none, some (.store Za (.tmp 12) (.tmp 95)), none⟩,
 ⟨some 13, some (.assign (.tmp 96)), none⟩])
  (.seq (.seq (.reg [] [⟨some 97, some (.move (.tmp 13)), none⟩,
 ⟨some 98, some (.unOp .not Zi (.tmp 97)), none⟩,
 ⟨some 99, some (.move (.tmp 98)), none⟩,
 ⟨some 100, some (.load Za (.tmp 12)), some (some 99, false)⟩,
 ⟨some 101, some (.call ⟨(.value (.func Zcd)), #[.tmp 100], #[Za]⟩), some (some 99, false)⟩,
 ⟨some 102, some (.unOp .not Zi (.tmp 101)), some (some 99, false)⟩,
 ⟨some 103, some (.pick (.tmp 99) (.const (.bool true)) (.tmp 102)), none⟩,
 ⟨some 104, some (.move (.tmp 103)), none⟩,
 ⟨some 105, some (.fieldAddr Za (.tmp 12) 0), some (some 104, false)⟩,
 ⟨some 106, some (.load Zc (.tmp 105)), some (some 104, false)⟩,
 ⟨some 107, some (.fieldAddr Zd (.tmp 11) 1), some (some 104, false)⟩,
 ⟨some 108, some (.load Zc (.tmp 107)), some (some 104, false)⟩,
 ⟨some 109, some (.binOp .neq Zc (.tmp 106) (.tmp 108) Zc), some (some 104, false)⟩,
 ⟨some 110, some (.pick (.tmp 104) (.const (.bool true)) (.tmp 109)), none⟩])
  (.cond (.tmp 110) (.seq (.reg [] [⟨some 111, some (.build Za #[]), none⟩,
 ⟨none, some (.store Za (.tmp 6) (.tmp 111)), none⟩,
 ⟨some 7, some (.assign (.const (.int .i64 41))), none⟩])
  .ret)
  .skip))
  (.reg [] [⟨some 112, some (.move (.tmp 9)), none⟩,
 ⟨some 113, some (.move (.tmp 8)), none⟩,
 ⟨some 114, some (.move (.tmp 10)), none⟩,
 ⟨some 115, some (.indexAddr Zk (.tmp 113) (.tmp 114)), none⟩,
 ⟨some 116, some (.load Zc (.tmp 115)), none⟩,
 ⟨some 117, some (.load Za (.tmp 12)), none⟩,
 ⟨some 118, some (.indexAddr Zf (.tmp 112) (.tmp 116)), none⟩,
 ⟨none, some (.store Za (.tmp 118) (.tmp 117)), none⟩])))
  (.seq (.reg [] [⟨some 44, some (.move (.tmp 9)), none⟩,
 ⟨some 45, some (.fieldAddr Zd (.tmp 11) 2), none⟩,
 ⟨some 46, some (.load Zc (.tmp 45)), none⟩,
 ⟨some 47, some (.indexAddr Zf (.tmp 44) (.tmp 46)), none⟩,
 ⟨some 48, some (.load Za (.tmp 47)), none⟩,
 ⟨some 49, some (.move (.tmp 9)), none⟩,
 ⟨some 50, some (.fieldAddr Zd (.tmp 11) 3), none⟩,
 ⟨some 51, some (.load Zc (.tmp 50)), none⟩,
 ⟨some 52, some (.indexAddr Zf (.tmp 49) (.tmp 51)), none⟩,
 ⟨some 53, some (.load Za (.tmp 52)), none⟩,
 ⟨some 54, some (.move (.tmp 9)), none⟩,
 ⟨some 55, some (.fieldAddr Zd (.tmp 11) 4), none⟩,
 ⟨some 56, some (.load Zc (.tmp 55)), none⟩,
 ⟨some 57, some (.indexAddr Zf (.tmp 54) (.tmp 56)), none⟩,
 ⟨some 58, some (.load Za (.tmp 57)), none⟩,
 ⟨some 59, some (.buildSlice Zf 3 #[(0, (.tmp 48)), (1, (.tmp 53)), (2, (.tmp 58))]), none⟩,
 ⟨some 14, some (.assign (.tmp 59)), none⟩])
  (.reg [14, 16] [⟨some 60, some (.move (.tmp 9)), none⟩,
 ⟨some 61, some (.move (.tmp 8)), none⟩,
 ⟨some 62, some (.move (.tmp 10)), none⟩,
 ⟨some 63, some (.indexAddr Zk (.tmp 61) (.tmp 62)), none⟩,
 ⟨some 64, some (.load Zc (.tmp 63)), none⟩,
 ⟨some 65, some (.fieldAddr Zd (.tmp 11) 0), none⟩,
 ⟨some 66, some (.load Zc (.tmp 65)), none⟩,
 ⟨some 67, some (.fieldAddr Zd (.tmp 11) 5), none⟩,
 ⟨some 68, some (.load Zc (.tmp 67)), none⟩,
 ⟨some 69, some (.fieldAddr Zd (.tmp 11) 6), none⟩,
 ⟨some 70, some (.load Zc (.tmp 69)), none⟩,
 ⟨some 71, some (.move (.tmp 14)), none⟩,
 ⟨some 72, some (.fieldAddr Zd (.tmp 11) 0), none⟩,
 ⟨some 73, some (.load Zc (.tmp 72)), none⟩,
 ⟨some 74, some (.call ⟨(.value (.func Zdp)), #[.tmp 73], #[Zc]⟩), none⟩,
 ⟨some 75, some (.slice Zf (.tmp 71) none (some (.tmp 74)) none), none⟩,
 ⟨some 76, some (.call ⟨(.value (.func Zp)), #[.tmp 66, .tmp 68, .tmp 70, .tmp 75], #[Zc, Zc, Zc, Zf]⟩), none⟩,
 ⟨some 77, some (.indexAddr Zf (.tmp 60) (.tmp 64)), none⟩,
 ⟨none, some (.store Za (.tmp 77) (.tmp 76)), none⟩]))))))))))
  (.reg [] [⟨some 29, some (.move (.tmp 10)), none⟩,
 ⟨some 30, some (.binOp .add Zc (.tmp 29) (.const (.int .i64 1)) Zc), none⟩,
 ⟨some 10, some (.assign (.tmp 30)), none⟩])))
@[simp] theorem Zma : defs Zd9 = [25, 26, 27, 28, 31, 32, 33, 34, 35, 36, 37, 38, 39, 40, 41, 11, 42, 43, 79, 78, 80, 81, 82, 83, 84, 85, 86, 87, 89, 88, 91, 92, 93, 94, 90, 95, 96, 12, 13, 97, 98, 99, 100, 101, 102, 103, 104, 105, 106, 107, 108, 109, 110, 111, 7, 112, 113, 114, 115, 116, 117, 118, 44, 45, 46, 47, 48, 49, 50, 51, 52, 53, 54, 55, 56, 57, 58, 59, 14, 60, 61, 62, 63, 64, 65, 66, 67, 68, 69, 70, 71, 72, 73, 74, 75, 76, 77, 29, 30, 10] := by rfl
def Zg0 : LCode := (.seq (.reg [] [⟨some 6, some (.alloc Za), none⟩,
 ⟨some 7, some (.assign (.const (.int .i64 0))), none⟩])
  (.seq (.reg [] [⟨some 15, some (.move (.tmp 0)), none⟩,
 ⟨some 16, some (.move (.tmp 1)), none⟩,
 ⟨some 17, some (.call ⟨(.value (.func Zbr)), #[.tmp 15, .tmp 16], #[Zbu, Zc]⟩), none⟩,
 ⟨some 8, some (.assign (.tmp 17)), none⟩])
  (.seq (.seq (.reg [] [⟨some 18, some (.move (.tmp 8)), none⟩,
 ⟨some 19, some (.call ⟨(.builtin .len), #[.tmp 18], #[Zk]⟩), none⟩,
 ⟨some 20, some (.binOp .eql Zc (.tmp 19) (.const (.int .i64 0)) Zc), none⟩])
  (.cond (.tmp 20) (.seq (.reg [] [⟨some 21, some (.build Za #[]), none⟩,
 ⟨none, some (.store Za (.tmp 6) (.tmp 21)), none⟩,
 ⟨some 7, some (.assign (.const (.int .i64 40))), none⟩])
  .ret)
  .skip))
  (.seq (.reg [] [⟨some 22, some (.move (.tmp 1)), none⟩,
 ⟨some 23, some (.binOp .add Zc (.tmp 22) (.const (.int .i64 1)) Zc), none⟩,
 ⟨some 24, some (.makeSlice Zf (.tmp 23) (.tmp 23)), none⟩,
 ⟨some 9, some (.assign (.tmp 24)), none⟩])
  (.seq (.seq (.reg [] [⟨some 10, some (.assign (.const (.int .i64 0))), none⟩])
  (.block 0 (.loop Zd9)))
  (.seq (.reg [] [⟨some 119, some (.move (.tmp 9)), none⟩,
 ⟨some 120, some (.move (.tmp 1)), none⟩,
 ⟨some 121, some (.indexAddr Zf (.tmp 119) (.tmp 120)), none⟩,
 ⟨some 122, some (.load Za (.tmp 121)), none⟩,
 ⟨none, some (.store Za (.tmp 6) (.tmp 122)), none⟩,
 ⟨some 7, some (.assign (.const (.int .i64 0))), none⟩])
  .ret))))))
theorem Zj6 {a0 a1 a2 : AV} {H : AHeap} : R Zc8 [a0, a1, a2] H = fnK Tryz.prog [] H [(.cell 6 Za), (.tmp 7)] (evalL Tryz.prog KT R Zg0 (Env.args [a0, a1, a2] 0) H) :=
  runs_body (D := DT) (f := Zc8) Tryz.func7 (by kernel_rfl) (by kernel_rfl) (by kernel_rfl) (by kernel_rfl) (by kernel_rfl) (Nat.le_of_ble_eq_true rfl)
def Zgq : LCode := (.seq (.reg [] [⟨some 19, some (.binOp .lss Zc (.tmp 18) (.tmp 17) Zc), none⟩])
  (.seq (.cond (.tmp 19) .skip
  (.exit 0))
  (.seq (.block 1 (.seq (.reg [] [⟨some 20, some (.indexAddr Zk (.tmp 16) (.tmp 18)), none⟩,
 ⟨some 21, some (.load Zc (.tmp 20)), none⟩,
 ⟨some 11, some (.assign (.tmp 21)), none⟩])
  (.seq (.reg [] [⟨some 23, some (.move (.tmp 0)), none⟩,
 ⟨some 24, some (.move (.tmp 11)), none⟩,
 ⟨some 25, some (.move (.tmp 8)), none⟩,
 ⟨some 26, some (.call ⟨(.value (.func Zfz)), #[.tmp 23, .tmp 24, .tmp 25], #[Zr, Zc, Zbn]⟩), none⟩,
 ⟨some 22, some (.move (.tmp 26)), none⟩,
 ⟨some 27, some (.extract (.tmp 22) 0), none⟩,
 ⟨some 28, some (.extract (.tmp 22) 1), none⟩,
 ⟨some 12, some (.alloc Za), none⟩,
 ⟨none, some (.store Za (.tmp 12) (.tmp 27)), none⟩,
 ⟨some 13, some (.assign (.tmp 28)), none⟩])
  (.seq (.seq (.reg [] [⟨some 29, some (.move (.tmp 13)), none⟩,
 ⟨some 30, some (.binOp .neq Zfd (.tmp 29) (.const (.int .i64 0)) Zfd), none⟩])
  (.cond (.tmp 30) (.seq (.reg [] [⟨some 31, some (.move (.tmp 13)), none⟩,
 ⟨some 6, some (.assign (.const (.slice none 0 0))), none⟩,
 ⟨some 7, some (.assign (.tmp 31)), none⟩])
  .ret)
  .skip))
  (.reg [] [⟨some 32, some (.move (.tmp 9)), none⟩,
 ⟨some 33, some (.load Za (.tmp 12)), none⟩,
 ⟨some 34, some (.buildSlice Zf 1 #[(0, (.tmp 33))]), none⟩,
 ⟨some 35, some (.call ⟨(.builtin .append), #[.tmp 32, .tmp 34], #[Zf, Zf]⟩), none⟩,
 ⟨some 9, some (.assign (.tmp 35)), none⟩])))))
  (.reg [] [⟨some 36, some (.binOp .add Zc (.tmp 18) (.const (.int .i64 1)) Zc), none⟩,
 ⟨some 18, some (.move (.tmp 36)), none⟩]))))
@[simp] theorem Zm7 : defs Zgq = [19, 20, 21, 11, 23, 24, 25, 26, 22, 27, 28, 12, 13, 29, 30, 31, 6, 7, 32, 33, 34, 35, 9, 36, 18] := by rfl
def Zle : LCode := (.seq (.reg [] [⟨some 6, some (.assign (.const (.slice none 0 0))), none⟩,
 ⟨some 7, some (.assign (.const (.int .i64 0))), none⟩])
  (.seq (.reg [] [⟨some 14, some (.move (.tmp 2)), none⟩,
 ⟨some 15, some (.call ⟨(.value (.func Zf0)), #[.tmp 14], #[Zj]⟩), none⟩,
 ⟨some 8, some (.assign (.tmp 15)), none⟩])
  (.seq (.reg [] [⟨some 9, some (.assign (.const (.slice none 0 0))), none⟩])
  (.seq (.seq (.reg [] [⟨some 16, some (.move (.tmp 1)), none⟩,
 ⟨some 17, some (.call ⟨(.builtin .len), #[.tmp 16], #[Zk]⟩), none⟩,
 ⟨some 18, some (.move (.const (.int .i64 0))), none⟩])
  (.block 0 (.loop Zgq)))
  (.seq (.reg [] [⟨some 37, some (.move (.tmp 9)), none⟩,
 ⟨some 6, some (.assign (.tmp 37)), none⟩,
 ⟨some 7, some (.assign (.const (.int .i64 0))), none⟩])
  .ret)))))
theorem Zmv {a0 a1 a2 : AV} {H : AHeap} : R Ze0 [a0, a1, a2] H = fnK Tryz.prog [0, 0] H [(.tmp 6), (.tmp 7)] (evalL Tryz.prog KT R Zle (Env.args [a0, a1, a2] 0) H) :=
  runs_body (D := DT) (f := Ze0) Tryz.func8 (by kernel_rfl) (by kernel_rfl) (by kernel_rfl) (by kernel_rfl) (by kernel_rfl) (Nat.le_of_ble_eq_true rfl)
def Zdy : LCode := (.seq (.seq (.reg [] [⟨some 11, some (.move (.tmp 5)), none⟩,
 ⟨some 12, some (.move (.tmp 0)), none⟩,
 ⟨some 13, some (.call ⟨(.builtin .len), #[.tmp 12], #[Zj]⟩), none⟩,
 ⟨some 14, some (.binOp .lss Zc (.tmp 11) (.tmp 13) Zc), none⟩])
  (.cond (.tmp 14) .skip
  (.exit 0)))
  (.seq (.block 1 (.seq (.reg [] [⟨some 17, some (.move (.tmp 0)), none⟩,
 ⟨some 18, some (.move (.tmp 5)), none⟩,
 ⟨some 19, some (.indexAddr Zj (.tmp 17) (.tmp 18)), none⟩,
 ⟨some 20, some (.load Z3 (.tmp 19)), none⟩,
 ⟨some 21, some (.move (.tmp 1)), none⟩,
 ⟨some 22, some (.move (.tmp 5)), none⟩,
 ⟨some 23, some (.indexAddr Zj (.tmp 21) (.tmp 22)), none⟩,
 ⟨some 24, some (.load Z3 (.tmp 23)), none⟩,
 ⟨some 25, some (.binOp .neq Z3 (.tmp 20) (.tmp 24) Z3), none⟩])
  (.cond (.tmp 25) (.seq (.reg [] [⟨some 4, some (.assign (.const (.bool false))), none⟩])
  .ret)
  .skip)))
  (.reg [] [⟨some 15, some (.move (.tmp 5)), none⟩,
 ⟨some 16, some (.binOp .add Zc (.tmp 15) (.const (.int .i64 1)) Zc), none⟩,
 ⟨some 5, some (.assign (.tmp 16)), none⟩])))
@[simp] theorem Zls : defs Zdy = [11, 12, 13, 14, 17, 18, 19, 20, 21, 22, 23, 24, 25, 4, 15, 16, 5] := by rfl
def Zgk : LCode := (.seq (.reg [] [⟨some 4, some (.assign (.const (.bool false))), none⟩])
  (.seq (.seq (.reg [] [⟨some 6, some (.move (.tmp 0)), none⟩,
 ⟨some 7, some (.call ⟨(.builtin .len), #[.tmp 6], #[Zj]⟩), none⟩,
 ⟨some 8, some (.move (.tmp 1)), none⟩,
 ⟨some 9, some (.call ⟨(.builtin .len), #[.tmp 8], #[Zj]⟩), none⟩,
 ⟨some 10, some (.binOp .neq Zc (.tmp 7) (.tmp 9) Zc), none⟩])
  (.cond (.tmp 10) (.seq (.reg [] [⟨some 4, some (.assign (.const (.bool false))), none⟩])
  .ret)
  .skip))
  (.seq (.seq (.reg [] [⟨some 5, some (.assign (.const (.int .i64 0))), none⟩])
  (.block 0 (.loop Zdy)))
  (.seq (.reg [] [⟨some 4, some (.assign (.const (.bool true))), none⟩])
  .ret))))
theorem Zjo {a0 a1 : AV} {H : AHeap} : R Zcu [a0, a1] H = fnK Tryz.prog [] H [(.tmp 4)] (evalL Tryz.prog KT R Zgk (Env.args [a0, a1] 0) H) :=
  runs_body (D := DT) (f := Zcu) Tryz.func9 (by kernel_rfl) (by kernel_rfl) (by kernel_rfl) (by kernel_rfl) (by kernel_rfl) (Nat.le_of_ble_eq_true rfl)
def Zen : LCode := (.seq (.reg [] [⟨some 18, some (.binOp .lss Zc (.tmp 17) (.tmp 16) Zc), none⟩])
  (.seq (.cond (.tmp 18) .skip
  (.exit 0))
  (.seq (.block 1 (.seq (.reg [] [⟨some 19, some (.indexAddr Zk (.tmp 15) (.tmp 17)), none⟩,
 ⟨some 20, some (.load Zc (.tmp 19)), none⟩,
 ⟨some 8, some (.assign (.tmp 20)), none⟩])
  (.seq (.reg [] [⟨some 22, some (.move (.tmp 0)), none⟩,
 ⟨some 23, some (.move (.tmp 8)), none⟩,
 ⟨some 24, some (.call ⟨(.value (.func Zba)), #[.tmp 22, .tmp 23], #[Zr, Zc]⟩), none⟩,
 ⟨some 21, some (.move (.tmp 24)), none⟩,
 ⟨some 25, some (.extract (.tmp 21) 0), none⟩,
 ⟨some 26, some (.extract (.tmp 21) 1), none⟩,
 ⟨some 9, some (.alloc Zd), none⟩,
 ⟨none, some (.store Zd (.tmp 9) (.tmp 25)), none⟩,
 ⟨some 10, some (.assign (.tmp 26)), none⟩])
  (.seq (.reg [] [⟨some 27, some (.move (.tmp 5)), none⟩,
 ⟨some 28, some (.fieldAddr Zd (.tmp 9) 8), none⟩,
 ⟨some 29, some (.load Zbd (.tmp 28)), none⟩,
 ⟨some 30, some (.lookup Zbn (.tmp 27) (.tmp 29) false), none⟩,
 ⟨some 11, some (.alloc Za), none⟩,
 ⟨none, some (.store Za (.tmp 11) (.tmp 30)), none⟩])
  (.seq (.seq (.reg [] [⟨some 31, some (.load Za (.tmp 11)), none⟩,
 ⟨some 32, some (.fieldAddr Zd (.tmp 9) 1), none⟩,
 ⟨some 33, some (.load Zc (.tmp 32)), none⟩,
 ⟨some 34, some (.call ⟨(.value (.func Zg9)), #[.tmp 31, .tmp 33], #[Za, Zc]⟩), none⟩,
 ⟨some 35, some (.unOp .not Zi (.tmp 34)), none⟩])
  (.cond (.tmp 35) (.reg [] [⟨some 36, some (.fieldAddr Zd (.tmp 9) 1), none⟩,
 ⟨some 37, some (.load Zc (.tmp 36)), none⟩,
 ⟨some 38, some (.build Za #[(0, (.tmp 37))]), none⟩,
 ⟨none, some (.store Za (.tmp 11) (.tmp 38)), none⟩])
  .skip))
  (.reg [] [⟨some 39, some (.move (.tmp 6)), none⟩,
 ⟨some 40, some (.fieldAddr Zd (.tmp 9) 8), none⟩,
 ⟨some 41, some (.load Zbd (.tmp 40)), none⟩,
 ⟨some 42, some (.load Za (.tmp 11)), none⟩,
 ⟨some 43, some (.build Z3 #[(0, (.tmp 41)), (1, (.tmp 42))]), none⟩,
 ⟨some 44, some (.buildSlice Zj 1 #[(0, (.tmp 43))]), none⟩,
 ⟨some 45, some (.call ⟨(.builtin .append), #[.tmp 39, .tmp 44], #[Zj, Zj]⟩), none⟩,
 ⟨some 6, some (.assign (.tmp 45)), none⟩]))))))
  (.reg [] [⟨some 46, some (.binOp .add Zc (.tmp 17) (.const (.int .i64 1)) Zc), none⟩,
 ⟨some 17, some (.move (.tmp 46)), none⟩]))))
@[simp] theorem Zmi : defs Zen = [18, 19, 20, 8, 22, 23, 24, 21, 25, 26, 9, 10, 27, 28, 29, 30, 11, 31, 32, 33, 34, 35, 36, 37, 38, 39, 40, 41, 42, 43, 44, 45, 6, 46, 17] := by rfl
def Zii : LCode := (.seq (.reg [] [⟨some 4, some (.assign (.const (.slice none 0 0))), none⟩])
  (.seq (.reg [] [⟨some 12, some (.move (.tmp 1)), none⟩,
 ⟨some 13, some (.call ⟨(.value (.func Zf0)), #[.tmp 12], #[Zj]⟩), none⟩,
 ⟨some 5, some (.assign (.tmp 13)), none⟩])
  (.seq (.reg [] [⟨some 6, some (.assign (.const (.slice none 0 0))), none⟩])
  (.seq (.seq (.reg [] [⟨some 14, some (.move (.tmp 0)), none⟩,
 ⟨some 15, some (.call ⟨(.value (.func Zch)), #[.tmp 14], #[Zr]⟩), none⟩,
 ⟨some 16, some (.call ⟨(.builtin .len), #[.tmp 15], #[Zk]⟩), none⟩,
 ⟨some 17, some (.move (.const (.int .i64 0))), none⟩])
  (.block 0 (.loop Zen)))
  (.seq (.reg [] [⟨some 47, some (.move (.tmp 6)), none⟩,
 ⟨some 4, some (.assign (.tmp 47)), none⟩])
  .ret)))))
theorem Zkl {a0 a1 : AV} {H : AHeap} : R Zc0 [a0, a1] H = fnK Tryz.prog [0] H [(.tmp 4)] (evalL Tryz.prog KT R Zii (Env.args [a0, a1] 0) H) :=
  runs_body (D := DT) (f := Zc0) Tryz.func10 (by kernel_rfl) (by kernel_rfl) (by kernel_rfl) (by kernel_rfl) (by kernel_rfl) (Nat.le_of_ble_eq_true rfl)
def Zbg : LCode := (.seq (.seq (.reg [] [⟨some 13, some (.move (.tmp 7)), none⟩,
 ⟨some 14, some (.move (.tmp 6)), none⟩,
 ⟨some 15, some (.call ⟨(.builtin .len), #[.tmp 14], #[Zk]⟩), none⟩,
 ⟨some 16, some (.binOp .lss Zc (.tmp 13) (.tmp 15) Zc), none⟩])
  (.cond (.tmp 16) .skip
  (.exit 0)))
  (.seq (.block 1 (.seq (.reg [] [⟨some 19, some (.move (.tmp 0)), none⟩,
 ⟨some 20, some (.nilCheck (.tmp 19)), none⟩,
 ⟨some 21, some (.fieldAddr Zl (.tmp 20) 0), none⟩,
 ⟨some 22, some (.load Zh (.tmp 21)), none⟩,
 ⟨some 23, some (.move (.tmp 6)), none⟩,
 ⟨some 24, some (.move (.tmp 7)), none⟩,
 ⟨some 25, some (.indexAddr Zk (.tmp 23) (.tmp 24)), none⟩,
 ⟨some 26, some (.load Zc (.tmp 25)), none⟩,
 ⟨some 27, some (.binOp .sub Zc (.tmp 26) (.const (.int .i64 1)) Zc), none⟩,
 ⟨some 28, some (.indexAddr Zh (.tmp 22) (.tmp 27)), none⟩,
 ⟨some 29, some (.load Zd (.tmp 28)), none⟩,
 ⟨some 8, some (.alloc Zd), none⟩,
 ⟨none, some (.store Zd (.tmp 8) (.tmp 29)), none⟩])
  (.seq (.reg [] [⟨some 31, some (.move (.tmp 1)), none⟩,
 ⟨some 32, some (.fieldAddr Zd (.tmp 8) 8), none⟩,
 ⟨some 33, some (.load Zbd (.tmp 32)), none⟩,
 ⟨some 34, some (.call ⟨(.value (.func Zev)), #[.tmp 31, .tmp 33], #[Zj, Zbd]⟩), none⟩,
 ⟨some 30, some (.move (.tmp 34)), none⟩,
 ⟨some 35, some (.extract (.tmp 30) 0), none⟩,
 ⟨some 36, some (.extract (.tmp 30) 1), none⟩,
 ⟨some 9, some (.alloc Za), none⟩,
 ⟨none, some (.store Za (.tmp 9) (.tmp 35)), none⟩,
 ⟨some 10, some (.assign (.tmp 36)), none⟩])
  (.seq (.seq (.reg [] [⟨some 37, some (.move (.tmp 10)), none⟩,
 ⟨some 38, some (.unOp .not Zi (.tmp 37)), none⟩,
 ⟨some 39, some (.move (.tmp 38)), none⟩,
 ⟨some 40, some (.load Za (.tmp 9)), some (some 39, false)⟩,
 ⟨some 41, some (.call ⟨(.value (.func Zcd)), #[.tmp 40], #[Za]⟩), some (some 39, false)⟩,
 ⟨some 42, some (.unOp .not Zi (.tmp 41)), some (some 39, false)⟩,
 ⟨some 43, some (.pick (.tmp 39) (.const (.bool true)) (.tmp 42)), none⟩,
 ⟨some 44, some (.move (.tmp 43)), none⟩,
 ⟨some 45, some (.fieldAddr Za (.tmp 9) 0), some (some 44, false)⟩,
 ⟨some 46, some (.load Zc (.tmp 45)), some (some 44, false)⟩,
 ⟨some 47, some (.fieldAddr Zd (.tmp 8) 1), some (some 44, false)⟩,
 ⟨some 48, some (.load Zc (.tmp 47)), some (some 44, false)⟩,
 ⟨some 49, some (.binOp .neq Zc (.tmp 46) (.tmp 48) Zc), some (some 44, false)⟩,
 ⟨some 50, some (.pick (.tmp 44) (.const (.bool true)) (.tmp 49)), none⟩])
  (.cond (.tmp 50) (.reg [] [⟨some 51, some (.fieldAddr Zd (.tmp 8) 1), none⟩,
 ⟨some 52, some (.load Zc (.tmp 51)), none⟩,
 ⟨some 53, some (.build Za #[(0, (.tmp 52))]), none⟩,
 ⟨none, some (.store Za (.tmp 9) (.tmp 53)), none⟩])
  .skip))
  (.reg [] [⟨some 54, some (.move (.tmp 5)), none⟩,
 ⟨some 55, some (.fieldAddr Zd (.tmp 8) 8), none⟩,
 ⟨some 56, some (.load Zbd (.tmp 55)), none⟩,
 ⟨some 57, some (.load Za (.tmp 9)), none⟩,
 ⟨some 58, some (.build Z3 #[(0, (.tmp 56)), (1, (.tmp 57))]), none⟩,
 ⟨some 59, some (.buildSlice Zj 1 #[(0, (.tmp 58))]), none⟩,
 ⟨some 60, some (.call ⟨(.builtin .append), #[.tmp 54, .tmp 59], #[Zj, Zj]⟩), none⟩,
 ⟨some 5, some (.assign (.tmp 60)), none⟩])))))
  (.reg [] [⟨some 17, some (.move (.tmp 7)), none⟩,
 ⟨some 18, some (.binOp .add Zc (.tmp 17) (.const (.int .i64 1)) Zc), none⟩,
 ⟨some 7, some (.assign (.tmp 18)), none⟩])))
@[simp] theorem Zlf : defs Zbg = [13, 14, 15, 16, 19, 20, 21, 22, 23, 24, 25, 26, 27, 28, 29, 8, 31, 32, 33, 34, 30, 35, 36, 9, 10, 37, 38, 39, 40, 41, 42, 43, 44, 45, 46, 47, 48, 49, 50, 51, 52, 53, 54, 55, 56, 57, 58, 59, 60, 5, 17, 18, 7] := by rfl
def Zg5 : LCode := (.seq (.reg [] [⟨some 4, some (.assign (.const (.slice none 0 0))), none⟩])
  (.seq (.reg [] [⟨some 5, some (.assign (.const (.slice none 0 0))), none⟩])
  (.seq (.reg [] [⟨some 11, some (.move (.tmp 0)), none⟩,
 ⟨some 12, some (.call ⟨(.value (.func Zbs)), #[.tmp 11], #[Zbu]⟩), none⟩,
 ⟨some 6, some (.assign (.tmp 12)), none⟩])
  (.seq (.seq (.reg [] [⟨some 7, some (.assign (.const (.int .i64 0))), none⟩])
  (.block 0 (.loop Zbg)))
  (.seq (.reg [] [⟨some 61, some (.move (.tmp 5)), none⟩,
 ⟨some 4, some (.assign (.tmp 61)), none⟩])
  .ret)))))
theorem Ziz {a0 a1 : AV} {H : AHeap} : R Zdc [a0, a1] H = fnK Tryz.prog [0] H [(.tmp 4)] (evalL Tryz.prog KT R Zg5 (Env.args [a0, a1] 0) H) :=
  runs_body (D := DT) (f := Zdc) Tryz.func11 (by kernel_rfl) (by kernel_rfl) (by kernel_rfl) (by kernel_rfl) (by kernel_rfl) (Nat.le_of_ble_eq_true rfl)
def Zlg : LCode := (.seq (.reg [] [⟨some 2, some (.assign (.const (.pointer none))), none⟩])
  (.seq (.reg [] [⟨some 3, some (.move (.tmp 0)), none⟩,
 ⟨some 4, some (.call ⟨(.builtin .max), #[(.tmp 3), (.const (.int .i64 1))], #[Zc, Zc]⟩), none⟩,
 ⟨some 5, some (.call ⟨(.builtin .min), #[(.tmp 4), (.const (.int .i64 4096))], #[Zc, Zc]⟩), none⟩,
 ⟨some 6, some (.makeMap Zcq none), none⟩,
 ⟨some 7, some (.makeMap Zdk none), none⟩,
 ⟨some 8, some (.build Zt #[(0, (.tmp 5)), (2, (.tmp 6)), (3, (.tmp 7))]), none⟩,
 ⟨some 9, some (.box Zt (.tmp 8)), none⟩,
 ⟨some 2, some (.assign (.tmp 9)), none⟩])
  .ret))
theorem Zmw {a0 : AV} {H : AHeap} : R Zgg [a0] H = fnK Tryz.prog [] H [(.tmp 2)] (evalL Tryz.prog KT R Zlg (Env.args [a0] 0) H) :=
  runs_body (D := DT) (f := Zgg) Tryz.func12 (by kernel_rfl) (by kernel_rfl) (by kernel_rfl) (by kernel_rfl) (by kernel_rfl) (Nat.le_of_ble_eq_true rfl)
def Zb2 : LCode := (.seq (.reg [] [⟨some 3, some (.box Zd (.tmp 1)), none⟩,
 ⟨some 4, some (.assign (.const (.int .i64 0))), none⟩,
 ⟨some 5, some (.assign (.const (.int .i64 0))), none⟩])
  (.seq (.seq (.reg [] [⟨some 9, some (.move (.tmp 0)), none⟩,
 ⟨some 10, some (.load Zd (.tmp 3)), none⟩,
 ⟨some 11, some (.call ⟨(.value (.func Zcx)), #[.tmp 9, .tmp 10], #[Zr, Zd]⟩), none⟩,
 ⟨some 12, some (.unOp .not Zi (.tmp 11)), none⟩])
  (.cond (.tmp 12) (.seq (.reg [] [⟨some 4, some (.assign (.const (.int .i64 0))), none⟩,
 ⟨some 5, some (.assign (.const (.int .i64 32))), none⟩])
  .ret)
  .skip))
  (.seq (.reg [] [⟨some 14, some (.move (.tmp 0)), none⟩,
 ⟨some 15, some (.load Zd (.tmp 3)), none⟩,
 ⟨some 16, some (.call ⟨(.value (.func Zcy)), #[.tmp 14, .tmp 15], #[Zr, Zd]⟩), none⟩,
 ⟨some 13, some (.move (.tmp 16)), none⟩,
 ⟨some 17, some (.extract (.tmp 13) 0), none⟩,
 ⟨some 18, some (.extract (.tmp 13) 1), none⟩,
 ⟨none, some (.store Zd (.tmp 3) (.tmp 17)), none⟩,
 ⟨some 6, some (.assign (.tmp 18)), none⟩])
  (.seq (.seq (.reg [] [⟨some 19, some (.move (.tmp 6)), none⟩,
 ⟨some 20, some (.binOp .neq Zfd (.tmp 19) (.const (.int .i64 0)) Zfd), none⟩])
  (.cond (.tmp 20) (.seq (.reg [] [⟨some 21, some (.move (.tmp 6)), none⟩,
 ⟨some 4, some (.assign (.const (.int .i64 0))), none⟩,
 ⟨some 5, some (.assign (.tmp 21)), none⟩])
  .ret)
  .skip))
  (.seq (.seq (.reg [] [⟨some 22, some (.move (.tmp 0)), none⟩,
 ⟨some 23, some (.nilCheck (.tmp 22)), none⟩,
 ⟨some 24, some (.fieldAddr Zt (.tmp 23) 2), none⟩,
 ⟨some 25, some (.load Zcq (.tmp 24)), none⟩,
 ⟨some 26, some (.load Zd (.tmp 3)), none⟩,
 ⟨some 27, some (.lookup Zcq (.tmp 25) (.tmp 26) false), none⟩,
 ⟨some 7, some (.assign (.tmp 27)), none⟩])
  (.seq (.reg [] [⟨some 28, some (.move (.tmp 7)), none⟩,
 ⟨some 29, some (.binOp .gtr Zc (.tmp 28) (.const (.int .i64 0)) Zc), none⟩])
  (.cond (.tmp 29) (.seq (.reg [] [⟨some 30, some (.move (.tmp 7)), none⟩,
 ⟨some 4, some (.assign (.tmp 30)), none⟩,
 ⟨some 5, some (.assign (.const (.int .i64 0))), none⟩])
  .ret)
  .skip)))
  (.seq (.seq (.reg [] [⟨some 31, some (.move (.tmp 0)), none⟩,
 ⟨some 32, some (.nilCheck (.tmp 31)), none⟩,
 ⟨some 33, some (.fieldAddr Zt (.tmp 32) 1), none⟩,
 ⟨some 34, some (.load Zh (.tmp 33)), none⟩,
 ⟨some 35, some (.call ⟨(.builtin .len), #[.tmp 34], #[Zh]⟩), none⟩,
 ⟨some 36, some (.move (.tmp 0)), none⟩,
 ⟨some 37, some (.nilCheck (.tmp 36)), none⟩,
 ⟨some 38, some (.fieldAddr Zt (.tmp 37) 0), none⟩,
 ⟨some 39, some (.load Zc (.tmp 38)), none⟩,
 ⟨some 40, some (.binOp .geq Zc (.tmp 35) (.tmp 39) Zc), none⟩])
  (.cond (.tmp 40) (.seq (.reg [] [⟨some 4, some (.assign (.const (.int .i64 0))), none⟩,
 ⟨some 5, some (.assign (.const (.int .i64 33))), none⟩])
  .ret)
  .skip))
  (.seq (.reg [] [⟨some 41, some (.move (.tmp 0)), none⟩,
 ⟨some 42, some (.move (.tmp 0)), none⟩,
 ⟨some 43, some (.nilCheck (.tmp 42)), none⟩,
 ⟨some 44, some (.fieldAddr Zt (.tmp 43) 1), none⟩,
 ⟨some 45, some (.load Zh (.tmp 44)), none⟩,
 ⟨some 46, some (.load Zd (.tmp 3)), none⟩,
 ⟨some 47, some (.buildSlice Zh 1 #[(0, (.tmp 46))]), none⟩,
 ⟨some 48, some (.call ⟨(.builtin .append), #[.tmp 45, .tmp 47], #[Zh, Zh]⟩), none⟩,
 ⟨some 49, some (.nilCheck (.tmp 41)), none⟩,
 ⟨some 50, some (.fieldAddr Zt (.tmp 49) 1), none⟩,
 ⟨none, some (.store Zh (.tmp 50) (.tmp 48)), none⟩])
  (.seq (.reg [] [⟨some 51, some (.move (.tmp 0)), none⟩,
 ⟨some 52, some (.nilCheck (.tmp 51)), none⟩,
 ⟨some 53, some (.fieldAddr Zt (.tmp 52) 1), none⟩,
 ⟨some 54, some (.load Zh (.tmp 53)), none⟩,
 ⟨some 55, some (.call ⟨(.builtin .len), #[.tmp 54], #[Zh]⟩), none⟩,
 ⟨some 8, some (.assign (.tmp 55)), none⟩])
  (.seq (.reg [] [⟨some 56, some (.move (.tmp 0)), none⟩,
 ⟨some 57, some (.nilCheck (.tmp 56)), none⟩,
 ⟨some 58, some (.fieldAddr Zt (.tmp 57) 2), none⟩,
 ⟨some 59, some (.load Zcq (.tmp 58)), none⟩,
 ⟨some 60, some (.load Zd (.tmp 3)), none⟩,
 ⟨some 61, some (.move (.tmp 8)), none⟩,
 ⟨none, some (.mapUpdate Zcq (.tmp 59) (.tmp 60) (.tmp 61)), none⟩])
  (.seq (.seq (.reg [] [⟨some 62, some (.fieldAddr Zd (.tmp 3) 0), none⟩,
 ⟨some 63, some (.load Zc (.tmp 62)), none⟩,
 ⟨some 64, some (.binOp .eql Zc (.tmp 63) (.const (.int .i64 2)) Zc), none⟩])
  (.cond (.tmp 64) (.reg [] [⟨some 65, some (.move (.tmp 0)), none⟩,
 ⟨some 66, some (.nilCheck (.tmp 65)), none⟩,
 ⟨some 67, some (.fieldAddr Zt (.tmp 66) 3), none⟩,
 ⟨some 68, some (.load Zdk (.tmp 67)), none⟩,
 ⟨some 69, some (.fieldAddr Zd (.tmp 3) 8), none⟩,
 ⟨some 70, some (.load Zbd (.tmp 69)), none⟩,
 ⟨some 71, some (.move (.tmp 8)), none⟩,
 ⟨none, some (.mapUpdate Zdk (.tmp 68) (.tmp 70) (.tmp 71)), none⟩])
  .skip))
  (.seq (.reg [] [⟨some 72, some (.move (.tmp 8)), none⟩,
 ⟨some 4, some (.assign (.tmp 72)), none⟩,
 ⟨some 5, some (.assign (.const (.int .i64 0))), none⟩])
  .ret)))))))))))
theorem Zhz {a0 a1 : AV} {H : AHeap} : R Zu [a0, a1] H = fnK Tryz.prog [] H [(.tmp 4), (.tmp 5)] (evalL Tryz.prog KT R Zb2 (Env.args [a0, a1] 0) H) :=
  runs_body (D := DT) (f := Zu) Tryz.func13 (by kernel_rfl) (by kernel_rfl) (by kernel_rfl) (by kernel_rfl) (by kernel_rfl) (Nat.le_of_ble_eq_true rfl)
def Zfs : LCode := (.seq (.reg [] [⟨some 23, some (.binOp .lss Zc (.tmp 22) (.tmp 21) Zc), none⟩])
  (.seq (.cond (.tmp 23) .skip
  (.exit 0))
  (.seq (.block 1 (.seq (.reg [] [⟨some 24, some (.move (.tmp 22)), none⟩,
 ⟨some 25, some (.indexAddr Zf (.tmp 20) (.tmp 22)), none⟩,
 ⟨some 26, some (.load Za (.tmp 25)), none⟩,
 ⟨some 12, some (.alloc Za), none⟩,
 ⟨some 11, some (.assign (.tmp 24)), none⟩,
 ⟨none, some (.store Za (.tmp 12) (.tmp 26)), none⟩])
  (.seq (.reg [] [⟨some 27, some (.move (.tmp 10)), none⟩,
 ⟨some 28, some (.move (.tmp 11)), none⟩,
 ⟨some 29, some (.fieldAddr Za (.tmp 12) 0), none⟩,
 ⟨some 30, some (.load Zc (.tmp 29)), none⟩,
 ⟨some 31, some (.indexAddr Zk (.tmp 27) (.tmp 28)), none⟩,
 ⟨none, some (.store Zc (.tmp 31) (.tmp 30)), none⟩])
  (.seq (.reg [] [⟨some 32, some (.load Za (.tmp 12)), none⟩,
 ⟨some 33, some (.call ⟨(.value (.func Ze1)), #[.tmp 32], #[Za]⟩), none⟩,
 ⟨some 34, some (.unOp .not Zi (.tmp 33)), none⟩])
  (.cond (.tmp 34) (.reg [] [⟨some 35, some (.move (.tmp 10)), none⟩,
 ⟨some 36, some (.move (.tmp 11)), none⟩,
 ⟨some 37, some (.indexAddr Zk (.tmp 35) (.tmp 36)), none⟩,
 ⟨none, some (.store Zc (.tmp 37) (.const (.int .i64 (-1)))), none⟩])
  .skip)))))
  (.reg [] [⟨some 38, some (.binOp .add Zc (.tmp 22) (.const (.int .i64 1)) Zc), none⟩,
 ⟨some 22, some (.move (.tmp 38)), none⟩]))))
@[simp] theorem Zmz : defs Zfs = [23, 24, 25, 26, 12, 11, 27, 28, 29, 30, 31, 32, 33, 34, 35, 36, 37, 38, 22] := by rfl
def Zjz : LCode := (.seq (.reg [] [⟨some 8, some (.alloc Za), none⟩,
 ⟨some 9, some (.assign (.const (.int .i64 0))), none⟩])
  (.seq (.reg [] [⟨some 17, some (.move (.tmp 3)), none⟩,
 ⟨some 18, some (.call ⟨(.builtin .len), #[.tmp 17], #[Zf]⟩), none⟩,
 ⟨some 19, some (.makeSlice Zk (.tmp 18) (.tmp 18)), none⟩,
 ⟨some 10, some (.assign (.tmp 19)), none⟩])
  (.seq (.seq (.reg [] [⟨some 20, some (.move (.tmp 3)), none⟩,
 ⟨some 21, some (.call ⟨(.builtin .len), #[.tmp 20], #[Zf]⟩), none⟩,
 ⟨some 22, some (.move (.const (.int .i64 0))), none⟩])
  (.block 0 (.loop Zfs)))
  (.seq (.seq (.reg [] [⟨some 40, some (.move (.tmp 0)), none⟩,
 ⟨some 41, some (.move (.tmp 1)), none⟩,
 ⟨some 42, some (.move (.tmp 2)), none⟩,
 ⟨some 43, some (.move (.tmp 10)), none⟩,
 ⟨some 44, some (.call ⟨(.value (.func Zgh)), #[.tmp 40, .tmp 41, .tmp 42, .tmp 43], #[Zc, Zc, Zc, Zk]⟩), none⟩,
 ⟨some 39, some (.move (.tmp 44)), none⟩,
 ⟨some 45, some (.extract (.tmp 39) 0), none⟩,
 ⟨some 46, some (.extract (.tmp 39) 1), none⟩,
 ⟨some 13, some (.assign (.tmp 45)), none⟩,
 ⟨some 14, some (.assign (.tmp 46)), none⟩])
  (.seq (.reg [] [⟨some 47, some (.move (.tmp 14)), none⟩,
 ⟨some 48, some (.binOp .neq Zfd (.tmp 47) (.const (.int .i64 0)) Zfd), none⟩])
  (.cond (.tmp 48) (.seq (.reg [] [⟨some 49, some (.build Za #[]), none⟩,
 ⟨some 50, some (.move (.tmp 14)), none⟩,
 ⟨none, some (.store Za (.tmp 8) (.tmp 49)), none⟩,
 ⟨some 9, some (.assign (.tmp 50)), none⟩])
  .ret)
  .skip)))
  (.seq (.reg [] [⟨some 52, some (.move (.tmp 0)), none⟩,
 ⟨some 53, some (.call ⟨(.value (.func Zf1)), #[.tmp 52], #[Zc]⟩), none⟩,
 ⟨some 51, some (.move (.tmp 53)), none⟩,
 ⟨some 54, some (.extract (.tmp 51) 0), none⟩,
 ⟨some 55, some (.extract (.tmp 51) 1), none⟩,
 ⟨some 15, some (.alloc Zn), none⟩,
 ⟨none, some (.store Zn (.tmp 15) (.tmp 54)), none⟩,
 ⟨some 16, some (.assign (.tmp 55)), none⟩])
  (.seq (.seq (.reg [] [⟨some 56, some (.move (.tmp 16)), none⟩,
 ⟨some 57, some (.unOp .not Zi (.tmp 56)), none⟩])
  (.cond (.tmp 57) (.reg [] [⟨some 58, some (.move (.tmp 0)), none⟩,
 ⟨some 59, some (.call ⟨(.value (.func Zhk)), #[.tmp 58], #[Zc]⟩), none⟩,
 ⟨none, some (.store Zn (.tmp 15) (.tmp 59)), none⟩])
  .skip))
  (.seq (.reg [] [⟨some 60, some (.fieldAddr Zn (.tmp 15) 0), none⟩,
 ⟨some 61, some (.load Zna (.tmp 60)), none⟩,
 ⟨some 62, some (.move (.tmp 1)), none⟩,
 ⟨some 63, some (.move (.tmp 2)), none⟩,
 ⟨some 64, some (.move (.tmp 3)), none⟩,
 ⟨some 65, some (.call ⟨(.value (.tmp 61)), #[.tmp 62, .tmp 63, .tmp 64], #[Zc, Zc, Zf]⟩), none⟩,
 ⟨some 66, some (.extract (.tmp 65) 0), none⟩,
 ⟨some 67, some (.extract (.tmp 65) 1), none⟩,
 ⟨none, some (.store Za (.tmp 8) (.tmp 66)), none⟩,
 ⟨some 9, some (.assign (.tmp 67)), none⟩])
  .ret)))))))
theorem Zlt {a0 a1 a2 a3 : AV} {H : AHeap} : R Zfe [a0, a1, a2, a3] H = fnK Tryz.prog [] H [(.cell 8 Za), (.tmp 9)] (evalL Tryz.prog KT R Zjz (Env.args [a0, a1, a2, a3] 0) H) :=
  runs_body (D := DT) (f := Zfe) Tryz.func14 (by kernel_rfl) (by kernel_rfl) (by kernel_rfl) (by kernel_rfl) (by kernel_rfl) (Nat.le_of_ble_eq_true rfl)
def Zhb : LCode := (.seq (.reg [] [⟨some 2, some (.assign (.const (.pointer none))), none⟩])
  (.seq (.seq (.reg [] [⟨some 3, some (.move (.tmp 0)), none⟩,
 ⟨some 4, some (.binOp .lss Zc (.tmp 3) (.const (.int .i64 1)) Zc), none⟩])
  (.cond (.tmp 4) (.reg [] [⟨some 0, some (.assign (.const (.int .i64 1))), none⟩])
  .skip))
  (.seq (.reg [] [⟨some 5, some (.move (.tmp 0)), none⟩,
 ⟨some 6, some (.call ⟨(.builtin .min), #[(.tmp 5), (.const (.int .i64 4096))], #[Zc, Zc]⟩), none⟩,
 ⟨some 7, some (.build Zl #[(1, (.tmp 6))]), none⟩,
 ⟨some 8, some (.box Zl (.tmp 7)), none⟩,
 ⟨some 2, some (.assign (.tmp 8)), none⟩])
  .ret)))
theorem Zkm {a0 : AV} {H : AHeap} : R Zff [a0] H = fnK Tryz.prog [] H [(.tmp 2)] (evalL Tryz.prog KT R Zhb (Env.args [a0] 0) H) :=
  runs_body (D := DT) (f := Zff) Tryz.func15 (by kernel_rfl) (by kernel_rfl) (by kernel_rfl) (by kernel_rfl) (by kernel_rfl) (Nat.le_of_ble_eq_true rfl)
def Zbj : LCode := (.seq (.seq (.reg [] [⟨some 50, some (.move (.tmp 9)), none⟩,
 ⟨some 51, some (.binOp .lss Zc (.tmp 50) (.const (.int .i64 3)) Zc), none⟩])
  (.cond (.tmp 51) .skip
  (.exit 0)))
  (.seq (.block 1 (.seq (.reg [] [⟨some 55, some (.move (.tmp 0)), none⟩,
 ⟨some 56, some (.move (.tmp 7)), none⟩,
 ⟨some 57, some (.move (.tmp 9)), none⟩,
 ⟨some 58, some (.indexAddr Zk (.tmp 56) (.tmp 57)), none⟩,
 ⟨some 59, some (.load Zc (.tmp 58)), none⟩,
 ⟨some 60, some (.call ⟨(.value (.func Zcr)), #[.tmp 55, .tmp 59], #[Zbu, Zc]⟩), none⟩,
 ⟨some 54, some (.move (.tmp 60)), none⟩,
 ⟨some 61, some (.extract (.tmp 54) 0), none⟩,
 ⟨some 62, some (.extract (.tmp 54) 1), none⟩,
 ⟨some 10, some (.alloc Zd), none⟩,
 ⟨none, some (.store Zd (.tmp 10) (.tmp 61)), none⟩,
 ⟨some 11, some (.assign (.tmp 62)), none⟩])
  (.seq (.seq (.reg [] [⟨some 63, some (.move (.tmp 9)), none⟩,
 ⟨some 64, some (.move (.tmp 6)), none⟩,
 ⟨some 65, some (.binOp .lss Zc (.tmp 63) (.tmp 64) Zc), none⟩,
 ⟨some 66, some (.move (.tmp 65)), none⟩,
 ⟨some 67, some (.move (.tmp 11)), some (some 66, true)⟩,
 ⟨some 68, some (.unOp .not Zi (.tmp 67)), some (some 66, true)⟩,
 ⟨some 69, some (.pick (.tmp 66) (.tmp 68) (.const (.bool false))), none⟩,
 ⟨some 70, some (.move (.tmp 69)), none⟩,
 ⟨some 71, some (.move (.tmp 9)), some (some 70, false)⟩,
 ⟨some 72, some (.move (.tmp 6)), some (some 70, false)⟩,
 ⟨some 73, some (.binOp .geq Zc (.tmp 71) (.tmp 72) Zc), some (some 70, false)⟩,
 ⟨some 74, some (.move (.tmp 73)), some (some 70, false)⟩,
 ⟨some 75, some (.move (.tmp 7)), some (some 74, true)⟩,
 ⟨some 76, some (.move (.tmp 9)), some (some 74, true)⟩,
 ⟨some 77, some (.indexAddr Zk (.tmp 75) (.tmp 76)), some (some 74, true)⟩,
 ⟨some 78, some (.load Zc (.tmp 77)), some (some 74, true)⟩,
 ⟨some 79, some (.binOp .neq Zc (.tmp 78) (.const (.int .i64 0)) Zc), some (some 74, true)⟩,
 ⟨some 80, some (.pick (.tmp 74) (.tmp 79) (.const (.bool false))), some (some 70, false)⟩,
 ⟨some 81, some (.pick (.tmp 70) (.const (.bool true)) (.tmp 80)), none⟩])
  (.cond (.tmp 81) (.seq (.reg [] [⟨some 4, some (.assign (.const (.int .i64 0))), none⟩,
 ⟨some 5, some (.assign (.const (.int .i64 32))), none⟩])
  .ret)
  .skip))
  (.seq (.reg [] [⟨some 82, some (.move (.tmp 9)), none⟩,
 ⟨some 83, some (.move (.tmp 6)), none⟩,
 ⟨some 84, some (.binOp .lss Zc (.tmp 82) (.tmp 83) Zc), none⟩])
  (.cond (.tmp 84) (.reg [] [⟨some 85, some (.move (.tmp 8)), none⟩,
 ⟨some 86, some (.fieldAddr Zd (.tmp 10) 1), none⟩,
 ⟨some 87, some (.load Zc (.tmp 86)), none⟩,
 ⟨some 88, some (.buildSlice Zk 1 #[(0, (.tmp 87))]), none⟩,
 ⟨some 89, some (.call ⟨(.builtin .append), #[.tmp 85, .tmp 88], #[Zk, Zk]⟩), none⟩,
 ⟨some 8, some (.assign (.tmp 89)), none⟩])
  .skip)))))
  (.reg [] [⟨some 52, some (.move (.tmp 9)), none⟩,
 ⟨some 53, some (.binOp .add Zc (.tmp 52) (.const (.int .i64 1)) Zc), none⟩,
 ⟨some 9, some (.assign (.tmp 53)), none⟩])))
def Zs : LCode := (.seq (.seq (.reg [] [⟨some 175, some (.move (.tmp 16)), none⟩,
 ⟨some 176, some (.move (.tmp 0)), none⟩,
 ⟨some 177, some (.nilCheck (.tmp 176)), none⟩,
 ⟨some 178, some (.fieldAddr Zl (.tmp 177) 0), none⟩,
 ⟨some 179, some (.load Zh (.tmp 178)), none⟩,
 ⟨some 180, some (.call ⟨(.builtin .len), #[.tmp 179], #[Zh]⟩), none⟩,
 ⟨some 181, some (.binOp .lss Zc (.tmp 175) (.tmp 180) Zc), none⟩])
  (.cond (.tmp 181) .skip
  (.exit 3)))
  (.seq (.block 4 (.seq (.reg [] [⟨some 184, some (.move (.tmp 0)), none⟩,
 ⟨some 185, some (.nilCheck (.tmp 184)), none⟩,
 ⟨some 186, some (.fieldAddr Zl (.tmp 185) 0), none⟩,
 ⟨some 187, some (.load Zh (.tmp 186)), none⟩,
 ⟨some 188, some (.move (.tmp 16)), none⟩,
 ⟨some 189, some (.indexAddr Zh (.tmp 187) (.tmp 188)), none⟩,
 ⟨some 190, some (.load Zd (.tmp 189)), none⟩,
 ⟨some 191, some (.load Zd (.tmp 3)), none⟩,
 ⟨some 192, some (.binOp .eql Zd (.tmp 190) (.tmp 191) Zd), none⟩])
  (.cond (.tmp 192) (.seq (.reg [] [⟨some 193, some (.move (.tmp 16)), none⟩,
 ⟨some 194, some (.binOp .add Zc (.tmp 193) (.const (.int .i64 1)) Zc), none⟩,
 ⟨some 4, some (.assign (.tmp 194)), none⟩,
 ⟨some 5, some (.assign (.const (.int .i64 0))), none⟩])
  .ret)
  .skip)))
  (.reg [] [⟨some 182, some (.move (.tmp 16)), none⟩,
 ⟨some 183, some (.binOp .add Zc (.tmp 182) (.const (.int .i64 1)) Zc), none⟩,
 ⟨some 16, some (.assign (.tmp 183)), none⟩])))
@[simp] theorem Zji : defs Zbj = [50, 51, 55, 56, 57, 58, 59, 60, 54, 61, 62, 10, 11, 63, 64, 65, 66, 67, 68, 69, 70, 71, 72, 73, 74, 75, 76, 77, 78, 79, 80, 81, 4, 5, 82, 83, 84, 85, 86, 87, 88, 89, 8, 52, 53, 9] := by rfl
@[simp] theorem Zjj : defs Zs = [175, 176, 177, 178, 179, 180, 181, 184, 185, 186, 187, 188, 189, 190, 191, 192, 193, 194, 4, 5, 182, 183, 16] := by rfl
def Zw : LCode := (.seq (.reg [] [⟨some 3, some (.box Zd (.tmp 1)), none⟩,
 ⟨some 4, some (.assign (.const (.int .i64 0))), none⟩,
 ⟨some 5, some (.assign (.const (.int .i64 0))), none⟩])
  (.seq (.reg [] [⟨some 17, some (.fieldAddr Zd (.tmp 3) 0), none⟩,
 ⟨some 18, some (.load Zc (.tmp 17)), none⟩,
 ⟨some 19, some (.call ⟨(.value (.func Zdp)), #[.tmp 18], #[Zc]⟩), none⟩,
 ⟨some 6, some (.assign (.tmp 19)), none⟩])
  (.seq (.reg [] [⟨some 20, some (.fieldAddr Zd (.tmp 3) 2), none⟩,
 ⟨some 21, some (.load Zc (.tmp 20)), none⟩,
 ⟨some 22, some (.fieldAddr Zd (.tmp 3) 3), none⟩,
 ⟨some 23, some (.load Zc (.tmp 22)), none⟩,
 ⟨some 24, some (.fieldAddr Zd (.tmp 3) 4), none⟩,
 ⟨some 25, some (.load Zc (.tmp 24)), none⟩,
 ⟨some 26, some (.buildSlice Zk 3 #[(0, (.tmp 21)), (1, (.tmp 23)), (2, (.tmp 25))]), none⟩,
 ⟨some 7, some (.assign (.tmp 26)), none⟩])
  (.seq (.seq (.reg [] [⟨some 27, some (.move (.tmp 6)), none⟩,
 ⟨some 28, some (.binOp .lss Zc (.tmp 27) (.const (.int .i64 0)) Zc), none⟩,
 ⟨some 29, some (.move (.tmp 28)), none⟩,
 ⟨some 30, some (.fieldAddr Zd (.tmp 3) 0), some (some 29, false)⟩,
 ⟨some 31, some (.load Zc (.tmp 30)), some (some 29, false)⟩,
 ⟨some 32, some (.binOp .neq Zc (.tmp 31) (.const (.int .i64 1)) Zc), some (some 29, false)⟩,
 ⟨some 33, some (.move (.tmp 32)), some (some 29, false)⟩,
 ⟨some 34, some (.fieldAddr Zd (.tmp 3) 7), some (some 33, true)⟩,
 ⟨some 35, some (.load Za (.tmp 34)), some (some 33, true)⟩,
 ⟨some 36, some (.build Za #[]), some (some 33, true)⟩,
 ⟨some 37, some (.binOp .neq Za (.tmp 35) (.tmp 36) Za), some (some 33, true)⟩,
 ⟨some 38, some (.pick (.tmp 33) (.tmp 37) (.const (.bool false))), some (some 29, false)⟩,
 ⟨some 39, some (.pick (.tmp 29) (.const (.bool true)) (.tmp 38)), none⟩,
 ⟨some 40, some (.move (.tmp 39)), none⟩,
 ⟨some 41, some (.fieldAddr Zd (.tmp 3) 0), some (some 40, false)⟩,
 ⟨some 42, some (.load Zc (.tmp 41)), some (some 40, false)⟩,
 ⟨some 43, some (.binOp .neq Zc (.tmp 42) (.const (.int .i64 2)) Zc), some (some 40, false)⟩,
 ⟨some 44, some (.move (.tmp 43)), some (some 40, false)⟩,
 ⟨some 45, some (.fieldAddr Zd (.tmp 3) 8), some (some 44, true)⟩,
 ⟨some 46, some (.load Zbd (.tmp 45)), some (some 44, true)⟩,
 ⟨some 47, some (.binOp .neq Zbd (.tmp 46) (.const (.string { data := #[] })) Zbd), some (some 44, true)⟩,
 ⟨some 48, some (.pick (.tmp 44) (.tmp 47) (.const (.bool false))), some (some 40, false)⟩,
 ⟨some 49, some (.pick (.tmp 40) (.const (.bool true)) (.tmp 48)), none⟩])
  (.cond (.tmp 49) (.seq (.reg [] [⟨some 4, some (.assign (.const (.int .i64 0))), none⟩,
 ⟨some 5, some (.assign (.const (.int .i64 32))), none⟩])
  .ret)
  .skip))
  (.seq (.reg [] [⟨some 8, some (.assign (.const (.slice none 0 0))), none⟩])
  (.seq (.seq (.reg [] [⟨some 9, some (.assign (.const (.int .i64 0))), none⟩])
  (.block 0 (.loop Zbj)))
  (.seq (.seq (.reg [] [⟨some 90, some (.fieldAddr Zd (.tmp 3) 0), none⟩,
 ⟨some 91, some (.load Zc (.tmp 90)), none⟩])
  (.block 2 (.seq (.reg [] [⟨some 109, some (.binOp .eql Zc (.tmp 91) (.const (.int .i64 1)) Zc), none⟩,
 ⟨some 108, some (.assign (.tmp 109)), none⟩])
  (.cond (.tmp 108) (.seq (.reg [] [⟨some 110, some (.fieldAddr Zd (.tmp 3) 7), none⟩,
 ⟨some 111, some (.load Za (.tmp 110)), none⟩,
 ⟨some 112, some (.call ⟨(.value (.func Zcd)), #[.tmp 111], #[Za]⟩), none⟩,
 ⟨some 113, some (.unOp .not Zi (.tmp 112)), none⟩,
 ⟨some 114, some (.move (.tmp 113)), none⟩,
 ⟨some 115, some (.fieldAddr Zd (.tmp 3) 7), some (some 114, false)⟩,
 ⟨some 116, some (.fieldAddr Za (.tmp 115) 0), some (some 114, false)⟩,
 ⟨some 117, some (.load Zc (.tmp 116)), some (some 114, false)⟩,
 ⟨some 118, some (.fieldAddr Zd (.tmp 3) 1), some (some 114, false)⟩,
 ⟨some 119, some (.load Zc (.tmp 118)), some (some 114, false)⟩,
 ⟨some 120, some (.binOp .neq Zc (.tmp 117) (.tmp 119) Zc), some (some 114, false)⟩,
 ⟨some 121, some (.pick (.tmp 114) (.const (.bool true)) (.tmp 120)), none⟩,
 ⟨some 122, some (.move (.tmp 121)), none⟩,
 ⟨some 123, some (.fieldAddr Zd (.tmp 3) 5), some (some 122, false)⟩,
 ⟨some 124, some (.load Zc (.tmp 123)), some (some 122, false)⟩,
 ⟨some 125, some (.binOp .neq Zc (.tmp 124) (.const (.int .i64 0)) Zc), some (some 122, false)⟩,
 ⟨some 126, some (.pick (.tmp 122) (.const (.bool true)) (.tmp 125)), none⟩,
 ⟨some 127, some (.move (.tmp 126)), none⟩,
 ⟨some 128, some (.fieldAddr Zd (.tmp 3) 6), some (some 127, false)⟩,
 ⟨some 129, some (.load Zc (.tmp 128)), some (some 127, false)⟩,
 ⟨some 130, some (.binOp .neq Zc (.tmp 129) (.const (.int .i64 0)) Zc), some (some 127, false)⟩,
 ⟨some 131, some (.pick (.tmp 127) (.const (.bool true)) (.tmp 130)), none⟩])
  (.cond (.tmp 131) (.seq (.reg [] [⟨some 4, some (.assign (.const (.int .i64 0))), none⟩,
 ⟨some 5, some (.assign (.const (.int .i64 30))), none⟩])
  .ret)
  .skip))
  (.seq (.reg [] [⟨some 133, some (.binOp .eql Zc (.tmp 91) (.const (.int .i64 2)) Zc), none⟩,
 ⟨some 132, some (.assign (.tmp 133)), none⟩])
  (.cond (.tmp 132) (.seq (.seq (.reg [] [⟨some 134, some (.fieldAddr Zd (.tmp 3) 1), none⟩,
 ⟨some 135, some (.load Zc (.tmp 134)), none⟩,
 ⟨some 136, some (.call ⟨(.value (.func Zfr)), #[.tmp 135], #[Zc]⟩), none⟩,
 ⟨some 137, some (.unOp .not Zi (.tmp 136)), none⟩,
 ⟨some 138, some (.move (.tmp 137)), none⟩,
 ⟨some 139, some (.fieldAddr Zd (.tmp 3) 5), some (some 138, false)⟩,
 ⟨some 140, some (.load Zc (.tmp 139)), some (some 138, false)⟩,
 ⟨some 141, some (.binOp .neq Zc (.tmp 140) (.const (.int .i64 0)) Zc), some (some 138, false)⟩,
 ⟨some 142, some (.pick (.tmp 138) (.const (.bool true)) (.tmp 141)), none⟩,
 ⟨some 143, some (.move (.tmp 142)), none⟩,
 ⟨some 144, some (.fieldAddr Zd (.tmp 3) 6), some (some 143, false)⟩,
 ⟨some 145, some (.load Zc (.tmp 144)), some (some 143, false)⟩,
 ⟨some 146, some (.binOp .neq Zc (.tmp 145) (.const (.int .i64 0)) Zc), some (some 143, false)⟩,
 ⟨some 147, some (.pick (.tmp 143) (.const (.bool true)) (.tmp 146)), none⟩])
  (.cond (.tmp 147) (.seq (.reg [] [⟨some 4, some (.assign (.const (.int .i64 0))), none⟩,
 ⟨some 5, some (.assign (.const (.int .i64 30))), none⟩])
  .ret)
  .skip))
  (.seq (.reg [] [⟨some 149, some (.move (.tmp 0)), none⟩,
 ⟨some 150, some (.fieldAddr Zd (.tmp 3) 8), none⟩,
 ⟨some 151, some (.load Zbd (.tmp 150)), none⟩,
 ⟨some 152, some (.call ⟨(.value (.func Zbv)), #[.tmp 149, .tmp 151], #[Zbu, Zbd]⟩), none⟩,
 ⟨some 148, some (.move (.tmp 152)), none⟩,
 ⟨some 153, some (.extract (.tmp 148) 0), none⟩,
 ⟨some 154, some (.extract (.tmp 148) 1), none⟩,
 ⟨some 12, some (.assign (.tmp 153)), none⟩,
 ⟨some 13, some (.assign (.tmp 154)), none⟩])
  (.seq (.reg [] [⟨some 155, some (.fieldAddr Zd (.tmp 3) 8), none⟩,
 ⟨some 156, some (.load Zbd (.tmp 155)), none⟩,
 ⟨some 157, some (.binOp .eql Zbd (.tmp 156) (.const (.string { data := #[] })) Zbd), none⟩,
 ⟨some 158, some (.move (.tmp 157)), none⟩,
 ⟨some 159, some (.move (.tmp 13)), some (some 158, false)⟩,
 ⟨some 160, some (.move (.tmp 159)), some (some 158, false)⟩,
 ⟨some 161, some (.move (.tmp 0)), some (some 160, true)⟩,
 ⟨some 162, some (.nilCheck (.tmp 161)), some (some 160, true)⟩,
 ⟨some 163, some (.fieldAddr Zl (.tmp 162) 0), some (some 160, true)⟩,
 ⟨some 164, some (.load Zh (.tmp 163)), some (some 160, true)⟩,
 ⟨some 165, some (.move (.tmp 12)), some (some 160, true)⟩,
 ⟨some 166, some (.binOp .sub Zc (.tmp 165) (.const (.int .i64 1)) Zc), some (some 160, true)⟩,
 ⟨some 167, some (.indexAddr Zh (.tmp 164) (.tmp 166)), some (some 160, true)⟩,
 ⟨some 168, some (.fieldAddr Zd (.tmp 167) 1), some (some 160, true)⟩,
 ⟨some 169, some (.load Zc (.tmp 168)), some (some 160, true)⟩,
 ⟨some 170, some (.fieldAddr Zd (.tmp 3) 1), some (some 160, true)⟩,
 ⟨some 171, some (.load Zc (.tmp 170)), some (some 160, true)⟩,
 ⟨some 172, some (.binOp .neq Zc (.tmp 169) (.tmp 171) Zc), some (some 160, true)⟩,
 ⟨some 173, some (.pick (.tmp 160) (.tmp 172) (.const (.bool false))), some (some 158, false)⟩,
 ⟨some 174, some (.pick (.tmp 158) (.const (.bool true)) (.tmp 173)), none⟩])
  (.cond (.tmp 174) (.seq (.reg [] [⟨some 4, some (.assign (.const (.int .i64 0))), none⟩,
 ⟨some 5, some (.assign (.const (.int .i64 34))), none⟩])
  .ret)
  .skip))))
  (.seq (.reg [] [⟨some 93, some (.fieldAddr Zd (.tmp 3) 0), none⟩,
 ⟨some 94, some (.load Zc (.tmp 93)), none⟩,
 ⟨some 95, some (.fieldAddr Zd (.tmp 3) 5), none⟩,
 ⟨some 96, some (.load Zc (.tmp 95)), none⟩,
 ⟨some 97, some (.fieldAddr Zd (.tmp 3) 6), none⟩,
 ⟨some 98, some (.load Zc (.tmp 97)), none⟩,
 ⟨some 99, some (.move (.tmp 8)), none⟩,
 ⟨some 100, some (.call ⟨(.value (.func Zc9)), #[.tmp 94, .tmp 96, .tmp 98, .tmp 99], #[Zc, Zc, Zc, Zk]⟩), none⟩,
 ⟨some 92, some (.move (.tmp 100)), none⟩,
 ⟨some 101, some (.extract (.tmp 92) 0), none⟩,
 ⟨some 102, some (.extract (.tmp 92) 1), none⟩,
 ⟨some 14, some (.assign (.tmp 101)), none⟩,
 ⟨some 15, some (.assign (.tmp 102)), none⟩])
  (.seq (.seq (.reg [] [⟨some 103, some (.move (.tmp 15)), none⟩,
 ⟨some 104, some (.binOp .neq Zc (.tmp 103) (.const (.int .i64 0)) Zc), none⟩])
  (.cond (.tmp 104) (.seq (.reg [] [⟨some 105, some (.move (.tmp 15)), none⟩,
 ⟨some 4, some (.assign (.const (.int .i64 0))), none⟩,
 ⟨some 5, some (.assign (.tmp 105)), none⟩])
  .ret)
  .skip))
  (.reg [] [⟨some 106, some (.move (.tmp 14)), none⟩,
 ⟨some 107, some (.fieldAddr Zd (.tmp 3) 1), none⟩,
 ⟨none, some (.store Zc (.tmp 107) (.tmp 106)), none⟩])))))))))
  (.seq (.seq (.reg [] [⟨some 16, some (.assign (.const (.int .i64 0))), none⟩])
  (.block 3 (.loop Zs)))
  (.seq (.seq (.reg [] [⟨some 195, some (.move (.tmp 0)), none⟩,
 ⟨some 196, some (.nilCheck (.tmp 195)), none⟩,
 ⟨some 197, some (.fieldAddr Zl (.tmp 196) 0), none⟩,
 ⟨some 198, some (.load Zh (.tmp 197)), none⟩,
 ⟨some 199, some (.call ⟨(.builtin .len), #[.tmp 198], #[Zh]⟩), none⟩,
 ⟨some 200, some (.move (.tmp 0)), none⟩,
 ⟨some 201, some (.nilCheck (.tmp 200)), none⟩,
 ⟨some 202, some (.fieldAddr Zl (.tmp 201) 1), none⟩,
 ⟨some 203, some (.load Zc (.tmp 202)), none⟩,
 ⟨some 204, some (.binOp .geq Zc (.tmp 199) (.tmp 203) Zc), none⟩])
  (.cond (.tmp 204) (.seq (.reg [] [⟨some 4, some (.assign (.const (.int .i64 0))), none⟩,
 ⟨some 5, some (.assign (.const (.int .i64 33))), none⟩])
  .ret)
  .skip))
  (.seq (.reg [] [⟨some 205, some (.move (.tmp 0)), none⟩,
 ⟨some 206, some (.move (.tmp 0)), none⟩,
 ⟨some 207, some (.nilCheck (.tmp 206)), none⟩,
 ⟨some 208, some (.fieldAddr Zl (.tmp 207) 0), none⟩,
 ⟨some 209, some (.load Zh (.tmp 208)), none⟩,
 ⟨some 210, some (.load Zd (.tmp 3)), none⟩,
 ⟨some 211, some (.buildSlice Zh 1 #[(0, (.tmp 210))]), none⟩,
 ⟨some 212, some (.call ⟨(.builtin .append), #[.tmp 209, .tmp 211], #[Zh, Zh]⟩), none⟩,
 ⟨some 213, some (.nilCheck (.tmp 205)), none⟩,
 ⟨some 214, some (.fieldAddr Zl (.tmp 213) 0), none⟩,
 ⟨none, some (.store Zh (.tmp 214) (.tmp 212)), none⟩])
  (.seq (.reg [] [⟨some 215, some (.move (.tmp 0)), none⟩,
 ⟨some 216, some (.nilCheck (.tmp 215)), none⟩,
 ⟨some 217, some (.fieldAddr Zl (.tmp 216) 0), none⟩,
 ⟨some 218, some (.load Zh (.tmp 217)), none⟩,
 ⟨some 219, some (.call ⟨(.builtin .len), #[.tmp 218], #[Zh]⟩), none⟩,
 ⟨some 4, some (.assign (.tmp 219)), none⟩,
 ⟨some 5, some (.assign (.const (.int .i64 0))), none⟩])
  .ret)))))))))))
theorem Zdf {a0 a1 : AV} {H : AHeap} : R Z2 [a0, a1] H = fnK Tryz.prog [] H [(.tmp 4), (.tmp 5)] (evalL Tryz.prog KT R Zw (Env.args [a0, a1] 0) H) :=
  runs_body (D := DT) (f := Z2) Tryz.func16 (by kernel_rfl) (by kernel_rfl) (by kernel_rfl) (by kernel_rfl) (by kernel_rfl) (Nat.le_of_ble_eq_true rfl)
def Zft : LCode := (.seq (.reg [] [⟨some 35, some (.binOp .lss Zc (.tmp 34) (.tmp 33) Zc), none⟩])
  (.seq (.cond (.tmp 35) .skip
  (.exit 0))
  (.seq (.block 1 (.seq (.reg [] [⟨some 36, some (.indexAddr Zk (.tmp 32) (.tmp 34)), none⟩,
 ⟨some 37, some (.load Zc (.tmp 36)), none⟩,
 ⟨some 12, some (.assign (.tmp 37)), none⟩])
  (.seq (.reg [] [⟨some 39, some (.move (.tmp 0)), none⟩,
 ⟨some 40, some (.move (.tmp 12)), none⟩,
 ⟨some 41, some (.call ⟨(.value (.func Zba)), #[.tmp 39, .tmp 40], #[Zr, Zc]⟩), none⟩,
 ⟨some 38, some (.move (.tmp 41)), none⟩,
 ⟨some 42, some (.extract (.tmp 38) 0), none⟩,
 ⟨some 43, some (.extract (.tmp 38) 1), none⟩,
 ⟨some 13, some (.alloc Zd), none⟩,
 ⟨none, some (.store Zd (.tmp 13) (.tmp 42)), none⟩,
 ⟨some 14, some (.assign (.tmp 43)), none⟩])
  (.seq (.reg [] [⟨some 44, some (.fieldAddr Zd (.tmp 13) 0), none⟩,
 ⟨some 45, some (.load Zc (.tmp 44)), none⟩])
  (.block 2 (.seq (.reg [] [⟨some 82, some (.binOp .eql Zc (.tmp 45) (.const (.int .i64 1)) Zc), none⟩,
 ⟨some 81, some (.assign (.tmp 82)), none⟩])
  (.cond (.tmp 81) (.reg [] [⟨some 83, some (.move (.tmp 10)), none⟩,
 ⟨some 84, some (.move (.tmp 12)), none⟩,
 ⟨some 85, some (.fieldAddr Zd (.tmp 13) 7), none⟩,
 ⟨some 86, some (.load Za (.tmp 85)), none⟩,
 ⟨none, some (.mapUpdate Zbz (.tmp 83) (.tmp 84) (.tmp 86)), none⟩])
  (.seq (.reg [] [⟨some 88, some (.binOp .eql Zc (.tmp 45) (.const (.int .i64 2)) Zc), none⟩,
 ⟨some 87, some (.assign (.tmp 88)), none⟩])
  (.cond (.tmp 87) (.seq (.reg [] [⟨some 90, some (.move (.tmp 2)), none⟩,
 ⟨some 91, some (.fieldAddr Zd (.tmp 13) 8), none⟩,
 ⟨some 92, some (.load Zbd (.tmp 91)), none⟩,
 ⟨some 93, some (.lookup Zbn (.tmp 90) (.tmp 92) true), none⟩,
 ⟨some 89, some (.move (.tmp 93)), none⟩,
 ⟨some 94, some (.extract (.tmp 89) 0), none⟩,
 ⟨some 95, some (.extract (.tmp 89) 1), none⟩,
 ⟨some 15, some (.alloc Za), none⟩,
 ⟨none, some (.store Za (.tmp 15) (.tmp 94)), none⟩,
 ⟨some 16, some (.assign (.tmp 95)), none⟩])
  (.seq (.seq (.reg [] [⟨some 96, some (.move (.tmp 16)), none⟩,
 ⟨some 97, some (.unOp .not Zi (.tmp 96)), none⟩,
 ⟨some 98, some (.move (.tmp 97)), none⟩,
 ⟨some 99, some (.load Za (.tmp 15)), some (some 98, false)⟩,
 ⟨some 100, some (.fieldAddr Zd (.tmp 13) 1), some (some 98, false)⟩,
 ⟨some 101, some (.load Zc (.tmp 100)), some (some 98, false)⟩,
 ⟨some 102, some (.call ⟨(.value (.func Zg9)), #[.tmp 99, .tmp 101], #[Za, Zc]⟩), some (some 98, false)⟩,
 ⟨some 103, some (.unOp .not Zi (.tmp 102)), some (some 98, false)⟩,
 ⟨some 104, some (.pick (.tmp 98) (.const (.bool true)) (.tmp 103)), none⟩])
  (.cond (.tmp 104) (.seq (.reg [] [⟨some 105, some (.build Za #[]), none⟩,
 ⟨none, some (.store Za (.tmp 6) (.tmp 105)), none⟩,
 ⟨some 7, some (.assign (.const (.int .i64 41))), none⟩])
  .ret)
  .skip))
  (.reg [] [⟨some 106, some (.move (.tmp 10)), none⟩,
 ⟨some 107, some (.move (.tmp 12)), none⟩,
 ⟨some 108, some (.load Za (.tmp 15)), none⟩,
 ⟨none, some (.mapUpdate Zbz (.tmp 106) (.tmp 107) (.tmp 108)), none⟩])))
  (.seq (.reg [14, 15, 6215] [⟨some 46, some (.move (.tmp 10)), none⟩,
 ⟨some 47, some (.fieldAddr Zd (.tmp 13) 2), none⟩,
 ⟨some 48, some (.load Zc (.tmp 47)), none⟩,
 ⟨some 49, some (.lookup Zbz (.tmp 46) (.tmp 48) false), none⟩,
 ⟨some 50, some (.move (.tmp 10)), none⟩,
 ⟨some 51, some (.fieldAddr Zd (.tmp 13) 3), none⟩,
 ⟨some 52, some (.load Zc (.tmp 51)), none⟩,
 ⟨some 53, some (.lookup Zbz (.tmp 50) (.tmp 52) false), none⟩,
 ⟨some 54, some (.move (.tmp 10)), none⟩,
 ⟨some 55, some (.fieldAddr Zd (.tmp 13) 4), none⟩,
 ⟨some 56, some (.load Zc (.tmp 55)), none⟩,
 ⟨some 57, some (.lookup Zbz (.tmp 54) (.tmp 56) false), none⟩,
 ⟨some 59, some (.fieldAddr Zd (.tmp 13) 0), none⟩,
 ⟨some 60, some (.load Zc (.tmp 59)), none⟩,
 ⟨some 61, some (.call ⟨(.value (.func Zf2)), #[.tmp 60], #[Zc]⟩), none⟩,
 ⟨some 58, some (.buildSlice Zf 3 #[(0, (.tmp 49)), (1, (.tmp 53)), (2, (.tmp 57))]), none⟩,
 ⟨some 62, some (.slice Zf (.tmp 58) none (some (.tmp 61)) none), none⟩,
 ⟨some 17, some (.assign (.tmp 62)), none⟩])
  (.seq (.reg [] [⟨some 64, some (.fieldAddr Zd (.tmp 13) 0), none⟩,
 ⟨some 65, some (.load Zc (.tmp 64)), none⟩,
 ⟨some 66, some (.fieldAddr Zd (.tmp 13) 5), none⟩,
 ⟨some 67, some (.load Zc (.tmp 66)), none⟩,
 ⟨some 68, some (.fieldAddr Zd (.tmp 13) 6), none⟩,
 ⟨some 69, some (.load Zc (.tmp 68)), none⟩,
 ⟨some 70, some (.move (.tmp 17)), none⟩,
 ⟨some 71, some (.call ⟨(.value (.func Zfe)), #[.tmp 65, .tmp 67, .tmp 69, .tmp 70], #[Zc, Zc, Zc, Zf]⟩), none⟩,
 ⟨some 63, some (.move (.tmp 71)), none⟩,
 ⟨some 72, some (.extract (.tmp 63) 0), none⟩,
 ⟨some 73, some (.extract (.tmp 63) 1), none⟩,
 ⟨some 18, some (.alloc Za), none⟩,
 ⟨none, some (.store Za (.tmp 18) (.tmp 72)), none⟩,
 ⟨some 19, some (.assign (.tmp 73)), none⟩])
  (.seq (.seq (.reg [] [⟨some 74, some (.move (.tmp 19)), none⟩,
 ⟨some 75, some (.binOp .neq Zfd (.tmp 74) (.const (.int .i64 0)) Zfd), none⟩])
  (.cond (.tmp 75) (.seq (.reg [] [⟨some 76, some (.build Za #[]), none⟩,
 ⟨some 77, some (.move (.tmp 19)), none⟩,
 ⟨none, some (.store Za (.tmp 6) (.tmp 76)), none⟩,
 ⟨some 7, some (.assign (.tmp 77)), none⟩])
  .ret)
  .skip))
  (.reg [] [⟨some 78, some (.move (.tmp 10)), none⟩,
 ⟨some 79, some (.move (.tmp 12)), none⟩,
 ⟨some 80, some (.load Za (.tmp 18)), none⟩,
 ⟨none, some (.mapUpdate Zbz (.tmp 78) (.tmp 79) (.tmp 80)), none⟩])))))))))))))
  (.reg [] [⟨some 109, some (.binOp .add Zc (.tmp 34) (.const (.int .i64 1)) Zc), none⟩,
 ⟨some 34, some (.move (.tmp 109)), none⟩]))))
@[simp] theorem Zm0 : defs Zft = [35, 36, 37, 12, 39, 40, 41, 38, 42, 43, 13, 14, 44, 45, 82, 81, 83, 84, 85, 86, 88, 87, 90, 91, 92, 93, 89, 94, 95, 15, 16, 96, 97, 98, 99, 100, 101, 102, 103, 104, 105, 7, 106, 107, 108, 46, 47, 48, 49, 50, 51, 52, 53, 54, 55, 56, 57, 59, 60, 61, 58, 62, 17, 64, 65, 66, 67, 68, 69, 70, 71, 63, 72, 73, 18, 19, 74, 75, 76, 77, 7, 78, 79, 80, 109, 34] := by rfl
def Zij : LCode := (.seq (.reg [] [⟨some 6, some (.alloc Za), none⟩,
 ⟨some 7, some (.assign (.const (.int .i64 0))), none⟩])
  (.seq (.seq (.reg [] [⟨some 21, some (.move (.tmp 0)), none⟩,
 ⟨some 22, some (.move (.tmp 1)), none⟩,
 ⟨some 23, some (.call ⟨(.value (.func Zba)), #[.tmp 21, .tmp 22], #[Zr, Zc]⟩), none⟩,
 ⟨some 20, some (.move (.tmp 23)), none⟩,
 ⟨some 24, some (.extract (.tmp 20) 0), none⟩,
 ⟨some 25, some (.extract (.tmp 20) 1), none⟩,
 ⟨some 8, some (.alloc Zd), none⟩,
 ⟨none, some (.store Zd (.tmp 8) (.tmp 24)), none⟩,
 ⟨some 9, some (.assign (.tmp 25)), none⟩])
  (.seq (.reg [] [⟨some 26, some (.move (.tmp 9)), none⟩,
 ⟨some 27, some (.unOp .not Zi (.tmp 26)), none⟩])
  (.cond (.tmp 27) (.seq (.reg [] [⟨some 28, some (.build Za #[]), none⟩,
 ⟨none, some (.store Za (.tmp 6) (.tmp 28)), none⟩,
 ⟨some 7, some (.assign (.const (.int .i64 40))), none⟩])
  .ret)
  .skip)))
  (.seq (.reg [] [⟨some 29, some (.makeMap Zbz none), none⟩,
 ⟨some 10, some (.assign (.tmp 29)), none⟩])
  (.seq (.seq (.reg [] [⟨some 30, some (.move (.tmp 0)), none⟩,
 ⟨some 31, some (.move (.tmp 1)), none⟩,
 ⟨some 32, some (.call ⟨(.value (.func Zbo)), #[.tmp 30, .tmp 31], #[Zr, Zc]⟩), none⟩,
 ⟨some 33, some (.call ⟨(.builtin .len), #[.tmp 32], #[Zk]⟩), none⟩,
 ⟨some 34, some (.move (.const (.int .i64 0))), none⟩])
  (.block 0 (.loop Zft)))
  (.seq (.reg [] [⟨some 110, some (.move (.tmp 10)), none⟩,
 ⟨some 111, some (.move (.tmp 1)), none⟩,
 ⟨some 112, some (.lookup Zbz (.tmp 110) (.tmp 111) false), none⟩,
 ⟨none, some (.store Za (.tmp 6) (.tmp 112)), none⟩,
 ⟨some 7, some (.assign (.const (.int .i64 0))), none⟩])
  .ret)))))
theorem Zlu {a0 a1 a2 : AV} {H : AHeap} : R Zfz [a0, a1, a2] H = fnK Tryz.prog [] H [(.cell 6 Za), (.tmp 7)] (evalL Tryz.prog KT R Zij (Env.args [a0, a1, a2] 0) H) :=
  runs_body (D := DT) (f := Zfz) Tryz.func17 (by kernel_rfl) (by kernel_rfl) (by kernel_rfl) (by kernel_rfl) (by kernel_rfl) (Nat.le_of_ble_eq_true rfl)
def Zfu : LCode := (.seq (.reg [] [⟨some 12, some (.binOp .lss Zc (.tmp 11) (.tmp 10) Zc), none⟩])
  (.seq (.cond (.tmp 12) .skip
  (.exit 0))
  (.seq (.block 1 (.seq (.reg [] [⟨some 13, some (.indexAddr Zj (.tmp 9) (.tmp 11)), none⟩,
 ⟨some 14, some (.load Z3 (.tmp 13)), none⟩,
 ⟨some 5, some (.alloc Z3), none⟩,
 ⟨none, some (.store Z3 (.tmp 5) (.tmp 14)), none⟩])
  (.seq (.reg [] [⟨some 16, some (.move (.tmp 3)), none⟩,
 ⟨some 17, some (.fieldAddr Z3 (.tmp 5) 0), none⟩,
 ⟨some 18, some (.load Zbd (.tmp 17)), none⟩,
 ⟨some 19, some (.lookup Zbn (.tmp 16) (.tmp 18) true), none⟩,
 ⟨some 15, some (.move (.tmp 19)), none⟩,
 ⟨some 20, some (.extract (.tmp 15) 0), none⟩,
 ⟨some 21, some (.extract (.tmp 15) 1), none⟩,
 ⟨some 6, some (.alloc Za), none⟩,
 ⟨none, some (.store Za (.tmp 6) (.tmp 20)), none⟩,
 ⟨some 7, some (.assign (.tmp 21)), none⟩])
  (.seq (.reg [] [⟨some 22, some (.move (.tmp 7)), none⟩,
 ⟨some 23, some (.unOp .not Zi (.tmp 22)), none⟩])
  (.cond (.tmp 23) (.reg [] [⟨some 24, some (.move (.tmp 3)), none⟩,
 ⟨some 25, some (.fieldAddr Z3 (.tmp 5) 0), none⟩,
 ⟨some 26, some (.load Zbd (.tmp 25)), none⟩,
 ⟨some 27, some (.fieldAddr Z3 (.tmp 5) 1), none⟩,
 ⟨some 28, some (.load Za (.tmp 27)), none⟩,
 ⟨none, some (.mapUpdate Zbn (.tmp 24) (.tmp 26) (.tmp 28)), none⟩])
  .skip)))))
  (.reg [] [⟨some 29, some (.binOp .add Zc (.tmp 11) (.const (.int .i64 1)) Zc), none⟩,
 ⟨some 11, some (.move (.tmp 29)), none⟩]))))
@[simp] theorem Zm1 : defs Zfu = [12, 13, 14, 5, 16, 17, 18, 19, 15, 20, 21, 6, 7, 22, 23, 24, 25, 26, 27, 28, 29, 11] := by rfl
def Zj0 : LCode := (.seq (.reg [] [⟨some 2, some (.assign (.const (.map none))), none⟩])
  (.seq (.reg [] [⟨some 8, some (.makeMap Zbn none), none⟩,
 ⟨some 3, some (.assign (.tmp 8)), none⟩])
  (.seq (.seq (.reg [] [⟨some 9, some (.move (.tmp 0)), none⟩,
 ⟨some 10, some (.call ⟨(.builtin .len), #[.tmp 9], #[Zj]⟩), none⟩,
 ⟨some 11, some (.move (.const (.int .i64 0))), none⟩])
  (.block 0 (.loop Zfu)))
  (.seq (.reg [] [⟨some 30, some (.move (.tmp 3)), none⟩,
 ⟨some 2, some (.assign (.tmp 30)), none⟩])
  .ret))))
theorem Zlv {a0 : AV} {H : AHeap} : R Zf0 [a0] H = fnK Tryz.prog [] H [(.tmp 2)] (evalL Tryz.prog KT R Zj0 (Env.args [a0] 0) H) :=
  runs_body (D := DT) (f := Zf0) Tryz.func18 (by kernel_rfl) (by kernel_rfl) (by kernel_rfl) (by kernel_rfl) (by kernel_rfl) (Nat.le_of_ble_eq_true rfl)
def Zbk : LCode := (.seq (.seq (.reg [] [⟨some 29, some (.move (.tmp 7)), none⟩,
 ⟨some 30, some (.binOp .gtr Zc (.tmp 29) (.const (.int .i64 0)) Zc), none⟩])
  (.cond (.tmp 30) .skip
  (.exit 0)))
  (.seq (.block 1 (.seq (.seq (.reg [] [⟨some 33, some (.move (.tmp 5)), none⟩,
 ⟨some 34, some (.move (.tmp 7)), none⟩,
 ⟨some 35, some (.indexAddr Zg (.tmp 33) (.tmp 34)), none⟩,
 ⟨some 36, some (.load Zi (.tmp 35)), none⟩,
 ⟨some 37, some (.unOp .not Zi (.tmp 36)), none⟩])
  (.cond (.tmp 37) (.exit 1)
  .skip))
  (.seq (.reg [] [⟨some 38, some (.move (.tmp 6)), none⟩,
 ⟨some 39, some (.move (.tmp 7)), none⟩,
 ⟨some 40, some (.buildSlice Zk 1 #[(0, (.tmp 39))]), none⟩,
 ⟨some 41, some (.call ⟨(.builtin .append), #[.tmp 38, .tmp 40], #[Zk, Zk]⟩), none⟩,
 ⟨some 6, some (.assign (.tmp 41)), none⟩])
  (.seq (.reg [] [⟨some 42, some (.move (.tmp 0)), none⟩,
 ⟨some 43, some (.nilCheck (.tmp 42)), none⟩,
 ⟨some 44, some (.fieldAddr Zl (.tmp 43) 0), none⟩,
 ⟨some 45, some (.load Zh (.tmp 44)), none⟩,
 ⟨some 46, some (.move (.tmp 7)), none⟩,
 ⟨some 47, some (.binOp .sub Zc (.tmp 46) (.const (.int .i64 1)) Zc), none⟩,
 ⟨some 48, some (.indexAddr Zh (.tmp 45) (.tmp 47)), none⟩,
 ⟨some 49, some (.load Zd (.tmp 48)), none⟩,
 ⟨some 8, some (.alloc Zd), none⟩,
 ⟨none, some (.store Zd (.tmp 8) (.tmp 49)), none⟩])
  (.reg [5, 8, 10, 12] [⟨some 50, some (.move (.tmp 5)), none⟩,
 ⟨some 51, some (.fieldAddr Zd (.tmp 8) 2), none⟩,
 ⟨some 52, some (.load Zc (.tmp 51)), none⟩,
 ⟨some 53, some (.move (.tmp 5)), none⟩,
 ⟨some 54, some (.fieldAddr Zd (.tmp 8) 3), none⟩,
 ⟨some 55, some (.load Zc (.tmp 54)), none⟩,
 ⟨some 56, some (.move (.tmp 5)), none⟩,
 ⟨some 57, some (.fieldAddr Zd (.tmp 8) 4), none⟩,
 ⟨some 58, some (.load Zc (.tmp 57)), none⟩,
 ⟨some 59, some (.indexAddr Zg (.tmp 50) (.tmp 52)), none⟩,
 ⟨none, some (.store Zi (.tmp 59) (.const (.bool true))), none⟩,
 ⟨some 60, some (.indexAddr Zg (.tmp 53) (.tmp 55)), none⟩,
 ⟨none, some (.store Zi (.tmp 60) (.const (.bool true))), none⟩,
 ⟨some 61, some (.indexAddr Zg (.tmp 56) (.tmp 58)), none⟩,
 ⟨none, some (.store Zi (.tmp 61) (.const (.bool true))), none⟩])))))
  (.reg [] [⟨some 31, some (.move (.tmp 7)), none⟩,
 ⟨some 32, some (.binOp .sub Zc (.tmp 31) (.const (.int .i64 1)) Zc), none⟩,
 ⟨some 7, some (.assign (.tmp 32)), none⟩])))
def Zbl : LCode := (.seq (.seq (.reg [] [⟨some 65, some (.move (.tmp 10)), none⟩,
 ⟨some 66, some (.binOp .geq Zc (.tmp 65) (.const (.int .i64 0)) Zc), none⟩])
  (.cond (.tmp 66) .skip
  (.exit 2)))
  (.seq (.block 3 (.reg [] [⟨some 69, some (.move (.tmp 9)), none⟩,
 ⟨some 70, some (.move (.tmp 6)), none⟩,
 ⟨some 71, some (.move (.tmp 10)), none⟩,
 ⟨some 72, some (.indexAddr Zk (.tmp 70) (.tmp 71)), none⟩,
 ⟨some 73, some (.load Zc (.tmp 72)), none⟩,
 ⟨some 74, some (.buildSlice Zk 1 #[(0, (.tmp 73))]), none⟩,
 ⟨some 75, some (.call ⟨(.builtin .append), #[.tmp 69, .tmp 74], #[Zk, Zk]⟩), none⟩,
 ⟨some 9, some (.assign (.tmp 75)), none⟩]))
  (.reg [] [⟨some 67, some (.move (.tmp 10)), none⟩,
 ⟨some 68, some (.binOp .sub Zc (.tmp 67) (.const (.int .i64 1)) Zc), none⟩,
 ⟨some 10, some (.assign (.tmp 68)), none⟩])))
@[simp] theorem Zjk : defs Zbk = [29, 30, 33, 34, 35, 36, 37, 38, 39, 40, 41, 6, 42, 43, 44, 45, 46, 47, 48, 49, 8, 50, 51, 52, 53, 54, 55, 56, 57, 58, 59, 60, 61, 31, 32, 7] := by rfl
@[simp] theorem Zjl : defs Zbl = [65, 66, 69, 70, 71, 72, 73, 74, 75, 9, 67, 68, 10] := by rfl
def Zcg : LCode := (.seq (.reg [] [⟨some 4, some (.assign (.const (.slice none 0 0))), none⟩])
  (.seq (.seq (.reg [] [⟨some 11, some (.move (.tmp 1)), none⟩,
 ⟨some 12, some (.binOp .lss Zc (.tmp 11) (.const (.int .i64 1)) Zc), none⟩,
 ⟨some 13, some (.move (.tmp 12)), none⟩,
 ⟨some 14, some (.move (.tmp 1)), some (some 13, false)⟩,
 ⟨some 15, some (.move (.tmp 0)), some (some 13, false)⟩,
 ⟨some 16, some (.nilCheck (.tmp 15)), some (some 13, false)⟩,
 ⟨some 17, some (.fieldAddr Zl (.tmp 16) 0), some (some 13, false)⟩,
 ⟨some 18, some (.load Zh (.tmp 17)), some (some 13, false)⟩,
 ⟨some 19, some (.call ⟨(.builtin .len), #[.tmp 18], #[Zh]⟩), some (some 13, false)⟩,
 ⟨some 20, some (.binOp .gtr Zc (.tmp 14) (.tmp 19) Zc), some (some 13, false)⟩,
 ⟨some 21, some (.pick (.tmp 13) (.const (.bool true)) (.tmp 20)), none⟩])
  (.cond (.tmp 21) (.seq (.reg [] [⟨some 4, some (.assign (.const (.slice none 0 0))), none⟩])
  .ret)
  .skip))
  (.seq (.reg [] [⟨some 22, some (.move (.tmp 1)), none⟩,
 ⟨some 23, some (.binOp .add Zc (.tmp 22) (.const (.int .i64 1)) Zc), none⟩,
 ⟨some 24, some (.makeSlice Zg (.tmp 23) (.tmp 23)), none⟩,
 ⟨some 5, some (.assign (.tmp 24)), none⟩])
  (.seq (.reg [] [⟨some 25, some (.move (.tmp 5)), none⟩,
 ⟨some 26, some (.move (.tmp 1)), none⟩,
 ⟨some 27, some (.indexAddr Zg (.tmp 25) (.tmp 26)), none⟩,
 ⟨none, some (.store Zi (.tmp 27) (.const (.bool true))), none⟩])
  (.seq (.reg [] [⟨some 6, some (.assign (.const (.slice none 0 0))), none⟩])
  (.seq (.seq (.reg [] [⟨some 28, some (.move (.tmp 1)), none⟩,
 ⟨some 7, some (.assign (.tmp 28)), none⟩])
  (.block 0 (.loop Zbk)))
  (.seq (.reg [] [⟨some 9, some (.assign (.const (.slice none 0 0))), none⟩])
  (.seq (.seq (.reg [] [⟨some 62, some (.move (.tmp 6)), none⟩,
 ⟨some 63, some (.call ⟨(.builtin .len), #[.tmp 62], #[Zk]⟩), none⟩,
 ⟨some 64, some (.binOp .sub Zc (.tmp 63) (.const (.int .i64 1)) Zc), none⟩,
 ⟨some 10, some (.assign (.tmp 64)), none⟩])
  (.block 2 (.loop Zbl)))
  (.seq (.reg [] [⟨some 76, some (.move (.tmp 9)), none⟩,
 ⟨some 4, some (.assign (.tmp 76)), none⟩])
  .ret)))))))))
theorem Zg6 {a0 a1 : AV} {H : AHeap} : R Zbr [a0, a1] H = fnK Tryz.prog [0] H [(.tmp 4)] (evalL Tryz.prog KT R Zcg (Env.args [a0, a1] 0) H) :=
  runs_body (D := DT) (f := Zbr) Tryz.func19 (by kernel_rfl) (by kernel_rfl) (by kernel_rfl) (by kernel_rfl) (by kernel_rfl) (Nat.le_of_ble_eq_true rfl)
def Zea : LCode := (.seq (.seq (.reg [] [⟨some 7, some (.move (.tmp 6)), none⟩,
 ⟨some 8, some (.move (.tmp 0)), none⟩,
 ⟨some 9, some (.call ⟨(.builtin .len), #[.tmp 8], #[Zj]⟩), none⟩,
 ⟨some 10, some (.binOp .lss Zc (.tmp 7) (.tmp 9) Zc), none⟩])
  (.cond (.tmp 10) .skip
  (.exit 0)))
  (.seq (.block 1 (.seq (.reg [] [⟨some 13, some (.move (.tmp 0)), none⟩,
 ⟨some 14, some (.move (.tmp 6)), none⟩,
 ⟨some 15, some (.indexAddr Zj (.tmp 13) (.tmp 14)), none⟩,
 ⟨some 16, some (.fieldAddr Z3 (.tmp 15) 0), none⟩,
 ⟨some 17, some (.load Zbd (.tmp 16)), none⟩,
 ⟨some 18, some (.move (.tmp 1)), none⟩,
 ⟨some 19, some (.binOp .eql Zbd (.tmp 17) (.tmp 18) Zbd), none⟩])
  (.cond (.tmp 19) (.seq (.reg [] [⟨some 20, some (.move (.tmp 0)), none⟩,
 ⟨some 21, some (.move (.tmp 6)), none⟩,
 ⟨some 22, some (.indexAddr Zj (.tmp 20) (.tmp 21)), none⟩,
 ⟨some 23, some (.fieldAddr Z3 (.tmp 22) 1), none⟩,
 ⟨some 24, some (.load Za (.tmp 23)), none⟩,
 ⟨none, some (.store Za (.tmp 4) (.tmp 24)), none⟩,
 ⟨some 5, some (.assign (.const (.bool true))), none⟩])
  .ret)
  .skip)))
  (.reg [] [⟨some 11, some (.move (.tmp 6)), none⟩,
 ⟨some 12, some (.binOp .add Zc (.tmp 11) (.const (.int .i64 1)) Zc), none⟩,
 ⟨some 6, some (.assign (.tmp 12)), none⟩])))
@[simp] theorem Zmb : defs Zea = [7, 8, 9, 10, 13, 14, 15, 16, 17, 18, 19, 20, 21, 22, 23, 24, 5, 11, 12, 6] := by rfl
def Zh8 : LCode := (.seq (.reg [] [⟨some 4, some (.alloc Za), none⟩,
 ⟨some 5, some (.assign (.const (.bool false))), none⟩])
  (.seq (.seq (.reg [] [⟨some 6, some (.assign (.const (.int .i64 0))), none⟩])
  (.block 0 (.loop Zea)))
  (.seq (.reg [] [⟨some 25, some (.build Za #[]), none⟩,
 ⟨none, some (.store Za (.tmp 4) (.tmp 25)), none⟩,
 ⟨some 5, some (.assign (.const (.bool false))), none⟩])
  .ret)))
theorem Zj7 {a0 a1 : AV} {H : AHeap} : R Zev [a0, a1] H = fnK Tryz.prog [] H [(.cell 4 Za), (.tmp 5)] (evalL Tryz.prog KT R Zh8 (Env.args [a0, a1] 0) H) :=
  runs_body (D := DT) (f := Zev) Tryz.func20 (by kernel_rfl) (by kernel_rfl) (by kernel_rfl) (by kernel_rfl) (by kernel_rfl) (Nat.le_of_ble_eq_true rfl)
def Zeo : LCode := (.seq (.reg [] [⟨some 1, some (.box Za (.tmp 0)), none⟩,
 ⟨some 2, some (.assign (.const (.bool false))), none⟩])
  (.seq (.seq (.reg [] [⟨some 3, some (.fieldAddr Za (.tmp 1) 0), none⟩,
 ⟨some 4, some (.load Zc (.tmp 3)), none⟩,
 ⟨some 5, some (.binOp .lss Zc (.tmp 4) (.const (.int .i64 0)) Zc), none⟩,
 ⟨some 6, some (.move (.tmp 5)), none⟩,
 ⟨some 7, some (.fieldAddr Za (.tmp 1) 0), some (some 6, false)⟩,
 ⟨some 8, some (.load Zc (.tmp 7)), some (some 6, false)⟩,
 ⟨some 9, some (.binOp .gtr Zc (.tmp 8) (.const (.int .i64 128)) Zc), some (some 6, false)⟩,
 ⟨some 10, some (.pick (.tmp 6) (.const (.bool true)) (.tmp 9)), none⟩])
  (.cond (.tmp 10) (.seq (.reg [] [⟨some 2, some (.assign (.const (.bool false))), none⟩])
  .ret)
  .skip))
  (.seq (.seq (.reg [] [⟨some 11, some (.fieldAddr Za (.tmp 1) 0), none⟩,
 ⟨some 12, some (.load Zc (.tmp 11)), none⟩,
 ⟨some 13, some (.binOp .eql Zc (.tmp 12) (.const (.int .i64 0)) Zc), none⟩])
  (.cond (.tmp 13) (.seq (.reg [] [⟨some 14, some (.fieldAddr Za (.tmp 1) 1), none⟩,
 ⟨some 15, some (.load Ze (.tmp 14)), none⟩,
 ⟨some 16, some (.binOp .leq Ze (.tmp 15) (.const (.int .u64 1)) Ze), none⟩,
 ⟨some 17, some (.move (.tmp 16)), none⟩,
 ⟨some 18, some (.fieldAddr Za (.tmp 1) 2), some (some 17, true)⟩,
 ⟨some 19, some (.load Ze (.tmp 18)), some (some 17, true)⟩,
 ⟨some 20, some (.binOp .eql Ze (.tmp 19) (.const (.int .u64 0)) Ze), some (some 17, true)⟩,
 ⟨some 21, some (.pick (.tmp 17) (.tmp 20) (.const (.bool false))), none⟩,
 ⟨some 2, some (.assign (.tmp 21)), none⟩])
  .ret)
  .skip))
  (.seq (.reg [1, 2] [⟨some 22, some (.load Za (.tmp 1)), none⟩,
 ⟨some 23, some (.call ⟨(.value (.func Z4)), #[.tmp 22], #[Za]⟩), none⟩,
 ⟨some 24, some (.call ⟨(.value (.func Z0)), #[.tmp 23], #[Zg]⟩), none⟩,
 ⟨some 25, some (.load Za (.tmp 1)), none⟩,
 ⟨some 26, some (.binOp .eql Za (.tmp 24) (.tmp 25) Za), none⟩,
 ⟨some 2, some (.assign (.tmp 26)), none⟩])
  .ret))))
theorem Zjp {a0 : AV} {H : AHeap} : R Zcd [a0] H = fnK Tryz.prog [] H [(.tmp 2)] (evalL Tryz.prog KT R Zeo (Env.args [a0] 0) H) :=
  runs_body (D := DT) (f := Zcd) Tryz.func21 (by kernel_rfl) (by kernel_rfl) (by kernel_rfl) (by kernel_rfl) (by kernel_rfl) (Nat.le_of_ble_eq_true rfl)
def Zv : LCode := (.seq (.reg [] [⟨some 8, some (.alloc Za), none⟩])
  (.seq (.seq (.reg [] [⟨some 10, some (.move (.tmp 0)), none⟩])
  (.block 0 (.seq (.reg [] [⟨some 12, some (.binOp .eql Zc (.tmp 10) (.const (.int .i64 3)) Zc), none⟩,
 ⟨some 11, some (.assign (.tmp 12)), none⟩])
  (.cond (.tmp 11) (.seq (.reg [] [⟨some 13, some (.move (.tmp 3)), none⟩,
 ⟨some 14, some (.indexAddr Zf (.tmp 13) (.const (.int .i64 0))), none⟩,
 ⟨some 15, some (.load Za (.tmp 14)), none⟩,
 ⟨some 16, some (.call ⟨(.value (.func Zbi)), #[.tmp 15], #[Za]⟩), none⟩,
 ⟨some 17, some (.unOp .not Zi (.tmp 16)), none⟩,
 ⟨some 18, some (.call ⟨(.value (.func Z9)), #[.tmp 17], #[Zi]⟩), none⟩,
 ⟨none, some (.store Za (.tmp 8) (.tmp 18)), none⟩])
  .ret)
  (.seq (.reg [] [⟨some 20, some (.binOp .eql Zc (.tmp 10) (.const (.int .i64 4)) Zc), none⟩,
 ⟨some 19, some (.assign (.tmp 20)), none⟩])
  (.cond (.tmp 19) (.seq (.reg [] [⟨some 21, some (.move (.tmp 3)), none⟩,
 ⟨some 22, some (.indexAddr Zf (.tmp 21) (.const (.int .i64 0))), none⟩,
 ⟨some 23, some (.load Za (.tmp 22)), none⟩,
 ⟨some 24, some (.call ⟨(.value (.func Zbi)), #[.tmp 23], #[Za]⟩), none⟩,
 ⟨some 25, some (.move (.tmp 24)), none⟩,
 ⟨some 26, some (.move (.tmp 3)), some (some 25, true)⟩,
 ⟨some 27, some (.indexAddr Zf (.tmp 26) (.const (.int .i64 1))), some (some 25, true)⟩,
 ⟨some 28, some (.load Za (.tmp 27)), some (some 25, true)⟩,
 ⟨some 29, some (.call ⟨(.value (.func Zbi)), #[.tmp 28], #[Za]⟩), some (some 25, true)⟩,
 ⟨some 30, some (.pick (.tmp 25) (.tmp 29) (.const (.bool false))), none⟩,
 ⟨some 31, some (.call ⟨(.value (.func Z9)), #[.tmp 30], #[Zi]⟩), none⟩,
 ⟨none, some (.store Za (.tmp 8) (.tmp 31)), none⟩])
  .ret)
  (.seq (.reg [] [⟨some 33, some (.binOp .eql Zc (.tmp 10) (.const (.int .i64 5)) Zc), none⟩,
 ⟨some 32, some (.assign (.tmp 33)), none⟩])
  (.cond (.tmp 32) (.seq (.reg [] [⟨some 34, some (.move (.tmp 3)), none⟩,
 ⟨some 35, some (.indexAddr Zf (.tmp 34) (.const (.int .i64 0))), none⟩,
 ⟨some 36, some (.load Za (.tmp 35)), none⟩,
 ⟨some 37, some (.call ⟨(.value (.func Zbi)), #[.tmp 36], #[Za]⟩), none⟩,
 ⟨some 38, some (.move (.tmp 37)), none⟩,
 ⟨some 39, some (.move (.tmp 3)), some (some 38, false)⟩,
 ⟨some 40, some (.indexAddr Zf (.tmp 39) (.const (.int .i64 1))), some (some 38, false)⟩,
 ⟨some 41, some (.load Za (.tmp 40)), some (some 38, false)⟩,
 ⟨some 42, some (.call ⟨(.value (.func Zbi)), #[.tmp 41], #[Za]⟩), some (some 38, false)⟩,
 ⟨some 43, some (.pick (.tmp 38) (.const (.bool true)) (.tmp 42)), none⟩,
 ⟨some 44, some (.call ⟨(.value (.func Z9)), #[.tmp 43], #[Zi]⟩), none⟩,
 ⟨none, some (.store Za (.tmp 8) (.tmp 44)), none⟩])
  .ret)
  (.seq (.reg [] [⟨some 46, some (.binOp .eql Zc (.tmp 10) (.const (.int .i64 6)) Zc), none⟩,
 ⟨some 45, some (.assign (.tmp 46)), none⟩])
  (.cond (.tmp 45) (.seq (.reg [] [⟨some 47, some (.move (.tmp 3)), none⟩,
 ⟨some 48, some (.indexAddr Zf (.tmp 47) (.const (.int .i64 0))), none⟩,
 ⟨some 49, some (.load Za (.tmp 48)), none⟩,
 ⟨some 50, some (.move (.tmp 3)), none⟩,
 ⟨some 51, some (.indexAddr Zf (.tmp 50) (.const (.int .i64 1))), none⟩,
 ⟨some 52, some (.load Za (.tmp 51)), none⟩,
 ⟨some 53, some (.binOp .neq Za (.tmp 49) (.tmp 52) Za), none⟩,
 ⟨some 54, some (.call ⟨(.value (.func Z9)), #[.tmp 53], #[Zi]⟩), none⟩,
 ⟨none, some (.store Za (.tmp 8) (.tmp 54)), none⟩])
  .ret)
  (.seq (.reg [] [⟨some 56, some (.binOp .eql Zc (.tmp 10) (.const (.int .i64 7)) Zc), none⟩,
 ⟨some 55, some (.assign (.tmp 56)), none⟩])
  (.cond (.tmp 55) (.seq (.reg [] [⟨some 57, some (.move (.tmp 3)), none⟩,
 ⟨some 58, some (.indexAddr Zf (.tmp 57) (.const (.int .i64 0))), none⟩,
 ⟨some 59, some (.load Za (.tmp 58)), none⟩,
 ⟨some 60, some (.call ⟨(.value (.func Zbi)), #[.tmp 59], #[Za]⟩), none⟩,
 ⟨some 61, some (.unOp .not Zi (.tmp 60)), none⟩,
 ⟨some 62, some (.move (.tmp 61)), none⟩,
 ⟨some 63, some (.move (.tmp 3)), some (some 62, false)⟩,
 ⟨some 64, some (.indexAddr Zf (.tmp 63) (.const (.int .i64 1))), some (some 62, false)⟩,
 ⟨some 65, some (.load Za (.tmp 64)), some (some 62, false)⟩,
 ⟨some 66, some (.call ⟨(.value (.func Zbi)), #[.tmp 65], #[Za]⟩), some (some 62, false)⟩,
 ⟨some 67, some (.pick (.tmp 62) (.const (.bool true)) (.tmp 66)), none⟩,
 ⟨some 68, some (.call ⟨(.value (.func Z9)), #[.tmp 67], #[Zi]⟩), none⟩,
 ⟨none, some (.store Za (.tmp 8) (.tmp 68)), none⟩])
  .ret)
  (.seq (.reg [] [⟨some 70, some (.binOp .eql Zc (.tmp 10) (.const (.int .i64 8)) Zc), none⟩,
 ⟨some 69, some (.assign (.tmp 70)), none⟩])
  (.cond (.tmp 69) (.seq (.reg [] [⟨some 71, some (.move (.tmp 3)), none⟩,
 ⟨some 72, some (.indexAddr Zf (.tmp 71) (.const (.int .i64 0))), none⟩,
 ⟨some 73, some (.load Za (.tmp 72)), none⟩,
 ⟨some 74, some (.move (.tmp 3)), none⟩,
 ⟨some 75, some (.indexAddr Zf (.tmp 74) (.const (.int .i64 1))), none⟩,
 ⟨some 76, some (.load Za (.tmp 75)), none⟩,
 ⟨some 77, some (.binOp .eql Za (.tmp 73) (.tmp 76) Za), none⟩,
 ⟨some 78, some (.call ⟨(.value (.func Z9)), #[.tmp 77], #[Zi]⟩), none⟩,
 ⟨none, some (.store Za (.tmp 8) (.tmp 78)), none⟩])
  .ret)
  (.seq (.reg [] [⟨some 80, some (.binOp .eql Zc (.tmp 10) (.const (.int .i64 9)) Zc), none⟩,
 ⟨some 79, some (.assign (.tmp 80)), none⟩])
  (.cond (.tmp 79) (.seq (.seq (.reg [] [⟨some 81, some (.move (.tmp 3)), none⟩,
 ⟨some 82, some (.indexAddr Zf (.tmp 81) (.const (.int .i64 0))), none⟩,
 ⟨some 83, some (.load Za (.tmp 82)), none⟩,
 ⟨some 84, some (.call ⟨(.value (.func Zbi)), #[.tmp 83], #[Za]⟩), none⟩])
  (.cond (.tmp 84) (.seq (.reg [] [⟨some 85, some (.move (.tmp 3)), none⟩,
 ⟨some 86, some (.indexAddr Zf (.tmp 85) (.const (.int .i64 1))), none⟩,
 ⟨some 87, some (.load Za (.tmp 86)), none⟩,
 ⟨none, some (.store Za (.tmp 8) (.tmp 87)), none⟩])
  .ret)
  .skip))
  (.seq (.reg [] [⟨some 88, some (.move (.tmp 3)), none⟩,
 ⟨some 89, some (.indexAddr Zf (.tmp 88) (.const (.int .i64 2))), none⟩,
 ⟨some 90, some (.load Za (.tmp 89)), none⟩,
 ⟨none, some (.store Za (.tmp 8) (.tmp 90)), none⟩])
  .ret))
  .skip))))))))))))))))
  (.seq (.reg [] [⟨some 9, some (.alloc Za), none⟩])
  (.seq (.seq (.reg [] [⟨some 91, some (.move (.tmp 0)), none⟩])
  (.block 1 (.seq (.seq (.reg [] [⟨some 104, some (.binOp .eql Zc (.tmp 91) (.const (.int .i64 10)) Zc), none⟩,
 ⟨some 103, some (.assign (.tmp 104)), none⟩])
  (.cond (.tmp 103) .skip
  (.reg [] [⟨some 105, some (.binOp .eql Zc (.tmp 91) (.const (.int .i64 11)) Zc), none⟩,
 ⟨some 103, some (.assign (.tmp 105)), none⟩])))
  (.cond (.tmp 103) (.reg [] [⟨some 107, some (.move (.tmp 0)), none⟩,
 ⟨some 108, some (.move (.tmp 3)), none⟩,
 ⟨some 109, some (.indexAddr Zf (.tmp 108) (.const (.int .i64 0))), none⟩,
 ⟨some 110, some (.load Za (.tmp 109)), none⟩,
 ⟨some 111, some (.call ⟨(.value (.func Zdu)), #[.tmp 107, .tmp 110], #[Zc, Za]⟩), none⟩,
 ⟨some 106, some (.move (.tmp 111)), none⟩,
 ⟨some 112, some (.extract (.tmp 106) 0), none⟩,
 ⟨some 113, some (.extract (.tmp 106) 1), none⟩,
 ⟨none, some (.store Za (.tmp 9) (.tmp 112)), none⟩])
  (.seq (.reg [] [⟨some 115, some (.binOp .eql Zc (.tmp 91) (.const (.int .i64 38)) Zc), none⟩,
 ⟨some 114, some (.assign (.tmp 115)), none⟩])
  (.cond (.tmp 114) (.reg [] [⟨some 117, some (.move (.tmp 3)), none⟩,
 ⟨some 118, some (.indexAddr Zf (.tmp 117) (.const (.int .i64 0))), none⟩,
 ⟨some 119, some (.load Za (.tmp 118)), none⟩,
 ⟨some 120, some (.move (.tmp 3)), none⟩,
 ⟨some 121, some (.indexAddr Zf (.tmp 120) (.const (.int .i64 1))), none⟩,
 ⟨some 122, some (.load Za (.tmp 121)), none⟩,
 ⟨some 123, some (.call ⟨(.value (.func Zc4)), #[.tmp 119, .tmp 122], #[Za, Za]⟩), none⟩,
 ⟨some 116, some (.move (.tmp 123)), none⟩,
 ⟨some 124, some (.extract (.tmp 116) 0), none⟩,
 ⟨some 125, some (.extract (.tmp 116) 1), none⟩,
 ⟨none, some (.store Za (.tmp 9) (.tmp 124)), none⟩])
  (.seq (.reg [] [⟨some 127, some (.binOp .eql Zc (.tmp 91) (.const (.int .i64 39)) Zc), none⟩,
 ⟨some 126, some (.assign (.tmp 127)), none⟩])
  (.cond (.tmp 126) (.reg [] [⟨some 129, some (.move (.tmp 3)), none⟩,
 ⟨some 130, some (.indexAddr Zf (.tmp 129) (.const (.int .i64 0))), none⟩,
 ⟨some 131, some (.load Za (.tmp 130)), none⟩,
 ⟨some 132, some (.move (.tmp 1)), none⟩,
 ⟨some 133, some (.move (.tmp 2)), none⟩,
 ⟨some 134, some (.call ⟨(.value (.func Zdv)), #[.tmp 131, .tmp 132, .tmp 133], #[Za, Zc, Zc]⟩), none⟩,
 ⟨some 128, some (.move (.tmp 134)), none⟩,
 ⟨some 135, some (.extract (.tmp 128) 0), none⟩,
 ⟨some 136, some (.extract (.tmp 128) 1), none⟩,
 ⟨none, some (.store Za (.tmp 9) (.tmp 135)), none⟩])
  (.seq (.seq (.reg [] [⟨some 138, some (.binOp .eql Zc (.tmp 91) (.const (.int .i64 40)) Zc), none⟩,
 ⟨some 137, some (.assign (.tmp 138)), none⟩])
  (.cond (.tmp 137) .skip
  (.reg [] [⟨some 139, some (.binOp .eql Zc (.tmp 91) (.const (.int .i64 41)) Zc), none⟩,
 ⟨some 137, some (.assign (.tmp 139)), none⟩])))
  (.cond (.tmp 137) (.reg [] [⟨some 141, some (.move (.tmp 3)), none⟩,
 ⟨some 142, some (.indexAddr Zf (.tmp 141) (.const (.int .i64 0))), none⟩,
 ⟨some 143, some (.load Za (.tmp 142)), none⟩,
 ⟨some 144, some (.move (.tmp 1)), none⟩,
 ⟨some 145, some (.move (.tmp 0)), none⟩,
 ⟨some 146, some (.binOp .eql Zc (.tmp 145) (.const (.int .i64 41)) Zc), none⟩,
 ⟨some 147, some (.call ⟨(.value (.func Zc5)), #[.tmp 143, .tmp 144, .tmp 146], #[Za, Zc, Zi]⟩), none⟩,
 ⟨some 140, some (.move (.tmp 147)), none⟩,
 ⟨some 148, some (.extract (.tmp 140) 0), none⟩,
 ⟨some 149, some (.extract (.tmp 140) 1), none⟩,
 ⟨none, some (.store Za (.tmp 9) (.tmp 148)), none⟩])
  (.seq (.seq (.reg [] [⟨some 151, some (.binOp .eql Zc (.tmp 91) (.const (.int .i64 42)) Zc), none⟩,
 ⟨some 150, some (.assign (.tmp 151)), none⟩])
  (.cond (.tmp 150) .skip
  (.reg [] [⟨some 152, some (.binOp .eql Zc (.tmp 91) (.const (.int .i64 43)) Zc), none⟩,
 ⟨some 150, some (.assign (.tmp 152)), none⟩])))
  (.cond (.tmp 150) (.reg [] [⟨some 154, some (.move (.tmp 3)), none⟩,
 ⟨some 155, some (.indexAddr Zf (.tmp 154) (.const (.int .i64 0))), none⟩,
 ⟨some 156, some (.load Za (.tmp 155)), none⟩,
 ⟨some 157, some (.move (.tmp 1)), none⟩,
 ⟨some 158, some (.move (.tmp 0)), none⟩,
 ⟨some 159, some (.binOp .eql Zc (.tmp 158) (.const (.int .i64 42)) Zc), none⟩,
 ⟨some 160, some (.call ⟨(.value (.func Zci)), #[.tmp 156, .tmp 157, .tmp 159], #[Za, Zc, Zi]⟩), none⟩,
 ⟨some 153, some (.move (.tmp 160)), none⟩,
 ⟨some 161, some (.extract (.tmp 153) 0), none⟩,
 ⟨some 162, some (.extract (.tmp 153) 1), none⟩,
 ⟨none, some (.store Za (.tmp 9) (.tmp 161)), none⟩])
  (.seq (.reg [] [⟨some 164, some (.binOp .eql Zc (.tmp 91) (.const (.int .i64 44)) Zc), none⟩,
 ⟨some 163, some (.assign (.tmp 164)), none⟩])
  (.cond (.tmp 163) (.reg [] [⟨some 166, some (.move (.tmp 3)), none⟩,
 ⟨some 167, some (.indexAddr Zf (.tmp 166) (.const (.int .i64 0))), none⟩,
 ⟨some 168, some (.load Za (.tmp 167)), none⟩,
 ⟨some 169, some (.move (.tmp 1)), none⟩,
 ⟨some 170, some (.call ⟨(.value (.func Zc6)), #[.tmp 168, .tmp 169], #[Za, Zc]⟩), none⟩,
 ⟨some 165, some (.move (.tmp 170)), none⟩,
 ⟨some 171, some (.extract (.tmp 165) 0), none⟩,
 ⟨some 172, some (.extract (.tmp 165) 1), none⟩,
 ⟨none, some (.store Za (.tmp 9) (.tmp 171)), none⟩])
  (.reg [] [⟨some 93, some (.move (.tmp 0)), none⟩,
 ⟨some 94, some (.move (.tmp 3)), none⟩,
 ⟨some 95, some (.indexAddr Zf (.tmp 94) (.const (.int .i64 0))), none⟩,
 ⟨some 96, some (.load Za (.tmp 95)), none⟩,
 ⟨some 97, some (.move (.tmp 3)), none⟩,
 ⟨some 98, some (.indexAddr Zf (.tmp 97) (.const (.int .i64 1))), none⟩,
 ⟨some 99, some (.load Za (.tmp 98)), none⟩,
 ⟨some 100, some (.call ⟨(.value (.func Zc1)), #[.tmp 93, .tmp 96, .tmp 99], #[Zc, Za, Za]⟩), none⟩,
 ⟨some 92, some (.move (.tmp 100)), none⟩,
 ⟨some 101, some (.extract (.tmp 92) 0), none⟩,
 ⟨some 102, some (.extract (.tmp 92) 1), none⟩,
 ⟨none, some (.store Za (.tmp 9) (.tmp 101)), none⟩])))))))))))))))
  (.seq (.reg [] [⟨some 173, some (.load Za (.tmp 9)), none⟩,
 ⟨none, some (.store Za (.tmp 8) (.tmp 173)), none⟩])
  .ret)))))
theorem Zy {a0 a1 a2 a3 : AV} {H : AHeap} : R Zp [a0, a1, a2, a3] H = fnK Tryz.prog [] H [(.cell 8 Za)] (evalL Tryz.prog KT R Zv (Env.args [a0, a1, a2, a3] 0) H) :=
  runs_body (D := DT) (f := Zp) Tryz.func22 (by kernel_rfl) (by kernel_rfl) (by kernel_rfl) (by kernel_rfl) (by kernel_rfl) (Nat.le_of_ble_eq_true rfl)
def Zz : LCode := (.seq (.reg [] [⟨some 2, some (.assign (.const (.int .i64 0))), none⟩])
  (.seq (.seq (.reg [] [⟨some 3, some (.move (.tmp 0)), none⟩])
  (.block 0 (.seq (.seq (.reg [] [⟨some 5, some (.binOp .eql Zc (.tmp 3) (.const (.int .i64 1)) Zc), none⟩,
 ⟨some 4, some (.assign (.tmp 5)), none⟩])
  (.cond (.tmp 4) .skip
  (.reg [] [⟨some 6, some (.binOp .eql Zc (.tmp 3) (.const (.int .i64 2)) Zc), none⟩,
 ⟨some 4, some (.assign (.tmp 6)), none⟩])))
  (.cond (.tmp 4) (.seq (.reg [] [⟨some 2, some (.assign (.const (.int .i64 0))), none⟩])
  .ret)
  (.seq (.seq (.reg [] [⟨some 8, some (.binOp .eql Zc (.tmp 3) (.const (.int .i64 3)) Zc), none⟩,
 ⟨some 7, some (.assign (.tmp 8)), none⟩])
  (.cond (.tmp 7) .skip
  (.seq (.reg [] [⟨some 9, some (.binOp .eql Zc (.tmp 3) (.const (.int .i64 10)) Zc), none⟩,
 ⟨some 7, some (.assign (.tmp 9)), none⟩])
  (.cond (.tmp 7) .skip
  (.seq (.reg [] [⟨some 10, some (.binOp .eql Zc (.tmp 3) (.const (.int .i64 11)) Zc), none⟩,
 ⟨some 7, some (.assign (.tmp 10)), none⟩])
  (.cond (.tmp 7) .skip
  (.seq (.reg [] [⟨some 11, some (.binOp .eql Zc (.tmp 3) (.const (.int .i64 39)) Zc), none⟩,
 ⟨some 7, some (.assign (.tmp 11)), none⟩])
  (.cond (.tmp 7) .skip
  (.seq (.reg [] [⟨some 12, some (.binOp .eql Zc (.tmp 3) (.const (.int .i64 40)) Zc), none⟩,
 ⟨some 7, some (.assign (.tmp 12)), none⟩])
  (.cond (.tmp 7) .skip
  (.seq (.reg [] [⟨some 13, some (.binOp .eql Zc (.tmp 3) (.const (.int .i64 41)) Zc), none⟩,
 ⟨some 7, some (.assign (.tmp 13)), none⟩])
  (.cond (.tmp 7) .skip
  (.seq (.reg [] [⟨some 14, some (.binOp .eql Zc (.tmp 3) (.const (.int .i64 42)) Zc), none⟩,
 ⟨some 7, some (.assign (.tmp 14)), none⟩])
  (.cond (.tmp 7) .skip
  (.seq (.reg [] [⟨some 15, some (.binOp .eql Zc (.tmp 3) (.const (.int .i64 43)) Zc), none⟩,
 ⟨some 7, some (.assign (.tmp 15)), none⟩])
  (.cond (.tmp 7) .skip
  (.reg [] [⟨some 16, some (.binOp .eql Zc (.tmp 3) (.const (.int .i64 44)) Zc), none⟩,
 ⟨some 7, some (.assign (.tmp 16)), none⟩])))))))))))))))))
  (.cond (.tmp 7) (.seq (.reg [] [⟨some 2, some (.assign (.const (.int .i64 1))), none⟩])
  .ret)
  (.seq (.reg [] [⟨some 18, some (.binOp .eql Zc (.tmp 3) (.const (.int .i64 9)) Zc), none⟩,
 ⟨some 17, some (.assign (.tmp 18)), none⟩])
  (.cond (.tmp 17) (.seq (.reg [] [⟨some 2, some (.assign (.const (.int .i64 3))), none⟩])
  .ret)
  .skip))))))))
  (.seq (.seq (.reg [] [⟨some 19, some (.move (.tmp 0)), none⟩,
 ⟨some 20, some (.binOp .lss Zc (.tmp 19) (.const (.int .i64 1)) Zc), none⟩,
 ⟨some 21, some (.move (.tmp 20)), none⟩,
 ⟨some 22, some (.move (.tmp 0)), some (some 21, false)⟩,
 ⟨some 23, some (.binOp .gtr Zc (.tmp 22) (.const (.int .i64 44)) Zc), some (some 21, false)⟩,
 ⟨some 24, some (.pick (.tmp 21) (.const (.bool true)) (.tmp 23)), none⟩])
  (.cond (.tmp 24) (.seq (.reg [] [⟨some 2, some (.assign (.const (.int .i64 (-1)))), none⟩])
  .ret)
  .skip))
  (.seq (.reg [] [⟨some 2, some (.assign (.const (.int .i64 2))), none⟩])
  .ret))))
theorem Zjq {a0 : AV} {H : AHeap} : R Zdp [a0] H = fnK Tryz.prog [] H [(.tmp 2)] (evalL Tryz.prog KT R Zz (Env.args [a0] 0) H) :=
  runs_body (D := DT) (f := Zdp) Tryz.func23 (by kernel_rfl) (by kernel_rfl) (by kernel_rfl) (by kernel_rfl) (by kernel_rfl) (Nat.le_of_ble_eq_true rfl)
def Zb7 : LCode := (.seq (.reg [] [⟨some 12, some (.binOp .lss Zc (.tmp 11) (.tmp 10) Zc), none⟩])
  (.seq (.cond (.tmp 12) .skip
  (.exit 0))
  (.seq (.block 1 (.seq (.reg [] [⟨some 13, some (.move (.tmp 11)), none⟩,
 ⟨some 14, some (.indexAddr Zh (.tmp 9) (.tmp 11)), none⟩,
 ⟨some 15, some (.load Zd (.tmp 14)), none⟩,
 ⟨some 5, some (.alloc Zd), none⟩,
 ⟨some 4, some (.assign (.tmp 13)), none⟩,
 ⟨none, some (.store Zd (.tmp 5) (.tmp 15)), none⟩])
  (.seq (.reg [] [⟨some 16, some (.fieldAddr Zd (.tmp 5) 0), none⟩,
 ⟨some 17, some (.load Zc (.tmp 16)), none⟩,
 ⟨some 18, some (.binOp .eql Zc (.tmp 17) (.const (.int .i64 2)) Zc), none⟩])
  (.cond (.tmp 18) (.reg [] [⟨some 19, some (.move (.tmp 3)), none⟩,
 ⟨some 20, some (.move (.tmp 4)), none⟩,
 ⟨some 21, some (.binOp .add Zc (.tmp 20) (.const (.int .i64 1)) Zc), none⟩,
 ⟨some 22, some (.buildSlice Zk 1 #[(0, (.tmp 21))]), none⟩,
 ⟨some 23, some (.call ⟨(.builtin .append), #[.tmp 19, .tmp 22], #[Zk, Zk]⟩), none⟩,
 ⟨some 3, some (.assign (.tmp 23)), none⟩])
  .skip))))
  (.reg [] [⟨some 24, some (.binOp .add Zc (.tmp 11) (.const (.int .i64 1)) Zc), none⟩,
 ⟨some 11, some (.move (.tmp 24)), none⟩]))))
@[simp] theorem Zkn : defs Zb7 = [12, 13, 14, 15, 5, 4, 16, 17, 18, 19, 20, 21, 22, 23, 3, 24, 11] := by rfl
def Zgb : LCode := (.seq (.reg [] [⟨some 2, some (.assign (.const (.slice none 0 0))), none⟩])
  (.seq (.reg [] [⟨some 3, some (.assign (.const (.slice none 0 0))), none⟩])
  (.seq (.seq (.reg [] [⟨some 6, some (.move (.tmp 0)), none⟩,
 ⟨some 7, some (.nilCheck (.tmp 6)), none⟩,
 ⟨some 8, some (.fieldAddr Zt (.tmp 7) 1), none⟩,
 ⟨some 9, some (.load Zh (.tmp 8)), none⟩,
 ⟨some 10, some (.call ⟨(.builtin .len), #[.tmp 9], #[Zh]⟩), none⟩,
 ⟨some 11, some (.move (.const (.int .i64 0))), none⟩])
  (.block 0 (.loop Zb7)))
  (.seq (.reg [] [⟨some 25, some (.move (.tmp 3)), none⟩,
 ⟨some 2, some (.assign (.tmp 25)), none⟩])
  .ret))))
theorem Zh0 {a0 : AV} {H : AHeap} : R Zch [a0] H = fnK Tryz.prog [0] H [(.tmp 2)] (evalL Tryz.prog KT R Zgb (Env.args [a0] 0) H) :=
  runs_body (D := DT) (f := Zch) Tryz.func24 (by kernel_rfl) (by kernel_rfl) (by kernel_rfl) (by kernel_rfl) (by kernel_rfl) (Nat.le_of_ble_eq_true rfl)
def Zdg : LCode := (.seq (.reg [] [⟨some 4, some (.alloc Zd), none⟩,
 ⟨some 5, some (.assign (.const (.bool false))), none⟩])
  (.seq (.seq (.reg [] [⟨some 6, some (.move (.tmp 1)), none⟩,
 ⟨some 7, some (.binOp .lss Zc (.tmp 6) (.const (.int .i64 1)) Zc), none⟩,
 ⟨some 8, some (.move (.tmp 7)), none⟩,
 ⟨some 9, some (.move (.tmp 1)), some (some 8, false)⟩,
 ⟨some 10, some (.move (.tmp 0)), some (some 8, false)⟩,
 ⟨some 11, some (.nilCheck (.tmp 10)), some (some 8, false)⟩,
 ⟨some 12, some (.fieldAddr Zt (.tmp 11) 1), some (some 8, false)⟩,
 ⟨some 13, some (.load Zh (.tmp 12)), some (some 8, false)⟩,
 ⟨some 14, some (.call ⟨(.builtin .len), #[.tmp 13], #[Zh]⟩), some (some 8, false)⟩,
 ⟨some 15, some (.binOp .gtr Zc (.tmp 9) (.tmp 14) Zc), some (some 8, false)⟩,
 ⟨some 16, some (.pick (.tmp 8) (.const (.bool true)) (.tmp 15)), none⟩])
  (.cond (.tmp 16) (.seq (.reg [] [⟨some 17, some (.build Zd #[]), none⟩,
 ⟨none, some (.store Zd (.tmp 4) (.tmp 17)), none⟩,
 ⟨some 5, some (.assign (.const (.bool false))), none⟩])
  .ret)
  .skip))
  (.seq (.reg [] [⟨some 18, some (.move (.tmp 0)), none⟩,
 ⟨some 19, some (.nilCheck (.tmp 18)), none⟩,
 ⟨some 20, some (.fieldAddr Zt (.tmp 19) 1), none⟩,
 ⟨some 21, some (.load Zh (.tmp 20)), none⟩,
 ⟨some 22, some (.move (.tmp 1)), none⟩,
 ⟨some 23, some (.binOp .sub Zc (.tmp 22) (.const (.int .i64 1)) Zc), none⟩,
 ⟨some 24, some (.indexAddr Zh (.tmp 21) (.tmp 23)), none⟩,
 ⟨some 25, some (.load Zd (.tmp 24)), none⟩,
 ⟨none, some (.store Zd (.tmp 4) (.tmp 25)), none⟩,
 ⟨some 5, some (.assign (.const (.bool true))), none⟩])
  .ret)))
theorem Zh1 {a0 a1 : AV} {H : AHeap} : R Zba [a0, a1] H = fnK Tryz.prog [] H [(.cell 4 Zd), (.tmp 5)] (evalL Tryz.prog KT R Zdg (Env.args [a0, a1] 0) H) :=
  runs_body (D := DT) (f := Zba) Tryz.func25 (by kernel_rfl) (by kernel_rfl) (by kernel_rfl) (by kernel_rfl) (by kernel_rfl) (Nat.le_of_ble_eq_true rfl)
def Zko : LCode := (.seq (.reg [] [⟨some 2, some (.box Za (.tmp 0)), none⟩,
 ⟨some 4, some (.assign (.const (.bool false))), none⟩])
  (.seq (.reg [] [⟨some 5, some (.load Za (.tmp 2)), none⟩,
 ⟨some 6, some (.call ⟨(.value (.func Ze1)), #[.tmp 5], #[Za]⟩), none⟩,
 ⟨some 7, some (.move (.tmp 6)), none⟩,
 ⟨some 8, some (.fieldAddr Za (.tmp 2) 0), some (some 7, true)⟩,
 ⟨some 9, some (.load Zc (.tmp 8)), some (some 7, true)⟩,
 ⟨some 10, some (.move (.tmp 1)), some (some 7, true)⟩,
 ⟨some 11, some (.binOp .eql Zc (.tmp 9) (.tmp 10) Zc), some (some 7, true)⟩,
 ⟨some 12, some (.pick (.tmp 7) (.tmp 11) (.const (.bool false))), none⟩,
 ⟨some 4, some (.assign (.tmp 12)), none⟩])
  .ret))
theorem Zmj {a0 a1 : AV} {H : AHeap} : R Zg9 [a0, a1] H = fnK Tryz.prog [] H [(.tmp 4)] (evalL Tryz.prog KT R Zko (Env.args [a0, a1] 0) H) :=
  runs_body (D := DT) (f := Zg9) Tryz.func26 (by kernel_rfl) (by kernel_rfl) (by kernel_rfl) (by kernel_rfl) (by kernel_rfl) (Nat.le_of_ble_eq_true rfl)
def Zbm : LCode := (.seq (.seq (.reg [] [⟨some 5, some (.move (.tmp 4)), none⟩,
 ⟨some 6, some (.move (.tmp 0)), none⟩,
 ⟨some 7, some (.nilCheck (.tmp 6)), none⟩,
 ⟨some 8, some (.fieldAddr Zl (.tmp 7) 0), none⟩,
 ⟨some 9, some (.load Zh (.tmp 8)), none⟩,
 ⟨some 10, some (.call ⟨(.builtin .len), #[.tmp 9], #[Zh]⟩), none⟩,
 ⟨some 11, some (.binOp .lss Zc (.tmp 5) (.tmp 10) Zc), none⟩])
  (.cond (.tmp 11) .skip
  (.exit 0)))
  (.seq (.block 1 (.seq (.reg [] [⟨some 14, some (.move (.tmp 0)), none⟩,
 ⟨some 15, some (.nilCheck (.tmp 14)), none⟩,
 ⟨some 16, some (.fieldAddr Zl (.tmp 15) 0), none⟩,
 ⟨some 17, some (.load Zh (.tmp 16)), none⟩,
 ⟨some 18, some (.move (.tmp 4)), none⟩,
 ⟨some 19, some (.indexAddr Zh (.tmp 17) (.tmp 18)), none⟩,
 ⟨some 20, some (.fieldAddr Zd (.tmp 19) 0), none⟩,
 ⟨some 21, some (.load Zc (.tmp 20)), none⟩,
 ⟨some 22, some (.binOp .eql Zc (.tmp 21) (.const (.int .i64 2)) Zc), none⟩])
  (.cond (.tmp 22) (.reg [] [⟨some 23, some (.move (.tmp 3)), none⟩,
 ⟨some 24, some (.move (.tmp 4)), none⟩,
 ⟨some 25, some (.binOp .add Zc (.tmp 24) (.const (.int .i64 1)) Zc), none⟩,
 ⟨some 26, some (.buildSlice Zk 1 #[(0, (.tmp 25))]), none⟩,
 ⟨some 27, some (.call ⟨(.builtin .append), #[.tmp 23, .tmp 26], #[Zk, Zk]⟩), none⟩,
 ⟨some 3, some (.assign (.tmp 27)), none⟩])
  .skip)))
  (.reg [] [⟨some 12, some (.move (.tmp 4)), none⟩,
 ⟨some 13, some (.binOp .add Zc (.tmp 12) (.const (.int .i64 1)) Zc), none⟩,
 ⟨some 4, some (.assign (.tmp 13)), none⟩])))
@[simp] theorem Zjm : defs Zbm = [5, 6, 7, 8, 9, 10, 11, 14, 15, 16, 17, 18, 19, 20, 21, 22, 23, 24, 25, 26, 27, 3, 12, 13, 4] := by rfl
def Ze9 : LCode := (.seq (.reg [] [⟨some 2, some (.assign (.const (.slice none 0 0))), none⟩])
  (.seq (.reg [] [⟨some 3, some (.assign (.const (.slice none 0 0))), none⟩])
  (.seq (.seq (.reg [] [⟨some 4, some (.assign (.const (.int .i64 0))), none⟩])
  (.block 0 (.loop Zbm)))
  (.seq (.reg [] [⟨some 28, some (.move (.tmp 3)), none⟩,
 ⟨some 2, some (.assign (.tmp 28)), none⟩])
  .ret))))
theorem Zg7 {a0 : AV} {H : AHeap} : R Zbs [a0] H = fnK Tryz.prog [0] H [(.tmp 2)] (evalL Tryz.prog KT R Ze9 (Env.args [a0] 0) H) :=
  runs_body (D := DT) (f := Zbs) Tryz.func27 (by kernel_rfl) (by kernel_rfl) (by kernel_rfl) (by kernel_rfl) (by kernel_rfl) (Nat.le_of_ble_eq_true rfl)
def Zbw : LCode := (.seq (.reg [] [⟨some 19, some (.binOp .lss Zc (.tmp 18) (.const (.int .i64 3)) Zc), none⟩])
  (.seq (.cond (.tmp 19) .skip
  (.exit 0))
  (.seq (.block 1 (.seq (.reg [] [⟨some 20, some (.move (.tmp 18)), none⟩,
 ⟨some 21, some (.index Zf7 (.tmp 17) (.tmp 18)), none⟩,
 ⟨some 6, some (.assign (.tmp 20)), none⟩,
 ⟨some 7, some (.assign (.tmp 21)), none⟩])
  (.seq (.reg [] [⟨some 22, some (.move (.tmp 6)), none⟩,
 ⟨some 23, some (.move (.tmp 5)), none⟩,
 ⟨some 24, some (.binOp .lss Zc (.tmp 22) (.tmp 23) Zc), none⟩,
 ⟨some 25, some (.move (.tmp 24)), none⟩,
 ⟨some 26, some (.move (.tmp 7)), some (some 25, true)⟩,
 ⟨some 27, some (.binOp .lss Zc (.tmp 26) (.const (.int .i64 1)) Zc), some (some 25, true)⟩,
 ⟨some 28, some (.move (.tmp 27)), some (some 25, true)⟩,
 ⟨some 29, some (.move (.tmp 7)), some (some 28, false)⟩,
 ⟨some 30, some (.move (.tmp 0)), some (some 28, false)⟩,
 ⟨some 31, some (.nilCheck (.tmp 30)), some (some 28, false)⟩,
 ⟨some 32, some (.fieldAddr Zt (.tmp 31) 1), some (some 28, false)⟩,
 ⟨some 33, some (.load Zh (.tmp 32)), some (some 28, false)⟩,
 ⟨some 34, some (.call ⟨(.builtin .len), #[.tmp 33], #[Zh]⟩), some (some 28, false)⟩,
 ⟨some 35, some (.binOp .gtr Zc (.tmp 29) (.tmp 34) Zc), some (some 28, false)⟩,
 ⟨some 36, some (.pick (.tmp 28) (.const (.bool true)) (.tmp 35)), some (some 25, true)⟩,
 ⟨some 37, some (.pick (.tmp 25) (.tmp 36) (.const (.bool false))), none⟩,
 ⟨some 38, some (.move (.tmp 37)), none⟩,
 ⟨some 39, some (.move (.tmp 6)), some (some 38, false)⟩,
 ⟨some 40, some (.move (.tmp 5)), some (some 38, false)⟩,
 ⟨some 41, some (.binOp .geq Zc (.tmp 39) (.tmp 40) Zc), some (some 38, false)⟩,
 ⟨some 42, some (.move (.tmp 41)), some (some 38, false)⟩,
 ⟨some 43, some (.move (.tmp 7)), some (some 42, true)⟩,
 ⟨some 44, some (.binOp .neq Zc (.tmp 43) (.const (.int .i64 0)) Zc), some (some 42, true)⟩,
 ⟨some 45, some (.pick (.tmp 42) (.tmp 44) (.const (.bool false))), some (some 38, false)⟩,
 ⟨some 46, some (.pick (.tmp 38) (.const (.bool true)) (.tmp 45)), none⟩])
  (.cond (.tmp 46) (.seq (.reg [] [⟨some 4, some (.assign (.const (.bool false))), none⟩])
  .ret)
  .skip))))
  (.reg [] [⟨some 47, some (.binOp .add Zc (.tmp 18) (.const (.int .i64 1)) Zc), none⟩,
 ⟨some 18, some (.move (.tmp 47)), none⟩]))))
@[simp] theorem Zj8 : defs Zbw = [19, 20, 21, 6, 7, 22, 23, 24, 25, 26, 27, 28, 29, 30, 31, 32, 33, 34, 35, 36, 37, 38, 39, 40, 41, 42, 43, 44, 45, 46, 4, 47, 18] := by rfl
def Zfv : LCode := (.seq (.reg [] [⟨some 3, some (.box Zd (.tmp 1)), none⟩,
 ⟨some 4, some (.assign (.const (.bool false))), none⟩])
  (.seq (.reg [] [⟨some 8, some (.fieldAddr Zd (.tmp 3) 0), none⟩,
 ⟨some 9, some (.load Zc (.tmp 8)), none⟩,
 ⟨some 10, some (.call ⟨(.value (.func Zf2)), #[.tmp 9], #[Zc]⟩), none⟩,
 ⟨some 5, some (.assign (.tmp 10)), none⟩])
  (.seq (.seq (.reg [] [⟨some 11, some (.fieldAddr Zd (.tmp 3) 2), none⟩,
 ⟨some 12, some (.load Zc (.tmp 11)), none⟩,
 ⟨some 13, some (.fieldAddr Zd (.tmp 3) 3), none⟩,
 ⟨some 14, some (.load Zc (.tmp 13)), none⟩,
 ⟨some 15, some (.fieldAddr Zd (.tmp 3) 4), none⟩,
 ⟨some 16, some (.load Zc (.tmp 15)), none⟩,
 ⟨some 17, some (.build Zf7 #[(0, (.tmp 12)), (1, (.tmp 14)), (2, (.tmp 16))]), none⟩,
 ⟨some 18, some (.move (.const (.int .i64 0))), none⟩])
  (.block 0 (.loop Zbw)))
  (.seq (.reg [] [⟨some 48, some (.move (.tmp 5)), none⟩,
 ⟨some 49, some (.binOp .geq Zc (.tmp 48) (.const (.int .i64 0)) Zc), none⟩,
 ⟨some 50, some (.move (.tmp 49)), none⟩,
 ⟨some 51, some (.fieldAddr Zd (.tmp 3) 0), some (some 50, true)⟩,
 ⟨some 52, some (.load Zc (.tmp 51)), some (some 50, true)⟩,
 ⟨some 53, some (.binOp .eql Zc (.tmp 52) (.const (.int .i64 1)) Zc), some (some 50, true)⟩,
 ⟨some 54, some (.move (.tmp 53)), some (some 50, true)⟩,
 ⟨some 55, some (.fieldAddr Zd (.tmp 3) 7), some (some 54, false)⟩,
 ⟨some 56, some (.load Za (.tmp 55)), some (some 54, false)⟩,
 ⟨some 57, some (.build Za #[]), some (some 54, false)⟩,
 ⟨some 58, some (.binOp .eql Za (.tmp 56) (.tmp 57) Za), some (some 54, false)⟩,
 ⟨some 59, some (.pick (.tmp 54) (.const (.bool true)) (.tmp 58)), some (some 50, true)⟩,
 ⟨some 60, some (.pick (.tmp 50) (.tmp 59) (.const (.bool false))), none⟩,
 ⟨some 61, some (.move (.tmp 60)), none⟩,
 ⟨some 62, some (.fieldAddr Zd (.tmp 3) 0), some (some 61, true)⟩,
 ⟨some 63, some (.load Zc (.tmp 62)), some (some 61, true)⟩,
 ⟨some 64, some (.binOp .eql Zc (.tmp 63) (.const (.int .i64 2)) Zc), some (some 61, true)⟩,
 ⟨some 65, some (.move (.tmp 64)), some (some 61, true)⟩,
 ⟨some 66, some (.fieldAddr Zd (.tmp 3) 8), some (some 65, false)⟩,
 ⟨some 67, some (.load Zbd (.tmp 66)), some (some 65, false)⟩,
 ⟨some 68, some (.binOp .eql Zbd (.tmp 67) (.const (.string { data := #[] })) Zbd), some (some 65, false)⟩,
 ⟨some 69, some (.pick (.tmp 65) (.const (.bool true)) (.tmp 68)), some (some 61, true)⟩,
 ⟨some 70, some (.pick (.tmp 61) (.tmp 69) (.const (.bool false))), none⟩,
 ⟨some 4, some (.assign (.tmp 70)), none⟩])
  .ret))))
theorem Zhp {a0 a1 : AV} {H : AHeap} : R Zcx [a0, a1] H = fnK Tryz.prog [] H [(.tmp 4)] (evalL Tryz.prog KT R Zfv (Env.args [a0, a1] 0) H) :=
  runs_body (D := DT) (f := Zcx) Tryz.func28 (by kernel_rfl) (by kernel_rfl) (by kernel_rfl) (by kernel_rfl) (by kernel_rfl) (Nat.le_of_ble_eq_true rfl)
def Zbx : LCode := (.seq (.reg [] [⟨some 94, some (.binOp .lss Zc (.tmp 93) (.const (.int .i64 3)) Zc), none⟩])
  (.seq (.cond (.tmp 94) .skip
  (.exit 1))
  (.seq (.block 2 (.seq (.reg [] [⟨some 95, some (.index Zf7 (.tmp 92) (.tmp 93)), none⟩,
 ⟨some 9, some (.assign (.tmp 95)), none⟩])
  (.seq (.reg [] [⟨some 96, some (.move (.tmp 9)), none⟩,
 ⟨some 97, some (.binOp .gtr Zc (.tmp 96) (.const (.int .i64 0)) Zc), none⟩])
  (.cond (.tmp 97) (.reg [] [⟨some 98, some (.move (.tmp 7)), none⟩,
 ⟨some 99, some (.move (.tmp 0)), none⟩,
 ⟨some 100, some (.nilCheck (.tmp 99)), none⟩,
 ⟨some 101, some (.fieldAddr Zt (.tmp 100) 1), none⟩,
 ⟨some 102, some (.load Zh (.tmp 101)), none⟩,
 ⟨some 103, some (.move (.tmp 9)), none⟩,
 ⟨some 104, some (.binOp .sub Zc (.tmp 103) (.const (.int .i64 1)) Zc), none⟩,
 ⟨some 105, some (.indexAddr Zh (.tmp 102) (.tmp 104)), none⟩,
 ⟨some 106, some (.fieldAddr Zd (.tmp 105) 1), none⟩,
 ⟨some 107, some (.load Zc (.tmp 106)), none⟩,
 ⟨some 108, some (.buildSlice Zk 1 #[(0, (.tmp 107))]), none⟩,
 ⟨some 109, some (.call ⟨(.builtin .append), #[.tmp 98, .tmp 108], #[Zk, Zk]⟩), none⟩,
 ⟨some 7, some (.assign (.tmp 109)), none⟩])
  .skip))))
  (.reg [] [⟨some 110, some (.binOp .add Zc (.tmp 93) (.const (.int .i64 1)) Zc), none⟩,
 ⟨some 93, some (.move (.tmp 110)), none⟩]))))
@[simp] theorem Zj9 : defs Zbx = [94, 95, 9, 96, 97, 98, 99, 100, 101, 102, 103, 104, 105, 106, 107, 108, 109, 7, 110, 93] := by rfl
def Zm : LCode := (.seq (.reg [] [⟨some 3, some (.box Zd (.tmp 1)), none⟩,
 ⟨some 4, some (.alloc Zd), none⟩,
 ⟨some 5, some (.assign (.const (.int .i64 0))), none⟩])
  (.seq (.seq (.reg [] [⟨some 11, some (.fieldAddr Zd (.tmp 3) 0), none⟩,
 ⟨some 12, some (.load Zc (.tmp 11)), none⟩])
  (.block 0 (.seq (.reg [] [⟨some 14, some (.binOp .eql Zc (.tmp 12) (.const (.int .i64 1)) Zc), none⟩,
 ⟨some 13, some (.assign (.tmp 14)), none⟩])
  (.cond (.tmp 13) (.seq (.seq (.reg [] [⟨some 15, some (.fieldAddr Zd (.tmp 3) 7), none⟩,
 ⟨some 16, some (.load Za (.tmp 15)), none⟩,
 ⟨some 17, some (.call ⟨(.value (.func Ze1)), #[.tmp 16], #[Za]⟩), none⟩,
 ⟨some 18, some (.unOp .not Zi (.tmp 17)), none⟩,
 ⟨some 19, some (.move (.tmp 18)), none⟩,
 ⟨some 20, some (.fieldAddr Zd (.tmp 3) 7), some (some 19, false)⟩,
 ⟨some 21, some (.fieldAddr Za (.tmp 20) 0), some (some 19, false)⟩,
 ⟨some 22, some (.load Zc (.tmp 21)), some (some 19, false)⟩,
 ⟨some 23, some (.fieldAddr Zd (.tmp 3) 1), some (some 19, false)⟩,
 ⟨some 24, some (.load Zc (.tmp 23)), some (some 19, false)⟩,
 ⟨some 25, some (.binOp .neq Zc (.tmp 22) (.tmp 24) Zc), some (some 19, false)⟩,
 ⟨some 26, some (.pick (.tmp 19) (.const (.bool true)) (.tmp 25)), none⟩,
 ⟨some 27, some (.move (.tmp 26)), none⟩,
 ⟨some 28, some (.fieldAddr Zd (.tmp 3) 5), some (some 27, false)⟩,
 ⟨some 29, some (.load Zc (.tmp 28)), some (some 27, false)⟩,
 ⟨some 30, some (.binOp .neq Zc (.tmp 29) (.const (.int .i64 0)) Zc), some (some 27, false)⟩,
 ⟨some 31, some (.pick (.tmp 27) (.const (.bool true)) (.tmp 30)), none⟩,
 ⟨some 32, some (.move (.tmp 31)), none⟩,
 ⟨some 33, some (.fieldAddr Zd (.tmp 3) 6), some (some 32, false)⟩,
 ⟨some 34, some (.load Zc (.tmp 33)), some (some 32, false)⟩,
 ⟨some 35, some (.binOp .neq Zc (.tmp 34) (.const (.int .i64 0)) Zc), some (some 32, false)⟩,
 ⟨some 36, some (.pick (.tmp 32) (.const (.bool true)) (.tmp 35)), none⟩])
  (.cond (.tmp 36) (.seq (.reg [] [⟨some 37, some (.load Zd (.tmp 3)), none⟩,
 ⟨none, some (.store Zd (.tmp 4) (.tmp 37)), none⟩,
 ⟨some 5, some (.assign (.const (.int .i64 30))), none⟩])
  .ret)
  .skip))
  (.seq (.reg [] [⟨some 38, some (.load Zd (.tmp 3)), none⟩,
 ⟨none, some (.store Zd (.tmp 4) (.tmp 38)), none⟩,
 ⟨some 5, some (.assign (.const (.int .i64 0))), none⟩])
  .ret))
  (.seq (.reg [] [⟨some 40, some (.binOp .eql Zc (.tmp 12) (.const (.int .i64 2)) Zc), none⟩,
 ⟨some 39, some (.assign (.tmp 40)), none⟩])
  (.cond (.tmp 39) (.seq (.seq (.reg [] [⟨some 41, some (.fieldAddr Zd (.tmp 3) 1), none⟩,
 ⟨some 42, some (.load Zc (.tmp 41)), none⟩,
 ⟨some 43, some (.call ⟨(.value (.func Zha)), #[.tmp 42], #[Zc]⟩), none⟩,
 ⟨some 44, some (.unOp .not Zi (.tmp 43)), none⟩,
 ⟨some 45, some (.move (.tmp 44)), none⟩,
 ⟨some 46, some (.fieldAddr Zd (.tmp 3) 5), some (some 45, false)⟩,
 ⟨some 47, some (.load Zc (.tmp 46)), some (some 45, false)⟩,
 ⟨some 48, some (.binOp .neq Zc (.tmp 47) (.const (.int .i64 0)) Zc), some (some 45, false)⟩,
 ⟨some 49, some (.pick (.tmp 45) (.const (.bool true)) (.tmp 48)), none⟩,
 ⟨some 50, some (.move (.tmp 49)), none⟩,
 ⟨some 51, some (.fieldAddr Zd (.tmp 3) 6), some (some 50, false)⟩,
 ⟨some 52, some (.load Zc (.tmp 51)), some (some 50, false)⟩,
 ⟨some 53, some (.binOp .neq Zc (.tmp 52) (.const (.int .i64 0)) Zc), some (some 50, false)⟩,
 ⟨some 54, some (.pick (.tmp 50) (.const (.bool true)) (.tmp 53)), none⟩])
  (.cond (.tmp 54) (.seq (.reg [] [⟨some 55, some (.load Zd (.tmp 3)), none⟩,
 ⟨none, some (.store Zd (.tmp 4) (.tmp 55)), none⟩,
 ⟨some 5, some (.assign (.const (.int .i64 30))), none⟩])
  .ret)
  .skip))
  (.seq (.seq (.reg [] [⟨some 56, some (.move (.tmp 0)), none⟩,
 ⟨some 57, some (.nilCheck (.tmp 56)), none⟩,
 ⟨some 58, some (.fieldAddr Zt (.tmp 57) 3), none⟩,
 ⟨some 59, some (.load Zdk (.tmp 58)), none⟩,
 ⟨some 60, some (.fieldAddr Zd (.tmp 3) 8), none⟩,
 ⟨some 61, some (.load Zbd (.tmp 60)), none⟩,
 ⟨some 62, some (.lookup Zdk (.tmp 59) (.tmp 61) false), none⟩,
 ⟨some 6, some (.assign (.tmp 62)), none⟩])
  (.seq (.reg [] [⟨some 63, some (.fieldAddr Zd (.tmp 3) 8), none⟩,
 ⟨some 64, some (.load Zbd (.tmp 63)), none⟩,
 ⟨some 65, some (.binOp .eql Zbd (.tmp 64) (.const (.string { data := #[] })) Zbd), none⟩,
 ⟨some 66, some (.move (.tmp 65)), none⟩,
 ⟨some 67, some (.move (.tmp 6)), some (some 66, false)⟩,
 ⟨some 68, some (.binOp .gtr Zc (.tmp 67) (.const (.int .i64 0)) Zc), some (some 66, false)⟩,
 ⟨some 69, some (.move (.tmp 68)), some (some 66, false)⟩,
 ⟨some 70, some (.move (.tmp 0)), some (some 69, true)⟩,
 ⟨some 71, some (.nilCheck (.tmp 70)), some (some 69, true)⟩,
 ⟨some 72, some (.fieldAddr Zt (.tmp 71) 1), some (some 69, true)⟩,
 ⟨some 73, some (.load Zh (.tmp 72)), some (some 69, true)⟩,
 ⟨some 74, some (.move (.tmp 6)), some (some 69, true)⟩,
 ⟨some 75, some (.binOp .sub Zc (.tmp 74) (.const (.int .i64 1)) Zc), some (some 69, true)⟩,
 ⟨some 76, some (.indexAddr Zh (.tmp 73) (.tmp 75)), some (some 69, true)⟩,
 ⟨some 77, some (.fieldAddr Zd (.tmp 76) 1), some (some 69, true)⟩,
 ⟨some 78, some (.load Zc (.tmp 77)), some (some 69, true)⟩,
 ⟨some 79, some (.fieldAddr Zd (.tmp 3) 1), some (some 69, true)⟩,
 ⟨some 80, some (.load Zc (.tmp 79)), some (some 69, true)⟩,
 ⟨some 81, some (.binOp .neq Zc (.tmp 78) (.tmp 80) Zc), some (some 69, true)⟩,
 ⟨some 82, some (.pick (.tmp 69) (.tmp 81) (.const (.bool false))), some (some 66, false)⟩,
 ⟨some 83, some (.pick (.tmp 66) (.const (.bool true)) (.tmp 82)), none⟩])
  (.cond (.tmp 83) (.seq (.reg [] [⟨some 84, some (.load Zd (.tmp 3)), none⟩,
 ⟨none, some (.store Zd (.tmp 4) (.tmp 84)), none⟩,
 ⟨some 5, some (.assign (.const (.int .i64 34))), none⟩])
  .ret)
  .skip)))
  (.seq (.reg [] [⟨some 85, some (.load Zd (.tmp 3)), none⟩,
 ⟨none, some (.store Zd (.tmp 4) (.tmp 85)), none⟩,
 ⟨some 5, some (.assign (.const (.int .i64 0))), none⟩])
  .ret)))
  .skip))))))
  (.seq (.reg [] [⟨some 7, some (.assign (.const (.slice none 0 0))), none⟩])
  (.seq (.seq (.reg [] [⟨some 86, some (.fieldAddr Zd (.tmp 3) 2), none⟩,
 ⟨some 87, some (.load Zc (.tmp 86)), none⟩,
 ⟨some 88, some (.fieldAddr Zd (.tmp 3) 3), none⟩,
 ⟨some 89, some (.load Zc (.tmp 88)), none⟩,
 ⟨some 90, some (.fieldAddr Zd (.tmp 3) 4), none⟩,
 ⟨some 91, some (.load Zc (.tmp 90)), none⟩,
 ⟨some 92, some (.build Zf7 #[(0, (.tmp 87)), (1, (.tmp 89)), (2, (.tmp 91))]), none⟩,
 ⟨some 93, some (.move (.const (.int .i64 0))), none⟩])
  (.block 1 (.loop Zbx)))
  (.seq (.reg [] [⟨some 10, some (.assign (.const (.int .i64 0))), none⟩])
  (.seq (.reg [] [⟨some 112, some (.fieldAddr Zd (.tmp 3) 0), none⟩,
 ⟨some 113, some (.load Zc (.tmp 112)), none⟩,
 ⟨some 114, some (.fieldAddr Zd (.tmp 3) 5), none⟩,
 ⟨some 115, some (.load Zc (.tmp 114)), none⟩,
 ⟨some 116, some (.fieldAddr Zd (.tmp 3) 6), none⟩,
 ⟨some 117, some (.load Zc (.tmp 116)), none⟩,
 ⟨some 118, some (.move (.tmp 7)), none⟩,
 ⟨some 119, some (.call ⟨(.value (.func Zgh)), #[.tmp 113, .tmp 115, .tmp 117, .tmp 118], #[Zc, Zc, Zc, Zk]⟩), none⟩,
 ⟨some 111, some (.move (.tmp 119)), none⟩,
 ⟨some 120, some (.extract (.tmp 111) 0), none⟩,
 ⟨some 121, some (.extract (.tmp 111) 1), none⟩,
 ⟨some 122, some (.fieldAddr Zd (.tmp 3) 1), none⟩,
 ⟨none, some (.store Zc (.tmp 122) (.tmp 120)), none⟩,
 ⟨some 10, some (.assign (.tmp 121)), none⟩])
  (.seq (.reg [] [⟨some 123, some (.load Zd (.tmp 3)), none⟩,
 ⟨some 124, some (.move (.tmp 10)), none⟩,
 ⟨none, some (.store Zd (.tmp 4) (.tmp 123)), none⟩,
 ⟨some 5, some (.assign (.tmp 124)), none⟩])
  .ret)))))))
theorem Zhq {a0 a1 : AV} {H : AHeap} : R Zcy [a0, a1] H = fnK Tryz.prog [] H [(.cell 4 Zd), (.tmp 5)] (evalL Tryz.prog KT R Zm (Env.args [a0, a1] 0) H) :=
  runs_body (D := DT) (f := Zcy) Tryz.func29 (by kernel_rfl) (by kernel_rfl) (by kernel_rfl) (by kernel_rfl) (by kernel_rfl) (Nat.le_of_ble_eq_true rfl)
def Zg8 : LCode := (.seq (.reg [] [⟨some 1, some (.box Za (.tmp 0)), none⟩,
 ⟨some 2, some (.assign (.const (.bool false))), none⟩])
  (.seq (.seq (.reg [] [⟨some 3, some (.fieldAddr Za (.tmp 1) 0), none⟩,
 ⟨some 4, some (.load Zc (.tmp 3)), none⟩,
 ⟨some 5, some (.binOp .eql Zc (.tmp 4) (.const (.int .i64 0)) Zc), none⟩])
  (.cond (.tmp 5) (.seq (.reg [] [⟨some 6, some (.fieldAddr Za (.tmp 1) 1), none⟩,
 ⟨some 7, some (.load Ze (.tmp 6)), none⟩,
 ⟨some 8, some (.binOp .leq Ze (.tmp 7) (.const (.int .u64 1)) Ze), none⟩,
 ⟨some 9, some (.move (.tmp 8)), none⟩,
 ⟨some 10, some (.fieldAddr Za (.tmp 1) 2), some (some 9, true)⟩,
 ⟨some 11, some (.load Ze (.tmp 10)), some (some 9, true)⟩,
 ⟨some 12, some (.binOp .eql Ze (.tmp 11) (.const (.int .u64 0)) Ze), some (some 9, true)⟩,
 ⟨some 13, some (.pick (.tmp 9) (.tmp 12) (.const (.bool false))), none⟩,
 ⟨some 2, some (.assign (.tmp 13)), none⟩])
  .ret)
  .skip))
  (.seq (.reg [12, 13] [⟨some 14, some (.fieldAddr Za (.tmp 1) 0), none⟩,
 ⟨some 15, some (.load Zc (.tmp 14)), none⟩,
 ⟨some 16, some (.binOp .gtr Zc (.tmp 15) (.const (.int .i64 0)) Zc), none⟩,
 ⟨some 17, some (.move (.tmp 16)), none⟩,
 ⟨some 18, some (.fieldAddr Za (.tmp 1) 0), some (some 17, true)⟩,
 ⟨some 19, some (.load Zc (.tmp 18)), some (some 17, true)⟩,
 ⟨some 20, some (.binOp .leq Zc (.tmp 19) (.const (.int .i64 128)) Zc), some (some 17, true)⟩,
 ⟨some 21, some (.pick (.tmp 17) (.tmp 20) (.const (.bool false))), none⟩,
 ⟨some 22, some (.move (.tmp 21)), none⟩,
 ⟨some 23, some (.fieldAddr Za (.tmp 1) 0), some (some 22, true)⟩,
 ⟨some 24, some (.load Zc (.tmp 23)), some (some 22, true)⟩,
 ⟨some 25, some (.load Za (.tmp 1)), some (some 22, true)⟩,
 ⟨some 26, some (.call ⟨(.value (.func Zcv)), #[.tmp 25], #[Za]⟩), some (some 22, true)⟩,
 ⟨some 27, some (.call ⟨(.value (.func Zd2)), #[.tmp 24, .tmp 26], #[Zc, Zb]⟩), some (some 22, true)⟩,
 ⟨some 28, some (.load Za (.tmp 1)), some (some 22, true)⟩,
 ⟨some 29, some (.binOp .eql Za (.tmp 27) (.tmp 28) Za), some (some 22, true)⟩,
 ⟨some 30, some (.pick (.tmp 22) (.tmp 29) (.const (.bool false))), none⟩,
 ⟨some 2, some (.assign (.tmp 30)), none⟩])
  .ret)))
theorem Zlh {a0 : AV} {H : AHeap} : R Ze1 [a0] H = fnK Tryz.prog [] H [(.tmp 2)] (evalL Tryz.prog KT R Zg8 (Env.args [a0] 0) H) :=
  runs_body (D := DT) (f := Ze1) Tryz.func30 (by kernel_rfl) (by kernel_rfl) (by kernel_rfl) (by kernel_rfl) (by kernel_rfl) (Nat.le_of_ble_eq_true rfl)
def Zgl : LCode := (.seq (.reg [] [⟨some 8, some (.assign (.const (.int .i64 0))), none⟩,
 ⟨some 9, some (.assign (.const (.int .i64 0))), none⟩])
  (.seq (.reg [] [⟨some 13, some (.move (.tmp 0)), none⟩,
 ⟨some 14, some (.call ⟨(.value (.func Zf2)), #[.tmp 13], #[Zc]⟩), none⟩,
 ⟨some 10, some (.assign (.tmp 14)), none⟩])
  (.seq (.seq (.reg [] [⟨some 15, some (.move (.tmp 10)), none⟩,
 ⟨some 16, some (.binOp .lss Zc (.tmp 15) (.const (.int .i64 1)) Zc), none⟩])
  (.cond (.tmp 16) (.seq (.reg [] [⟨some 8, some (.assign (.const (.int .i64 0))), none⟩,
 ⟨some 9, some (.assign (.const (.int .i64 32))), none⟩])
  .ret)
  .skip))
  (.seq (.seq (.reg [] [⟨some 17, some (.move (.tmp 3)), none⟩,
 ⟨some 18, some (.call ⟨(.builtin .len), #[.tmp 17], #[Zk]⟩), none⟩,
 ⟨some 19, some (.move (.tmp 10)), none⟩,
 ⟨some 20, some (.binOp .neq Zc (.tmp 18) (.tmp 19) Zc), none⟩,
 ⟨some 21, some (.move (.tmp 20)), none⟩,
 ⟨some 22, some (.move (.tmp 3)), some (some 21, false)⟩,
 ⟨some 23, some (.call ⟨(.value (.func Zcb)), #[(.tmp 22), (.func Zep)], #[Zk, Znb]⟩), some (some 21, false)⟩,
 ⟨some 24, some (.pick (.tmp 21) (.const (.bool true)) (.tmp 23)), none⟩])
  (.cond (.tmp 24) (.seq (.reg [] [⟨some 8, some (.assign (.const (.int .i64 0))), none⟩,
 ⟨some 9, some (.assign (.const (.int .i64 30))), none⟩])
  .ret)
  .skip))
  (.seq (.reg [] [⟨some 26, some (.move (.tmp 0)), none⟩,
 ⟨some 27, some (.move (.tmp 1)), none⟩,
 ⟨some 28, some (.move (.tmp 2)), none⟩,
 ⟨some 29, some (.move (.tmp 3)), none⟩,
 ⟨some 30, some (.call ⟨(.value (.func Zhy)), #[.tmp 26, .tmp 27, .tmp 28, .tmp 29], #[Zc, Zc, Zc, Zk]⟩), none⟩,
 ⟨some 25, some (.move (.tmp 30)), none⟩,
 ⟨some 31, some (.extract (.tmp 25) 0), none⟩,
 ⟨some 32, some (.extract (.tmp 25) 1), none⟩,
 ⟨some 11, some (.assign (.tmp 31)), none⟩,
 ⟨some 12, some (.assign (.tmp 32)), none⟩])
  (.seq (.block 0 (.seq (.reg [] [⟨some 34, some (.move (.tmp 12)), none⟩,
 ⟨some 35, some (.unOp .not Zi (.tmp 34)), none⟩,
 ⟨some 33, some (.assign (.tmp 35)), none⟩])
  (.cond (.tmp 33) (.seq (.reg [] [⟨some 8, some (.assign (.const (.int .i64 0))), none⟩,
 ⟨some 9, some (.assign (.const (.int .i64 30))), none⟩])
  .ret)
  (.seq (.reg [] [⟨some 37, some (.move (.tmp 11)), none⟩,
 ⟨some 38, some (.binOp .gtr Zc (.tmp 37) (.const (.int .i64 128)) Zc), none⟩,
 ⟨some 36, some (.assign (.tmp 38)), none⟩])
  (.cond (.tmp 36) (.seq (.reg [] [⟨some 8, some (.assign (.const (.int .i64 0))), none⟩,
 ⟨some 9, some (.assign (.const (.int .i64 31))), none⟩])
  .ret)
  .skip)))))
  (.seq (.reg [] [⟨some 39, some (.move (.tmp 11)), none⟩,
 ⟨some 8, some (.assign (.tmp 39)), none⟩,
 ⟨some 9, some (.assign (.const (.int .i64 0))), none⟩])
  .ret)))))))
theorem Zmk {a0 a1 a2 a3 : AV} {H : AHeap} : R Zgh [a0, a1, a2, a3] H = fnK Tryz.prog [] H [(.tmp 8), (.tmp 9)] (evalL Tryz.prog KT R Zgl (Env.args [a0, a1, a2, a3] 0) H) :=
  runs_body (D := DT) (f := Zgh) Tryz.func31 (by kernel_rfl) (by kernel_rfl) (by kernel_rfl) (by kernel_rfl) (by kernel_rfl) (Nat.le_of_ble_eq_true rfl)
def Zeb : LCode := (.seq (.reg [] [⟨some 2, some (.alloc Zn), none⟩,
 ⟨some 3, some (.assign (.const (.bool false))), none⟩])
  (.seq (.seq (.reg [] [⟨some 4, some (.move (.tmp 0)), none⟩])
  (.block 0 (.seq (.reg [] [⟨some 6, some (.binOp .eql Zc (.tmp 4) (.const (.int .i64 3)) Zc), none⟩,
 ⟨some 5, some (.assign (.tmp 6)), none⟩])
  (.cond (.tmp 5) (.seq (.reg [] [⟨some 7, some (.call ⟨(.value (.func Zdl)), #[(.func Ze2)], #[Zjb]⟩), none⟩,
 ⟨none, some (.store Zn (.tmp 2) (.tmp 7)), none⟩,
 ⟨some 3, some (.assign (.const (.bool true))), none⟩])
  .ret)
  (.seq (.reg [] [⟨some 9, some (.binOp .eql Zc (.tmp 4) (.const (.int .i64 4)) Zc), none⟩,
 ⟨some 8, some (.assign (.tmp 9)), none⟩])
  (.cond (.tmp 8) (.seq (.reg [] [⟨some 10, some (.call ⟨(.value (.func Zdl)), #[(.func Ze3)], #[Zjb]⟩), none⟩,
 ⟨none, some (.store Zn (.tmp 2) (.tmp 10)), none⟩,
 ⟨some 3, some (.assign (.const (.bool true))), none⟩])
  .ret)
  (.seq (.reg [] [⟨some 12, some (.binOp .eql Zc (.tmp 4) (.const (.int .i64 5)) Zc), none⟩,
 ⟨some 11, some (.assign (.tmp 12)), none⟩])
  (.cond (.tmp 11) (.seq (.reg [] [⟨some 13, some (.call ⟨(.value (.func Zdl)), #[(.func Ze4)], #[Zjb]⟩), none⟩,
 ⟨none, some (.store Zn (.tmp 2) (.tmp 13)), none⟩,
 ⟨some 3, some (.assign (.const (.bool true))), none⟩])
  .ret)
  (.seq (.reg [] [⟨some 15, some (.binOp .eql Zc (.tmp 4) (.const (.int .i64 6)) Zc), none⟩,
 ⟨some 14, some (.assign (.tmp 15)), none⟩])
  (.cond (.tmp 14) (.seq (.reg [] [⟨some 16, some (.call ⟨(.value (.func Zdl)), #[(.func Zei)], #[Zjb]⟩), none⟩,
 ⟨none, some (.store Zn (.tmp 2) (.tmp 16)), none⟩,
 ⟨some 3, some (.assign (.const (.bool true))), none⟩])
  .ret)
  (.seq (.reg [] [⟨some 18, some (.binOp .eql Zc (.tmp 4) (.const (.int .i64 7)) Zc), none⟩,
 ⟨some 17, some (.assign (.tmp 18)), none⟩])
  (.cond (.tmp 17) (.seq (.reg [] [⟨some 19, some (.call ⟨(.value (.func Zdl)), #[(.func Ze5)], #[Zjb]⟩), none⟩,
 ⟨none, some (.store Zn (.tmp 2) (.tmp 19)), none⟩,
 ⟨some 3, some (.assign (.const (.bool true))), none⟩])
  .ret)
  (.seq (.reg [] [⟨some 21, some (.binOp .eql Zc (.tmp 4) (.const (.int .i64 8)) Zc), none⟩,
 ⟨some 20, some (.assign (.tmp 21)), none⟩])
  (.cond (.tmp 20) (.seq (.reg [] [⟨some 22, some (.call ⟨(.value (.func Zdl)), #[(.func Ze6)], #[Zjb]⟩), none⟩,
 ⟨none, some (.store Zn (.tmp 2) (.tmp 22)), none⟩,
 ⟨some 3, some (.assign (.const (.bool true))), none⟩])
  .ret)
  (.seq (.reg [] [⟨some 24, some (.binOp .eql Zc (.tmp 4) (.const (.int .i64 9)) Zc), none⟩,
 ⟨some 23, some (.assign (.tmp 24)), none⟩])
  (.cond (.tmp 23) (.seq (.reg [] [⟨some 25, some (.build Zn #[(0, (.func Ze7))]), none⟩,
 ⟨none, some (.store Zn (.tmp 2) (.tmp 25)), none⟩,
 ⟨some 3, some (.assign (.const (.bool true))), none⟩])
  .ret)
  .skip))))))))))))))))
  (.seq (.reg [] [⟨some 26, some (.build Zn #[]), none⟩,
 ⟨none, some (.store Zn (.tmp 2) (.tmp 26)), none⟩,
 ⟨some 3, some (.assign (.const (.bool false))), none⟩])
  .ret)))
theorem Zlw {a0 : AV} {H : AHeap} : R Zf1 [a0] H = fnK Tryz.prog [] H [(.cell 2 Zn), (.tmp 3)] (evalL Tryz.prog KT R Zeb (Env.args [a0] 0) H) :=
  runs_body (D := DT) (f := Zf1) Tryz.func32 (by kernel_rfl) (by kernel_rfl) (by kernel_rfl) (by kernel_rfl) (by kernel_rfl) (Nat.le_of_ble_eq_true rfl)
def Zj1 : LCode := (.seq (.reg [] [⟨some 1, some (.box Zc (.tmp 0)), none⟩,
 ⟨some 2, some (.alloc Zn), none⟩])
  (.seq (.reg [] [⟨some 3, some (.makeFunc (.func Zbq) #[] #[.tmp 1]), none⟩,
 ⟨some 4, some (.build Zn #[(0, (.tmp 3))]), none⟩,
 ⟨none, some (.store Zn (.tmp 2) (.tmp 4)), none⟩])
  .ret))
theorem Zlx {a0 : AV} {H : AHeap} : R Zhk [a0] H = fnK Tryz.prog [] H [(.cell 2 Zn)] (evalL Tryz.prog KT R Zj1 (Env.args [a0] 0) H) :=
  runs_body (D := DT) (f := Zhk) Tryz.func33 (by kernel_rfl) (by kernel_rfl) (by kernel_rfl) (by kernel_rfl) (by kernel_rfl) (Nat.le_of_ble_eq_true rfl)
def Zct : LCode := (.seq (.reg [] [⟨some 4, some (.alloc Zd), none⟩,
 ⟨some 5, some (.assign (.const (.bool false))), none⟩])
  (.seq (.seq (.reg [] [⟨some 6, some (.move (.tmp 1)), none⟩,
 ⟨some 7, some (.binOp .lss Zc (.tmp 6) (.const (.int .i64 1)) Zc), none⟩,
 ⟨some 8, some (.move (.tmp 7)), none⟩,
 ⟨some 9, some (.move (.tmp 1)), some (some 8, false)⟩,
 ⟨some 10, some (.move (.tmp 0)), some (some 8, false)⟩,
 ⟨some 11, some (.nilCheck (.tmp 10)), some (some 8, false)⟩,
 ⟨some 12, some (.fieldAddr Zl (.tmp 11) 0), some (some 8, false)⟩,
 ⟨some 13, some (.load Zh (.tmp 12)), some (some 8, false)⟩,
 ⟨some 14, some (.call ⟨(.builtin .len), #[.tmp 13], #[Zh]⟩), some (some 8, false)⟩,
 ⟨some 15, some (.binOp .gtr Zc (.tmp 9) (.tmp 14) Zc), some (some 8, false)⟩,
 ⟨some 16, some (.pick (.tmp 8) (.const (.bool true)) (.tmp 15)), none⟩])
  (.cond (.tmp 16) (.seq (.reg [] [⟨some 17, some (.build Zd #[]), none⟩,
 ⟨none, some (.store Zd (.tmp 4) (.tmp 17)), none⟩,
 ⟨some 5, some (.assign (.const (.bool false))), none⟩])
  .ret)
  .skip))
  (.seq (.reg [] [⟨some 18, some (.move (.tmp 0)), none⟩,
 ⟨some 19, some (.nilCheck (.tmp 18)), none⟩,
 ⟨some 20, some (.fieldAddr Zl (.tmp 19) 0), none⟩,
 ⟨some 21, some (.load Zh (.tmp 20)), none⟩,
 ⟨some 22, some (.move (.tmp 1)), none⟩,
 ⟨some 23, some (.binOp .sub Zc (.tmp 22) (.const (.int .i64 1)) Zc), none⟩,
 ⟨some 24, some (.indexAddr Zh (.tmp 21) (.tmp 23)), none⟩,
 ⟨some 25, some (.load Zd (.tmp 24)), none⟩,
 ⟨none, some (.store Zd (.tmp 4) (.tmp 25)), none⟩,
 ⟨some 5, some (.assign (.const (.bool true))), none⟩])
  .ret)))
theorem Zhi {a0 a1 : AV} {H : AHeap} : R Zcr [a0, a1] H = fnK Tryz.prog [] H [(.cell 4 Zd), (.tmp 5)] (evalL Tryz.prog KT R Zct (Env.args [a0, a1] 0) H) :=
  runs_body (D := DT) (f := Zcr) Tryz.func34 (by kernel_rfl) (by kernel_rfl) (by kernel_rfl) (by kernel_rfl) (by kernel_rfl) (Nat.le_of_ble_eq_true rfl)
def Zi1 : LCode := (.seq (.reg [] [⟨some 2, some (.assign (.const (.bool false))), none⟩])
  (.seq (.reg [] [⟨some 3, some (.move (.tmp 0)), none⟩,
 ⟨some 4, some (.binOp .geq Zc (.tmp 3) (.const (.int .i64 0)) Zc), none⟩,
 ⟨some 5, some (.move (.tmp 4)), none⟩,
 ⟨some 6, some (.move (.tmp 0)), some (some 5, true)⟩,
 ⟨some 7, some (.binOp .leq Zc (.tmp 6) (.const (.int .i64 128)) Zc), some (some 5, true)⟩,
 ⟨some 8, some (.pick (.tmp 5) (.tmp 7) (.const (.bool false))), none⟩,
 ⟨some 2, some (.assign (.tmp 8)), none⟩])
  .ret))
theorem Zk3 {a0 : AV} {H : AHeap} : R Zfr [a0] H = fnK Tryz.prog [] H [(.tmp 2)] (evalL Tryz.prog KT R Zi1 (Env.args [a0] 0) H) :=
  runs_body (D := DT) (f := Zfr) Tryz.func35 (by kernel_rfl) (by kernel_rfl) (by kernel_rfl) (by kernel_rfl) (by kernel_rfl) (Nat.le_of_ble_eq_true rfl)
def Zbp : LCode := (.seq (.seq (.reg [] [⟨some 7, some (.move (.tmp 6)), none⟩,
 ⟨some 8, some (.move (.tmp 0)), none⟩,
 ⟨some 9, some (.nilCheck (.tmp 8)), none⟩,
 ⟨some 10, some (.fieldAddr Zl (.tmp 9) 0), none⟩,
 ⟨some 11, some (.load Zh (.tmp 10)), none⟩,
 ⟨some 12, some (.call ⟨(.builtin .len), #[.tmp 11], #[Zh]⟩), none⟩,
 ⟨some 13, some (.binOp .lss Zc (.tmp 7) (.tmp 12) Zc), none⟩])
  (.cond (.tmp 13) .skip
  (.exit 0)))
  (.seq (.block 1 (.seq (.reg [] [⟨some 16, some (.move (.tmp 0)), none⟩,
 ⟨some 17, some (.nilCheck (.tmp 16)), none⟩,
 ⟨some 18, some (.fieldAddr Zl (.tmp 17) 0), none⟩,
 ⟨some 19, some (.load Zh (.tmp 18)), none⟩,
 ⟨some 20, some (.move (.tmp 6)), none⟩,
 ⟨some 21, some (.indexAddr Zh (.tmp 19) (.tmp 20)), none⟩,
 ⟨some 22, some (.fieldAddr Zd (.tmp 21) 0), none⟩,
 ⟨some 23, some (.load Zc (.tmp 22)), none⟩,
 ⟨some 24, some (.binOp .eql Zc (.tmp 23) (.const (.int .i64 2)) Zc), none⟩,
 ⟨some 25, some (.move (.tmp 24)), none⟩,
 ⟨some 26, some (.move (.tmp 0)), some (some 25, true)⟩,
 ⟨some 27, some (.nilCheck (.tmp 26)), some (some 25, true)⟩,
 ⟨some 28, some (.fieldAddr Zl (.tmp 27) 0), some (some 25, true)⟩,
 ⟨some 29, some (.load Zh (.tmp 28)), some (some 25, true)⟩,
 ⟨some 30, some (.move (.tmp 6)), some (some 25, true)⟩,
 ⟨some 31, some (.indexAddr Zh (.tmp 29) (.tmp 30)), some (some 25, true)⟩,
 ⟨some 32, some (.fieldAddr Zd (.tmp 31) 8), some (some 25, true)⟩,
 ⟨some 33, some (.load Zbd (.tmp 32)), some (some 25, true)⟩,
 ⟨some 34, some (.move (.tmp 1)), some (some 25, true)⟩,
 ⟨some 35, some (.binOp .eql Zbd (.tmp 33) (.tmp 34) Zbd), some (some 25, true)⟩,
 ⟨some 36, some (.pick (.tmp 25) (.tmp 35) (.const (.bool false))), none⟩])
  (.cond (.tmp 36) (.seq (.reg [] [⟨some 37, some (.move (.tmp 6)), none⟩,
 ⟨some 38, some (.binOp .add Zc (.tmp 37) (.const (.int .i64 1)) Zc), none⟩,
 ⟨some 4, some (.assign (.tmp 38)), none⟩,
 ⟨some 5, some (.assign (.const (.bool true))), none⟩])
  .ret)
  .skip)))
  (.reg [] [⟨some 14, some (.move (.tmp 6)), none⟩,
 ⟨some 15, some (.binOp .add Zc (.tmp 14) (.const (.int .i64 1)) Zc), none⟩,
 ⟨some 6, some (.assign (.tmp 15)), none⟩])))
@[simp] theorem Zjr : defs Zbp = [7, 8, 9, 10, 11, 12, 13, 16, 17, 18, 19, 20, 21, 22, 23, 24, 25, 26, 27, 28, 29, 30, 31, 32, 33, 34, 35, 36, 37, 38, 4, 5, 14, 15, 6] := by rfl
def Zfh : LCode := (.seq (.reg [] [⟨some 4, some (.assign (.const (.int .i64 0))), none⟩,
 ⟨some 5, some (.assign (.const (.bool false))), none⟩])
  (.seq (.seq (.reg [] [⟨some 6, some (.assign (.const (.int .i64 0))), none⟩])
  (.block 0 (.loop Zbp)))
  (.seq (.reg [] [⟨some 4, some (.assign (.const (.int .i64 0))), none⟩,
 ⟨some 5, some (.assign (.const (.bool false))), none⟩])
  .ret)))
theorem Zhc {a0 a1 : AV} {H : AHeap} : R Zbv [a0, a1] H = fnK Tryz.prog [] H [(.tmp 4), (.tmp 5)] (evalL Tryz.prog KT R Zfh (Env.args [a0, a1] 0) H) :=
  runs_body (D := DT) (f := Zbv) Tryz.func36 (by kernel_rfl) (by kernel_rfl) (by kernel_rfl) (by kernel_rfl) (by kernel_rfl) (Nat.le_of_ble_eq_true rfl)
def Zec : LCode := (.seq (.seq (.reg [] [⟨some 20, some (.move (.tmp 11)), none⟩,
 ⟨some 21, some (.move (.tmp 10)), none⟩,
 ⟨some 22, some (.binOp .lss Zc (.tmp 20) (.tmp 21) Zc), none⟩])
  (.cond (.tmp 22) .skip
  (.exit 0)))
  (.seq (.block 1 (.seq (.reg [] [⟨some 25, some (.move (.tmp 3)), none⟩,
 ⟨some 26, some (.move (.tmp 11)), none⟩,
 ⟨some 27, some (.indexAddr Zk (.tmp 25) (.tmp 26)), none⟩,
 ⟨some 28, some (.load Zc (.tmp 27)), none⟩,
 ⟨some 29, some (.call ⟨(.value (.func Zfr)), #[.tmp 28], #[Zc]⟩), none⟩,
 ⟨some 30, some (.unOp .not Zi (.tmp 29)), none⟩])
  (.cond (.tmp 30) (.seq (.reg [] [⟨some 8, some (.assign (.const (.int .i64 0))), none⟩,
 ⟨some 9, some (.assign (.const (.int .i64 30))), none⟩])
  .ret)
  .skip)))
  (.reg [] [⟨some 23, some (.move (.tmp 11)), none⟩,
 ⟨some 24, some (.binOp .add Zc (.tmp 23) (.const (.int .i64 1)) Zc), none⟩,
 ⟨some 11, some (.assign (.tmp 24)), none⟩])))
@[simp] theorem Zmc : defs Zec = [20, 21, 22, 25, 26, 27, 28, 29, 30, 8, 9, 23, 24, 11] := by rfl
def Zd6 : LCode := (.seq (.reg [] [⟨some 8, some (.assign (.const (.int .i64 0))), none⟩,
 ⟨some 9, some (.assign (.const (.int .i64 0))), none⟩])
  (.seq (.reg [] [⟨some 12, some (.move (.tmp 0)), none⟩,
 ⟨some 13, some (.call ⟨(.value (.func Zdp)), #[.tmp 12], #[Zc]⟩), none⟩,
 ⟨some 10, some (.assign (.tmp 13)), none⟩])
  (.seq (.seq (.reg [] [⟨some 14, some (.move (.tmp 10)), none⟩,
 ⟨some 15, some (.binOp .lss Zc (.tmp 14) (.const (.int .i64 1)) Zc), none⟩])
  (.cond (.tmp 15) (.seq (.reg [] [⟨some 8, some (.assign (.const (.int .i64 0))), none⟩,
 ⟨some 9, some (.assign (.const (.int .i64 32))), none⟩])
  .ret)
  .skip))
  (.seq (.seq (.reg [] [⟨some 16, some (.move (.tmp 3)), none⟩,
 ⟨some 17, some (.call ⟨(.builtin .len), #[.tmp 16], #[Zk]⟩), none⟩,
 ⟨some 18, some (.move (.tmp 10)), none⟩,
 ⟨some 19, some (.binOp .neq Zc (.tmp 17) (.tmp 18) Zc), none⟩])
  (.cond (.tmp 19) (.seq (.reg [] [⟨some 8, some (.assign (.const (.int .i64 0))), none⟩,
 ⟨some 9, some (.assign (.const (.int .i64 30))), none⟩])
  .ret)
  .skip))
  (.seq (.seq (.reg [] [⟨some 11, some (.assign (.const (.int .i64 0))), none⟩])
  (.block 0 (.loop Zec)))
  (.seq (.seq (.reg [] [⟨some 31, some (.move (.tmp 0)), none⟩,
 ⟨some 32, some (.binOp .geq Zc (.tmp 31) (.const (.int .i64 39)) Zc), none⟩])
  (.cond (.tmp 32) (.seq (.reg [] [⟨some 33, some (.move (.tmp 0)), none⟩,
 ⟨some 34, some (.move (.tmp 1)), none⟩,
 ⟨some 35, some (.move (.tmp 2)), none⟩,
 ⟨some 36, some (.move (.tmp 3)), none⟩,
 ⟨some 37, some (.indexAddr Zk (.tmp 36) (.const (.int .i64 0))), none⟩,
 ⟨some 38, some (.load Zc (.tmp 37)), none⟩,
 ⟨some 39, some (.call ⟨(.value (.func Zek)), #[.tmp 33, .tmp 34, .tmp 35, .tmp 38], #[Zc, Zc, Zc, Zc]⟩), none⟩,
 ⟨some 40, some (.extract (.tmp 39) 0), none⟩,
 ⟨some 41, some (.extract (.tmp 39) 1), none⟩,
 ⟨some 8, some (.assign (.tmp 40)), none⟩,
 ⟨some 9, some (.assign (.tmp 41)), none⟩])
  .ret)
  .skip))
  (.seq (.seq (.reg [] [⟨some 42, some (.move (.tmp 1)), none⟩,
 ⟨some 43, some (.binOp .neq Zc (.tmp 42) (.const (.int .i64 0)) Zc), none⟩,
 ⟨some 44, some (.move (.tmp 43)), none⟩,
 ⟨some 45, some (.move (.tmp 2)), some (some 44, false)⟩,
 ⟨some 46, some (.binOp .neq Zc (.tmp 45) (.const (.int .i64 0)) Zc), some (some 44, false)⟩,
 ⟨some 47, some (.pick (.tmp 44) (.const (.bool true)) (.tmp 46)), none⟩])
  (.cond (.tmp 47) (.seq (.reg [] [⟨some 8, some (.assign (.const (.int .i64 0))), none⟩,
 ⟨some 9, some (.assign (.const (.int .i64 30))), none⟩])
  .ret)
  .skip))
  (.seq (.block 2 (.seq (.reg [] [⟨some 49, some (.move (.tmp 0)), none⟩,
 ⟨some 50, some (.binOp .geq Zc (.tmp 49) (.const (.int .i64 3)) Zc), none⟩,
 ⟨some 51, some (.move (.tmp 50)), none⟩,
 ⟨some 52, some (.move (.tmp 0)), some (some 51, true)⟩,
 ⟨some 53, some (.binOp .leq Zc (.tmp 52) (.const (.int .i64 7)) Zc), some (some 51, true)⟩,
 ⟨some 54, some (.pick (.tmp 51) (.tmp 53) (.const (.bool false))), none⟩,
 ⟨some 48, some (.assign (.tmp 54)), none⟩])
  (.cond (.tmp 48) (.seq (.seq (.reg [] [⟨some 55, some (.move (.tmp 3)), none⟩,
 ⟨some 56, some (.call ⟨(.value (.func Zdr)), #[.tmp 55], #[Zk]⟩), none⟩,
 ⟨some 57, some (.unOp .not Zi (.tmp 56)), none⟩,
 ⟨some 58, some (.move (.tmp 57)), none⟩,
 ⟨some 59, some (.move (.tmp 3)), some (some 58, false)⟩,
 ⟨some 60, some (.indexAddr Zk (.tmp 59) (.const (.int .i64 0))), some (some 58, false)⟩,
 ⟨some 61, some (.load Zc (.tmp 60)), some (some 58, false)⟩,
 ⟨some 62, some (.binOp .neq Zc (.tmp 61) (.const (.int .i64 0)) Zc), some (some 58, false)⟩,
 ⟨some 63, some (.pick (.tmp 58) (.const (.bool true)) (.tmp 62)), none⟩])
  (.cond (.tmp 63) (.seq (.reg [] [⟨some 8, some (.assign (.const (.int .i64 0))), none⟩,
 ⟨some 9, some (.assign (.const (.int .i64 30))), none⟩])
  .ret)
  .skip))
  (.seq (.reg [] [⟨some 8, some (.assign (.const (.int .i64 0))), none⟩,
 ⟨some 9, some (.assign (.const (.int .i64 0))), none⟩])
  .ret))
  (.seq (.reg [] [⟨some 65, some (.move (.tmp 0)), none⟩,
 ⟨some 66, some (.binOp .eql Zc (.tmp 65) (.const (.int .i64 8)) Zc), none⟩,
 ⟨some 64, some (.assign (.tmp 66)), none⟩])
  (.cond (.tmp 64) (.seq (.seq (.reg [] [⟨some 67, some (.move (.tmp 3)), none⟩,
 ⟨some 68, some (.call ⟨(.value (.func Zdr)), #[.tmp 67], #[Zk]⟩), none⟩,
 ⟨some 69, some (.unOp .not Zi (.tmp 68)), none⟩])
  (.cond (.tmp 69) (.seq (.reg [] [⟨some 8, some (.assign (.const (.int .i64 0))), none⟩,
 ⟨some 9, some (.assign (.const (.int .i64 30))), none⟩])
  .ret)
  .skip))
  (.seq (.reg [] [⟨some 8, some (.assign (.const (.int .i64 0))), none⟩,
 ⟨some 9, some (.assign (.const (.int .i64 0))), none⟩])
  .ret))
  (.seq (.reg [] [⟨some 71, some (.move (.tmp 0)), none⟩,
 ⟨some 72, some (.binOp .eql Zc (.tmp 71) (.const (.int .i64 9)) Zc), none⟩,
 ⟨some 70, some (.assign (.tmp 72)), none⟩])
  (.cond (.tmp 70) (.seq (.seq (.reg [] [⟨some 73, some (.move (.tmp 3)), none⟩,
 ⟨some 74, some (.indexAddr Zk (.tmp 73) (.const (.int .i64 0))), none⟩,
 ⟨some 75, some (.load Zc (.tmp 74)), none⟩,
 ⟨some 76, some (.binOp .neq Zc (.tmp 75) (.const (.int .i64 0)) Zc), none⟩,
 ⟨some 77, some (.move (.tmp 76)), none⟩,
 ⟨some 78, some (.move (.tmp 3)), some (some 77, false)⟩,
 ⟨some 79, some (.indexAddr Zk (.tmp 78) (.const (.int .i64 1))), some (some 77, false)⟩,
 ⟨some 80, some (.load Zc (.tmp 79)), some (some 77, false)⟩,
 ⟨some 81, some (.move (.tmp 3)), some (some 77, false)⟩,
 ⟨some 82, some (.indexAddr Zk (.tmp 81) (.const (.int .i64 2))), some (some 77, false)⟩,
 ⟨some 83, some (.load Zc (.tmp 82)), some (some 77, false)⟩,
 ⟨some 84, some (.binOp .neq Zc (.tmp 80) (.tmp 83) Zc), some (some 77, false)⟩,
 ⟨some 85, some (.pick (.tmp 77) (.const (.bool true)) (.tmp 84)), none⟩])
  (.cond (.tmp 85) (.seq (.reg [] [⟨some 8, some (.assign (.const (.int .i64 0))), none⟩,
 ⟨some 9, some (.assign (.const (.int .i64 30))), none⟩])
  .ret)
  .skip))
  (.seq (.reg [] [⟨some 86, some (.move (.tmp 3)), none⟩,
 ⟨some 87, some (.indexAddr Zk (.tmp 86) (.const (.int .i64 1))), none⟩,
 ⟨some 88, some (.load Zc (.tmp 87)), none⟩,
 ⟨some 8, some (.assign (.tmp 88)), none⟩,
 ⟨some 9, some (.assign (.const (.int .i64 0))), none⟩])
  .ret))
  (.seq (.reg [] [⟨some 90, some (.move (.tmp 0)), none⟩,
 ⟨some 91, some (.binOp .eql Zc (.tmp 90) (.const (.int .i64 38)) Zc), none⟩,
 ⟨some 89, some (.assign (.tmp 91)), none⟩])
  (.cond (.tmp 89) (.seq (.seq (.reg [] [⟨some 92, some (.move (.tmp 3)), none⟩,
 ⟨some 93, some (.indexAddr Zk (.tmp 92) (.const (.int .i64 0))), none⟩,
 ⟨some 94, some (.load Zc (.tmp 93)), none⟩,
 ⟨some 95, some (.binOp .eql Zc (.tmp 94) (.const (.int .i64 0)) Zc), none⟩,
 ⟨some 96, some (.move (.tmp 95)), none⟩,
 ⟨some 97, some (.move (.tmp 3)), some (some 96, false)⟩,
 ⟨some 98, some (.indexAddr Zk (.tmp 97) (.const (.int .i64 1))), some (some 96, false)⟩,
 ⟨some 99, some (.load Zc (.tmp 98)), some (some 96, false)⟩,
 ⟨some 100, some (.binOp .eql Zc (.tmp 99) (.const (.int .i64 0)) Zc), some (some 96, false)⟩,
 ⟨some 101, some (.pick (.tmp 96) (.const (.bool true)) (.tmp 100)), none⟩])
  (.cond (.tmp 101) (.seq (.reg [] [⟨some 8, some (.assign (.const (.int .i64 0))), none⟩,
 ⟨some 9, some (.assign (.const (.int .i64 30))), none⟩])
  .ret)
  .skip))
  (.seq (.reg [] [⟨some 102, some (.move (.tmp 3)), none⟩,
 ⟨some 103, some (.indexAddr Zk (.tmp 102) (.const (.int .i64 0))), none⟩,
 ⟨some 104, some (.load Zc (.tmp 103)), none⟩,
 ⟨some 105, some (.move (.tmp 3)), none⟩,
 ⟨some 106, some (.indexAddr Zk (.tmp 105) (.const (.int .i64 1))), none⟩,
 ⟨some 107, some (.load Zc (.tmp 106)), none⟩,
 ⟨some 108, some (.binOp .add Zc (.tmp 104) (.tmp 107) Zc), none⟩,
 ⟨some 109, some (.call ⟨(.value (.func Zd4)), #[.tmp 108], #[Zc]⟩), none⟩,
 ⟨some 110, some (.extract (.tmp 109) 0), none⟩,
 ⟨some 111, some (.extract (.tmp 109) 1), none⟩,
 ⟨some 8, some (.assign (.tmp 110)), none⟩,
 ⟨some 9, some (.assign (.tmp 111)), none⟩])
  .ret))
  .skip)))))))))
  (.seq (.seq (.reg [] [⟨some 112, some (.move (.tmp 3)), none⟩,
 ⟨some 113, some (.call ⟨(.value (.func Zdr)), #[.tmp 112], #[Zk]⟩), none⟩,
 ⟨some 114, some (.unOp .not Zi (.tmp 113)), none⟩,
 ⟨some 115, some (.move (.tmp 114)), none⟩,
 ⟨some 116, some (.move (.tmp 3)), some (some 115, false)⟩,
 ⟨some 117, some (.indexAddr Zk (.tmp 116) (.const (.int .i64 0))), some (some 115, false)⟩,
 ⟨some 118, some (.load Zc (.tmp 117)), some (some 115, false)⟩,
 ⟨some 119, some (.binOp .eql Zc (.tmp 118) (.const (.int .i64 0)) Zc), some (some 115, false)⟩,
 ⟨some 120, some (.pick (.tmp 115) (.const (.bool true)) (.tmp 119)), none⟩])
  (.cond (.tmp 120) (.seq (.reg [] [⟨some 8, some (.assign (.const (.int .i64 0))), none⟩,
 ⟨some 9, some (.assign (.const (.int .i64 30))), none⟩])
  .ret)
  .skip))
  (.seq (.seq (.reg [] [⟨some 121, some (.move (.tmp 0)), none⟩,
 ⟨some 122, some (.binOp .geq Zc (.tmp 121) (.const (.int .i64 10)) Zc), none⟩,
 ⟨some 123, some (.move (.tmp 122)), none⟩,
 ⟨some 124, some (.move (.tmp 0)), some (some 123, true)⟩,
 ⟨some 125, some (.binOp .leq Zc (.tmp 124) (.const (.int .i64 28)) Zc), some (some 123, true)⟩,
 ⟨some 126, some (.pick (.tmp 123) (.tmp 125) (.const (.bool false))), none⟩])
  (.cond (.tmp 126) (.seq (.reg [] [⟨some 127, some (.move (.tmp 3)), none⟩,
 ⟨some 128, some (.indexAddr Zk (.tmp 127) (.const (.int .i64 0))), none⟩,
 ⟨some 129, some (.load Zc (.tmp 128)), none⟩,
 ⟨some 8, some (.assign (.tmp 129)), none⟩,
 ⟨some 9, some (.assign (.const (.int .i64 0))), none⟩])
  .ret)
  .skip))
  (.seq (.seq (.reg [] [⟨some 130, some (.move (.tmp 0)), none⟩,
 ⟨some 131, some (.binOp .eql Zc (.tmp 130) (.const (.int .i64 37)) Zc), none⟩])
  (.cond (.tmp 131) (.seq (.reg [] [⟨some 8, some (.assign (.const (.int .i64 1))), none⟩,
 ⟨some 9, some (.assign (.const (.int .i64 0))), none⟩])
  .ret)
  .skip))
  (.seq (.reg [] [⟨some 8, some (.assign (.const (.int .i64 0))), none⟩,
 ⟨some 9, some (.assign (.const (.int .i64 0))), none⟩])
  .ret))))))))))))
theorem Zey {a0 a1 a2 a3 : AV} {H : AHeap} : R Zc9 [a0, a1, a2, a3] H = fnK Tryz.prog [] H [(.tmp 8), (.tmp 9)] (evalL Tryz.prog KT R Zd6 (Env.args [a0, a1, a2, a3] 0) H) :=
  runs_body (D := DT) (f := Zc9) Tryz.func37 (by kernel_rfl) (by kernel_rfl) (by kernel_rfl) (by kernel_rfl) (by kernel_rfl) (Nat.le_of_ble_eq_true rfl)
def Zb8 : LCode := (.seq (.seq (.reg [] [⟨some 29, some (.move (.tmp 7)), none⟩,
 ⟨some 30, some (.binOp .gtr Zc (.tmp 29) (.const (.int .i64 0)) Zc), none⟩])
  (.cond (.tmp 30) .skip
  (.exit 0)))
  (.seq (.block 1 (.seq (.seq (.reg [] [⟨some 33, some (.move (.tmp 5)), none⟩,
 ⟨some 34, some (.move (.tmp 7)), none⟩,
 ⟨some 35, some (.indexAddr Zg (.tmp 33) (.tmp 34)), none⟩,
 ⟨some 36, some (.load Zi (.tmp 35)), none⟩,
 ⟨some 37, some (.unOp .not Zi (.tmp 36)), none⟩])
  (.cond (.tmp 37) (.exit 1)
  .skip))
  (.seq (.reg [] [⟨some 38, some (.move (.tmp 6)), none⟩,
 ⟨some 39, some (.binOp .add Zc (.tmp 38) (.const (.int .i64 1)) Zc), none⟩,
 ⟨some 6, some (.assign (.tmp 39)), none⟩])
  (.seq (.reg [] [⟨some 40, some (.move (.tmp 0)), none⟩,
 ⟨some 41, some (.nilCheck (.tmp 40)), none⟩,
 ⟨some 42, some (.fieldAddr Zt (.tmp 41) 1), none⟩,
 ⟨some 43, some (.load Zh (.tmp 42)), none⟩,
 ⟨some 44, some (.move (.tmp 7)), none⟩,
 ⟨some 45, some (.binOp .sub Zc (.tmp 44) (.const (.int .i64 1)) Zc), none⟩,
 ⟨some 46, some (.indexAddr Zh (.tmp 43) (.tmp 45)), none⟩,
 ⟨some 47, some (.load Zd (.tmp 46)), none⟩,
 ⟨some 8, some (.alloc Zd), none⟩,
 ⟨none, some (.store Zd (.tmp 8) (.tmp 47)), none⟩])
  (.reg [5, 8, 10, 12] [⟨some 48, some (.move (.tmp 5)), none⟩,
 ⟨some 49, some (.fieldAddr Zd (.tmp 8) 2), none⟩,
 ⟨some 50, some (.load Zc (.tmp 49)), none⟩,
 ⟨some 51, some (.move (.tmp 5)), none⟩,
 ⟨some 52, some (.fieldAddr Zd (.tmp 8) 3), none⟩,
 ⟨some 53, some (.load Zc (.tmp 52)), none⟩,
 ⟨some 54, some (.move (.tmp 5)), none⟩,
 ⟨some 55, some (.fieldAddr Zd (.tmp 8) 4), none⟩,
 ⟨some 56, some (.load Zc (.tmp 55)), none⟩,
 ⟨some 57, some (.indexAddr Zg (.tmp 48) (.tmp 50)), none⟩,
 ⟨none, some (.store Zi (.tmp 57) (.const (.bool true))), none⟩,
 ⟨some 58, some (.indexAddr Zg (.tmp 51) (.tmp 53)), none⟩,
 ⟨none, some (.store Zi (.tmp 58) (.const (.bool true))), none⟩,
 ⟨some 59, some (.indexAddr Zg (.tmp 54) (.tmp 56)), none⟩,
 ⟨none, some (.store Zi (.tmp 59) (.const (.bool true))), none⟩])))))
  (.reg [] [⟨some 31, some (.move (.tmp 7)), none⟩,
 ⟨some 32, some (.binOp .sub Zc (.tmp 31) (.const (.int .i64 1)) Zc), none⟩,
 ⟨some 7, some (.assign (.tmp 32)), none⟩])))
def Zb9 : LCode := (.seq (.seq (.reg [] [⟨some 62, some (.move (.tmp 10)), none⟩,
 ⟨some 63, some (.move (.tmp 1)), none⟩,
 ⟨some 64, some (.binOp .leq Zc (.tmp 62) (.tmp 63) Zc), none⟩])
  (.cond (.tmp 64) .skip
  (.exit 2)))
  (.seq (.block 3 (.seq (.reg [] [⟨some 67, some (.move (.tmp 5)), none⟩,
 ⟨some 68, some (.move (.tmp 10)), none⟩,
 ⟨some 69, some (.indexAddr Zg (.tmp 67) (.tmp 68)), none⟩,
 ⟨some 70, some (.load Zi (.tmp 69)), none⟩])
  (.cond (.tmp 70) (.reg [] [⟨some 71, some (.move (.tmp 9)), none⟩,
 ⟨some 72, some (.move (.tmp 10)), none⟩,
 ⟨some 73, some (.buildSlice Zk 1 #[(0, (.tmp 72))]), none⟩,
 ⟨some 74, some (.call ⟨(.builtin .append), #[.tmp 71, .tmp 73], #[Zk, Zk]⟩), none⟩,
 ⟨some 9, some (.assign (.tmp 74)), none⟩])
  .skip)))
  (.reg [] [⟨some 65, some (.move (.tmp 10)), none⟩,
 ⟨some 66, some (.binOp .add Zc (.tmp 65) (.const (.int .i64 1)) Zc), none⟩,
 ⟨some 10, some (.assign (.tmp 66)), none⟩])))
@[simp] theorem Zkp : defs Zb8 = [29, 30, 33, 34, 35, 36, 37, 38, 39, 6, 40, 41, 42, 43, 44, 45, 46, 47, 8, 48, 49, 50, 51, 52, 53, 54, 55, 56, 57, 58, 59, 31, 32, 7] := by rfl
@[simp] theorem Zkq : defs Zb9 = [62, 63, 64, 67, 68, 69, 70, 71, 72, 73, 74, 9, 65, 66, 10] := by rfl
def Zdh : LCode := (.seq (.reg [] [⟨some 4, some (.assign (.const (.slice none 0 0))), none⟩])
  (.seq (.seq (.reg [] [⟨some 11, some (.move (.tmp 1)), none⟩,
 ⟨some 12, some (.binOp .lss Zc (.tmp 11) (.const (.int .i64 1)) Zc), none⟩,
 ⟨some 13, some (.move (.tmp 12)), none⟩,
 ⟨some 14, some (.move (.tmp 1)), some (some 13, false)⟩,
 ⟨some 15, some (.move (.tmp 0)), some (some 13, false)⟩,
 ⟨some 16, some (.nilCheck (.tmp 15)), some (some 13, false)⟩,
 ⟨some 17, some (.fieldAddr Zt (.tmp 16) 1), some (some 13, false)⟩,
 ⟨some 18, some (.load Zh (.tmp 17)), some (some 13, false)⟩,
 ⟨some 19, some (.call ⟨(.builtin .len), #[.tmp 18], #[Zh]⟩), some (some 13, false)⟩,
 ⟨some 20, some (.binOp .gtr Zc (.tmp 14) (.tmp 19) Zc), some (some 13, false)⟩,
 ⟨some 21, some (.pick (.tmp 13) (.const (.bool true)) (.tmp 20)), none⟩])
  (.cond (.tmp 21) (.seq (.reg [] [⟨some 4, some (.assign (.const (.slice none 0 0))), none⟩])
  .ret)
  .skip))
  (.seq (.reg [] [⟨some 22, some (.move (.tmp 1)), none⟩,
 ⟨some 23, some (.binOp .add Zc (.tmp 22) (.const (.int .i64 1)) Zc), none⟩,
 ⟨some 24, some (.makeSlice Zg (.tmp 23) (.tmp 23)), none⟩,
 ⟨some 5, some (.assign (.tmp 24)), none⟩])
  (.seq (.reg [] [⟨some 25, some (.move (.tmp 5)), none⟩,
 ⟨some 26, some (.move (.tmp 1)), none⟩,
 ⟨some 27, some (.indexAddr Zg (.tmp 25) (.tmp 26)), none⟩,
 ⟨none, some (.store Zi (.tmp 27) (.const (.bool true))), none⟩])
  (.seq (.reg [] [⟨some 6, some (.assign (.const (.int .i64 0))), none⟩])
  (.seq (.seq (.reg [] [⟨some 28, some (.move (.tmp 1)), none⟩,
 ⟨some 7, some (.assign (.tmp 28)), none⟩])
  (.block 0 (.loop Zb8)))
  (.seq (.reg [] [⟨some 60, some (.move (.tmp 6)), none⟩,
 ⟨some 61, some (.makeSlice Zk (.const (.int .i64 0)) (.tmp 60)), none⟩,
 ⟨some 9, some (.assign (.tmp 61)), none⟩])
  (.seq (.seq (.reg [] [⟨some 10, some (.assign (.const (.int .i64 1))), none⟩])
  (.block 2 (.loop Zb9)))
  (.seq (.reg [] [⟨some 75, some (.move (.tmp 9)), none⟩,
 ⟨some 4, some (.assign (.tmp 75)), none⟩])
  .ret)))))))))
theorem Zh2 {a0 a1 : AV} {H : AHeap} : R Zbo [a0, a1] H = fnK Tryz.prog [0] H [(.tmp 4)] (evalL Tryz.prog KT R Zdh (Env.args [a0, a1] 0) H) :=
  runs_body (D := DT) (f := Zbo) Tryz.func38 (by kernel_rfl) (by kernel_rfl) (by kernel_rfl) (by kernel_rfl) (by kernel_rfl) (Nat.le_of_ble_eq_true rfl)
def Zdm : LCode := (.seq (.reg [] [⟨some 2, some (.assign (.const (.int .i64 0))), none⟩])
  (.seq (.block 0 (.seq (.reg [] [⟨some 4, some (.move (.tmp 0)), none⟩,
 ⟨some 5, some (.binOp .lss Zc (.tmp 4) (.const (.int .i64 1)) Zc), none⟩,
 ⟨some 6, some (.move (.tmp 5)), none⟩,
 ⟨some 7, some (.move (.tmp 0)), some (some 6, false)⟩,
 ⟨some 8, some (.binOp .gtr Zc (.tmp 7) (.const (.int .i64 44)) Zc), some (some 6, false)⟩,
 ⟨some 9, some (.pick (.tmp 6) (.const (.bool true)) (.tmp 8)), none⟩,
 ⟨some 3, some (.assign (.tmp 9)), none⟩])
  (.cond (.tmp 3) (.seq (.reg [] [⟨some 2, some (.assign (.const (.int .i64 (-1)))), none⟩])
  .ret)
  (.seq (.reg [] [⟨some 11, some (.move (.tmp 0)), none⟩,
 ⟨some 12, some (.binOp .leq Zc (.tmp 11) (.const (.int .i64 2)) Zc), none⟩,
 ⟨some 10, some (.assign (.tmp 12)), none⟩])
  (.cond (.tmp 10) (.seq (.reg [] [⟨some 2, some (.assign (.const (.int .i64 0))), none⟩])
  .ret)
  (.seq (.reg [] [⟨some 14, some (.move (.tmp 0)), none⟩,
 ⟨some 15, some (.binOp .eql Zc (.tmp 14) (.const (.int .i64 3)) Zc), none⟩,
 ⟨some 16, some (.move (.tmp 15)), none⟩,
 ⟨some 17, some (.move (.tmp 0)), some (some 16, false)⟩,
 ⟨some 18, some (.binOp .eql Zc (.tmp 17) (.const (.int .i64 10)) Zc), some (some 16, false)⟩,
 ⟨some 19, some (.pick (.tmp 16) (.const (.bool true)) (.tmp 18)), none⟩,
 ⟨some 20, some (.move (.tmp 19)), none⟩,
 ⟨some 21, some (.move (.tmp 0)), some (some 20, false)⟩,
 ⟨some 22, some (.binOp .eql Zc (.tmp 21) (.const (.int .i64 11)) Zc), some (some 20, false)⟩,
 ⟨some 23, some (.pick (.tmp 20) (.const (.bool true)) (.tmp 22)), none⟩,
 ⟨some 24, some (.move (.tmp 23)), none⟩,
 ⟨some 25, some (.move (.tmp 0)), some (some 24, false)⟩,
 ⟨some 26, some (.binOp .geq Zc (.tmp 25) (.const (.int .i64 39)) Zc), some (some 24, false)⟩,
 ⟨some 27, some (.pick (.tmp 24) (.const (.bool true)) (.tmp 26)), none⟩,
 ⟨some 13, some (.assign (.tmp 27)), none⟩])
  (.cond (.tmp 13) (.seq (.reg [] [⟨some 2, some (.assign (.const (.int .i64 1))), none⟩])
  .ret)
  (.seq (.reg [] [⟨some 29, some (.move (.tmp 0)), none⟩,
 ⟨some 30, some (.binOp .eql Zc (.tmp 29) (.const (.int .i64 9)) Zc), none⟩,
 ⟨some 28, some (.assign (.tmp 30)), none⟩])
  (.cond (.tmp 28) (.seq (.reg [] [⟨some 2, some (.assign (.const (.int .i64 3))), none⟩])
  .ret)
  .skip)))))))))
  (.seq (.reg [] [⟨some 2, some (.assign (.const (.int .i64 2))), none⟩])
  .ret)))
theorem Zly {a0 : AV} {H : AHeap} : R Zf2 [a0] H = fnK Tryz.prog [] H [(.tmp 2)] (evalL Tryz.prog KT R Zdm (Env.args [a0] 0) H) :=
  runs_body (D := DT) (f := Zf2) Tryz.func39 (by kernel_rfl) (by kernel_rfl) (by kernel_rfl) (by kernel_rfl) (by kernel_rfl) (Nat.le_of_ble_eq_true rfl)
def Zed : LCode := (.seq (.seq (.reg [] [⟨some 8, some (.move (.tmp 4)), none⟩,
 ⟨some 9, some (.move (.tmp 0)), none⟩,
 ⟨some 10, some (.call ⟨(.builtin .len), #[.tmp 9], #[Zg]⟩), none⟩,
 ⟨some 11, some (.binOp .lss Zc (.tmp 8) (.tmp 10) Zc), none⟩])
  (.cond (.tmp 11) .skip
  (.exit 0)))
  (.seq (.block 1 (.seq (.seq (.reg [] [⟨some 14, some (.move (.tmp 0)), none⟩,
 ⟨some 15, some (.move (.tmp 4)), none⟩,
 ⟨some 16, some (.indexAddr Zg (.tmp 14) (.tmp 15)), none⟩,
 ⟨some 17, some (.load Zi (.tmp 16)), none⟩,
 ⟨some 18, some (.move (.tmp 17)), none⟩,
 ⟨some 19, some (.move (.tmp 4)), some (some 18, true)⟩,
 ⟨some 20, some (.binOp .lss Zc (.tmp 19) (.const (.int .i64 64)) Zc), some (some 18, true)⟩,
 ⟨some 21, some (.pick (.tmp 18) (.tmp 20) (.const (.bool false))), none⟩])
  (.cond (.tmp 21) (.reg [] [⟨some 22, some (.fieldAddr Za (.tmp 3) 1), none⟩,
 ⟨some 23, some (.load Ze (.tmp 22)), none⟩,
 ⟨some 24, some (.move (.tmp 4)), none⟩,
 ⟨some 25, some (.binOp .shl Ze (.const (.int .u64 1)) (.tmp 24) Zc), none⟩,
 ⟨some 26, some (.binOp .or Ze (.tmp 23) (.tmp 25) Ze), none⟩,
 ⟨some 27, some (.fieldAddr Za (.tmp 3) 1), none⟩,
 ⟨none, some (.store Ze (.tmp 27) (.tmp 26)), none⟩])
  .skip))
  (.seq (.reg [] [⟨some 28, some (.move (.tmp 0)), none⟩,
 ⟨some 29, some (.move (.tmp 4)), none⟩,
 ⟨some 30, some (.indexAddr Zg (.tmp 28) (.tmp 29)), none⟩,
 ⟨some 31, some (.load Zi (.tmp 30)), none⟩,
 ⟨some 32, some (.move (.tmp 31)), none⟩,
 ⟨some 33, some (.move (.tmp 4)), some (some 32, true)⟩,
 ⟨some 34, some (.binOp .geq Zc (.tmp 33) (.const (.int .i64 64)) Zc), some (some 32, true)⟩,
 ⟨some 35, some (.pick (.tmp 32) (.tmp 34) (.const (.bool false))), none⟩])
  (.cond (.tmp 35) (.reg [] [⟨some 36, some (.fieldAddr Za (.tmp 3) 2), none⟩,
 ⟨some 37, some (.load Ze (.tmp 36)), none⟩,
 ⟨some 38, some (.move (.tmp 4)), none⟩,
 ⟨some 39, some (.binOp .sub Zc (.tmp 38) (.const (.int .i64 64)) Zc), none⟩,
 ⟨some 40, some (.binOp .shl Ze (.const (.int .u64 1)) (.tmp 39) Zc), none⟩,
 ⟨some 41, some (.binOp .or Ze (.tmp 37) (.tmp 40) Ze), none⟩,
 ⟨some 42, some (.fieldAddr Za (.tmp 3) 2), none⟩,
 ⟨none, some (.store Ze (.tmp 42) (.tmp 41)), none⟩])
  .skip))))
  (.reg [] [⟨some 12, some (.move (.tmp 4)), none⟩,
 ⟨some 13, some (.binOp .add Zc (.tmp 12) (.const (.int .i64 1)) Zc), none⟩,
 ⟨some 4, some (.assign (.tmp 13)), none⟩])))
@[simp] theorem Zmd : defs Zed = [8, 9, 10, 11, 14, 15, 16, 17, 18, 19, 20, 21, 22, 23, 24, 25, 26, 27, 28, 29, 30, 31, 32, 33, 34, 35, 36, 37, 38, 39, 40, 41, 42, 12, 13, 4] := by rfl
def Zh9 : LCode := (.seq (.reg [] [⟨some 2, some (.alloc Za), none⟩])
  (.seq (.reg [] [⟨some 5, some (.move (.tmp 0)), none⟩,
 ⟨some 6, some (.call ⟨(.builtin .len), #[.tmp 5], #[Zg]⟩), none⟩,
 ⟨some 7, some (.build Za #[(0, (.tmp 6))]), none⟩,
 ⟨some 3, some (.alloc Za), none⟩,
 ⟨none, some (.store Za (.tmp 3) (.tmp 7)), none⟩])
  (.seq (.seq (.reg [] [⟨some 4, some (.assign (.const (.int .i64 0))), none⟩])
  (.block 0 (.loop Zed)))
  (.seq (.reg [] [⟨some 43, some (.load Za (.tmp 3)), none⟩,
 ⟨none, some (.store Za (.tmp 2) (.tmp 43)), none⟩])
  .ret))))
theorem Zka {a0 : AV} {H : AHeap} : R Z0 [a0] H = fnK Tryz.prog [] H [(.cell 2 Za)] (evalL Tryz.prog KT R Zh9 (Env.args [a0] 0) H) :=
  runs_body (D := DT) (f := Z0) Tryz.func40 (by kernel_rfl) (by kernel_rfl) (by kernel_rfl) (by kernel_rfl) (by kernel_rfl) (Nat.le_of_ble_eq_true rfl)
def Zee : LCode := (.seq (.seq (.reg [] [⟨some 8, some (.move (.tmp 4)), none⟩,
 ⟨some 9, some (.fieldAddr Za (.tmp 1) 0), none⟩,
 ⟨some 10, some (.load Zc (.tmp 9)), none⟩,
 ⟨some 11, some (.binOp .lss Zc (.tmp 8) (.tmp 10) Zc), none⟩])
  (.cond (.tmp 11) .skip
  (.exit 0)))
  (.seq (.block 1 (.seq (.reg [] [⟨some 14, some (.move (.tmp 4)), none⟩,
 ⟨some 15, some (.binOp .lss Zc (.tmp 14) (.const (.int .i64 64)) Zc), none⟩])
  (.cond (.tmp 15) (.reg [] [⟨some 16, some (.move (.tmp 3)), none⟩,
 ⟨some 17, some (.move (.tmp 4)), none⟩,
 ⟨some 18, some (.fieldAddr Za (.tmp 1) 1), none⟩,
 ⟨some 19, some (.load Ze (.tmp 18)), none⟩,
 ⟨some 20, some (.move (.tmp 4)), none⟩,
 ⟨some 21, some (.binOp .shr Ze (.tmp 19) (.tmp 20) Zc), none⟩,
 ⟨some 22, some (.binOp .and Ze (.tmp 21) (.const (.int .u64 1)) Ze), none⟩,
 ⟨some 23, some (.binOp .eql Ze (.tmp 22) (.const (.int .u64 1)) Ze), none⟩,
 ⟨some 24, some (.indexAddr Zg (.tmp 16) (.tmp 17)), none⟩,
 ⟨none, some (.store Zi (.tmp 24) (.tmp 23)), none⟩])
  (.reg [] [⟨some 25, some (.move (.tmp 3)), none⟩,
 ⟨some 26, some (.move (.tmp 4)), none⟩,
 ⟨some 27, some (.fieldAddr Za (.tmp 1) 2), none⟩,
 ⟨some 28, some (.load Ze (.tmp 27)), none⟩,
 ⟨some 29, some (.move (.tmp 4)), none⟩,
 ⟨some 30, some (.binOp .sub Zc (.tmp 29) (.const (.int .i64 64)) Zc), none⟩,
 ⟨some 31, some (.binOp .shr Ze (.tmp 28) (.tmp 30) Zc), none⟩,
 ⟨some 32, some (.binOp .and Ze (.tmp 31) (.const (.int .u64 1)) Ze), none⟩,
 ⟨some 33, some (.binOp .eql Ze (.tmp 32) (.const (.int .u64 1)) Ze), none⟩,
 ⟨some 34, some (.indexAddr Zg (.tmp 25) (.tmp 26)), none⟩,
 ⟨none, some (.store Zi (.tmp 34) (.tmp 33)), none⟩]))))
  (.reg [] [⟨some 12, some (.move (.tmp 4)), none⟩,
 ⟨some 13, some (.binOp .add Zc (.tmp 12) (.const (.int .i64 1)) Zc), none⟩,
 ⟨some 4, some (.assign (.tmp 13)), none⟩])))
@[simp] theorem Zme : defs Zee = [8, 9, 10, 11, 14, 15, 16, 17, 18, 19, 20, 21, 22, 23, 24, 25, 26, 27, 28, 29, 30, 31, 32, 33, 34, 12, 13, 4] := by rfl
def Zia : LCode := (.seq (.reg [] [⟨some 1, some (.box Za (.tmp 0)), none⟩,
 ⟨some 2, some (.assign (.const (.slice none 0 0))), none⟩])
  (.seq (.reg [] [⟨some 5, some (.fieldAddr Za (.tmp 1) 0), none⟩,
 ⟨some 6, some (.load Zc (.tmp 5)), none⟩,
 ⟨some 7, some (.makeSlice Zg (.tmp 6) (.tmp 6)), none⟩,
 ⟨some 3, some (.assign (.tmp 7)), none⟩])
  (.seq (.seq (.reg [] [⟨some 4, some (.assign (.const (.int .i64 0))), none⟩])
  (.block 0 (.loop Zee)))
  (.seq (.reg [] [⟨some 35, some (.move (.tmp 3)), none⟩,
 ⟨some 2, some (.assign (.tmp 35)), none⟩])
  .ret))))
theorem Zkb {a0 : AV} {H : AHeap} : R Z4 [a0] H = fnK Tryz.prog [] H [(.tmp 2)] (evalL Tryz.prog KT R Zia (Env.args [a0] 0) H) :=
  runs_body (D := DT) (f := Z4) Tryz.func41 (by kernel_rfl) (by kernel_rfl) (by kernel_rfl) (by kernel_rfl) (by kernel_rfl) (Nat.le_of_ble_eq_true rfl)
def Zib : LCode := (.seq (.reg [] [⟨some 2, some (.alloc Za), none⟩])
  (.seq (.seq (.reg [] [⟨some 3, some (.move (.tmp 0)), none⟩])
  (.cond (.tmp 3) (.seq (.reg [] [⟨some 4, some (.build Za #[(1, (.const (.int .u64 1)))]), none⟩,
 ⟨none, some (.store Za (.tmp 2) (.tmp 4)), none⟩])
  .ret)
  .skip))
  (.seq (.reg [] [⟨some 5, some (.build Za #[]), none⟩,
 ⟨none, some (.store Za (.tmp 2) (.tmp 5)), none⟩])
  .ret)))
theorem Zkc {a0 : AV} {H : AHeap} : R Z9 [a0] H = fnK Tryz.prog [] H [(.cell 2 Za)] (evalL Tryz.prog KT R Zib (Env.args [a0] 0) H) :=
  runs_body (D := DT) (f := Z9) Tryz.func42 (by kernel_rfl) (by kernel_rfl) (by kernel_rfl) (by kernel_rfl) (by kernel_rfl) (Nat.le_of_ble_eq_true rfl)
def Zht : LCode := (.seq (.reg [] [⟨some 1, some (.box Za (.tmp 0)), none⟩,
 ⟨some 2, some (.assign (.const (.bool false))), none⟩])
  (.seq (.reg [] [⟨some 3, some (.fieldAddr Za (.tmp 1) 1), none⟩,
 ⟨some 4, some (.load Ze (.tmp 3)), none⟩,
 ⟨some 5, some (.binOp .eql Ze (.tmp 4) (.const (.int .u64 1)) Ze), none⟩,
 ⟨some 2, some (.assign (.tmp 5)), none⟩])
  .ret))
theorem Zjs {a0 : AV} {H : AHeap} : R Zbi [a0] H = fnK Tryz.prog [] H [(.tmp 2)] (evalL Tryz.prog KT R Zht (Env.args [a0] 0) H) :=
  runs_body (D := DT) (f := Zbi) Tryz.func43 (by kernel_rfl) (by kernel_rfl) (by kernel_rfl) (by kernel_rfl) (by kernel_rfl) (Nat.le_of_ble_eq_true rfl)
def Zfi : LCode := (.seq (.reg [] [⟨some 3, some (.box Za (.tmp 1)), none⟩,
 ⟨some 4, some (.alloc Za), none⟩,
 ⟨some 5, some (.assign (.const (.int .i64 0))), none⟩])
  (.seq (.seq (.reg [] [⟨some 6, some (.load Za (.tmp 3)), none⟩,
 ⟨some 7, some (.call ⟨(.value (.func Zbh)), #[.tmp 6], #[Za]⟩), none⟩,
 ⟨some 8, some (.unOp .not Zi (.tmp 7)), none⟩])
  (.cond (.tmp 8) (.seq (.reg [] [⟨some 9, some (.build Za #[]), none⟩,
 ⟨none, some (.store Za (.tmp 4) (.tmp 9)), none⟩,
 ⟨some 5, some (.assign (.const (.int .i64 10))), none⟩])
  .ret)
  .skip))
  (.seq (.seq (.reg [] [⟨some 10, some (.move (.tmp 0)), none⟩])
  (.block 0 (.seq (.reg [] [⟨some 12, some (.binOp .eql Zc (.tmp 10) (.const (.int .i64 10)) Zc), none⟩,
 ⟨some 11, some (.assign (.tmp 12)), none⟩])
  (.cond (.tmp 11) (.seq (.reg [] [⟨some 13, some (.load Za (.tmp 3)), none⟩,
 ⟨some 14, some (.call ⟨(.value (.func Z4)), #[.tmp 13], #[Za]⟩), none⟩,
 ⟨some 15, some (.call ⟨(.value (.func Zcj)), #[.tmp 14], #[Zg]⟩), none⟩,
 ⟨some 16, some (.call ⟨(.value (.func Z0)), #[.tmp 15], #[Zg]⟩), none⟩,
 ⟨none, some (.store Za (.tmp 4) (.tmp 16)), none⟩,
 ⟨some 5, some (.assign (.const (.int .i64 0))), none⟩])
  .ret)
  (.seq (.reg [] [⟨some 18, some (.binOp .eql Zc (.tmp 10) (.const (.int .i64 11)) Zc), none⟩,
 ⟨some 17, some (.assign (.tmp 18)), none⟩])
  (.cond (.tmp 17) (.seq (.reg [] [⟨some 19, some (.load Za (.tmp 3)), none⟩,
 ⟨some 20, some (.call ⟨(.value (.func Z4)), #[.tmp 19], #[Za]⟩), none⟩,
 ⟨some 21, some (.call ⟨(.value (.func Zck)), #[.tmp 20], #[Zg]⟩), none⟩,
 ⟨some 22, some (.call ⟨(.value (.func Z0)), #[.tmp 21], #[Zg]⟩), none⟩,
 ⟨none, some (.store Za (.tmp 4) (.tmp 22)), none⟩,
 ⟨some 5, some (.assign (.const (.int .i64 0))), none⟩])
  .ret)
  .skip))))))
  (.seq (.reg [] [⟨some 23, some (.build Za #[]), none⟩,
 ⟨none, some (.store Za (.tmp 4) (.tmp 23)), none⟩,
 ⟨some 5, some (.assign (.const (.int .i64 11))), none⟩])
  .ret))))
theorem Zik {a0 a1 : AV} {H : AHeap} : R Zdu [a0, a1] H = fnK Tryz.prog [] H [(.cell 4 Za), (.tmp 5)] (evalL Tryz.prog KT R Zfi (Env.args [a0, a1] 0) H) :=
  runs_body (D := DT) (f := Zdu) Tryz.func44 (by kernel_rfl) (by kernel_rfl) (by kernel_rfl) (by kernel_rfl) (by kernel_rfl) (Nat.le_of_ble_eq_true rfl)
def Zef : LCode := (.seq (.reg [] [⟨some 2, some (.box Za (.tmp 0)), none⟩,
 ⟨some 3, some (.box Za (.tmp 1)), none⟩,
 ⟨some 4, some (.alloc Za), none⟩,
 ⟨some 5, some (.assign (.const (.int .i64 0))), none⟩])
  (.seq (.seq (.reg [] [⟨some 6, some (.load Za (.tmp 2)), none⟩,
 ⟨some 7, some (.call ⟨(.value (.func Zbh)), #[.tmp 6], #[Za]⟩), none⟩,
 ⟨some 8, some (.unOp .not Zi (.tmp 7)), none⟩,
 ⟨some 9, some (.move (.tmp 8)), none⟩,
 ⟨some 10, some (.load Za (.tmp 3)), some (some 9, false)⟩,
 ⟨some 11, some (.call ⟨(.value (.func Zbh)), #[.tmp 10], #[Za]⟩), some (some 9, false)⟩,
 ⟨some 12, some (.unOp .not Zi (.tmp 11)), some (some 9, false)⟩,
 ⟨some 13, some (.pick (.tmp 9) (.const (.bool true)) (.tmp 12)), none⟩,
 ⟨some 14, some (.move (.tmp 13)), none⟩,
 ⟨some 15, some (.fieldAddr Za (.tmp 2) 0), some (some 14, false)⟩,
 ⟨some 16, some (.load Zc (.tmp 15)), some (some 14, false)⟩,
 ⟨some 17, some (.fieldAddr Za (.tmp 3) 0), some (some 14, false)⟩,
 ⟨some 18, some (.load Zc (.tmp 17)), some (some 14, false)⟩,
 ⟨some 19, some (.binOp .add Zc (.tmp 16) (.tmp 18) Zc), some (some 14, false)⟩,
 ⟨some 20, some (.binOp .gtr Zc (.tmp 19) (.const (.int .i64 128)) Zc), some (some 14, false)⟩,
 ⟨some 21, some (.pick (.tmp 14) (.const (.bool true)) (.tmp 20)), none⟩])
  (.cond (.tmp 21) (.seq (.reg [] [⟨some 22, some (.build Za #[]), none⟩,
 ⟨none, some (.store Za (.tmp 4) (.tmp 22)), none⟩,
 ⟨some 5, some (.assign (.const (.int .i64 10))), none⟩])
  .ret)
  .skip))
  (.seq (.reg [1] [⟨some 23, some (.load Za (.tmp 3)), none⟩,
 ⟨some 24, some (.call ⟨(.value (.func Z4)), #[.tmp 23], #[Za]⟩), none⟩,
 ⟨some 25, some (.load Za (.tmp 2)), none⟩,
 ⟨some 26, some (.call ⟨(.value (.func Z4)), #[.tmp 25], #[Za]⟩), none⟩,
 ⟨some 27, some (.call ⟨(.builtin .append), #[.tmp 24, .tmp 26], #[Zg, Zg]⟩), none⟩,
 ⟨some 28, some (.call ⟨(.value (.func Z0)), #[.tmp 27], #[Zg]⟩), none⟩,
 ⟨none, some (.store Za (.tmp 4) (.tmp 28)), none⟩,
 ⟨some 5, some (.assign (.const (.int .i64 0))), none⟩])
  .ret)))
theorem Zfa {a0 a1 : AV} {H : AHeap} : R Zc4 [a0, a1] H = fnK Tryz.prog [] H [(.cell 4 Za), (.tmp 5)] (evalL Tryz.prog KT R Zef (Env.args [a0, a1] 0) H) :=
  runs_body (D := DT) (f := Zc4) Tryz.func45 (by kernel_rfl) (by kernel_rfl) (by kernel_rfl) (by kernel_rfl) (by kernel_rfl) (Nat.le_of_ble_eq_true rfl)
def Zcw : LCode := (.seq (.reg [] [⟨some 3, some (.box Za (.tmp 0)), none⟩,
 ⟨some 6, some (.alloc Za), none⟩,
 ⟨some 7, some (.assign (.const (.int .i64 0))), none⟩])
  (.seq (.seq (.reg [] [⟨some 8, some (.load Za (.tmp 3)), none⟩,
 ⟨some 9, some (.call ⟨(.value (.func Zbh)), #[.tmp 8], #[Za]⟩), none⟩,
 ⟨some 10, some (.unOp .not Zi (.tmp 9)), none⟩])
  (.cond (.tmp 10) (.seq (.reg [] [⟨some 11, some (.build Za #[]), none⟩,
 ⟨none, some (.store Za (.tmp 6) (.tmp 11)), none⟩,
 ⟨some 7, some (.assign (.const (.int .i64 10))), none⟩])
  .ret)
  .skip))
  (.seq (.seq (.reg [] [⟨some 12, some (.move (.tmp 2)), none⟩,
 ⟨some 13, some (.binOp .lss Zc (.tmp 12) (.const (.int .i64 0)) Zc), none⟩,
 ⟨some 14, some (.move (.tmp 13)), none⟩,
 ⟨some 15, some (.move (.tmp 1)), some (some 14, false)⟩,
 ⟨some 16, some (.move (.tmp 2)), some (some 14, false)⟩,
 ⟨some 17, some (.binOp .lss Zc (.tmp 15) (.tmp 16) Zc), some (some 14, false)⟩,
 ⟨some 18, some (.pick (.tmp 14) (.const (.bool true)) (.tmp 17)), none⟩,
 ⟨some 19, some (.move (.tmp 18)), none⟩,
 ⟨some 20, some (.move (.tmp 1)), some (some 19, false)⟩,
 ⟨some 21, some (.fieldAddr Za (.tmp 3) 0), some (some 19, false)⟩,
 ⟨some 22, some (.load Zc (.tmp 21)), some (some 19, false)⟩,
 ⟨some 23, some (.binOp .geq Zc (.tmp 20) (.tmp 22) Zc), some (some 19, false)⟩,
 ⟨some 24, some (.pick (.tmp 19) (.const (.bool true)) (.tmp 23)), none⟩])
  (.cond (.tmp 24) (.seq (.reg [] [⟨some 25, some (.build Za #[]), none⟩,
 ⟨none, some (.store Za (.tmp 6) (.tmp 25)), none⟩,
 ⟨some 7, some (.assign (.const (.int .i64 12))), none⟩])
  .ret)
  .skip))
  (.seq (.reg [] [⟨some 26, some (.load Za (.tmp 3)), none⟩,
 ⟨some 27, some (.call ⟨(.value (.func Z4)), #[.tmp 26], #[Za]⟩), none⟩,
 ⟨some 28, some (.move (.tmp 2)), none⟩,
 ⟨some 29, some (.move (.tmp 1)), none⟩,
 ⟨some 30, some (.binOp .add Zc (.tmp 29) (.const (.int .i64 1)) Zc), none⟩,
 ⟨some 31, some (.slice Zg (.tmp 27) (some (.tmp 28)) (some (.tmp 30)) none), none⟩,
 ⟨some 32, some (.call ⟨(.value (.func Z0)), #[.tmp 31], #[Zg]⟩), none⟩,
 ⟨none, some (.store Za (.tmp 6) (.tmp 32)), none⟩,
 ⟨some 7, some (.assign (.const (.int .i64 0))), none⟩])
  .ret))))
theorem Zdz {a0 a1 a2 : AV} {H : AHeap} : R Zdv [a0, a1, a2] H = fnK Tryz.prog [] H [(.cell 6 Za), (.tmp 7)] (evalL Tryz.prog KT R Zcw (Env.args [a0, a1, a2] 0) H) :=
  runs_body (D := DT) (f := Zdv) Tryz.func46 (by kernel_rfl) (by kernel_rfl) (by kernel_rfl) (by kernel_rfl) (by kernel_rfl) (Nat.le_of_ble_eq_true rfl)
def Zdd : LCode := (.seq (.seq (.reg [] [⟨some 30, some (.move (.tmp 1)), none⟩,
 ⟨some 31, some (.binOp .gtr Zc (.tmp 30) (.const (.int .i64 0)) Zc), none⟩])
  (.cond (.tmp 31) .skip
  (.exit 0)))
  (.seq (.block 1 (.reg [] [⟨some 34, some (.move (.tmp 8)), none⟩,
 ⟨some 35, some (.move (.tmp 9)), none⟩,
 ⟨some 36, some (.buildSlice Zg 1 #[(0, (.tmp 35))]), none⟩,
 ⟨some 37, some (.call ⟨(.builtin .append), #[.tmp 34, .tmp 36], #[Zg, Zg]⟩), none⟩,
 ⟨some 8, some (.assign (.tmp 37)), none⟩]))
  (.reg [] [⟨some 32, some (.move (.tmp 1)), none⟩,
 ⟨some 33, some (.binOp .sub Zc (.tmp 32) (.const (.int .i64 1)) Zc), none⟩,
 ⟨some 1, some (.assign (.tmp 33)), none⟩])))
@[simp] theorem Zlo : defs Zdd = [30, 31, 34, 35, 36, 37, 8, 32, 33, 1] := by rfl
def Zc7 : LCode := (.seq (.reg [] [⟨some 3, some (.box Za (.tmp 0)), none⟩,
 ⟨some 6, some (.alloc Za), none⟩,
 ⟨some 7, some (.assign (.const (.int .i64 0))), none⟩])
  (.seq (.seq (.reg [] [⟨some 10, some (.load Za (.tmp 3)), none⟩,
 ⟨some 11, some (.call ⟨(.value (.func Zbh)), #[.tmp 10], #[Za]⟩), none⟩,
 ⟨some 12, some (.unOp .not Zi (.tmp 11)), none⟩])
  (.cond (.tmp 12) (.seq (.reg [] [⟨some 13, some (.build Za #[]), none⟩,
 ⟨none, some (.store Za (.tmp 6) (.tmp 13)), none⟩,
 ⟨some 7, some (.assign (.const (.int .i64 10))), none⟩])
  .ret)
  .skip))
  (.seq (.seq (.reg [] [⟨some 14, some (.move (.tmp 1)), none⟩,
 ⟨some 15, some (.binOp .lss Zc (.tmp 14) (.const (.int .i64 0)) Zc), none⟩])
  (.cond (.tmp 15) (.seq (.reg [] [⟨some 16, some (.build Za #[]), none⟩,
 ⟨none, some (.store Za (.tmp 6) (.tmp 16)), none⟩,
 ⟨some 7, some (.assign (.const (.int .i64 12))), none⟩])
  .ret)
  .skip))
  (.seq (.seq (.reg [] [⟨some 17, some (.move (.tmp 1)), none⟩,
 ⟨some 18, some (.fieldAddr Za (.tmp 3) 0), none⟩,
 ⟨some 19, some (.load Zc (.tmp 18)), none⟩,
 ⟨some 20, some (.binOp .sub Zc (.const (.int .i64 128)) (.tmp 19) Zc), none⟩,
 ⟨some 21, some (.binOp .gtr Zc (.tmp 17) (.tmp 20) Zc), none⟩])
  (.cond (.tmp 21) (.seq (.reg [] [⟨some 22, some (.build Za #[]), none⟩,
 ⟨none, some (.store Za (.tmp 6) (.tmp 22)), none⟩,
 ⟨some 7, some (.assign (.const (.int .i64 10))), none⟩])
  .ret)
  .skip))
  (.seq (.reg [] [⟨some 23, some (.load Za (.tmp 3)), none⟩,
 ⟨some 24, some (.call ⟨(.value (.func Z4)), #[.tmp 23], #[Za]⟩), none⟩,
 ⟨some 8, some (.assign (.tmp 24)), none⟩])
  (.seq (.reg [] [⟨some 25, some (.move (.tmp 2)), none⟩,
 ⟨some 26, some (.move (.tmp 25)), none⟩,
 ⟨some 27, some (.move (.tmp 8)), some (some 26, true)⟩,
 ⟨some 28, some (.call ⟨(.value (.func Z6)), #[.tmp 27], #[Zg]⟩), some (some 26, true)⟩,
 ⟨some 29, some (.pick (.tmp 26) (.tmp 28) (.const (.bool false))), none⟩,
 ⟨some 9, some (.assign (.tmp 29)), none⟩])
  (.seq (.block 0 (.loop Zdd))
  (.seq (.reg [] [⟨some 38, some (.move (.tmp 8)), none⟩,
 ⟨some 39, some (.call ⟨(.value (.func Z0)), #[.tmp 38], #[Zg]⟩), none⟩,
 ⟨none, some (.store Za (.tmp 6) (.tmp 39)), none⟩,
 ⟨some 7, some (.assign (.const (.int .i64 0))), none⟩])
  .ret))))))))
theorem Zfb {a0 a1 a2 : AV} {H : AHeap} : R Zc5 [a0, a1, a2] H = fnK Tryz.prog [] H [(.cell 6 Za), (.tmp 7)] (evalL Tryz.prog KT R Zc7 (Env.args [a0, a1, a2] 0) H) :=
  runs_body (D := DT) (f := Zc5) Tryz.func47 (by kernel_rfl) (by kernel_rfl) (by kernel_rfl) (by kernel_rfl) (by kernel_rfl) (Nat.le_of_ble_eq_true rfl)
def Zb3 : LCode := (.seq (.seq (.reg [] [⟨some 33, some (.move (.tmp 10)), none⟩,
 ⟨some 34, some (.move (.tmp 8)), none⟩,
 ⟨some 35, some (.call ⟨(.builtin .len), #[.tmp 34], #[Zg]⟩), none⟩,
 ⟨some 36, some (.binOp .lss Zc (.tmp 33) (.tmp 35) Zc), none⟩])
  (.cond (.tmp 36) .skip
  (.exit 0)))
  (.seq (.block 1 (.reg [] [⟨some 39, some (.move (.tmp 9)), none⟩,
 ⟨some 40, some (.move (.tmp 10)), none⟩,
 ⟨some 41, some (.move (.tmp 1)), none⟩,
 ⟨some 42, some (.binOp .add Zc (.tmp 40) (.tmp 41) Zc), none⟩,
 ⟨some 43, some (.fieldAddr Za (.tmp 3) 0), none⟩,
 ⟨some 44, some (.load Zc (.tmp 43)), none⟩,
 ⟨some 45, some (.binOp .rem Zc (.tmp 42) (.tmp 44) Zc), none⟩,
 ⟨some 46, some (.move (.tmp 8)), none⟩,
 ⟨some 47, some (.move (.tmp 10)), none⟩,
 ⟨some 48, some (.indexAddr Zg (.tmp 46) (.tmp 47)), none⟩,
 ⟨some 49, some (.load Zi (.tmp 48)), none⟩,
 ⟨some 50, some (.indexAddr Zg (.tmp 39) (.tmp 45)), none⟩,
 ⟨none, some (.store Zi (.tmp 50) (.tmp 49)), none⟩]))
  (.reg [] [⟨some 37, some (.move (.tmp 10)), none⟩,
 ⟨some 38, some (.binOp .add Zc (.tmp 37) (.const (.int .i64 1)) Zc), none⟩,
 ⟨some 10, some (.assign (.tmp 38)), none⟩])))
@[simp] theorem Zlp : defs Zb3 = [33, 34, 35, 36, 39, 40, 41, 42, 43, 44, 45, 46, 47, 48, 49, 50, 37, 38, 10] := by rfl
def Zeg : LCode := (.seq (.reg [] [⟨some 3, some (.box Za (.tmp 0)), none⟩,
 ⟨some 6, some (.alloc Za), none⟩,
 ⟨some 7, some (.assign (.const (.int .i64 0))), none⟩])
  (.seq (.seq (.reg [] [⟨some 11, some (.load Za (.tmp 3)), none⟩,
 ⟨some 12, some (.call ⟨(.value (.func Zbh)), #[.tmp 11], #[Za]⟩), none⟩,
 ⟨some 13, some (.unOp .not Zi (.tmp 12)), none⟩])
  (.cond (.tmp 13) (.seq (.reg [] [⟨some 14, some (.build Za #[]), none⟩,
 ⟨none, some (.store Za (.tmp 6) (.tmp 14)), none⟩,
 ⟨some 7, some (.assign (.const (.int .i64 10))), none⟩])
  .ret)
  .skip))
  (.seq (.seq (.reg [] [⟨some 15, some (.move (.tmp 1)), none⟩,
 ⟨some 16, some (.binOp .lss Zc (.tmp 15) (.const (.int .i64 0)) Zc), none⟩])
  (.cond (.tmp 16) (.seq (.reg [] [⟨some 17, some (.build Za #[]), none⟩,
 ⟨none, some (.store Za (.tmp 6) (.tmp 17)), none⟩,
 ⟨some 7, some (.assign (.const (.int .i64 12))), none⟩])
  .ret)
  .skip))
  (.seq (.reg [] [⟨some 18, some (.move (.tmp 1)), none⟩,
 ⟨some 19, some (.fieldAddr Za (.tmp 3) 0), none⟩,
 ⟨some 20, some (.load Zc (.tmp 19)), none⟩,
 ⟨some 21, some (.binOp .rem Zc (.tmp 18) (.tmp 20) Zc), none⟩,
 ⟨some 1, some (.assign (.tmp 21)), none⟩])
  (.seq (.seq (.reg [] [⟨some 22, some (.move (.tmp 2)), none⟩,
 ⟨some 23, some (.unOp .not Zi (.tmp 22)), none⟩])
  (.cond (.tmp 23) (.reg [] [⟨some 24, some (.fieldAddr Za (.tmp 3) 0), none⟩,
 ⟨some 25, some (.load Zc (.tmp 24)), none⟩,
 ⟨some 26, some (.move (.tmp 1)), none⟩,
 ⟨some 27, some (.binOp .sub Zc (.tmp 25) (.tmp 26) Zc), none⟩,
 ⟨some 1, some (.assign (.tmp 27)), none⟩])
  .skip))
  (.seq (.reg [] [⟨some 28, some (.load Za (.tmp 3)), none⟩,
 ⟨some 29, some (.call ⟨(.value (.func Z4)), #[.tmp 28], #[Za]⟩), none⟩,
 ⟨some 8, some (.assign (.tmp 29)), none⟩])
  (.seq (.reg [] [⟨some 30, some (.move (.tmp 8)), none⟩,
 ⟨some 31, some (.call ⟨(.builtin .len), #[.tmp 30], #[Zg]⟩), none⟩,
 ⟨some 32, some (.makeSlice Zg (.tmp 31) (.tmp 31)), none⟩,
 ⟨some 9, some (.assign (.tmp 32)), none⟩])
  (.seq (.seq (.reg [] [⟨some 10, some (.assign (.const (.int .i64 0))), none⟩])
  (.block 0 (.loop Zb3)))
  (.seq (.reg [] [⟨some 51, some (.move (.tmp 9)), none⟩,
 ⟨some 52, some (.call ⟨(.value (.func Z0)), #[.tmp 51], #[Zg]⟩), none⟩,
 ⟨none, some (.store Za (.tmp 6) (.tmp 52)), none⟩,
 ⟨some 7, some (.assign (.const (.int .i64 0))), none⟩])
  .ret)))))))))
theorem Zgc {a0 a1 a2 : AV} {H : AHeap} : R Zci [a0, a1, a2] H = fnK Tryz.prog [] H [(.cell 6 Za), (.tmp 7)] (evalL Tryz.prog KT R Zeg (Env.args [a0, a1, a2] 0) H) :=
  runs_body (D := DT) (f := Zci) Tryz.func48 (by kernel_rfl) (by kernel_rfl) (by kernel_rfl) (by kernel_rfl) (by kernel_rfl) (Nat.le_of_ble_eq_true rfl)
def Zde : LCode := (.seq (.seq (.reg [] [⟨some 20, some (.move (.tmp 1)), none⟩,
 ⟨some 21, some (.binOp .gtr Zc (.tmp 20) (.const (.int .i64 0)) Zc), none⟩])
  (.cond (.tmp 21) .skip
  (.exit 0)))
  (.seq (.block 1 (.reg [] [⟨some 24, some (.move (.tmp 6)), none⟩,
 ⟨some 25, some (.load Za (.tmp 2)), none⟩,
 ⟨some 26, some (.call ⟨(.value (.func Z4)), #[.tmp 25], #[Za]⟩), none⟩,
 ⟨some 27, some (.call ⟨(.builtin .append), #[.tmp 24, .tmp 26], #[Zg, Zg]⟩), none⟩,
 ⟨some 6, some (.assign (.tmp 27)), none⟩]))
  (.reg [] [⟨some 22, some (.move (.tmp 1)), none⟩,
 ⟨some 23, some (.binOp .sub Zc (.tmp 22) (.const (.int .i64 1)) Zc), none⟩,
 ⟨some 1, some (.assign (.tmp 23)), none⟩])))
@[simp] theorem Zlq : defs Zde = [20, 21, 24, 25, 26, 27, 6, 22, 23, 1] := by rfl
def Zeh : LCode := (.seq (.reg [] [⟨some 2, some (.box Za (.tmp 0)), none⟩,
 ⟨some 4, some (.alloc Za), none⟩,
 ⟨some 5, some (.assign (.const (.int .i64 0))), none⟩])
  (.seq (.seq (.reg [] [⟨some 7, some (.load Za (.tmp 2)), none⟩,
 ⟨some 8, some (.call ⟨(.value (.func Zbh)), #[.tmp 7], #[Za]⟩), none⟩,
 ⟨some 9, some (.unOp .not Zi (.tmp 8)), none⟩])
  (.cond (.tmp 9) (.seq (.reg [] [⟨some 10, some (.build Za #[]), none⟩,
 ⟨none, some (.store Za (.tmp 4) (.tmp 10)), none⟩,
 ⟨some 5, some (.assign (.const (.int .i64 10))), none⟩])
  .ret)
  .skip))
  (.seq (.seq (.reg [] [⟨some 11, some (.move (.tmp 1)), none⟩,
 ⟨some 12, some (.binOp .lss Zc (.tmp 11) (.const (.int .i64 1)) Zc), none⟩])
  (.cond (.tmp 12) (.seq (.reg [] [⟨some 13, some (.build Za #[]), none⟩,
 ⟨none, some (.store Za (.tmp 4) (.tmp 13)), none⟩,
 ⟨some 5, some (.assign (.const (.int .i64 12))), none⟩])
  .ret)
  .skip))
  (.seq (.seq (.reg [] [⟨some 14, some (.move (.tmp 1)), none⟩,
 ⟨some 15, some (.fieldAddr Za (.tmp 2) 0), none⟩,
 ⟨some 16, some (.load Zc (.tmp 15)), none⟩,
 ⟨some 17, some (.binOp .quo Zc (.const (.int .i64 128)) (.tmp 16) Zc), none⟩,
 ⟨some 18, some (.binOp .gtr Zc (.tmp 14) (.tmp 17) Zc), none⟩])
  (.cond (.tmp 18) (.seq (.reg [] [⟨some 19, some (.build Za #[]), none⟩,
 ⟨none, some (.store Za (.tmp 4) (.tmp 19)), none⟩,
 ⟨some 5, some (.assign (.const (.int .i64 10))), none⟩])
  .ret)
  .skip))
  (.seq (.reg [] [⟨some 6, some (.assign (.const (.slice none 0 0))), none⟩])
  (.seq (.block 0 (.loop Zde))
  (.seq (.reg [] [⟨some 28, some (.move (.tmp 6)), none⟩,
 ⟨some 29, some (.call ⟨(.value (.func Z0)), #[.tmp 28], #[Zg]⟩), none⟩,
 ⟨none, some (.store Za (.tmp 4) (.tmp 29)), none⟩,
 ⟨some 5, some (.assign (.const (.int .i64 0))), none⟩])
  .ret)))))))
theorem Zfc {a0 a1 : AV} {H : AHeap} : R Zc6 [a0, a1] H = fnK Tryz.prog [] H [(.cell 4 Za), (.tmp 5)] (evalL Tryz.prog KT R Zeh (Env.args [a0, a1] 0) H) :=
  runs_body (D := DT) (f := Zc6) Tryz.func49 (by kernel_rfl) (by kernel_rfl) (by kernel_rfl) (by kernel_rfl) (by kernel_rfl) (Nat.le_of_ble_eq_true rfl)
def Zca : LCode := (.seq (.reg [] [⟨some 4, some (.box Za (.tmp 1)), none⟩,
 ⟨some 5, some (.box Za (.tmp 2)), none⟩,
 ⟨some 6, some (.alloc Za), none⟩,
 ⟨some 7, some (.assign (.const (.int .i64 0))), none⟩])
  (.seq (.seq (.reg [] [⟨some 12, some (.load Za (.tmp 4)), none⟩,
 ⟨some 13, some (.call ⟨(.value (.func Zbh)), #[.tmp 12], #[Za]⟩), none⟩,
 ⟨some 14, some (.unOp .not Zi (.tmp 13)), none⟩,
 ⟨some 15, some (.move (.tmp 14)), none⟩,
 ⟨some 16, some (.load Za (.tmp 5)), some (some 15, false)⟩,
 ⟨some 17, some (.call ⟨(.value (.func Zbh)), #[.tmp 16], #[Za]⟩), some (some 15, false)⟩,
 ⟨some 18, some (.unOp .not Zi (.tmp 17)), some (some 15, false)⟩,
 ⟨some 19, some (.pick (.tmp 15) (.const (.bool true)) (.tmp 18)), none⟩,
 ⟨some 20, some (.move (.tmp 19)), none⟩,
 ⟨some 21, some (.fieldAddr Za (.tmp 4) 0), some (some 20, false)⟩,
 ⟨some 22, some (.load Zc (.tmp 21)), some (some 20, false)⟩,
 ⟨some 23, some (.fieldAddr Za (.tmp 5) 0), some (some 20, false)⟩,
 ⟨some 24, some (.load Zc (.tmp 23)), some (some 20, false)⟩,
 ⟨some 25, some (.binOp .neq Zc (.tmp 22) (.tmp 24) Zc), some (some 20, false)⟩,
 ⟨some 26, some (.pick (.tmp 20) (.const (.bool true)) (.tmp 25)), none⟩])
  (.cond (.tmp 26) (.seq (.reg [] [⟨some 27, some (.build Za #[]), none⟩,
 ⟨none, some (.store Za (.tmp 6) (.tmp 27)), none⟩,
 ⟨some 7, some (.assign (.const (.int .i64 10))), none⟩])
  .ret)
  .skip))
  (.seq (.reg [1] [⟨some 28, some (.load Za (.tmp 4)), none⟩,
 ⟨some 29, some (.call ⟨(.value (.func Z4)), #[.tmp 28], #[Za]⟩), none⟩,
 ⟨some 30, some (.load Za (.tmp 5)), none⟩,
 ⟨some 31, some (.call ⟨(.value (.func Z4)), #[.tmp 30], #[Za]⟩), none⟩,
 ⟨some 8, some (.assign (.tmp 29)), none⟩,
 ⟨some 9, some (.assign (.tmp 31)), none⟩])
  (.seq (.reg [] [⟨some 33, some (.move (.tmp 0)), none⟩,
 ⟨some 34, some (.move (.tmp 8)), none⟩,
 ⟨some 35, some (.move (.tmp 9)), none⟩,
 ⟨some 36, some (.call ⟨(.value (.func Zds)), #[.tmp 33, .tmp 34, .tmp 35], #[Zc, Zg, Zg]⟩), none⟩,
 ⟨some 32, some (.move (.tmp 36)), none⟩,
 ⟨some 37, some (.extract (.tmp 32) 0), none⟩,
 ⟨some 38, some (.extract (.tmp 32) 1), none⟩,
 ⟨some 10, some (.assign (.tmp 37)), none⟩,
 ⟨some 11, some (.assign (.tmp 38)), none⟩])
  (.seq (.seq (.reg [] [⟨some 39, some (.move (.tmp 11)), none⟩])
  (.cond (.tmp 39) (.seq (.reg [] [⟨some 40, some (.move (.tmp 10)), none⟩,
 ⟨some 41, some (.call ⟨(.value (.func Z0)), #[.tmp 40], #[Zg]⟩), none⟩,
 ⟨none, some (.store Za (.tmp 6) (.tmp 41)), none⟩,
 ⟨some 7, some (.assign (.const (.int .i64 0))), none⟩])
  .ret)
  .skip))
  (.seq (.seq (.reg [] [⟨some 42, some (.move (.tmp 0)), none⟩])
  (.block 0 (.seq (.seq (.reg [] [⟨some 44, some (.binOp .eql Zc (.tmp 42) (.const (.int .i64 33)) Zc), none⟩,
 ⟨some 43, some (.assign (.tmp 44)), none⟩])
  (.cond (.tmp 43) .skip
  (.seq (.reg [] [⟨some 45, some (.binOp .eql Zc (.tmp 42) (.const (.int .i64 34)) Zc), none⟩,
 ⟨some 43, some (.assign (.tmp 45)), none⟩])
  (.cond (.tmp 43) .skip
  (.seq (.reg [] [⟨some 46, some (.binOp .eql Zc (.tmp 42) (.const (.int .i64 35)) Zc), none⟩,
 ⟨some 43, some (.assign (.tmp 46)), none⟩])
  (.cond (.tmp 43) .skip
  (.reg [] [⟨some 47, some (.binOp .eql Zc (.tmp 42) (.const (.int .i64 36)) Zc), none⟩,
 ⟨some 43, some (.assign (.tmp 47)), none⟩])))))))
  (.cond (.tmp 43) (.reg [] [⟨some 48, some (.move (.tmp 8)), none⟩,
 ⟨some 49, some (.call ⟨(.value (.func Zcl)), #[.tmp 48], #[Zg]⟩), none⟩,
 ⟨some 50, some (.move (.tmp 9)), none⟩,
 ⟨some 51, some (.call ⟨(.value (.func Zcl)), #[.tmp 50], #[Zg]⟩), none⟩,
 ⟨some 8, some (.assign (.tmp 49)), none⟩,
 ⟨some 9, some (.assign (.tmp 51)), none⟩])
  .skip))))
  (.seq (.seq (.reg [] [⟨some 52, some (.move (.tmp 0)), none⟩])
  (.block 1 (.seq (.seq (.reg [] [⟨some 54, some (.binOp .eql Zc (.tmp 52) (.const (.int .i64 29)) Zc), none⟩,
 ⟨some 53, some (.assign (.tmp 54)), none⟩])
  (.cond (.tmp 53) .skip
  (.reg [] [⟨some 55, some (.binOp .eql Zc (.tmp 52) (.const (.int .i64 33)) Zc), none⟩,
 ⟨some 53, some (.assign (.tmp 55)), none⟩])))
  (.cond (.tmp 53) (.seq (.reg [] [⟨some 56, some (.move (.tmp 8)), none⟩,
 ⟨some 57, some (.move (.tmp 9)), none⟩,
 ⟨some 58, some (.call ⟨(.value (.func Zb1)), #[.tmp 56, .tmp 57], #[Zg, Zg]⟩), none⟩,
 ⟨some 59, some (.call ⟨(.value (.func Z9)), #[.tmp 58], #[Zi]⟩), none⟩,
 ⟨none, some (.store Za (.tmp 6) (.tmp 59)), none⟩,
 ⟨some 7, some (.assign (.const (.int .i64 0))), none⟩])
  .ret)
  (.seq (.seq (.reg [] [⟨some 61, some (.binOp .eql Zc (.tmp 52) (.const (.int .i64 30)) Zc), none⟩,
 ⟨some 60, some (.assign (.tmp 61)), none⟩])
  (.cond (.tmp 60) .skip
  (.reg [] [⟨some 62, some (.binOp .eql Zc (.tmp 52) (.const (.int .i64 34)) Zc), none⟩,
 ⟨some 60, some (.assign (.tmp 62)), none⟩])))
  (.cond (.tmp 60) (.seq (.reg [] [⟨some 63, some (.move (.tmp 9)), none⟩,
 ⟨some 64, some (.move (.tmp 8)), none⟩,
 ⟨some 65, some (.call ⟨(.value (.func Zb1)), #[.tmp 63, .tmp 64], #[Zg, Zg]⟩), none⟩,
 ⟨some 66, some (.unOp .not Zi (.tmp 65)), none⟩,
 ⟨some 67, some (.call ⟨(.value (.func Z9)), #[.tmp 66], #[Zi]⟩), none⟩,
 ⟨none, some (.store Za (.tmp 6) (.tmp 67)), none⟩,
 ⟨some 7, some (.assign (.const (.int .i64 0))), none⟩])
  .ret)
  (.seq (.seq (.reg [] [⟨some 69, some (.binOp .eql Zc (.tmp 52) (.const (.int .i64 31)) Zc), none⟩,
 ⟨some 68, some (.assign (.tmp 69)), none⟩])
  (.cond (.tmp 68) .skip
  (.reg [] [⟨some 70, some (.binOp .eql Zc (.tmp 52) (.const (.int .i64 35)) Zc), none⟩,
 ⟨some 68, some (.assign (.tmp 70)), none⟩])))
  (.cond (.tmp 68) (.seq (.reg [] [⟨some 71, some (.move (.tmp 9)), none⟩,
 ⟨some 72, some (.move (.tmp 8)), none⟩,
 ⟨some 73, some (.call ⟨(.value (.func Zb1)), #[.tmp 71, .tmp 72], #[Zg, Zg]⟩), none⟩,
 ⟨some 74, some (.call ⟨(.value (.func Z9)), #[.tmp 73], #[Zi]⟩), none⟩,
 ⟨none, some (.store Za (.tmp 6) (.tmp 74)), none⟩,
 ⟨some 7, some (.assign (.const (.int .i64 0))), none⟩])
  .ret)
  (.seq (.seq (.reg [] [⟨some 76, some (.binOp .eql Zc (.tmp 52) (.const (.int .i64 32)) Zc), none⟩,
 ⟨some 75, some (.assign (.tmp 76)), none⟩])
  (.cond (.tmp 75) .skip
  (.reg [] [⟨some 77, some (.binOp .eql Zc (.tmp 52) (.const (.int .i64 36)) Zc), none⟩,
 ⟨some 75, some (.assign (.tmp 77)), none⟩])))
  (.cond (.tmp 75) (.seq (.reg [] [⟨some 78, some (.move (.tmp 8)), none⟩,
 ⟨some 79, some (.move (.tmp 9)), none⟩,
 ⟨some 80, some (.call ⟨(.value (.func Zb1)), #[.tmp 78, .tmp 79], #[Zg, Zg]⟩), none⟩,
 ⟨some 81, some (.unOp .not Zi (.tmp 80)), none⟩,
 ⟨some 82, some (.call ⟨(.value (.func Z9)), #[.tmp 81], #[Zi]⟩), none⟩,
 ⟨none, some (.store Za (.tmp 6) (.tmp 82)), none⟩,
 ⟨some 7, some (.assign (.const (.int .i64 0))), none⟩])
  .ret)
  (.seq (.reg [] [⟨some 84, some (.binOp .eql Zc (.tmp 52) (.const (.int .i64 8)) Zc), none⟩,
 ⟨some 83, some (.assign (.tmp 84)), none⟩])
  (.cond (.tmp 83) (.seq (.reg [] [⟨some 85, some (.load Za (.tmp 4)), none⟩,
 ⟨some 86, some (.load Za (.tmp 5)), none⟩,
 ⟨some 87, some (.binOp .eql Za (.tmp 85) (.tmp 86) Za), none⟩,
 ⟨some 88, some (.call ⟨(.value (.func Z9)), #[.tmp 87], #[Zi]⟩), none⟩,
 ⟨none, some (.store Za (.tmp 6) (.tmp 88)), none⟩,
 ⟨some 7, some (.assign (.const (.int .i64 0))), none⟩])
  .ret)
  (.seq (.reg [] [⟨some 90, some (.binOp .eql Zc (.tmp 52) (.const (.int .i64 37)) Zc), none⟩,
 ⟨some 89, some (.assign (.tmp 90)), none⟩])
  (.cond (.tmp 89) (.seq (.reg [] [⟨some 91, some (.load Za (.tmp 4)), none⟩,
 ⟨some 92, some (.load Za (.tmp 5)), none⟩,
 ⟨some 93, some (.binOp .eql Za (.tmp 91) (.tmp 92) Za), none⟩,
 ⟨some 94, some (.buildSlice Zg 1 #[(0, (.tmp 93))]), none⟩,
 ⟨some 95, some (.call ⟨(.value (.func Z0)), #[.tmp 94], #[Zg]⟩), none⟩,
 ⟨none, some (.store Za (.tmp 6) (.tmp 95)), none⟩,
 ⟨some 7, some (.assign (.const (.int .i64 0))), none⟩])
  .ret)
  .skip))))))))))))))
  (.seq (.reg [] [⟨some 96, some (.build Za #[]), none⟩,
 ⟨none, some (.store Za (.tmp 6) (.tmp 96)), none⟩,
 ⟨some 7, some (.assign (.const (.int .i64 11))), none⟩])
  .ret))))))))
theorem Zil {a0 a1 a2 : AV} {H : AHeap} : R Zc1 [a0, a1, a2] H = fnK Tryz.prog [] H [(.cell 6 Za), (.tmp 7)] (evalL Tryz.prog KT R Zca (Env.args [a0, a1, a2] 0) H) :=
  runs_body (D := DT) (f := Zc1) Tryz.func50 (by kernel_rfl) (by kernel_rfl) (by kernel_rfl) (by kernel_rfl) (by kernel_rfl) (Nat.le_of_ble_eq_true rfl)
end Go.Proofs.YtiaoojghohfkjaaGreat
end
