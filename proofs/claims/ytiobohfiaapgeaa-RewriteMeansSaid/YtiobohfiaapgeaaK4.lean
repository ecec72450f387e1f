/- Texts AT1 of this claim, one behind the other. -/
import Derived.Test.YtiobohfiaapgeaaChecked
import Derived.Test.YtiobohfiaapgeaaK3
section
namespace Go.Proofs.Ytiobohfiaapgeaa
open Go.RowKit
def Zd : TypeId := 3
def Z8 : TypeId := 4
def Zcg : TypeId := 9
def Zm : TypeId := 22
def Ze : TypeId := 24
def Zbd : TypeId := 29
def Z0 : TypeId := 32
def Zf : TypeId := 35
def Za : TypeId := 37
def Zc : TypeId := 39
def Z1 : TypeId := 49
def Zcl : TypeId := 59
def Zc1 : TypeId := 60
def Z3 : TypeId := 62
def Zi : TypeId := 63
def Zch : TypeId := 64
def Zs : TypeId := 66
def Zfy : TypeId := 68
def Zbw : TypeId := 73
def Zbx : TypeId := 77
def Ze4 : TypeId := 80
def Zk8 : TypeId := 82
def Zb2 : TypeId := 85
def Zp : TypeId := 86
def Zb : TypeId := 96
def Zk6 : TypeId := 101
def Zv : TypeId := 103
def Zhp : TypeId := 112
def Zei : TypeId := 119
def Zea : TypeId := 120
def Zem : TypeId := 127
def Ze5 : FuncId := 3
def Zdl : FuncId := 4
def Zbv : FuncId := 5
def Zdh : FuncId := 6
def Zcc : FuncId := 7
def Zcm : FuncId := 8
def Zcd : FuncId := 9
def Z9 : FuncId := 10
def Zu : FuncId := 11
def Zdc : FuncId := 12
def Z4 : FuncId := 13
def Zex : FuncId := 14
def Zj : FuncId := 15
def Zcu : FuncId := 16
def Zfc : FuncId := 17
def Zq : FuncId := 18
def Zl : FuncId := 19
def Zdd : FuncId := 20
def Zc7 : FuncId := 21
def Zdm : FuncId := 22
def Zdi : FuncId := 23
def Zco : FuncId := 24
def Zc8 : FuncId := 25
def Zfd : FuncId := 26
def Zn : FuncId := 27
def Zcq : FuncId := 28
def Zcr : FuncId := 29
def Zb3 : FuncId := 30
def Zfj : FuncId := 31
def Zf4 : FuncId := 32
def Zfk : FuncId := 33
def Zdr : FuncId := 34
def Zg : FuncId := 35
def Zbi : FuncId := 36
def Zbk : FuncId := 37
def Zbr : FuncId := 38
def Zd1 : FuncId := 39
def Zf5 : FuncId := 40
def Zfe : FuncId := 41
def Zez : FuncId := 42
def Zy : FuncId := 43
def Zeq : FuncId := 44
def Zbb : FuncId := 45
def Z2 : FuncId := 46
def Zh : FuncId := 47
def Zby : FuncId := 48
def Zeb : FuncId := 49
def Zbm : FuncId := 50
def Zz : FuncId := 51
def Zcw : FuncId := 52
def Zcp : FuncId := 53
def Zcb : FuncId := 54
def Zdt : FuncId := 55
def Zgo : FuncId := 56
def Ze0 : FuncId := 57
def Zgc : FuncId := 58
def Z6 : FuncId := 59
def Z5 : FuncId := 60
def Ze6 : FuncId := 61
def Zcn : FuncId := 62
def Ze7 : FuncId := 63
def Zc2 : FuncId := 64
def Zd2 : FuncId := 65
def Zc6 : FuncId := 66
def Zd3 : FuncId := 67
def Zd4 : FuncId := 68
def Zdj : FuncId := 69
def Zd5 : FuncId := 70
def Zd6 : FuncId := 71
def Zd7 : FuncId := 72
def Zbt : FuncId := 73
def Zhc : FuncId := 74
def Zec : FuncId := 75
def Zfl : FuncId := 76
def Zf6 : FuncId := 77
def Zey : FuncId := 78
def Zf7 : FuncId := 79
def Zgp : FuncId := 80
def Zhd : FuncId := 81
def Zfz : FuncId := 82
def Zbe : FuncId := 83
def Z7 : FuncId := 84
def Zb6 : FuncId := 85
def Zde : FuncId := 86
def Zbg : FuncId := 87
def Zba : FuncId := 88
def Zck : FuncId := 89
def Ze1 : FuncId := 90
def Zdu : FuncId := 91
def Ze2 : FuncId := 92
def Zej : FuncId := 93
def Zbh : FuncId := 94
def Zce : FuncId := 95
def Zbl : FuncId := 96
def Zcf : FuncId := 97
def Zcs : FuncId := 98
def Zdx : FuncId := 99
def Zdv : FuncId := 100
def Zgi : FuncId := 101
def Zbf : FuncId := 102
def Zek : FuncId := 103
def Zel : FuncId := 104
def Zct : FuncId := 105
def KT : TypeId → Option (List Sc) := fun t => if t = Za then some [(.i .i64), (.i .u64), (.i .u64)] else if t = Zc then some [(.i .i64), (.i .i64), (.i .i64), (.i .i64), (.i .i64), (.i .i64), (.i .i64), (.i .i64), (.i .u64), (.i .u64), .s] else if t = Zb then some [(.i .u64), (.i .u64)] else none
def DT : Quiets := fun f r => if f = Zdl then (if r = 17 then [3, 6, 801, 997, 1011] else []) else if f = Zdh then (if r = 18 then [5, 8, 10, 12, 999, 1012] else []) else if f = Zu then (if r = 9 then [10, 17, 22, 24, 1011] else if r = 10 then [3, 7, 801, 997, 1008] else []) else if f = Z4 then (if r = 12 then [5, 8, 10, 12] else if r = 1000000 then [0] else []) else if f = Zc7 then (if r = 1000000 then [0, 0] else []) else if f = Zdm then (if r = 1000000 then [0] else []) else if f = Zc8 then (if r = 1000000 then [0] else []) else if f = Zb3 then (if r = 1000000 then [0] else []) else if f = Zfk then (if r = 10 then [14, 15, 6215] else []) else if f = Zbi then (if r = 4 then [10] else []) else if f = Zd1 then (if r = 3 then [12, 13] else []) else if f = Zy then (if r = 2 then [8, 9, 5609] else []) else if f = Zbb then (if r = 5 then [10] else if r = 12 then [10] else []) else if f = Z2 then (if r = 2 then [3, 5, 999, 1006] else []) else if f = Zby then (if r = 2 then [10] else []) else if f = Zz then (if r = 3 then [10] else []) else if f = Z5 then (if r = 10 then [3] else if r = 12 then [2, 5, 997, 1006] else []) else if f = Zdj then (if r = 1 then [3] else []) else if f = Zhc then (if r = 4 then [3, 4] else if r = 6 then [3, 4] else []) else if f = Zec then (if r = 3 then [1, 5] else []) else if f = Zey then (if r = 8 then [1, 3, 5, 11, 12] else []) else if f = Zgp then (if r = 4 then [4, 6, 7] else if r = 6 then [5] else if r = 8 then [5] else []) else if f = Zck then (if r = 1 then [1] else []) else if f = Zdu then (if r = 1 then [1, 4, 5] else if r = 16 then [3, 5, 10, 11] else if r = 17 then [1, 3] else if r = 19 then [3, 5, 10, 11] else if r = 20 then [1] else []) else if f = Zej then (if r = 1 then [1, 4, 5] else []) else if f = Zbl then (if r = 1 then [2] else []) else if f = Zcs then (if r = 2 then [1, 2, 3, 1006] else []) else if f = Zdx then (if r = 2 then [3, 4] else []) else if f = Zgi then (if r = 1 then [3, 5, 10, 11] else if r = 5 then [1] else if r = 7 then [2] else []) else if f = Zct then (if r = 10 then [3] else if r = 11 then [1, 2, 999, 1005] else []) else []
noncomputable def R : Calling := runs Try.prog KT DT
theorem good : Good Try.prog KT := by
  refine ⟨fun t sh h => ?_, Try.checked.mixed⟩
  unfold KT at h
  split at h
  · rename_i ht; subst ht; cases h; exact keyOK_of (d := 8) (by kernel_rfl) (by omega) (by kernel_rfl) (by kernel_rfl)
  split at h
  · rename_i ht; subst ht; cases h; exact keyOK_of (d := 8) (by kernel_rfl) (by omega) (by kernel_rfl) (by kernel_rfl)
  split at h
  · rename_i ht; subst ht; cases h; exact keyOK_of (d := 8) (by kernel_rfl) (by omega) (by kernel_rfl) (by kernel_rfl)
  cases h
@[simp] theorem ty0 : lnS Try.prog Z0 = .slice := by kernel_rfl
@[simp] theorem ty1 : eszS Try.prog Z0 = some 1 := by kernel_rfl
@[simp] theorem ty2 : ldS Try.prog Zd = some none := by kernel_rfl
@[simp] theorem ty3 : tZ Try.prog Zc = some [(.int .i64 0), (.int .i64 0), (.int .i64 0), (.int .i64 0), (.int .i64 0), (.int .i64 0), (.int .i64 0), (.int .i64 0), (u 0#64), (u 0#64), (.str .empty)] := by kernel_rfl
@[simp] theorem ty4 : tS Try.prog Zc = some 11 := by kernel_rfl
@[simp] theorem ty5 : faS Try.prog Zc 0 = some 0 := by kernel_rfl
@[simp] theorem ty6 : eqS Try.prog Ze = .ptr := by kernel_rfl
@[simp] theorem ty7 : blS Try.prog Zc = some true := by kernel_rfl
@[simp] theorem ty8 : plS Try.prog Zc 0 = some (0, 1) := by kernel_rfl
@[simp] theorem ty9 : plS Try.prog Zc 1 = some (1, 1) := by kernel_rfl
@[simp] theorem ty10 : plS Try.prog Zc 8 = some (10, 1) := by kernel_rfl
@[simp] theorem ty11 : tZ Try.prog Za = some [(.int .i64 0), (u 0#64), (u 0#64)] := by kernel_rfl
@[simp] theorem ty12 : blS Try.prog Za = some true := by kernel_rfl
@[simp] theorem ty13 : plS Try.prog Za 0 = some (0, 1) := by kernel_rfl
@[simp] theorem ty14 : plS Try.prog Za 1 = some (1, 1) := by kernel_rfl
@[simp] theorem ty15 : plS Try.prog Zc 7 = some (7, 3) := by kernel_rfl
@[simp] theorem ty16 : plS Try.prog Zc 2 = some (2, 1) := by kernel_rfl
@[simp] theorem ty17 : plS Try.prog Zc 3 = some (3, 1) := by kernel_rfl
@[simp] theorem ty18 : faS Try.prog Zc 7 = some 7 := by kernel_rfl
@[simp] theorem ty19 : ldS Try.prog Za = some (some 3) := by kernel_rfl
@[simp] theorem ty20 : KT Za = some [(.i .i64), (.i .u64), (.i .u64)] := by kernel_rfl
@[simp] theorem ty21 : mkeyS Try.prog KT Zch = some (.one (.i .i64)) := by kernel_rfl
@[simp] theorem ty22 : mapS Try.prog KT Zch = some ((.one (.i .i64)), (.int .i64 0)) := by kernel_rfl
@[simp] theorem ty23 : tZ Try.prog Zs = some [.nilp, .nilm, (.int .i64 0)] := by kernel_rfl
@[simp] theorem ty24 : blS Try.prog Zs = some true := by kernel_rfl
@[simp] theorem ty25 : plS Try.prog Zs 0 = some (0, 1) := by kernel_rfl
@[simp] theorem ty26 : plS Try.prog Zs 1 = some (1, 1) := by kernel_rfl
@[simp] theorem ty27 : faS Try.prog Zs 1 = some 1 := by kernel_rfl
@[simp] theorem ty28 : ldS Try.prog Zch = some none := by kernel_rfl
@[simp] theorem ty29 : faS Try.prog Zc 2 = some 2 := by kernel_rfl
@[simp] theorem ty30 : faS Try.prog Zc 3 = some 3 := by kernel_rfl
@[simp] theorem ty31 : faS Try.prog Zc 4 = some 4 := by kernel_rfl
@[simp] theorem ty32 : tS Try.prog Zd = some 1 := by kernel_rfl
@[simp] theorem ty33 : ldS Try.prog Zc = some (some 11) := by kernel_rfl
@[simp] theorem ty34 : faS Try.prog Zs 2 = some 2 := by kernel_rfl
@[simp] theorem ty35 : ldS Try.prog Zbd = some none := by kernel_rfl
@[simp] theorem ty36 : faS Try.prog Z3 1 = some 1 := by kernel_rfl
@[simp] theorem ty37 : ldS Try.prog Zm = some none := by kernel_rfl
@[simp] theorem ty38 : lnS Try.prog Zm = .slice := by kernel_rfl
@[simp] theorem ty39 : mkS Try.prog Zfy = some (1, 1, [(.bool false)]) := by kernel_rfl
@[simp] theorem ty40 : eszS Try.prog Zfy = some 1 := by kernel_rfl
@[simp] theorem ty41 : tS Try.prog Z8 = some 1 := by kernel_rfl
@[simp] theorem ty42 : ldS Try.prog Z8 = some none := by kernel_rfl
@[simp] theorem ty43 : eszS Try.prog Zm = some 11 := by kernel_rfl
@[simp] theorem ty44 : mkS Try.prog Z0 = some (1, 8, [(.int .i64 0)]) := by kernel_rfl
@[simp] theorem ty45 : bsS Try.prog Z0 = some (1, [(.int .i64 0)]) := by kernel_rfl
@[simp] theorem ty46 : faS Try.prog Zs 0 = some 0 := by kernel_rfl
@[simp] theorem ty47 : ldS Try.prog Ze = some none := by kernel_rfl
@[simp] theorem ty48 : tS Try.prog Zbd = some 1 := by kernel_rfl
@[simp] theorem ty49 : faS Try.prog Z3 2 = some 2 := by kernel_rfl
@[simp] theorem ty50 : ldS Try.prog Zcl = some none := by kernel_rfl
@[simp] theorem ty51 : mkeyS Try.prog KT Zcl = some (.many [(.i .i64), (.i .i64), (.i .i64), (.i .i64), (.i .i64), (.i .i64), (.i .i64), (.i .i64), (.i .u64), (.i .u64), .s]) := by kernel_rfl
@[simp] theorem ty52 : mapS Try.prog KT Zcl = some ((.many [(.i .i64), (.i .i64), (.i .i64), (.i .i64), (.i .i64), (.i .i64), (.i .i64), (.i .i64), (.i .u64), (.i .u64), .s]), (.int .i64 0)) := by kernel_rfl
@[simp] theorem ty53 : faS Try.prog Z3 0 = some 0 := by kernel_rfl
@[simp] theorem ty54 : bsS Try.prog Zm = some (11, [(.int .i64 0), (.int .i64 0), (.int .i64 0), (.int .i64 0), (.int .i64 0), (.int .i64 0), (.int .i64 0), (.int .i64 0), (u 0#64), (u 0#64), (.str .empty)]) := by kernel_rfl
@[simp] theorem ty55 : mkS Try.prog Zm = some (11, 96, [(.int .i64 0), (.int .i64 0), (.int .i64 0), (.int .i64 0), (.int .i64 0), (.int .i64 0), (.int .i64 0), (.int .i64 0), (u 0#64), (u 0#64), (.str .empty)]) := by kernel_rfl
@[simp] theorem ty56 : tS Try.prog Zm = some 1 := by kernel_rfl
@[simp] theorem ty57 : faS Try.prog Z3 3 = some 3 := by kernel_rfl
@[simp] theorem ty58 : ldS Try.prog Zc1 = some none := by kernel_rfl
@[simp] theorem ty59 : faS Try.prog Zc 8 = some 10 := by kernel_rfl
@[simp] theorem ty60 : ldS Try.prog Zcg = some none := by kernel_rfl
@[simp] theorem ty61 : mkeyS Try.prog KT Zc1 = some (.one .s) := by kernel_rfl
@[simp] theorem ty62 : mapS Try.prog KT Zc1 = some ((.one .s), (.int .i64 0)) := by kernel_rfl
@[simp] theorem ty63 : tZ Try.prog Ze4 = some [(.int .i64 0), (.int .i64 0), (.int .i64 0)] := by kernel_rfl
@[simp] theorem ty64 : blS Try.prog Ze4 = some true := by kernel_rfl
@[simp] theorem ty65 : plS Try.prog Ze4 0 = some (0, 1) := by kernel_rfl
@[simp] theorem ty66 : plS Try.prog Ze4 1 = some (1, 1) := by kernel_rfl
@[simp] theorem ty67 : plS Try.prog Ze4 2 = some (2, 1) := by kernel_rfl
@[simp] theorem ty68 : arrS Try.prog Ze4 = some (3, 1) := by kernel_rfl
@[simp] theorem ty69 : arrL Try.prog Ze4 = some none := by kernel_rfl
@[simp] theorem ty70 : faS Try.prog Za 0 = some 0 := by kernel_rfl
@[simp] theorem ty71 : faS Try.prog Zc 1 = some 1 := by kernel_rfl
@[simp] theorem ty72 : faS Try.prog Zc 5 = some 5 := by kernel_rfl
@[simp] theorem ty73 : faS Try.prog Zc 6 = some 6 := by kernel_rfl
@[simp] theorem ty74 : faS Try.prog Za 1 = some 1 := by kernel_rfl
@[simp] theorem ty75 : ldS Try.prog Zf = some none := by kernel_rfl
@[simp] theorem ty76 : faS Try.prog Za 2 = some 2 := by kernel_rfl
@[simp] theorem ty77 : tZ Try.prog Zb = some [(u 0#64), (u 0#64)] := by kernel_rfl
@[simp] theorem ty78 : tS Try.prog Zb = some 2 := by kernel_rfl
@[simp] theorem ty79 : faS Try.prog Zb 0 = some 0 := by kernel_rfl
@[simp] theorem ty80 : faS Try.prog Zb 1 = some 1 := by kernel_rfl
@[simp] theorem ty81 : plS Try.prog Za 2 = some (2, 1) := by kernel_rfl
@[simp] theorem ty82 : tS Try.prog Za = some 3 := by kernel_rfl
@[simp] theorem ty83 : blS Try.prog Zb = some true := by kernel_rfl
@[simp] theorem ty84 : ldS Try.prog Zb = some (some 2) := by kernel_rfl
@[simp] theorem ty85 : plS Try.prog Zb 0 = some (0, 1) := by kernel_rfl
@[simp] theorem ty86 : plS Try.prog Zb 1 = some (1, 1) := by kernel_rfl
@[simp] theorem ty87 : cvS Try.prog Zd Zem = some (some .u64) := by kernel_rfl
@[simp] theorem ty88 : bsS Try.prog Zp = some (3, [(.int .i64 0), (u 0#64), (u 0#64)]) := by kernel_rfl
@[simp] theorem ty89 : mkS Try.prog Zp = some (3, 24, [(.int .i64 0), (u 0#64), (u 0#64)]) := by kernel_rfl
@[simp] theorem ty90 : lnS Try.prog Zp = .slice := by kernel_rfl
@[simp] theorem ty91 : eszS Try.prog Zp = some 3 := by kernel_rfl
@[simp] theorem ty92 : tZ Try.prog Zv = some [.nilf] := by kernel_rfl
@[simp] theorem ty93 : tS Try.prog Zv = some 1 := by kernel_rfl
@[simp] theorem ty94 : faS Try.prog Zv 0 = some 0 := by kernel_rfl
@[simp] theorem ty95 : ldS Try.prog Zk6 = some none := by kernel_rfl
@[simp] theorem ty96 : blS Try.prog Zv = some true := by kernel_rfl
@[simp] theorem ty97 : plS Try.prog Zv 0 = some (0, 1) := by kernel_rfl
@[simp] theorem ty98 : ldS Try.prog Zv = some (some 1) := by kernel_rfl
@[simp] theorem ty99 : ldS Try.prog Zhp = some none := by kernel_rfl
@[simp] theorem ty100 : eqS Try.prog Z8 = .bool := by kernel_rfl
@[simp] theorem ty101 : fdS Try.prog Zb 0 = some (0, none) := by kernel_rfl
@[simp] theorem ty102 : fdS Try.prog Za 1 = some (1, none) := by kernel_rfl
@[simp] theorem ty103 : KT Zb = some [(.i .u64), (.i .u64)] := by kernel_rfl
@[simp] theorem ty104 : tS Try.prog Zf = some 1 := by kernel_rfl
@[simp] theorem ty105 : cvS Try.prog Zd Zf = some (some .u64) := by kernel_rfl
@[simp] theorem ty106 : cvS Try.prog Zf Zd = some (some .i64) := by kernel_rfl
@[simp] theorem ty107 : plS Try.prog Zc 5 = some (5, 1) := by kernel_rfl
@[simp] theorem ty108 : plS Try.prog Zc 6 = some (6, 1) := by kernel_rfl
@[simp] theorem ty109 : tZ Try.prog Zei = some [(.int .i64 0), (.int .i64 0)] := by kernel_rfl
@[simp] theorem ty110 : blS Try.prog Zei = some true := by kernel_rfl
@[simp] theorem ty111 : plS Try.prog Zei 0 = some (0, 1) := by kernel_rfl
@[simp] theorem ty112 : plS Try.prog Zei 1 = some (1, 1) := by kernel_rfl
@[simp] theorem ty113 : tZ Try.prog Zea = some [(.int .i64 0), (.int .i64 0), (.int .i64 0), (.int .i64 0)] := by kernel_rfl
@[simp] theorem ty114 : blS Try.prog Zea = some true := by kernel_rfl
@[simp] theorem ty115 : plS Try.prog Zea 0 = some (0, 2) := by kernel_rfl
@[simp] theorem ty116 : plS Try.prog Zea 1 = some (2, 2) := by kernel_rfl
@[simp] theorem ty117 : arrS Try.prog Zea = some (2, 2) := by kernel_rfl
@[simp] theorem ty118 : arrL Try.prog Zea = some (some 2) := by kernel_rfl
@[simp] theorem ty119 : tS Try.prog Zei = some 2 := by kernel_rfl
@[simp] theorem ty120 : arrS Try.prog Zei = some (2, 1) := by kernel_rfl
@[simp] theorem ty121 : arrL Try.prog Zei = some none := by kernel_rfl
@[simp] theorem ty122 : tZ Try.prog Z3 = some [(.int .i64 0), .nils, .nilm, .nilm] := by kernel_rfl
@[simp] theorem ty123 : blS Try.prog Z3 = some true := by kernel_rfl
@[simp] theorem ty124 : plS Try.prog Z3 0 = some (0, 1) := by kernel_rfl
@[simp] theorem ty125 : plS Try.prog Z3 2 = some (2, 1) := by kernel_rfl
@[simp] theorem ty126 : plS Try.prog Z3 3 = some (3, 1) := by kernel_rfl
@[simp] theorem ty127 : lnS Try.prog Zcg = .str := by kernel_rfl
@[simp] theorem ty128 : plS Try.prog Zc 4 = some (4, 1) := by kernel_rfl
@[simp] theorem ty129 : lnS Try.prog Z1 = .slice := by kernel_rfl
@[simp] theorem ty130 : mkeyS Try.prog KT Zbw = some (.one .s) := by kernel_rfl
@[simp] theorem ty131 : mapS Try.prog KT Zbw = some ((.one .s), (.agg [(.int .i64 0), (u 0#64), (u 0#64)])) := by kernel_rfl
@[simp] theorem ty132 : tZ Try.prog Zbx = some [(.str .empty), (.int .i64 0), (u 0#64), (u 0#64)] := by kernel_rfl
@[simp] theorem ty133 : blS Try.prog Zbx = some true := by kernel_rfl
@[simp] theorem ty134 : plS Try.prog Zbx 0 = some (0, 1) := by kernel_rfl
@[simp] theorem ty135 : plS Try.prog Zbx 1 = some (1, 3) := by kernel_rfl
@[simp] theorem ty136 : bsS Try.prog Z1 = some (4, [(.str .empty), (.int .i64 0), (u 0#64), (u 0#64)]) := by kernel_rfl
@[simp] theorem ty137 : mkS Try.prog Z1 = some (4, 40, [(.str .empty), (.int .i64 0), (u 0#64), (u 0#64)]) := by kernel_rfl
@[simp] theorem ty138 : eszS Try.prog Z1 = some 4 := by kernel_rfl
@[simp] theorem ty139 : ldS Try.prog Zbx = some (some 4) := by kernel_rfl
@[simp] theorem ty140 : tS Try.prog Zbx = some 4 := by kernel_rfl
@[simp] theorem ty141 : faS Try.prog Zbx 0 = some 0 := by kernel_rfl
@[simp] theorem ty142 : faS Try.prog Zbx 1 = some 1 := by kernel_rfl
@[simp] theorem ty143 : mkeyS Try.prog KT Zb2 = some (.one (.i .i64)) := by kernel_rfl
@[simp] theorem ty144 : mapS Try.prog KT Zb2 = some ((.one (.i .i64)), (.agg [(.int .i64 0), (u 0#64), (u 0#64)])) := by kernel_rfl
def Zer : LCode := (.seq (.seq (.reg [] [⟨some 118, some (.move (.tmp 19)), none⟩,
 ⟨some 119, some (.move (.tmp 15)), none⟩,
 ⟨some 120, some (.call ⟨(.builtin .len), #[.tmp 119], #[Z0]⟩), none⟩,
 ⟨some 121, some (.binOp .lss Zd (.tmp 118) (.tmp 120) Zd), none⟩])
  (.cond (.tmp 121) .skip
  (.exit 2)))
  (.seq (.block 3 (.reg [] [⟨some 124, some (.move (.tmp 18)), none⟩,
 ⟨some 125, some (.move (.tmp 124)), none⟩,
 ⟨some 126, some (.move (.tmp 15)), some (some 125, false)⟩,
 ⟨some 127, some (.move (.tmp 19)), some (some 125, false)⟩,
 ⟨some 128, some (.indexAddr Z0 (.tmp 126) (.tmp 127)), some (some 125, false)⟩,
 ⟨some 129, some (.load Zd (.tmp 128)), some (some 125, false)⟩,
 ⟨some 130, some (.move (.tmp 16)), some (some 125, false)⟩,
 ⟨some 131, some (.move (.tmp 17)), some (some 125, false)⟩,
 ⟨some 132, some (.indexAddr Z0 (.tmp 130) (.tmp 131)), some (some 125, false)⟩,
 ⟨some 133, some (.load Zd (.tmp 132)), some (some 125, false)⟩,
 ⟨some 134, some (.binOp .eql Zd (.tmp 129) (.tmp 133) Zd), some (some 125, false)⟩,
 ⟨some 135, some (.pick (.tmp 125) (.const (.bool true)) (.tmp 134)), none⟩,
 ⟨some 18, some (.assign (.tmp 135)), none⟩]))
  (.reg [] [⟨some 122, some (.move (.tmp 19)), none⟩,
 ⟨some 123, some (.binOp .add Zd (.tmp 122) (.const (.int .i64 1)) Zd), none⟩,
 ⟨some 19, some (.assign (.tmp 123)), none⟩])))
def Zes : LCode := (.seq (.seq (.reg [] [⟨some 112, some (.move (.tmp 17)), none⟩,
 ⟨some 113, some (.move (.tmp 16)), none⟩,
 ⟨some 114, some (.call ⟨(.builtin .len), #[.tmp 113], #[Z0]⟩), none⟩,
 ⟨some 115, some (.binOp .lss Zd (.tmp 112) (.tmp 114) Zd), none⟩])
  (.cond (.tmp 115) .skip
  (.exit 0)))
  (.seq (.block 1 (.seq (.reg [] [⟨some 18, some (.assign (.const (.bool false))), none⟩])
  (.seq (.seq (.reg [] [⟨some 19, some (.assign (.const (.int .i64 0))), none⟩])
  (.block 2 (.loop Zer)))
  (.seq (.reg [] [⟨some 136, some (.move (.tmp 18)), none⟩,
 ⟨some 137, some (.unOp .not Z8 (.tmp 136)), none⟩])
  (.cond (.tmp 137) (.seq (.reg [] [⟨some 4, some (.assign (.const (.bool false))), none⟩])
  .ret)
  .skip)))))
  (.reg [] [⟨some 116, some (.move (.tmp 17)), none⟩,
 ⟨some 117, some (.binOp .add Zd (.tmp 116) (.const (.int .i64 1)) Zd), none⟩,
 ⟨some 17, some (.assign (.tmp 117)), none⟩])))
@[simp] theorem Zil : defs Zer = [118, 119, 120, 121, 124, 125, 126, 127, 128, 129, 130, 131, 132, 133, 134, 135, 18, 122, 123, 19] := by rfl
@[simp] theorem Zim : defs Zes = [112, 113, 114, 115, 18, 19, 118, 119, 120, 121, 124, 125, 126, 127, 128, 129, 130, 131, 132, 133, 134, 135, 18, 122, 123, 19, 136, 137, 4, 116, 117, 17] := by rfl
def Zgq : LCode := (.seq (.reg [] [⟨some 4, some (.assign (.const (.bool false))), none⟩])
  (.seq (.seq (.reg [] [⟨some 22, some (.call ⟨(.value (.func Zcc)), #[], #[]⟩), none⟩,
 ⟨some 23, some (.unOp .not Z8 (.tmp 22)), none⟩])
  (.cond (.tmp 23) (.seq (.reg [] [⟨some 4, some (.assign (.const (.bool false))), none⟩])
  .ret)
  .skip))
  (.seq (.reg [] [⟨some 25, some (.move (.tmp 0)), none⟩,
 ⟨some 26, some (.call ⟨(.value (.func Zcm)), #[.tmp 25], #[Zm]⟩), none⟩,
 ⟨some 24, some (.move (.tmp 26)), none⟩,
 ⟨some 27, some (.extract (.tmp 24) 0), none⟩,
 ⟨some 28, some (.extract (.tmp 24) 1), none⟩,
 ⟨some 5, some (.assign (.tmp 27)), none⟩,
 ⟨some 6, some (.assign (.tmp 28)), none⟩])
  (.seq (.seq (.reg [] [⟨some 29, some (.move (.tmp 6)), none⟩,
 ⟨some 30, some (.unOp .not Z8 (.tmp 29)), none⟩])
  (.cond (.tmp 30) (.seq (.reg [] [⟨some 4, some (.assign (.const (.bool true))), none⟩])
  .ret)
  .skip))
  (.seq (.reg [] [⟨some 31, some (.move (.tmp 1)), none⟩,
 ⟨some 32, some (.move (.tmp 5)), none⟩,
 ⟨some 33, some (.call ⟨(.value (.func Z9)), #[.tmp 32], #[Ze]⟩), none⟩,
 ⟨some 34, some (.call ⟨(.value (.func Zcd)), #[.tmp 31, .tmp 33], #[Zd, Zd]⟩), none⟩,
 ⟨some 35, some (.binOp .add Zd (.const (.int .i64 1)) (.tmp 34) Zd), none⟩,
 ⟨some 1, some (.assign (.tmp 35)), none⟩])
  (.seq (.reg [] [⟨some 37, some (.move (.tmp 5)), none⟩,
 ⟨some 38, some (.move (.tmp 1)), none⟩,
 ⟨some 39, some (.call ⟨(.value (.func Zu)), #[.tmp 37, .tmp 38], #[Ze, Zd]⟩), none⟩,
 ⟨some 36, some (.move (.tmp 39)), none⟩,
 ⟨some 40, some (.extract (.tmp 36) 0), none⟩,
 ⟨some 41, some (.extract (.tmp 36) 1), none⟩,
 ⟨some 7, some (.assign (.tmp 40)), none⟩,
 ⟨some 8, some (.assign (.tmp 41)), none⟩])
  (.seq (.reg [] [⟨some 43, some (.move (.tmp 5)), none⟩,
 ⟨some 44, some (.move (.tmp 7)), none⟩,
 ⟨some 45, some (.call ⟨(.value (.func Zu)), #[.tmp 43, .tmp 44], #[Ze, Zd]⟩), none⟩,
 ⟨some 42, some (.move (.tmp 45)), none⟩,
 ⟨some 46, some (.extract (.tmp 42) 0), none⟩,
 ⟨some 47, some (.extract (.tmp 42) 1), none⟩,
 ⟨some 9, some (.assign (.tmp 46)), none⟩,
 ⟨some 10, some (.assign (.tmp 47)), none⟩])
  (.seq (.reg [] [⟨some 49, some (.move (.tmp 5)), none⟩,
 ⟨some 50, some (.move (.tmp 1)), none⟩,
 ⟨some 51, some (.call ⟨(.value (.func Zdc)), #[.tmp 49, .tmp 50], #[Ze, Zd]⟩), none⟩,
 ⟨some 48, some (.move (.tmp 51)), none⟩,
 ⟨some 52, some (.extract (.tmp 48) 0), none⟩,
 ⟨some 53, some (.extract (.tmp 48) 1), none⟩,
 ⟨some 11, some (.assign (.tmp 52)), none⟩,
 ⟨some 12, some (.assign (.tmp 53)), none⟩])
  (.seq (.reg [] [⟨some 55, some (.move (.tmp 5)), none⟩,
 ⟨some 56, some (.move (.tmp 7)), none⟩,
 ⟨some 57, some (.call ⟨(.value (.func Zdc)), #[.tmp 55, .tmp 56], #[Ze, Zd]⟩), none⟩,
 ⟨some 54, some (.move (.tmp 57)), none⟩,
 ⟨some 58, some (.extract (.tmp 54) 0), none⟩,
 ⟨some 59, some (.extract (.tmp 54) 1), none⟩,
 ⟨some 13, some (.assign (.tmp 58)), none⟩,
 ⟨some 14, some (.assign (.tmp 59)), none⟩])
  (.seq (.seq (.reg [] [⟨some 60, some (.move (.tmp 8)), none⟩,
 ⟨some 61, some (.binOp .eql Zd (.tmp 60) (.const (.int .i64 33)) Zd), none⟩,
 ⟨some 62, some (.move (.tmp 61)), none⟩,
 ⟨some 63, some (.move (.tmp 8)), some (some 62, false)⟩,
 ⟨some 64, some (.binOp .eql Zd (.tmp 63) (.const (.int .i64 0)) Zd), some (some 62, false)⟩,
 ⟨some 65, some (.move (.tmp 64)), some (some 62, false)⟩,
 ⟨some 66, some (.move (.tmp 10)), some (some 65, true)⟩,
 ⟨some 67, some (.binOp .eql Zd (.tmp 66) (.const (.int .i64 33)) Zd), some (some 65, true)⟩,
 ⟨some 68, some (.pick (.tmp 65) (.tmp 67) (.const (.bool false))), some (some 62, false)⟩,
 ⟨some 69, some (.pick (.tmp 62) (.const (.bool true)) (.tmp 68)), none⟩])
  (.cond (.tmp 69) (.seq (.reg [] [⟨some 4, some (.assign (.const (.bool true))), none⟩])
  .ret)
  .skip))
  (.seq (.seq (.reg [] [⟨some 70, some (.move (.tmp 8)), none⟩,
 ⟨some 71, some (.move (.tmp 10)), none⟩,
 ⟨some 72, some (.binOp .add Zd (.tmp 70) (.tmp 71) Zd), none⟩,
 ⟨some 73, some (.move (.tmp 12)), none⟩,
 ⟨some 74, some (.binOp .add Zd (.tmp 72) (.tmp 73) Zd), none⟩,
 ⟨some 75, some (.move (.tmp 14)), none⟩,
 ⟨some 76, some (.binOp .add Zd (.tmp 74) (.tmp 75) Zd), none⟩,
 ⟨some 77, some (.binOp .neq Zd (.tmp 76) (.const (.int .i64 0)) Zd), none⟩,
 ⟨some 78, some (.move (.tmp 77)), none⟩,
 ⟨some 79, some (.move (.tmp 9)), some (some 78, false)⟩,
 ⟨some 80, some (.move (.tmp 7)), some (some 78, false)⟩,
 ⟨some 81, some (.binOp .neq Zd (.tmp 79) (.tmp 80) Zd), some (some 78, false)⟩,
 ⟨some 82, some (.pick (.tmp 78) (.const (.bool true)) (.tmp 81)), none⟩,
 ⟨some 83, some (.move (.tmp 82)), none⟩,
 ⟨some 84, some (.move (.tmp 13)), some (some 83, false)⟩,
 ⟨some 85, some (.move (.tmp 11)), some (some 83, false)⟩,
 ⟨some 86, some (.binOp .mul Zd (.const (.int .i64 4)) (.tmp 85) Zd), some (some 83, false)⟩,
 ⟨some 87, some (.binOp .add Zd (.tmp 86) (.const (.int .i64 64)) Zd), some (some 83, false)⟩,
 ⟨some 88, some (.binOp .gtr Zd (.tmp 84) (.tmp 87) Zd), some (some 83, false)⟩,
 ⟨some 89, some (.pick (.tmp 83) (.const (.bool true)) (.tmp 88)), none⟩,
 ⟨some 90, some (.move (.tmp 89)), none⟩,
 ⟨some 91, some (.move (.tmp 11)), some (some 90, false)⟩,
 ⟨some 92, some (.move (.tmp 5)), some (some 90, false)⟩,
 ⟨some 93, some (.move (.tmp 1)), some (some 90, false)⟩,
 ⟨some 94, some (.call ⟨(.value (.func Z4)), #[.tmp 92, .tmp 93], #[Ze, Zd]⟩), some (some 90, false)⟩,
 ⟨some 95, some (.call ⟨(.builtin .len), #[.tmp 94], #[Z0]⟩), some (some 90, false)⟩,
 ⟨some 96, some (.binOp .neq Zd (.tmp 91) (.tmp 95) Zd), some (some 90, false)⟩,
 ⟨some 97, some (.pick (.tmp 90) (.const (.bool true)) (.tmp 96)), none⟩,
 ⟨some 98, some (.move (.tmp 97)), none⟩,
 ⟨some 99, some (.move (.tmp 13)), some (some 98, false)⟩,
 ⟨some 100, some (.move (.tmp 5)), some (some 98, false)⟩,
 ⟨some 101, some (.move (.tmp 7)), some (some 98, false)⟩,
 ⟨some 102, some (.call ⟨(.value (.func Z4)), #[.tmp 100, .tmp 101], #[Ze, Zd]⟩), some (some 98, false)⟩,
 ⟨some 103, some (.call ⟨(.builtin .len), #[.tmp 102], #[Z0]⟩), some (some 98, false)⟩,
 ⟨some 104, some (.binOp .neq Zd (.tmp 99) (.tmp 103) Zd), some (some 98, false)⟩,
 ⟨some 105, some (.pick (.tmp 98) (.const (.bool true)) (.tmp 104)), none⟩])
  (.cond (.tmp 105) (.seq (.reg [] [⟨some 4, some (.assign (.const (.bool false))), none⟩])
  .ret)
  .skip))
  (.seq (.reg [] [⟨some 106, some (.move (.tmp 5)), none⟩,
 ⟨some 107, some (.move (.tmp 1)), none⟩,
 ⟨some 108, some (.call ⟨(.value (.func Zex)), #[.tmp 106, .tmp 107], #[Ze, Zd]⟩), none⟩,
 ⟨some 109, some (.move (.tmp 5)), none⟩,
 ⟨some 110, some (.move (.tmp 7)), none⟩,
 ⟨some 111, some (.call ⟨(.value (.func Zex)), #[.tmp 109, .tmp 110], #[Ze, Zd]⟩), none⟩,
 ⟨some 15, some (.assign (.tmp 108)), none⟩,
 ⟨some 16, some (.assign (.tmp 111)), none⟩])
  (.seq (.seq (.reg [] [⟨some 17, some (.assign (.const (.int .i64 0))), none⟩])
  (.block 0 (.loop Zes)))
  (.seq (.reg [] [⟨some 139, some (.move (.tmp 5)), none⟩,
 ⟨some 140, some (.move (.tmp 7)), none⟩,
 ⟨some 141, some (.call ⟨(.value (.func Zj)), #[.tmp 139, .tmp 140], #[Ze, Zd]⟩), none⟩,
 ⟨some 138, some (.move (.tmp 141)), none⟩,
 ⟨some 142, some (.extract (.tmp 138) 0), none⟩,
 ⟨some 143, some (.extract (.tmp 138) 1), none⟩,
 ⟨some 20, some (.alloc Zc), none⟩,
 ⟨none, some (.store Zc (.tmp 20) (.tmp 142)), none⟩,
 ⟨some 21, some (.assign (.tmp 143)), none⟩])
  (.seq (.reg [] [⟨some 144, some (.move (.tmp 15)), none⟩,
 ⟨some 145, some (.call ⟨(.builtin .len), #[.tmp 144], #[Z0]⟩), none⟩,
 ⟨some 146, some (.binOp .gtr Zd (.tmp 145) (.const (.int .i64 0)) Zd), none⟩,
 ⟨some 147, some (.move (.tmp 146)), none⟩,
 ⟨some 148, some (.fieldAddr Zc (.tmp 20) 0), some (some 147, false)⟩,
 ⟨some 149, some (.load Zd (.tmp 148)), some (some 147, false)⟩,
 ⟨some 150, some (.binOp .eql Zd (.tmp 149) (.const (.int .i64 1)) Zd), some (some 147, false)⟩,
 ⟨some 151, some (.pick (.tmp 147) (.const (.bool true)) (.tmp 150)), none⟩,
 ⟨some 4, some (.assign (.tmp 151)), none⟩])
  .ret)))))))))))))))
theorem Zjk {a0 a1 : AV} {H : AHeap} : R Ze5 [a0, a1] H = fnK Try.prog [] H [(.tmp 4)] (evalL Try.prog KT R Zgq (Env.args [a0, a1] 0) H) :=
  runs_body (D := DT) (f := Ze5) Try.func3 (by kernel_rfl) (by kernel_rfl) (by kernel_rfl) (by kernel_rfl) (by kernel_rfl) (Nat.le_of_ble_eq_true rfl)
def Zen : LCode := (.seq (.seq (.reg [] [⟨some 148, some (.move (.tmp 21)), none⟩,
 ⟨some 149, some (.binOp .leq Zd (.tmp 148) (.const (.int .i64 28)) Zd), none⟩])
  (.cond (.tmp 149) .skip
  (.exit 0)))
  (.seq (.block 1 (.reg [] [⟨some 152, some (.move (.tmp 8)), none⟩,
 ⟨some 153, some (.move (.tmp 152)), none⟩,
 ⟨some 154, some (.move (.tmp 7)), some (some 153, true)⟩,
 ⟨some 155, some (.move (.tmp 21)), some (some 153, true)⟩,
 ⟨some 156, some (.move (.tmp 9)), some (some 153, true)⟩,
 ⟨some 157, some (.move (.tmp 19)), some (some 153, true)⟩,
 ⟨some 158, some (.build Zc #[(0, (.tmp 155)), (2, (.tmp 156)), (3, (.tmp 157))]), some (some 153, true)⟩,
 ⟨some 159, some (.move (.tmp 9)), some (some 153, true)⟩,
 ⟨some 160, some (.call ⟨(.value (.func Zq)), #[.tmp 154, .tmp 158, .tmp 159], #[Ze, Zc, Zd]⟩), some (some 153, true)⟩,
 ⟨some 161, some (.pick (.tmp 153) (.tmp 160) (.const (.bool false))), none⟩,
 ⟨some 8, some (.assign (.tmp 161)), none⟩]))
  (.reg [] [⟨some 150, some (.move (.tmp 21)), none⟩,
 ⟨some 151, some (.binOp .add Zd (.tmp 150) (.const (.int .i64 1)) Zd), none⟩,
 ⟨some 21, some (.assign (.tmp 151)), none⟩])))
def Zeo : LCode := (.seq (.seq (.reg [] [⟨some 244, some (.move (.tmp 22)), none⟩,
 ⟨some 245, some (.binOp .lss Zd (.tmp 244) (.const (.int .i64 8)) Zd), none⟩])
  (.cond (.tmp 245) .skip
  (.exit 2)))
  (.seq (.block 3 (.seq (.reg [] [⟨some 248, some (.move (.tmp 13)), none⟩,
 ⟨some 23, some (.assign (.tmp 248)), none⟩])
  (.seq (.seq (.reg [] [⟨some 249, some (.move (.tmp 22)), none⟩,
 ⟨some 250, some (.binOp .and Zd (.tmp 249) (.const (.int .i64 1)) Zd), none⟩,
 ⟨some 251, some (.binOp .eql Zd (.tmp 250) (.const (.int .i64 0)) Zd), none⟩])
  (.cond (.tmp 251) (.reg [] [⟨some 252, some (.move (.tmp 14)), none⟩,
 ⟨some 23, some (.assign (.tmp 252)), none⟩])
  .skip))
  (.reg [] [⟨some 253, some (.move (.tmp 8)), none⟩,
 ⟨some 254, some (.move (.tmp 253)), none⟩,
 ⟨some 255, some (.move (.tmp 7)), some (some 254, true)⟩,
 ⟨some 256, some (.move (.tmp 22)), some (some 254, true)⟩,
 ⟨some 257, some (.binOp .add Zd (.const (.int .i64 29)) (.tmp 256) Zd), some (some 254, true)⟩,
 ⟨some 258, some (.move (.tmp 9)), some (some 254, true)⟩,
 ⟨some 259, some (.move (.tmp 9)), some (some 254, true)⟩,
 ⟨some 260, some (.build Zc #[(0, (.tmp 257)), (2, (.tmp 258)), (3, (.tmp 259))]), some (some 254, true)⟩,
 ⟨some 261, some (.move (.tmp 23)), some (some 254, true)⟩,
 ⟨some 262, some (.call ⟨(.value (.func Zq)), #[.tmp 255, .tmp 260, .tmp 261], #[Ze, Zc, Zd]⟩), some (some 254, true)⟩,
 ⟨some 263, some (.pick (.tmp 254) (.tmp 262) (.const (.bool false))), none⟩,
 ⟨some 8, some (.assign (.tmp 263)), none⟩]))))
  (.reg [] [⟨some 246, some (.move (.tmp 22)), none⟩,
 ⟨some 247, some (.binOp .add Zd (.tmp 246) (.const (.int .i64 1)) Zd), none⟩,
 ⟨some 22, some (.assign (.tmp 247)), none⟩])))
@[simp] theorem Zih : defs Zen = [148, 149, 152, 153, 154, 155, 156, 157, 158, 159, 160, 161, 8, 150, 151, 21] := by rfl
@[simp] theorem Zii : defs Zeo = [244, 245, 248, 23, 249, 250, 251, 252, 23, 253, 254, 255, 256, 257, 258, 259, 260, 261, 262, 263, 8, 246, 247, 22] := by rfl
def Zgj : LCode := (.seq (.reg [] [⟨some 6, some (.assign (.const (.bool false))), none⟩])
  (.seq (.seq (.reg [] [⟨some 28, some (.call ⟨(.value (.func Zcc)), #[], #[]⟩), none⟩,
 ⟨some 29, some (.unOp .not Z8 (.tmp 28)), none⟩])
  (.cond (.tmp 29) (.seq (.reg [] [⟨some 6, some (.assign (.const (.bool false))), none⟩])
  .ret)
  .skip))
  (.seq (.reg [] [⟨some 31, some (.move (.tmp 0)), none⟩,
 ⟨some 32, some (.call ⟨(.value (.func Zcm)), #[.tmp 31], #[Zm]⟩), none⟩,
 ⟨some 30, some (.move (.tmp 32)), none⟩,
 ⟨some 33, some (.extract (.tmp 30) 0), none⟩,
 ⟨some 34, some (.extract (.tmp 30) 1), none⟩,
 ⟨some 7, some (.assign (.tmp 33)), none⟩,
 ⟨some 8, some (.assign (.tmp 34)), none⟩])
  (.seq (.seq (.reg [] [⟨some 35, some (.move (.tmp 8)), none⟩,
 ⟨some 36, some (.unOp .not Z8 (.tmp 35)), none⟩])
  (.cond (.tmp 36) (.seq (.reg [] [⟨some 6, some (.assign (.const (.bool true))), none⟩])
  .ret)
  .skip))
  (.seq (.reg [] [⟨some 38, some (.move (.tmp 7)), none⟩,
 ⟨some 39, some (.move (.tmp 1)), none⟩,
 ⟨some 40, some (.move (.tmp 7)), none⟩,
 ⟨some 41, some (.call ⟨(.value (.func Z9)), #[.tmp 40], #[Ze]⟩), none⟩,
 ⟨some 42, some (.call ⟨(.value (.func Zcd)), #[.tmp 39, .tmp 41], #[Zd, Zd]⟩), none⟩,
 ⟨some 43, some (.binOp .add Zd (.const (.int .i64 1)) (.tmp 42) Zd), none⟩,
 ⟨some 44, some (.call ⟨(.value (.func Zu)), #[.tmp 38, .tmp 43], #[Ze, Zd]⟩), none⟩,
 ⟨some 37, some (.move (.tmp 44)), none⟩,
 ⟨some 45, some (.extract (.tmp 37) 0), none⟩,
 ⟨some 46, some (.extract (.tmp 37) 1), none⟩,
 ⟨some 9, some (.assign (.tmp 45)), none⟩,
 ⟨some 10, some (.assign (.tmp 46)), none⟩])
  (.seq (.seq (.reg [] [⟨some 47, some (.move (.tmp 10)), none⟩,
 ⟨some 48, some (.binOp .neq Zd (.tmp 47) (.const (.int .i64 0)) Zd), none⟩])
  (.cond (.tmp 48) (.seq (.reg [] [⟨some 49, some (.move (.tmp 10)), none⟩,
 ⟨some 50, some (.binOp .eql Zd (.tmp 49) (.const (.int .i64 33)) Zd), none⟩,
 ⟨some 6, some (.assign (.tmp 50)), none⟩])
  .ret)
  .skip))
  (.seq (.reg [] [⟨some 52, some (.move (.tmp 7)), none⟩,
 ⟨some 53, some (.move (.tmp 9)), none⟩,
 ⟨some 54, some (.call ⟨(.value (.func Zj)), #[.tmp 52, .tmp 53], #[Ze, Zd]⟩), none⟩,
 ⟨some 51, some (.move (.tmp 54)), none⟩,
 ⟨some 55, some (.extract (.tmp 51) 0), none⟩,
 ⟨some 56, some (.extract (.tmp 51) 1), none⟩,
 ⟨some 11, some (.alloc Zc), none⟩,
 ⟨none, some (.store Zc (.tmp 11) (.tmp 55)), none⟩,
 ⟨some 12, some (.assign (.tmp 56)), none⟩])
  (.seq (.reg [] [⟨some 57, some (.move (.tmp 7)), none⟩,
 ⟨some 58, some (.call ⟨(.value (.func Zcu)), #[(.tmp 57), (.const (.int .i64 0)), (.const (.int .u64 1))], #[Ze, Zd, Zf]⟩), none⟩,
 ⟨some 59, some (.move (.tmp 7)), none⟩,
 ⟨some 60, some (.call ⟨(.value (.func Zcu)), #[(.tmp 59), (.const (.int .i64 0)), (.const (.int .u64 0))], #[Ze, Zd, Zf]⟩), none⟩,
 ⟨some 13, some (.assign (.tmp 58)), none⟩,
 ⟨some 14, some (.assign (.tmp 60)), none⟩])
  (.seq (.seq (.reg [] [⟨some 61, some (.fieldAddr Zc (.tmp 11) 1), none⟩,
 ⟨some 62, some (.load Zd (.tmp 61)), none⟩,
 ⟨some 63, some (.binOp .eql Zd (.tmp 62) (.const (.int .i64 0)) Zd), none⟩])
  (.cond (.tmp 63) (.seq (.reg [] [⟨some 64, some (.move (.tmp 7)), none⟩,
 ⟨some 65, some (.move (.tmp 9)), none⟩,
 ⟨some 66, some (.move (.tmp 13)), none⟩,
 ⟨some 67, some (.move (.tmp 14)), none⟩,
 ⟨some 68, some (.call ⟨(.value (.func Zfc)), #[.tmp 64, .tmp 65, .tmp 66, .tmp 67], #[Ze, Zd, Zd, Zd]⟩), none⟩,
 ⟨some 6, some (.assign (.tmp 68)), none⟩])
  .ret)
  .skip))
  (.seq (.reg [] [⟨some 70, some (.move (.tmp 7)), none⟩,
 ⟨some 71, some (.move (.tmp 2)), none⟩,
 ⟨some 72, some (.move (.tmp 7)), none⟩,
 ⟨some 73, some (.call ⟨(.value (.func Z9)), #[.tmp 72], #[Ze]⟩), none⟩,
 ⟨some 74, some (.call ⟨(.value (.func Zcd)), #[.tmp 71, .tmp 73], #[Zd, Zd]⟩), none⟩,
 ⟨some 75, some (.binOp .add Zd (.const (.int .i64 1)) (.tmp 74) Zd), none⟩,
 ⟨some 76, some (.call ⟨(.value (.func Zu)), #[.tmp 70, .tmp 75], #[Ze, Zd]⟩), none⟩,
 ⟨some 69, some (.move (.tmp 76)), none⟩,
 ⟨some 77, some (.extract (.tmp 69) 0), none⟩,
 ⟨some 78, some (.extract (.tmp 69) 1), none⟩,
 ⟨some 15, some (.assign (.tmp 77)), none⟩,
 ⟨some 16, some (.assign (.tmp 78)), none⟩])
  (.seq (.seq (.reg [] [⟨some 80, some (.move (.tmp 7)), none⟩,
 ⟨some 81, some (.move (.tmp 15)), none⟩,
 ⟨some 82, some (.call ⟨(.value (.func Zj)), #[.tmp 80, .tmp 81], #[Ze, Zd]⟩), none⟩,
 ⟨some 79, some (.move (.tmp 82)), none⟩,
 ⟨some 83, some (.extract (.tmp 79) 0), none⟩,
 ⟨some 84, some (.extract (.tmp 79) 1), none⟩,
 ⟨some 17, some (.alloc Zc), none⟩,
 ⟨none, some (.store Zc (.tmp 17) (.tmp 83)), none⟩,
 ⟨some 18, some (.assign (.tmp 84)), none⟩])
  (.seq (.reg [] [⟨some 85, some (.move (.tmp 16)), none⟩,
 ⟨some 86, some (.binOp .eql Zd (.tmp 85) (.const (.int .i64 0)) Zd), none⟩,
 ⟨some 87, some (.move (.tmp 86)), none⟩,
 ⟨some 88, some (.fieldAddr Zc (.tmp 17) 1), some (some 87, true)⟩,
 ⟨some 89, some (.load Zd (.tmp 88)), some (some 87, true)⟩,
 ⟨some 90, some (.binOp .eql Zd (.tmp 89) (.const (.int .i64 0)) Zd), some (some 87, true)⟩,
 ⟨some 91, some (.pick (.tmp 87) (.tmp 90) (.const (.bool false))), none⟩,
 ⟨some 92, some (.move (.tmp 91)), none⟩,
 ⟨some 93, some (.move (.tmp 7)), some (some 92, true)⟩,
 ⟨some 94, some (.move (.tmp 15)), some (some 92, true)⟩,
 ⟨some 95, some (.move (.tmp 9)), some (some 92, true)⟩,
 ⟨some 96, some (.move (.tmp 9)), some (some 92, true)⟩,
 ⟨some 97, some (.build Zc #[(0, (.const (.int .i64 9))), (2, (.tmp 94)), (3, (.tmp 95)), (4, (.tmp 96))]), some (some 92, true)⟩,
 ⟨some 98, some (.move (.tmp 9)), some (some 92, true)⟩,
 ⟨some 99, some (.call ⟨(.value (.func Zq)), #[.tmp 93, .tmp 97, .tmp 98], #[Ze, Zc, Zd]⟩), some (some 92, true)⟩,
 ⟨some 100, some (.unOp .not Z8 (.tmp 99)), some (some 92, true)⟩,
 ⟨some 101, some (.pick (.tmp 92) (.tmp 100) (.const (.bool false))), none⟩])
  (.cond (.tmp 101) (.seq (.reg [] [⟨some 6, some (.assign (.const (.bool false))), none⟩])
  .ret)
  .skip)))
  (.seq (.reg [3, 6, 801, 997, 1011] [⟨some 102, some (.move (.tmp 7)), none⟩,
 ⟨some 103, some (.fieldAddr Zc (.tmp 11) 1), none⟩,
 ⟨some 104, some (.load Zd (.tmp 103)), none⟩,
 ⟨some 105, some (.call ⟨(.value (.func Zcu)), #[(.tmp 102), (.tmp 104), (.const (.int .u64 0))], #[Ze, Zd, Zf]⟩), none⟩,
 ⟨some 106, some (.move (.tmp 7)), none⟩,
 ⟨some 107, some (.fieldAddr Zc (.tmp 11) 1), none⟩,
 ⟨some 108, some (.load Zd (.tmp 107)), none⟩,
 ⟨some 109, some (.call ⟨(.value (.func Zcu)), #[(.tmp 106), (.tmp 108), (.const (.int .u64 1))], #[Ze, Zd, Zf]⟩), none⟩,
 ⟨some 19, some (.assign (.tmp 105)), none⟩,
 ⟨some 20, some (.assign (.tmp 109)), none⟩])
  (.seq (.reg [] [⟨some 110, some (.move (.tmp 7)), none⟩,
 ⟨some 111, some (.move (.tmp 9)), none⟩,
 ⟨some 112, some (.move (.tmp 19)), none⟩,
 ⟨some 113, some (.build Zc #[(0, (.const (.int .i64 12))), (2, (.tmp 111)), (3, (.tmp 112))]), none⟩,
 ⟨some 114, some (.move (.tmp 19)), none⟩,
 ⟨some 115, some (.call ⟨(.value (.func Zq)), #[.tmp 110, .tmp 113, .tmp 114], #[Ze, Zc, Zd]⟩), none⟩,
 ⟨some 116, some (.move (.tmp 115)), none⟩,
 ⟨some 117, some (.move (.tmp 7)), some (some 116, true)⟩,
 ⟨some 118, some (.move (.tmp 19)), some (some 116, true)⟩,
 ⟨some 119, some (.move (.tmp 9)), some (some 116, true)⟩,
 ⟨some 120, some (.build Zc #[(0, (.const (.int .i64 20))), (2, (.tmp 118)), (3, (.tmp 119))]), some (some 116, true)⟩,
 ⟨some 121, some (.move (.tmp 19)), some (some 116, true)⟩,
 ⟨some 122, some (.call ⟨(.value (.func Zq)), #[.tmp 117, .tmp 120, .tmp 121], #[Ze, Zc, Zd]⟩), some (some 116, true)⟩,
 ⟨some 123, some (.pick (.tmp 116) (.tmp 122) (.const (.bool false))), none⟩,
 ⟨some 124, some (.move (.tmp 123)), none⟩,
 ⟨some 125, some (.move (.tmp 7)), some (some 124, true)⟩,
 ⟨some 126, some (.move (.tmp 19)), some (some 124, true)⟩,
 ⟨some 127, some (.move (.tmp 9)), some (some 124, true)⟩,
 ⟨some 128, some (.build Zc #[(0, (.const (.int .i64 26))), (2, (.tmp 126)), (3, (.tmp 127))]), some (some 124, true)⟩,
 ⟨some 129, some (.move (.tmp 19)), some (some 124, true)⟩,
 ⟨some 130, some (.call ⟨(.value (.func Zq)), #[.tmp 125, .tmp 128, .tmp 129], #[Ze, Zc, Zd]⟩), some (some 124, true)⟩,
 ⟨some 131, some (.pick (.tmp 124) (.tmp 130) (.const (.bool false))), none⟩,
 ⟨some 132, some (.move (.tmp 131)), none⟩,
 ⟨some 133, some (.move (.tmp 7)), some (some 132, true)⟩,
 ⟨some 134, some (.move (.tmp 19)), some (some 132, true)⟩,
 ⟨some 135, some (.move (.tmp 9)), some (some 132, true)⟩,
 ⟨some 136, some (.build Zc #[(0, (.const (.int .i64 27))), (2, (.tmp 134)), (3, (.tmp 135))]), some (some 132, true)⟩,
 ⟨some 137, some (.move (.tmp 19)), some (some 132, true)⟩,
 ⟨some 138, some (.call ⟨(.value (.func Zq)), #[.tmp 133, .tmp 136, .tmp 137], #[Ze, Zc, Zd]⟩), some (some 132, true)⟩,
 ⟨some 139, some (.pick (.tmp 132) (.tmp 138) (.const (.bool false))), none⟩,
 ⟨some 140, some (.move (.tmp 139)), none⟩,
 ⟨some 141, some (.move (.tmp 7)), some (some 140, true)⟩,
 ⟨some 142, some (.move (.tmp 19)), some (some 140, true)⟩,
 ⟨some 143, some (.move (.tmp 9)), some (some 140, true)⟩,
 ⟨some 144, some (.build Zc #[(0, (.const (.int .i64 28))), (2, (.tmp 142)), (3, (.tmp 143))]), some (some 140, true)⟩,
 ⟨some 145, some (.move (.tmp 19)), some (some 140, true)⟩,
 ⟨some 146, some (.call ⟨(.value (.func Zq)), #[.tmp 141, .tmp 144, .tmp 145], #[Ze, Zc, Zd]⟩), some (some 140, true)⟩,
 ⟨some 147, some (.pick (.tmp 140) (.tmp 146) (.const (.bool false))), none⟩,
 ⟨some 8, some (.assign (.tmp 147)), none⟩])
  (.seq (.seq (.reg [] [⟨some 21, some (.assign (.const (.int .i64 26))), none⟩])
  (.block 0 (.loop Zen)))
  (.seq (.reg [] [⟨some 162, some (.move (.tmp 8)), none⟩,
 ⟨some 163, some (.move (.tmp 162)), none⟩,
 ⟨some 164, some (.move (.tmp 7)), some (some 163, true)⟩,
 ⟨some 165, some (.move (.tmp 9)), some (some 163, true)⟩,
 ⟨some 166, some (.move (.tmp 19)), some (some 163, true)⟩,
 ⟨some 167, some (.build Zc #[(0, (.const (.int .i64 13))), (2, (.tmp 165)), (3, (.tmp 166))]), some (some 163, true)⟩,
 ⟨some 168, some (.move (.tmp 9)), some (some 163, true)⟩,
 ⟨some 169, some (.call ⟨(.value (.func Zq)), #[.tmp 164, .tmp 167, .tmp 168], #[Ze, Zc, Zd]⟩), some (some 163, true)⟩,
 ⟨some 170, some (.pick (.tmp 163) (.tmp 169) (.const (.bool false))), none⟩,
 ⟨some 171, some (.move (.tmp 170)), none⟩,
 ⟨some 172, some (.move (.tmp 7)), some (some 171, true)⟩,
 ⟨some 173, some (.move (.tmp 19)), some (some 171, true)⟩,
 ⟨some 174, some (.move (.tmp 9)), some (some 171, true)⟩,
 ⟨some 175, some (.build Zc #[(0, (.const (.int .i64 14))), (2, (.tmp 173)), (3, (.tmp 174))]), some (some 171, true)⟩,
 ⟨some 176, some (.move (.tmp 9)), some (some 171, true)⟩,
 ⟨some 177, some (.call ⟨(.value (.func Zq)), #[.tmp 172, .tmp 175, .tmp 176], #[Ze, Zc, Zd]⟩), some (some 171, true)⟩,
 ⟨some 178, some (.pick (.tmp 171) (.tmp 177) (.const (.bool false))), none⟩,
 ⟨some 179, some (.move (.tmp 178)), none⟩,
 ⟨some 180, some (.move (.tmp 7)), some (some 179, true)⟩,
 ⟨some 181, some (.move (.tmp 9)), some (some 179, true)⟩,
 ⟨some 182, some (.move (.tmp 19)), some (some 179, true)⟩,
 ⟨some 183, some (.build Zc #[(0, (.const (.int .i64 18))), (2, (.tmp 181)), (3, (.tmp 182))]), some (some 179, true)⟩,
 ⟨some 184, some (.move (.tmp 9)), some (some 179, true)⟩,
 ⟨some 185, some (.call ⟨(.value (.func Zq)), #[.tmp 180, .tmp 183, .tmp 184], #[Ze, Zc, Zd]⟩), some (some 179, true)⟩,
 ⟨some 186, some (.pick (.tmp 179) (.tmp 185) (.const (.bool false))), none⟩,
 ⟨some 187, some (.move (.tmp 186)), none⟩,
 ⟨some 188, some (.move (.tmp 7)), some (some 187, true)⟩,
 ⟨some 189, some (.move (.tmp 9)), some (some 187, true)⟩,
 ⟨some 190, some (.move (.tmp 19)), some (some 187, true)⟩,
 ⟨some 191, some (.build Zc #[(0, (.const (.int .i64 19))), (2, (.tmp 189)), (3, (.tmp 190))]), some (some 187, true)⟩,
 ⟨some 192, some (.move (.tmp 9)), some (some 187, true)⟩,
 ⟨some 193, some (.call ⟨(.value (.func Zq)), #[.tmp 188, .tmp 191, .tmp 192], #[Ze, Zc, Zd]⟩), some (some 187, true)⟩,
 ⟨some 194, some (.pick (.tmp 187) (.tmp 193) (.const (.bool false))), none⟩,
 ⟨some 195, some (.move (.tmp 194)), none⟩,
 ⟨some 196, some (.move (.tmp 7)), some (some 195, true)⟩,
 ⟨some 197, some (.move (.tmp 20)), some (some 195, true)⟩,
 ⟨some 198, some (.move (.tmp 9)), some (some 195, true)⟩,
 ⟨some 199, some (.build Zc #[(0, (.const (.int .i64 20))), (2, (.tmp 197)), (3, (.tmp 198))]), some (some 195, true)⟩,
 ⟨some 200, some (.move (.tmp 9)), some (some 195, true)⟩,
 ⟨some 201, some (.call ⟨(.value (.func Zq)), #[.tmp 196, .tmp 199, .tmp 200], #[Ze, Zc, Zd]⟩), some (some 195, true)⟩,
 ⟨some 202, some (.pick (.tmp 195) (.tmp 201) (.const (.bool false))), none⟩,
 ⟨some 203, some (.move (.tmp 202)), none⟩,
 ⟨some 204, some (.move (.tmp 7)), some (some 203, true)⟩,
 ⟨some 205, some (.move (.tmp 9)), some (some 203, true)⟩,
 ⟨some 206, some (.move (.tmp 20)), some (some 203, true)⟩,
 ⟨some 207, some (.build Zc #[(0, (.const (.int .i64 21))), (2, (.tmp 205)), (3, (.tmp 206))]), some (some 203, true)⟩,
 ⟨some 208, some (.move (.tmp 9)), some (some 203, true)⟩,
 ⟨some 209, some (.call ⟨(.value (.func Zq)), #[.tmp 204, .tmp 207, .tmp 208], #[Ze, Zc, Zd]⟩), some (some 203, true)⟩,
 ⟨some 210, some (.pick (.tmp 203) (.tmp 209) (.const (.bool false))), none⟩,
 ⟨some 8, some (.assign (.tmp 210)), none⟩])
  (.seq (.reg [] [⟨some 211, some (.move (.tmp 8)), none⟩,
 ⟨some 212, some (.move (.tmp 211)), none⟩,
 ⟨some 213, some (.move (.tmp 7)), some (some 212, true)⟩,
 ⟨some 214, some (.move (.tmp 9)), some (some 212, true)⟩,
 ⟨some 215, some (.move (.tmp 9)), some (some 212, true)⟩,
 ⟨some 216, some (.build Zc #[(0, (.const (.int .i64 12))), (2, (.tmp 214)), (3, (.tmp 215))]), some (some 212, true)⟩,
 ⟨some 217, some (.move (.tmp 9)), some (some 212, true)⟩,
 ⟨some 218, some (.call ⟨(.value (.func Zq)), #[.tmp 213, .tmp 216, .tmp 217], #[Ze, Zc, Zd]⟩), some (some 212, true)⟩,
 ⟨some 219, some (.pick (.tmp 212) (.tmp 218) (.const (.bool false))), none⟩,
 ⟨some 220, some (.move (.tmp 219)), none⟩,
 ⟨some 221, some (.move (.tmp 7)), some (some 220, true)⟩,
 ⟨some 222, some (.move (.tmp 9)), some (some 220, true)⟩,
 ⟨some 223, some (.move (.tmp 9)), some (some 220, true)⟩,
 ⟨some 224, some (.build Zc #[(0, (.const (.int .i64 13))), (2, (.tmp 222)), (3, (.tmp 223))]), some (some 220, true)⟩,
 ⟨some 225, some (.move (.tmp 9)), some (some 220, true)⟩,
 ⟨some 226, some (.call ⟨(.value (.func Zq)), #[.tmp 221, .tmp 224, .tmp 225], #[Ze, Zc, Zd]⟩), some (some 220, true)⟩,
 ⟨some 227, some (.pick (.tmp 220) (.tmp 226) (.const (.bool false))), none⟩,
 ⟨some 228, some (.move (.tmp 227)), none⟩,
 ⟨some 229, some (.move (.tmp 7)), some (some 228, true)⟩,
 ⟨some 230, some (.move (.tmp 9)), some (some 228, true)⟩,
 ⟨some 231, some (.move (.tmp 9)), some (some 228, true)⟩,
 ⟨some 232, some (.build Zc #[(0, (.const (.int .i64 14))), (2, (.tmp 230)), (3, (.tmp 231))]), some (some 228, true)⟩,
 ⟨some 233, some (.move (.tmp 19)), some (some 228, true)⟩,
 ⟨some 234, some (.call ⟨(.value (.func Zq)), #[.tmp 229, .tmp 232, .tmp 233], #[Ze, Zc, Zd]⟩), some (some 228, true)⟩,
 ⟨some 235, some (.pick (.tmp 228) (.tmp 234) (.const (.bool false))), none⟩,
 ⟨some 236, some (.move (.tmp 235)), none⟩,
 ⟨some 237, some (.move (.tmp 7)), some (some 236, true)⟩,
 ⟨some 238, some (.move (.tmp 9)), some (some 236, true)⟩,
 ⟨some 239, some (.move (.tmp 9)), some (some 236, true)⟩,
 ⟨some 240, some (.build Zc #[(0, (.const (.int .i64 19))), (2, (.tmp 238)), (3, (.tmp 239))]), some (some 236, true)⟩,
 ⟨some 241, some (.move (.tmp 19)), some (some 236, true)⟩,
 ⟨some 242, some (.call ⟨(.value (.func Zq)), #[.tmp 237, .tmp 240, .tmp 241], #[Ze, Zc, Zd]⟩), some (some 236, true)⟩,
 ⟨some 243, some (.pick (.tmp 236) (.tmp 242) (.const (.bool false))), none⟩,
 ⟨some 8, some (.assign (.tmp 243)), none⟩])
  (.seq (.seq (.reg [] [⟨some 22, some (.assign (.const (.int .i64 0))), none⟩])
  (.block 2 (.loop Zeo)))
  (.seq (.reg [] [⟨some 265, some (.move (.tmp 7)), none⟩,
 ⟨some 266, some (.move (.tmp 9)), none⟩,
 ⟨some 267, some (.build Zc #[(0, (.const (.int .i64 10))), (2, (.tmp 266))]), none⟩,
 ⟨some 268, some (.call ⟨(.value (.func Zl)), #[.tmp 265, .tmp 267], #[Ze, Zc]⟩), none⟩,
 ⟨some 264, some (.move (.tmp 268)), none⟩,
 ⟨some 269, some (.extract (.tmp 264) 0), none⟩,
 ⟨some 270, some (.extract (.tmp 264) 1), none⟩,
 ⟨some 24, some (.assign (.tmp 269)), none⟩,
 ⟨some 25, some (.assign (.tmp 270)), none⟩])
  (.seq (.reg [] [⟨some 272, some (.move (.tmp 7)), none⟩,
 ⟨some 273, some (.move (.tmp 9)), none⟩,
 ⟨some 274, some (.build Zc #[(0, (.const (.int .i64 11))), (2, (.tmp 273))]), none⟩,
 ⟨some 275, some (.call ⟨(.value (.func Zl)), #[.tmp 272, .tmp 274], #[Ze, Zc]⟩), none⟩,
 ⟨some 271, some (.move (.tmp 275)), none⟩,
 ⟨some 276, some (.extract (.tmp 271) 0), none⟩,
 ⟨some 277, some (.extract (.tmp 271) 1), none⟩,
 ⟨some 26, some (.assign (.tmp 276)), none⟩,
 ⟨some 27, some (.assign (.tmp 277)), none⟩])
  (.seq (.reg [] [⟨some 278, some (.move (.tmp 8)), none⟩,
 ⟨some 279, some (.move (.tmp 278)), none⟩,
 ⟨some 280, some (.move (.tmp 7)), some (some 279, true)⟩,
 ⟨some 281, some (.move (.tmp 9)), some (some 279, true)⟩,
 ⟨some 282, some (.move (.tmp 9)), some (some 279, true)⟩,
 ⟨some 283, some (.build Zc #[(0, (.const (.int .i64 8))), (2, (.tmp 281)), (3, (.tmp 282))]), some (some 279, true)⟩,
 ⟨some 284, some (.move (.tmp 13)), some (some 279, true)⟩,
 ⟨some 285, some (.call ⟨(.value (.func Zq)), #[.tmp 280, .tmp 283, .tmp 284], #[Ze, Zc, Zd]⟩), some (some 279, true)⟩,
 ⟨some 286, some (.pick (.tmp 279) (.tmp 285) (.const (.bool false))), none⟩,
 ⟨some 287, some (.move (.tmp 286)), none⟩,
 ⟨some 288, some (.move (.tmp 7)), some (some 287, true)⟩,
 ⟨some 289, some (.move (.tmp 24)), some (some 287, true)⟩,
 ⟨some 290, some (.call ⟨(.value (.func Zdd)), #[.tmp 288, .tmp 289], #[Ze, Zd]⟩), some (some 287, true)⟩,
 ⟨some 291, some (.unOp .not Z8 (.tmp 290)), some (some 287, true)⟩,
 ⟨some 292, some (.move (.tmp 291)), some (some 287, true)⟩,
 ⟨some 293, some (.move (.tmp 7)), some (some 292, false)⟩,
 ⟨some 294, some (.move (.tmp 24)), some (some 292, false)⟩,
 ⟨some 295, some (.build Zc #[(0, (.const (.int .i64 10))), (2, (.tmp 294))]), some (some 292, false)⟩,
 ⟨some 296, some (.move (.tmp 9)), some (some 292, false)⟩,
 ⟨some 297, some (.call ⟨(.value (.func Zq)), #[.tmp 293, .tmp 295, .tmp 296], #[Ze, Zc, Zd]⟩), some (some 292, false)⟩,
 ⟨some 298, some (.pick (.tmp 292) (.const (.bool true)) (.tmp 297)), some (some 287, true)⟩,
 ⟨some 299, some (.pick (.tmp 287) (.tmp 298) (.const (.bool false))), none⟩,
 ⟨some 300, some (.move (.tmp 299)), none⟩,
 ⟨some 301, some (.move (.tmp 7)), some (some 300, true)⟩,
 ⟨some 302, some (.move (.tmp 26)), some (some 300, true)⟩,
 ⟨some 303, some (.call ⟨(.value (.func Zdd)), #[.tmp 301, .tmp 302], #[Ze, Zd]⟩), some (some 300, true)⟩,
 ⟨some 304, some (.unOp .not Z8 (.tmp 303)), some (some 300, true)⟩,
 ⟨some 305, some (.move (.tmp 304)), some (some 300, true)⟩,
 ⟨some 306, some (.move (.tmp 7)), some (some 305, false)⟩,
 ⟨some 307, some (.move (.tmp 26)), some (some 305, false)⟩,
 ⟨some 308, some (.build Zc #[(0, (.const (.int .i64 11))), (2, (.tmp 307))]), some (some 305, false)⟩,
 ⟨some 309, some (.move (.tmp 9)), some (some 305, false)⟩,
 ⟨some 310, some (.call ⟨(.value (.func Zq)), #[.tmp 306, .tmp 308, .tmp 309], #[Ze, Zc, Zd]⟩), some (some 305, false)⟩,
 ⟨some 311, some (.pick (.tmp 305) (.const (.bool true)) (.tmp 310)), some (some 300, true)⟩,
 ⟨some 312, some (.pick (.tmp 300) (.tmp 311) (.const (.bool false))), none⟩,
 ⟨some 8, some (.assign (.tmp 312)), none⟩])
  (.seq (.reg [] [⟨some 313, some (.move (.tmp 8)), none⟩,
 ⟨some 314, some (.move (.tmp 313)), none⟩,
 ⟨some 315, some (.move (.tmp 7)), some (some 314, true)⟩,
 ⟨some 316, some (.move (.tmp 9)), some (some 314, true)⟩,
 ⟨some 317, some (.fieldAddr Zc (.tmp 11) 1), some (some 314, true)⟩,
 ⟨some 318, some (.load Zd (.tmp 317)), some (some 314, true)⟩,
 ⟨some 319, some (.binOp .sub Zd (.tmp 318) (.const (.int .i64 1)) Zd), some (some 314, true)⟩,
 ⟨some 320, some (.build Zc #[(0, (.const (.int .i64 39))), (2, (.tmp 316)), (5, (.tmp 319))]), some (some 314, true)⟩,
 ⟨some 321, some (.move (.tmp 9)), some (some 314, true)⟩,
 ⟨some 322, some (.call ⟨(.value (.func Zq)), #[.tmp 315, .tmp 320, .tmp 321], #[Ze, Zc, Zd]⟩), some (some 314, true)⟩,
 ⟨some 323, some (.pick (.tmp 314) (.tmp 322) (.const (.bool false))), none⟩,
 ⟨some 324, some (.move (.tmp 323)), none⟩,
 ⟨some 325, some (.move (.tmp 7)), some (some 324, true)⟩,
 ⟨some 326, some (.move (.tmp 9)), some (some 324, true)⟩,
 ⟨some 327, some (.build Zc #[(0, (.const (.int .i64 40))), (2, (.tmp 326))]), some (some 324, true)⟩,
 ⟨some 328, some (.move (.tmp 9)), some (some 324, true)⟩,
 ⟨some 329, some (.call ⟨(.value (.func Zq)), #[.tmp 325, .tmp 327, .tmp 328], #[Ze, Zc, Zd]⟩), some (some 324, true)⟩,
 ⟨some 330, some (.pick (.tmp 324) (.tmp 329) (.const (.bool false))), none⟩,
 ⟨some 331, some (.move (.tmp 330)), none⟩,
 ⟨some 332, some (.move (.tmp 7)), some (some 331, true)⟩,
 ⟨some 333, some (.move (.tmp 9)), some (some 331, true)⟩,
 ⟨some 334, some (.build Zc #[(0, (.const (.int .i64 41))), (2, (.tmp 333))]), some (some 331, true)⟩,
 ⟨some 335, some (.move (.tmp 9)), some (some 331, true)⟩,
 ⟨some 336, some (.call ⟨(.value (.func Zq)), #[.tmp 332, .tmp 334, .tmp 335], #[Ze, Zc, Zd]⟩), some (some 331, true)⟩,
 ⟨some 337, some (.pick (.tmp 331) (.tmp 336) (.const (.bool false))), none⟩,
 ⟨some 338, some (.move (.tmp 337)), none⟩,
 ⟨some 339, some (.move (.tmp 7)), some (some 338, true)⟩,
 ⟨some 340, some (.move (.tmp 9)), some (some 338, true)⟩,
 ⟨some 341, some (.build Zc #[(0, (.const (.int .i64 42))), (2, (.tmp 340))]), some (some 338, true)⟩,
 ⟨some 342, some (.move (.tmp 9)), some (some 338, true)⟩,
 ⟨some 343, some (.call ⟨(.value (.func Zq)), #[.tmp 339, .tmp 341, .tmp 342], #[Ze, Zc, Zd]⟩), some (some 338, true)⟩,
 ⟨some 344, some (.pick (.tmp 338) (.tmp 343) (.const (.bool false))), none⟩,
 ⟨some 345, some (.move (.tmp 344)), none⟩,
 ⟨some 346, some (.move (.tmp 7)), some (some 345, true)⟩,
 ⟨some 347, some (.move (.tmp 9)), some (some 345, true)⟩,
 ⟨some 348, some (.build Zc #[(0, (.const (.int .i64 43))), (2, (.tmp 347))]), some (some 345, true)⟩,
 ⟨some 349, some (.move (.tmp 9)), some (some 345, true)⟩,
 ⟨some 350, some (.call ⟨(.value (.func Zq)), #[.tmp 346, .tmp 348, .tmp 349], #[Ze, Zc, Zd]⟩), some (some 345, true)⟩,
 ⟨some 351, some (.pick (.tmp 345) (.tmp 350) (.const (.bool false))), none⟩,
 ⟨some 352, some (.move (.tmp 351)), none⟩,
 ⟨some 353, some (.move (.tmp 7)), some (some 352, true)⟩,
 ⟨some 354, some (.move (.tmp 9)), some (some 352, true)⟩,
 ⟨some 355, some (.build Zc #[(0, (.const (.int .i64 44))), (2, (.tmp 354)), (5, (.const (.int .i64 1)))]), some (some 352, true)⟩,
 ⟨some 356, some (.move (.tmp 9)), some (some 352, true)⟩,
 ⟨some 357, some (.call ⟨(.value (.func Zq)), #[.tmp 353, .tmp 355, .tmp 356], #[Ze, Zc, Zd]⟩), some (some 352, true)⟩,
 ⟨some 358, some (.pick (.tmp 352) (.tmp 357) (.const (.bool false))), none⟩,
 ⟨some 8, some (.assign (.tmp 358)), none⟩])
  (.seq (.reg [] [⟨some 359, some (.move (.tmp 8)), none⟩,
 ⟨some 360, some (.move (.tmp 359)), none⟩,
 ⟨some 361, some (.move (.tmp 7)), some (some 360, true)⟩,
 ⟨some 362, some (.move (.tmp 13)), some (some 360, true)⟩,
 ⟨some 363, some (.move (.tmp 9)), some (some 360, true)⟩,
 ⟨some 364, some (.move (.tmp 19)), some (some 360, true)⟩,
 ⟨some 365, some (.build Zc #[(0, (.const (.int .i64 9))), (2, (.tmp 362)), (3, (.tmp 363)), (4, (.tmp 364))]), some (some 360, true)⟩,
 ⟨some 366, some (.move (.tmp 9)), some (some 360, true)⟩,
 ⟨some 367, some (.call ⟨(.value (.func Zq)), #[.tmp 361, .tmp 365, .tmp 366], #[Ze, Zc, Zd]⟩), some (some 360, true)⟩,
 ⟨some 368, some (.pick (.tmp 360) (.tmp 367) (.const (.bool false))), none⟩,
 ⟨some 369, some (.move (.tmp 368)), none⟩,
 ⟨some 370, some (.move (.tmp 7)), some (some 369, true)⟩,
 ⟨some 371, some (.move (.tmp 14)), some (some 369, true)⟩,
 ⟨some 372, some (.move (.tmp 20)), some (some 369, true)⟩,
 ⟨some 373, some (.move (.tmp 9)), some (some 369, true)⟩,
 ⟨some 374, some (.build Zc #[(0, (.const (.int .i64 9))), (2, (.tmp 371)), (3, (.tmp 372)), (4, (.tmp 373))]), some (some 369, true)⟩,
 ⟨some 375, some (.move (.tmp 9)), some (some 369, true)⟩,
 ⟨some 376, some (.call ⟨(.value (.func Zq)), #[.tmp 370, .tmp 374, .tmp 375], #[Ze, Zc, Zd]⟩), some (some 369, true)⟩,
 ⟨some 377, some (.pick (.tmp 369) (.tmp 376) (.const (.bool false))), none⟩,
 ⟨some 6, some (.assign (.tmp 377)), none⟩])
  .ret))))))))))))))))))))))
theorem Zjf {a0 a1 a2 : AV} {H : AHeap} : R Zdl [a0, a1, a2] H = fnK Try.prog [] H [(.tmp 6)] (evalL Try.prog KT R Zgj (Env.args [a0, a1, a2] 0) H) :=
  runs_body (D := DT) (f := Zdl) Try.func4 (by kernel_rfl) (by kernel_rfl) (by kernel_rfl) (by kernel_rfl) (by kernel_rfl) (Nat.le_of_ble_eq_true rfl)
def Zb5 : LCode := (.seq (.seq (.reg [] [⟨some 111, some (.move (.tmp 22)), none⟩,
 ⟨some 112, some (.move (.tmp 9)), none⟩,
 ⟨some 113, some (.call ⟨(.value (.func Zco)), #[(.tmp 112), (.const (.int .i64 9))], #[Zm, Zd]⟩), none⟩,
 ⟨some 114, some (.binOp .shl Zd (.const (.int .i64 1)) (.tmp 113) Zd), none⟩,
 ⟨some 115, some (.binOp .lss Zd (.tmp 111) (.tmp 114) Zd), none⟩])
  (.cond (.tmp 115) .skip
  (.exit 0)))
  (.seq (.block 1 (.seq (.reg [] [⟨some 118, some (.move (.tmp 9)), none⟩,
 ⟨some 119, some (.move (.tmp 22)), none⟩,
 ⟨some 120, some (.call ⟨(.value (.func Zc8)), #[.tmp 118, .tmp 119], #[Zm, Zd]⟩), none⟩,
 ⟨some 23, some (.assign (.tmp 120)), none⟩])
  (.seq (.reg [] [⟨some 122, some (.move (.tmp 7)), none⟩,
 ⟨some 123, some (.move (.tmp 1)), none⟩,
 ⟨some 124, some (.move (.tmp 23)), none⟩,
 ⟨some 125, some (.call ⟨(.value (.func Zdi)), #[.tmp 122, .tmp 123, .tmp 124], #[Ze, Zd, Z1]⟩), none⟩,
 ⟨some 121, some (.move (.tmp 125)), none⟩,
 ⟨some 126, some (.extract (.tmp 121) 0), none⟩,
 ⟨some 127, some (.extract (.tmp 121) 1), none⟩,
 ⟨some 24, some (.alloc Za), none⟩,
 ⟨none, some (.store Za (.tmp 24) (.tmp 126)), none⟩,
 ⟨some 25, some (.assign (.tmp 127)), none⟩])
  (.seq (.reg [] [⟨some 129, some (.move (.tmp 7)), none⟩,
 ⟨some 130, some (.move (.tmp 11)), none⟩,
 ⟨some 131, some (.move (.tmp 23)), none⟩,
 ⟨some 132, some (.call ⟨(.value (.func Zdi)), #[.tmp 129, .tmp 130, .tmp 131], #[Ze, Zd, Z1]⟩), none⟩,
 ⟨some 128, some (.move (.tmp 132)), none⟩,
 ⟨some 133, some (.extract (.tmp 128) 0), none⟩,
 ⟨some 134, some (.extract (.tmp 128) 1), none⟩,
 ⟨some 26, some (.alloc Za), none⟩,
 ⟨none, some (.store Za (.tmp 26) (.tmp 133)), none⟩,
 ⟨some 27, some (.assign (.tmp 134)), none⟩])
  (.seq (.reg [] [⟨some 135, some (.move (.tmp 27)), none⟩,
 ⟨some 136, some (.binOp .neq Zd (.tmp 135) (.const (.int .i64 0)) Zd), none⟩,
 ⟨some 137, some (.move (.tmp 136)), none⟩,
 ⟨some 138, some (.load Za (.tmp 24)), some (some 137, false)⟩,
 ⟨some 139, some (.load Za (.tmp 26)), some (some 137, false)⟩,
 ⟨some 140, some (.binOp .neq Za (.tmp 138) (.tmp 139) Za), some (some 137, false)⟩,
 ⟨some 141, some (.pick (.tmp 137) (.const (.bool true)) (.tmp 140)), none⟩])
  (.cond (.tmp 141) (.seq (.reg [] [⟨some 6, some (.assign (.const (.bool false))), none⟩])
  .ret)
  .skip))))))
  (.reg [] [⟨some 116, some (.move (.tmp 22)), none⟩,
 ⟨some 117, some (.binOp .add Zd (.tmp 116) (.const (.int .i64 1)) Zd), none⟩,
 ⟨some 22, some (.assign (.tmp 117)), none⟩])))
@[simp] theorem Zij : defs Zb5 = [111, 112, 113, 114, 115, 118, 119, 120, 23, 122, 123, 124, 125, 121, 126, 127, 24, 25, 129, 130, 131, 132, 128, 133, 134, 26, 27, 135, 136, 137, 138, 139, 140, 141, 6, 116, 117, 22] := by rfl
def Ze3 : LCode := (.seq (.reg [] [⟨some 6, some (.assign (.const (.bool false))), none⟩])
  (.seq (.seq (.reg [] [⟨some 28, some (.call ⟨(.value (.func Zcc)), #[], #[]⟩), none⟩,
 ⟨some 29, some (.unOp .not Z8 (.tmp 28)), none⟩])
  (.cond (.tmp 29) (.seq (.reg [] [⟨some 6, some (.assign (.const (.bool false))), none⟩])
  .ret)
  .skip))
  (.seq (.reg [] [⟨some 31, some (.move (.tmp 0)), none⟩,
 ⟨some 32, some (.call ⟨(.value (.func Zcm)), #[.tmp 31], #[Zm]⟩), none⟩,
 ⟨some 30, some (.move (.tmp 32)), none⟩,
 ⟨some 33, some (.extract (.tmp 30) 0), none⟩,
 ⟨some 34, some (.extract (.tmp 30) 1), none⟩,
 ⟨some 7, some (.assign (.tmp 33)), none⟩,
 ⟨some 8, some (.assign (.tmp 34)), none⟩])
  (.seq (.seq (.reg [] [⟨some 35, some (.move (.tmp 8)), none⟩,
 ⟨some 36, some (.unOp .not Z8 (.tmp 35)), none⟩,
 ⟨some 37, some (.move (.tmp 36)), none⟩,
 ⟨some 38, some (.move (.tmp 2)), some (some 37, false)⟩,
 ⟨some 39, some (.call ⟨(.builtin .len), #[.tmp 38], #[Z1]⟩), some (some 37, false)⟩,
 ⟨some 40, some (.binOp .gtr Zd (.tmp 39) (.const (.int .i64 40)) Zd), some (some 37, false)⟩,
 ⟨some 41, some (.pick (.tmp 37) (.const (.bool true)) (.tmp 40)), none⟩])
  (.cond (.tmp 41) (.seq (.reg [] [⟨some 6, some (.assign (.const (.bool true))), none⟩])
  .ret)
  .skip))
  (.seq (.reg [] [⟨some 42, some (.move (.tmp 1)), none⟩,
 ⟨some 43, some (.move (.tmp 7)), none⟩,
 ⟨some 44, some (.call ⟨(.value (.func Z9)), #[.tmp 43], #[Ze]⟩), none⟩,
 ⟨some 45, some (.call ⟨(.value (.func Zcd)), #[.tmp 42, .tmp 44], #[Zd, Zd]⟩), none⟩,
 ⟨some 46, some (.binOp .add Zd (.const (.int .i64 1)) (.tmp 45) Zd), none⟩,
 ⟨some 1, some (.assign (.tmp 46)), none⟩])
  (.seq (.reg [] [⟨some 48, some (.move (.tmp 7)), none⟩,
 ⟨some 49, some (.call ⟨(.value (.func Zc7)), #[(.tmp 48), (.const (.int .i64 9))], #[Ze, Zd]⟩), none⟩,
 ⟨some 47, some (.move (.tmp 49)), none⟩,
 ⟨some 50, some (.extract (.tmp 47) 0), none⟩,
 ⟨some 51, some (.extract (.tmp 47) 1), none⟩,
 ⟨some 9, some (.assign (.tmp 50)), none⟩,
 ⟨some 10, some (.assign (.tmp 51)), none⟩])
  (.seq (.reg [] [⟨some 53, some (.move (.tmp 7)), none⟩,
 ⟨some 54, some (.move (.tmp 1)), none⟩,
 ⟨some 55, some (.call ⟨(.value (.func Zu)), #[.tmp 53, .tmp 54], #[Ze, Zd]⟩), none⟩,
 ⟨some 52, some (.move (.tmp 55)), none⟩,
 ⟨some 56, some (.extract (.tmp 52) 0), none⟩,
 ⟨some 57, some (.extract (.tmp 52) 1), none⟩,
 ⟨some 11, some (.assign (.tmp 56)), none⟩,
 ⟨some 12, some (.assign (.tmp 57)), none⟩])
  (.seq (.reg [] [⟨some 59, some (.move (.tmp 7)), none⟩,
 ⟨some 60, some (.move (.tmp 1)), none⟩,
 ⟨some 61, some (.call ⟨(.value (.func Zj)), #[.tmp 59, .tmp 60], #[Ze, Zd]⟩), none⟩,
 ⟨some 58, some (.move (.tmp 61)), none⟩,
 ⟨some 62, some (.extract (.tmp 58) 0), none⟩,
 ⟨some 63, some (.extract (.tmp 58) 1), none⟩,
 ⟨some 13, some (.alloc Zc), none⟩,
 ⟨none, some (.store Zc (.tmp 13) (.tmp 62)), none⟩,
 ⟨some 14, some (.assign (.tmp 63)), none⟩])
  (.seq (.reg [] [⟨some 65, some (.move (.tmp 7)), none⟩,
 ⟨some 66, some (.move (.tmp 11)), none⟩,
 ⟨some 67, some (.call ⟨(.value (.func Zj)), #[.tmp 65, .tmp 66], #[Ze, Zd]⟩), none⟩,
 ⟨some 64, some (.move (.tmp 67)), none⟩,
 ⟨some 68, some (.extract (.tmp 64) 0), none⟩,
 ⟨some 69, some (.extract (.tmp 64) 1), none⟩,
 ⟨some 15, some (.alloc Zc), none⟩,
 ⟨none, some (.store Zc (.tmp 15) (.tmp 68)), none⟩,
 ⟨some 16, some (.assign (.tmp 69)), none⟩])
  (.seq (.seq (.reg [] [⟨some 70, some (.move (.tmp 12)), none⟩,
 ⟨some 71, some (.binOp .eql Zd (.tmp 70) (.const (.int .i64 33)) Zd), none⟩])
  (.cond (.tmp 71) (.seq (.reg [] [⟨some 6, some (.assign (.const (.bool true))), none⟩])
  .ret)
  .skip))
  (.seq (.seq (.reg [] [⟨some 72, some (.move (.tmp 12)), none⟩,
 ⟨some 73, some (.binOp .neq Zd (.tmp 72) (.const (.int .i64 0)) Zd), none⟩,
 ⟨some 74, some (.move (.tmp 73)), none⟩,
 ⟨some 75, some (.move (.tmp 16)), some (some 74, false)⟩,
 ⟨some 76, some (.unOp .not Z8 (.tmp 75)), some (some 74, false)⟩,
 ⟨some 77, some (.pick (.tmp 74) (.const (.bool true)) (.tmp 76)), none⟩,
 ⟨some 78, some (.move (.tmp 77)), none⟩,
 ⟨some 79, some (.fieldAddr Zc (.tmp 15) 1), some (some 78, false)⟩,
 ⟨some 80, some (.load Zd (.tmp 79)), some (some 78, false)⟩,
 ⟨some 81, some (.fieldAddr Zc (.tmp 13) 1), some (some 78, false)⟩,
 ⟨some 82, some (.load Zd (.tmp 81)), some (some 78, false)⟩,
 ⟨some 83, some (.binOp .neq Zd (.tmp 80) (.tmp 82) Zd), some (some 78, false)⟩,
 ⟨some 84, some (.pick (.tmp 78) (.const (.bool true)) (.tmp 83)), none⟩])
  (.cond (.tmp 84) (.seq (.reg [] [⟨some 6, some (.assign (.const (.bool false))), none⟩])
  .ret)
  .skip))
  (.seq (.seq (.reg [] [⟨some 85, some (.move (.tmp 10)), none⟩,
 ⟨some 86, some (.unOp .not Z8 (.tmp 85)), none⟩])
  (.cond (.tmp 86) (.seq (.reg [] [⟨some 87, some (.move (.tmp 7)), none⟩,
 ⟨some 88, some (.move (.tmp 2)), none⟩,
 ⟨some 89, some (.call ⟨(.value (.func Zdm)), #[.tmp 87, .tmp 88], #[Ze, Z1]⟩), none⟩,
 ⟨some 17, some (.assign (.tmp 89)), none⟩])
  (.seq (.reg [] [⟨some 91, some (.move (.tmp 7)), none⟩,
 ⟨some 92, some (.move (.tmp 1)), none⟩,
 ⟨some 93, some (.move (.tmp 17)), none⟩,
 ⟨some 94, some (.call ⟨(.value (.func Zdi)), #[.tmp 91, .tmp 92, .tmp 93], #[Ze, Zd, Z1]⟩), none⟩,
 ⟨some 90, some (.move (.tmp 94)), none⟩,
 ⟨some 95, some (.extract (.tmp 90) 0), none⟩,
 ⟨some 96, some (.extract (.tmp 90) 1), none⟩,
 ⟨some 18, some (.alloc Za), none⟩,
 ⟨none, some (.store Za (.tmp 18) (.tmp 95)), none⟩,
 ⟨some 19, some (.assign (.tmp 96)), none⟩])
  (.seq (.reg [] [⟨some 98, some (.move (.tmp 7)), none⟩,
 ⟨some 99, some (.move (.tmp 11)), none⟩,
 ⟨some 100, some (.move (.tmp 17)), none⟩,
 ⟨some 101, some (.call ⟨(.value (.func Zdi)), #[.tmp 98, .tmp 99, .tmp 100], #[Ze, Zd, Z1]⟩), none⟩,
 ⟨some 97, some (.move (.tmp 101)), none⟩,
 ⟨some 102, some (.extract (.tmp 97) 0), none⟩,
 ⟨some 103, some (.extract (.tmp 97) 1), none⟩,
 ⟨some 20, some (.alloc Za), none⟩,
 ⟨none, some (.store Za (.tmp 20) (.tmp 102)), none⟩,
 ⟨some 21, some (.assign (.tmp 103)), none⟩])
  (.seq (.reg [] [⟨some 104, some (.move (.tmp 21)), none⟩,
 ⟨some 105, some (.binOp .eql Zd (.tmp 104) (.const (.int .i64 0)) Zd), none⟩,
 ⟨some 106, some (.move (.tmp 105)), none⟩,
 ⟨some 107, some (.load Za (.tmp 18)), some (some 106, true)⟩,
 ⟨some 108, some (.load Za (.tmp 20)), some (some 106, true)⟩,
 ⟨some 109, some (.binOp .eql Za (.tmp 107) (.tmp 108) Za), some (some 106, true)⟩,
 ⟨some 110, some (.pick (.tmp 106) (.tmp 109) (.const (.bool false))), none⟩,
 ⟨some 6, some (.assign (.tmp 110)), none⟩])
  .ret))))
  .skip))
  (.seq (.seq (.reg [] [⟨some 22, some (.assign (.const (.int .i64 0))), none⟩])
  (.block 0 (.loop Zb5)))
  (.seq (.reg [] [⟨some 6, some (.assign (.const (.bool true))), none⟩])
  .ret))))))))))))))
theorem Zgk {a0 a1 a2 : AV} {H : AHeap} : R Zbv [a0, a1, a2] H = fnK Try.prog [] H [(.tmp 6)] (evalL Try.prog KT R Ze3 (Env.args [a0, a1, a2] 0) H) :=
  runs_body (D := DT) (f := Zbv) Try.func5 (by kernel_rfl) (by kernel_rfl) (by kernel_rfl) (by kernel_rfl) (by kernel_rfl) (Nat.le_of_ble_eq_true rfl)
def Zed : LCode := (.seq (.seq (.reg [] [⟨some 63, some (.move (.tmp 13)), none⟩,
 ⟨some 64, some (.binOp .lss Zd (.tmp 63) (.const (.int .i64 3)) Zd), none⟩])
  (.cond (.tmp 64) .skip
  (.exit 0)))
  (.seq (.block 1 (.seq (.reg [] [⟨some 67, some (.move (.tmp 12)), none⟩,
 ⟨some 68, some (.move (.tmp 13)), none⟩,
 ⟨some 69, some (.indexAddr Z0 (.tmp 67) (.tmp 68)), none⟩,
 ⟨some 70, some (.load Zd (.tmp 69)), none⟩,
 ⟨some 71, some (.binOp .gtr Zd (.tmp 70) (.const (.int .i64 0)) Zd), none⟩])
  (.cond (.tmp 71) (.seq (.reg [] [⟨some 73, some (.move (.tmp 7)), none⟩,
 ⟨some 74, some (.move (.tmp 12)), none⟩,
 ⟨some 75, some (.move (.tmp 13)), none⟩,
 ⟨some 76, some (.indexAddr Z0 (.tmp 74) (.tmp 75)), none⟩,
 ⟨some 77, some (.load Zd (.tmp 76)), none⟩,
 ⟨some 78, some (.call ⟨(.value (.func Zu)), #[.tmp 73, .tmp 77], #[Ze, Zd]⟩), none⟩,
 ⟨some 72, some (.move (.tmp 78)), none⟩,
 ⟨some 79, some (.extract (.tmp 72) 0), none⟩,
 ⟨some 80, some (.extract (.tmp 72) 1), none⟩,
 ⟨some 14, some (.assign (.tmp 79)), none⟩,
 ⟨some 15, some (.assign (.tmp 80)), none⟩])
  (.seq (.seq (.reg [] [⟨some 81, some (.move (.tmp 15)), none⟩,
 ⟨some 82, some (.binOp .neq Zd (.tmp 81) (.const (.int .i64 0)) Zd), none⟩])
  (.cond (.tmp 82) (.seq (.reg [] [⟨some 83, some (.move (.tmp 15)), none⟩,
 ⟨some 84, some (.binOp .eql Zd (.tmp 83) (.const (.int .i64 33)) Zd), none⟩,
 ⟨some 6, some (.assign (.tmp 84)), none⟩])
  .ret)
  .skip))
  (.reg [] [⟨some 85, some (.move (.tmp 12)), none⟩,
 ⟨some 86, some (.move (.tmp 13)), none⟩,
 ⟨some 87, some (.move (.tmp 14)), none⟩,
 ⟨some 88, some (.indexAddr Z0 (.tmp 85) (.tmp 86)), none⟩,
 ⟨none, some (.store Zd (.tmp 88) (.tmp 87)), none⟩])))
  .skip)))
  (.reg [] [⟨some 65, some (.move (.tmp 13)), none⟩,
 ⟨some 66, some (.binOp .add Zd (.tmp 65) (.const (.int .i64 1)) Zd), none⟩,
 ⟨some 13, some (.assign (.tmp 66)), none⟩])))
def Zee : LCode := (.seq (.seq (.reg [] [⟨some 135, some (.move (.tmp 23)), none⟩,
 ⟨some 136, some (.binOp .lss Zd (.tmp 135) (.const (.int .i64 1)) Zd), none⟩,
 ⟨some 137, some (.move (.tmp 136)), none⟩,
 ⟨some 138, some (.move (.tmp 21)), some (some 137, false)⟩,
 ⟨some 139, some (.move (.tmp 138)), some (some 137, false)⟩,
 ⟨some 140, some (.move (.tmp 23)), some (some 139, true)⟩,
 ⟨some 141, some (.move (.tmp 20)), some (some 139, true)⟩,
 ⟨some 142, some (.call ⟨(.value (.func Zco)), #[(.tmp 141), (.const (.int .i64 7))], #[Zm, Zd]⟩), some (some 139, true)⟩,
 ⟨some 143, some (.binOp .shl Zd (.const (.int .i64 1)) (.tmp 142) Zd), some (some 139, true)⟩,
 ⟨some 144, some (.binOp .lss Zd (.tmp 140) (.tmp 143) Zd), some (some 139, true)⟩,
 ⟨some 145, some (.pick (.tmp 139) (.tmp 144) (.const (.bool false))), some (some 137, false)⟩,
 ⟨some 146, some (.pick (.tmp 137) (.const (.bool true)) (.tmp 145)), none⟩])
  (.cond (.tmp 146) .skip
  (.exit 2)))
  (.seq (.block 3 (.seq (.seq (.reg [] [⟨some 149, some (.move (.tmp 21)), none⟩])
  (.cond (.tmp 149) (.reg [] [⟨some 150, some (.move (.tmp 20)), none⟩,
 ⟨some 151, some (.move (.tmp 23)), none⟩,
 ⟨some 152, some (.call ⟨(.value (.func Zc8)), #[.tmp 150, .tmp 151], #[Zm, Zd]⟩), none⟩,
 ⟨some 22, some (.assign (.tmp 152)), none⟩])
  .skip))
  (.seq (.reg [] [⟨some 154, some (.move (.tmp 7)), none⟩,
 ⟨some 155, some (.move (.tmp 1)), none⟩,
 ⟨some 156, some (.move (.tmp 22)), none⟩,
 ⟨some 157, some (.call ⟨(.value (.func Zdi)), #[.tmp 154, .tmp 155, .tmp 156], #[Ze, Zd, Z1]⟩), none⟩,
 ⟨some 153, some (.move (.tmp 157)), none⟩,
 ⟨some 158, some (.extract (.tmp 153) 0), none⟩,
 ⟨some 159, some (.extract (.tmp 153) 1), none⟩,
 ⟨some 24, some (.alloc Za), none⟩,
 ⟨none, some (.store Za (.tmp 24) (.tmp 158)), none⟩,
 ⟨some 25, some (.assign (.tmp 159)), none⟩])
  (.seq (.reg [] [⟨some 161, some (.move (.tmp 7)), none⟩,
 ⟨some 162, some (.move (.tmp 16)), none⟩,
 ⟨some 163, some (.move (.tmp 22)), none⟩,
 ⟨some 164, some (.call ⟨(.value (.func Zdi)), #[.tmp 161, .tmp 162, .tmp 163], #[Ze, Zd, Z1]⟩), none⟩,
 ⟨some 160, some (.move (.tmp 164)), none⟩,
 ⟨some 165, some (.extract (.tmp 160) 0), none⟩,
 ⟨some 166, some (.extract (.tmp 160) 1), none⟩,
 ⟨some 26, some (.alloc Za), none⟩,
 ⟨none, some (.store Za (.tmp 26) (.tmp 165)), none⟩,
 ⟨some 27, some (.assign (.tmp 166)), none⟩])
  (.seq (.reg [] [⟨some 168, some (.move (.tmp 7)), none⟩,
 ⟨some 169, some (.move (.tmp 18)), none⟩,
 ⟨some 170, some (.move (.tmp 22)), none⟩,
 ⟨some 171, some (.call ⟨(.value (.func Zdi)), #[.tmp 168, .tmp 169, .tmp 170], #[Ze, Zd, Z1]⟩), none⟩,
 ⟨some 167, some (.move (.tmp 171)), none⟩,
 ⟨some 172, some (.extract (.tmp 167) 0), none⟩,
 ⟨some 173, some (.extract (.tmp 167) 1), none⟩,
 ⟨some 28, some (.alloc Za), none⟩,
 ⟨none, some (.store Za (.tmp 28) (.tmp 172)), none⟩,
 ⟨some 29, some (.assign (.tmp 173)), none⟩])
  (.seq (.reg [] [⟨some 174, some (.move (.tmp 29)), none⟩,
 ⟨some 175, some (.binOp .neq Zd (.tmp 174) (.const (.int .i64 0)) Zd), none⟩,
 ⟨some 176, some (.move (.tmp 175)), none⟩,
 ⟨some 177, some (.load Za (.tmp 24)), some (some 176, false)⟩,
 ⟨some 178, some (.load Za (.tmp 26)), some (some 176, false)⟩,
 ⟨some 179, some (.binOp .neq Za (.tmp 177) (.tmp 178) Za), some (some 176, false)⟩,
 ⟨some 180, some (.pick (.tmp 176) (.const (.bool true)) (.tmp 179)), none⟩,
 ⟨some 181, some (.move (.tmp 180)), none⟩,
 ⟨some 182, some (.load Za (.tmp 24)), some (some 181, false)⟩,
 ⟨some 183, some (.load Za (.tmp 28)), some (some 181, false)⟩,
 ⟨some 184, some (.binOp .neq Za (.tmp 182) (.tmp 183) Za), some (some 181, false)⟩,
 ⟨some 185, some (.pick (.tmp 181) (.const (.bool true)) (.tmp 184)), none⟩])
  (.cond (.tmp 185) (.seq (.reg [] [⟨some 6, some (.assign (.const (.bool false))), none⟩])
  .ret)
  .skip)))))))
  (.reg [] [⟨some 147, some (.move (.tmp 23)), none⟩,
 ⟨some 148, some (.binOp .add Zd (.tmp 147) (.const (.int .i64 1)) Zd), none⟩,
 ⟨some 23, some (.assign (.tmp 148)), none⟩])))
@[simp] theorem Zia : defs Zed = [63, 64, 67, 68, 69, 70, 71, 73, 74, 75, 76, 77, 78, 72, 79, 80, 14, 15, 81, 82, 83, 84, 6, 85, 86, 87, 88, 65, 66, 13] := by rfl
@[simp] theorem Zib : defs Zee = [135, 136, 137, 138, 139, 140, 141, 142, 143, 144, 145, 146, 149, 150, 151, 152, 22, 154, 155, 156, 157, 153, 158, 159, 24, 25, 161, 162, 163, 164, 160, 165, 166, 26, 27, 168, 169, 170, 171, 167, 172, 173, 28, 29, 174, 175, 176, 177, 178, 179, 180, 181, 182, 183, 184, 185, 6, 147, 148, 23] := by rfl
def Zge : LCode := (.seq (.reg [] [⟨some 6, some (.assign (.const (.bool false))), none⟩])
  (.seq (.seq (.reg [] [⟨some 30, some (.call ⟨(.value (.func Zcc)), #[], #[]⟩), none⟩,
 ⟨some 31, some (.unOp .not Z8 (.tmp 30)), none⟩])
  (.cond (.tmp 31) (.seq (.reg [] [⟨some 6, some (.assign (.const (.bool false))), none⟩])
  .ret)
  .skip))
  (.seq (.reg [] [⟨some 33, some (.move (.tmp 0)), none⟩,
 ⟨some 34, some (.call ⟨(.value (.func Zcm)), #[.tmp 33], #[Zm]⟩), none⟩,
 ⟨some 32, some (.move (.tmp 34)), none⟩,
 ⟨some 35, some (.extract (.tmp 32) 0), none⟩,
 ⟨some 36, some (.extract (.tmp 32) 1), none⟩,
 ⟨some 7, some (.assign (.tmp 35)), none⟩,
 ⟨some 8, some (.assign (.tmp 36)), none⟩])
  (.seq (.seq (.reg [] [⟨some 37, some (.move (.tmp 8)), none⟩,
 ⟨some 38, some (.unOp .not Z8 (.tmp 37)), none⟩,
 ⟨some 39, some (.move (.tmp 38)), none⟩,
 ⟨some 40, some (.move (.tmp 2)), some (some 39, false)⟩,
 ⟨some 41, some (.call ⟨(.builtin .len), #[.tmp 40], #[Z1]⟩), some (some 39, false)⟩,
 ⟨some 42, some (.binOp .gtr Zd (.tmp 41) (.const (.int .i64 40)) Zd), some (some 39, false)⟩,
 ⟨some 43, some (.pick (.tmp 39) (.const (.bool true)) (.tmp 42)), none⟩])
  (.cond (.tmp 43) (.seq (.reg [] [⟨some 6, some (.assign (.const (.bool true))), none⟩])
  .ret)
  .skip))
  (.seq (.reg [] [⟨some 44, some (.move (.tmp 1)), none⟩,
 ⟨some 45, some (.move (.tmp 7)), none⟩,
 ⟨some 46, some (.call ⟨(.value (.func Z9)), #[.tmp 45], #[Ze]⟩), none⟩,
 ⟨some 47, some (.call ⟨(.value (.func Zcd)), #[.tmp 44, .tmp 46], #[Zd, Zd]⟩), none⟩,
 ⟨some 48, some (.binOp .add Zd (.const (.int .i64 1)) (.tmp 47) Zd), none⟩,
 ⟨some 1, some (.assign (.tmp 48)), none⟩])
  (.seq (.reg [] [⟨some 50, some (.move (.tmp 7)), none⟩,
 ⟨some 51, some (.move (.tmp 1)), none⟩,
 ⟨some 52, some (.call ⟨(.value (.func Zj)), #[.tmp 50, .tmp 51], #[Ze, Zd]⟩), none⟩,
 ⟨some 49, some (.move (.tmp 52)), none⟩,
 ⟨some 53, some (.extract (.tmp 49) 0), none⟩,
 ⟨some 54, some (.extract (.tmp 49) 1), none⟩,
 ⟨some 9, some (.alloc Zc), none⟩,
 ⟨none, some (.store Zc (.tmp 9) (.tmp 53)), none⟩,
 ⟨some 10, some (.assign (.tmp 54)), none⟩])
  (.seq (.reg [] [⟨some 55, some (.load Zc (.tmp 9)), none⟩,
 ⟨some 11, some (.alloc Zc), none⟩,
 ⟨none, some (.store Zc (.tmp 11) (.tmp 55)), none⟩])
  (.seq (.reg [] [⟨some 56, some (.fieldAddr Zc (.tmp 9) 2), none⟩,
 ⟨some 57, some (.load Zd (.tmp 56)), none⟩,
 ⟨some 58, some (.fieldAddr Zc (.tmp 9) 3), none⟩,
 ⟨some 59, some (.load Zd (.tmp 58)), none⟩,
 ⟨some 60, some (.fieldAddr Zc (.tmp 9) 4), none⟩,
 ⟨some 61, some (.load Zd (.tmp 60)), none⟩,
 ⟨some 62, some (.buildSlice Z0 3 #[(0, (.tmp 57)), (1, (.tmp 59)), (2, (.tmp 61))]), none⟩,
 ⟨some 12, some (.assign (.tmp 62)), none⟩])
  (.seq (.seq (.reg [] [⟨some 13, some (.assign (.const (.int .i64 0))), none⟩])
  (.block 0 (.loop Zed)))
  (.seq (.reg [5, 8, 10, 12, 999, 1012] [⟨some 89, some (.move (.tmp 12)), none⟩,
 ⟨some 90, some (.indexAddr Z0 (.tmp 89) (.const (.int .i64 0))), none⟩,
 ⟨some 91, some (.load Zd (.tmp 90)), none⟩,
 ⟨some 92, some (.move (.tmp 12)), none⟩,
 ⟨some 93, some (.indexAddr Z0 (.tmp 92) (.const (.int .i64 1))), none⟩,
 ⟨some 94, some (.load Zd (.tmp 93)), none⟩,
 ⟨some 95, some (.move (.tmp 12)), none⟩,
 ⟨some 96, some (.indexAddr Z0 (.tmp 95) (.const (.int .i64 2))), none⟩,
 ⟨some 97, some (.load Zd (.tmp 96)), none⟩,
 ⟨some 98, some (.fieldAddr Zc (.tmp 11) 2), none⟩,
 ⟨none, some (.store Zd (.tmp 98) (.tmp 91)), none⟩,
 ⟨some 99, some (.fieldAddr Zc (.tmp 11) 3), none⟩,
 ⟨none, some (.store Zd (.tmp 99) (.tmp 94)), none⟩,
 ⟨some 100, some (.fieldAddr Zc (.tmp 11) 4), none⟩,
 ⟨none, some (.store Zd (.tmp 100) (.tmp 97)), none⟩])
  (.seq (.reg [] [⟨some 102, some (.move (.tmp 7)), none⟩,
 ⟨some 103, some (.load Zc (.tmp 11)), none⟩,
 ⟨some 104, some (.call ⟨(.value (.func Zl)), #[.tmp 102, .tmp 103], #[Ze, Zc]⟩), none⟩,
 ⟨some 101, some (.move (.tmp 104)), none⟩,
 ⟨some 105, some (.extract (.tmp 101) 0), none⟩,
 ⟨some 106, some (.extract (.tmp 101) 1), none⟩,
 ⟨some 16, some (.assign (.tmp 105)), none⟩,
 ⟨some 17, some (.assign (.tmp 106)), none⟩])
  (.seq (.reg [] [⟨some 108, some (.move (.tmp 7)), none⟩,
 ⟨some 109, some (.move (.tmp 16)), none⟩,
 ⟨some 110, some (.call ⟨(.value (.func Zu)), #[.tmp 108, .tmp 109], #[Ze, Zd]⟩), none⟩,
 ⟨some 107, some (.move (.tmp 110)), none⟩,
 ⟨some 111, some (.extract (.tmp 107) 0), none⟩,
 ⟨some 112, some (.extract (.tmp 107) 1), none⟩,
 ⟨some 18, some (.assign (.tmp 111)), none⟩,
 ⟨some 19, some (.assign (.tmp 112)), none⟩])
  (.seq (.seq (.reg [] [⟨some 113, some (.move (.tmp 17)), none⟩,
 ⟨some 114, some (.move (.tmp 19)), none⟩,
 ⟨some 115, some (.binOp .add Zd (.tmp 113) (.tmp 114) Zd), none⟩,
 ⟨some 116, some (.binOp .neq Zd (.tmp 115) (.const (.int .i64 0)) Zd), none⟩])
  (.cond (.tmp 116) (.seq (.reg [] [⟨some 117, some (.move (.tmp 17)), none⟩,
 ⟨some 118, some (.binOp .eql Zd (.tmp 117) (.const (.int .i64 33)) Zd), none⟩,
 ⟨some 119, some (.move (.tmp 118)), none⟩,
 ⟨some 120, some (.move (.tmp 17)), some (some 119, false)⟩,
 ⟨some 121, some (.binOp .eql Zd (.tmp 120) (.const (.int .i64 0)) Zd), some (some 119, false)⟩,
 ⟨some 122, some (.move (.tmp 121)), some (some 119, false)⟩,
 ⟨some 123, some (.move (.tmp 19)), some (some 122, true)⟩,
 ⟨some 124, some (.binOp .eql Zd (.tmp 123) (.const (.int .i64 33)) Zd), some (some 122, true)⟩,
 ⟨some 125, some (.pick (.tmp 122) (.tmp 124) (.const (.bool false))), some (some 119, false)⟩,
 ⟨some 126, some (.pick (.tmp 119) (.const (.bool true)) (.tmp 125)), none⟩,
 ⟨some 6, some (.assign (.tmp 126)), none⟩])
  .ret)
  .skip))
  (.seq (.reg [] [⟨some 128, some (.move (.tmp 7)), none⟩,
 ⟨some 129, some (.call ⟨(.value (.func Zc7)), #[(.tmp 128), (.const (.int .i64 7))], #[Ze, Zd]⟩), none⟩,
 ⟨some 127, some (.move (.tmp 129)), none⟩,
 ⟨some 130, some (.extract (.tmp 127) 0), none⟩,
 ⟨some 131, some (.extract (.tmp 127) 1), none⟩,
 ⟨some 20, some (.assign (.tmp 130)), none⟩,
 ⟨some 21, some (.assign (.tmp 131)), none⟩])
  (.seq (.reg [] [⟨some 132, some (.move (.tmp 7)), none⟩,
 ⟨some 133, some (.move (.tmp 2)), none⟩,
 ⟨some 134, some (.call ⟨(.value (.func Zdm)), #[.tmp 132, .tmp 133], #[Ze, Z1]⟩), none⟩,
 ⟨some 22, some (.assign (.tmp 134)), none⟩])
  (.seq (.seq (.reg [] [⟨some 23, some (.assign (.const (.int .i64 0))), none⟩])
  (.block 2 (.loop Zee)))
  (.seq (.reg [] [⟨some 6, some (.assign (.const (.bool true))), none⟩])
  .ret)))))))))))))))))
theorem Zi3 {a0 a1 a2 : AV} {H : AHeap} : R Zdh [a0, a1, a2] H = fnK Try.prog [] H [(.tmp 6)] (evalL Try.prog KT R Zge (Env.args [a0, a1, a2] 0) H) :=
  runs_body (D := DT) (f := Zdh) Try.func6 (by kernel_rfl) (by kernel_rfl) (by kernel_rfl) (by kernel_rfl) (by kernel_rfl) (Nat.le_of_ble_eq_true rfl)
def Zgl : LCode := (.seq (.reg [] [⟨some 0, some (.assign (.const (.bool false))), none⟩])
  (.seq (.reg [] [⟨some 24, some (.call ⟨(.value (.func Zfd)), #[(.const (.int .i64 50))], #[Zd]⟩), none⟩,
 ⟨some 1, some (.assign (.tmp 24)), none⟩])
  (.seq (.seq (.reg [] [⟨some 25, some (.move (.tmp 1)), none⟩,
 ⟨some 26, some (.binOp .eql Ze (.tmp 25) (.const (.pointer none)) Ze), none⟩])
  (.cond (.tmp 26) (.seq (.reg [] [⟨some 0, some (.assign (.const (.bool false))), none⟩])
  .ret)
  .skip))
  (.seq (.reg [] [⟨some 28, some (.move (.tmp 1)), none⟩,
 ⟨some 29, some (.build Zc #[(0, (.const (.int .i64 2))), (1, (.const (.int .i64 4))), (8, (.const (.string { data := #[120] })))]), none⟩,
 ⟨some 30, some (.call ⟨(.value (.func Zl)), #[.tmp 28, .tmp 29], #[Ze, Zc]⟩), none⟩,
 ⟨some 27, some (.move (.tmp 30)), none⟩,
 ⟨some 31, some (.extract (.tmp 27) 0), none⟩,
 ⟨some 32, some (.extract (.tmp 27) 1), none⟩,
 ⟨some 2, some (.assign (.tmp 31)), none⟩,
 ⟨some 3, some (.assign (.tmp 32)), none⟩])
  (.seq (.reg [] [⟨some 34, some (.move (.tmp 1)), none⟩,
 ⟨some 35, some (.build Za #[(0, (.const (.int .i64 4))), (1, (.const (.int .u64 3)))]), none⟩,
 ⟨some 36, some (.build Zc #[(0, (.const (.int .i64 1))), (1, (.const (.int .i64 4))), (7, (.tmp 35))]), none⟩,
 ⟨some 37, some (.call ⟨(.value (.func Zl)), #[.tmp 34, .tmp 36], #[Ze, Zc]⟩), none⟩,
 ⟨some 33, some (.move (.tmp 37)), none⟩,
 ⟨some 38, some (.extract (.tmp 33) 0), none⟩,
 ⟨some 39, some (.extract (.tmp 33) 1), none⟩,
 ⟨some 4, some (.assign (.tmp 38)), none⟩,
 ⟨some 5, some (.assign (.tmp 39)), none⟩])
  (.seq (.reg [] [⟨some 41, some (.move (.tmp 1)), none⟩,
 ⟨some 42, some (.build Za #[(0, (.const (.int .i64 4)))]), none⟩,
 ⟨some 43, some (.build Zc #[(0, (.const (.int .i64 1))), (1, (.const (.int .i64 4))), (7, (.tmp 42))]), none⟩,
 ⟨some 44, some (.call ⟨(.value (.func Zl)), #[.tmp 41, .tmp 43], #[Ze, Zc]⟩), none⟩,
 ⟨some 40, some (.move (.tmp 44)), none⟩,
 ⟨some 45, some (.extract (.tmp 40) 0), none⟩,
 ⟨some 46, some (.extract (.tmp 40) 1), none⟩,
 ⟨some 6, some (.assign (.tmp 45)), none⟩,
 ⟨some 7, some (.assign (.tmp 46)), none⟩])
  (.seq (.reg [] [⟨some 48, some (.move (.tmp 1)), none⟩,
 ⟨some 49, some (.move (.tmp 4)), none⟩,
 ⟨some 50, some (.move (.tmp 6)), none⟩,
 ⟨some 51, some (.build Zc #[(0, (.const (.int .i64 20))), (2, (.tmp 49)), (3, (.tmp 50))]), none⟩,
 ⟨some 52, some (.call ⟨(.value (.func Zl)), #[.tmp 48, .tmp 51], #[Ze, Zc]⟩), none⟩,
 ⟨some 47, some (.move (.tmp 52)), none⟩,
 ⟨some 53, some (.extract (.tmp 47) 0), none⟩,
 ⟨some 54, some (.extract (.tmp 47) 1), none⟩,
 ⟨some 8, some (.assign (.tmp 53)), none⟩,
 ⟨some 9, some (.assign (.tmp 54)), none⟩])
  (.seq (.reg [] [⟨some 56, some (.move (.tmp 1)), none⟩,
 ⟨some 57, some (.move (.tmp 2)), none⟩,
 ⟨some 58, some (.move (.tmp 8)), none⟩,
 ⟨some 59, some (.build Zc #[(0, (.const (.int .i64 18))), (2, (.tmp 57)), (3, (.tmp 58))]), none⟩,
 ⟨some 60, some (.call ⟨(.value (.func Zl)), #[.tmp 56, .tmp 59], #[Ze, Zc]⟩), none⟩,
 ⟨some 55, some (.move (.tmp 60)), none⟩,
 ⟨some 61, some (.extract (.tmp 55) 0), none⟩,
 ⟨some 62, some (.extract (.tmp 55) 1), none⟩,
 ⟨some 10, some (.assign (.tmp 61)), none⟩,
 ⟨some 11, some (.assign (.tmp 62)), none⟩])
  (.seq (.reg [] [⟨some 64, some (.move (.tmp 1)), none⟩,
 ⟨some 65, some (.move (.tmp 2)), none⟩,
 ⟨some 66, some (.move (.tmp 2)), none⟩,
 ⟨some 67, some (.build Zc #[(0, (.const (.int .i64 8))), (2, (.tmp 65)), (3, (.tmp 66))]), none⟩,
 ⟨some 68, some (.call ⟨(.value (.func Zl)), #[.tmp 64, .tmp 67], #[Ze, Zc]⟩), none⟩,
 ⟨some 63, some (.move (.tmp 68)), none⟩,
 ⟨some 69, some (.extract (.tmp 63) 0), none⟩,
 ⟨some 70, some (.extract (.tmp 63) 1), none⟩,
 ⟨some 12, some (.assign (.tmp 69)), none⟩,
 ⟨some 13, some (.assign (.tmp 70)), none⟩])
  (.seq (.reg [] [⟨some 72, some (.move (.tmp 1)), none⟩,
 ⟨some 73, some (.move (.tmp 10)), none⟩,
 ⟨some 74, some (.call ⟨(.value (.func Zu)), #[.tmp 72, .tmp 73], #[Ze, Zd]⟩), none⟩,
 ⟨some 71, some (.move (.tmp 74)), none⟩,
 ⟨some 75, some (.extract (.tmp 71) 0), none⟩,
 ⟨some 76, some (.extract (.tmp 71) 1), none⟩,
 ⟨some 14, some (.assign (.tmp 75)), none⟩,
 ⟨some 15, some (.assign (.tmp 76)), none⟩])
  (.seq (.reg [] [⟨some 78, some (.move (.tmp 1)), none⟩,
 ⟨some 79, some (.move (.tmp 12)), none⟩,
 ⟨some 80, some (.call ⟨(.value (.func Zu)), #[.tmp 78, .tmp 79], #[Ze, Zd]⟩), none⟩,
 ⟨some 77, some (.move (.tmp 80)), none⟩,
 ⟨some 81, some (.extract (.tmp 77) 0), none⟩,
 ⟨some 82, some (.extract (.tmp 77) 1), none⟩,
 ⟨some 16, some (.assign (.tmp 81)), none⟩,
 ⟨some 17, some (.assign (.tmp 82)), none⟩])
  (.seq (.reg [] [⟨some 84, some (.move (.tmp 1)), none⟩,
 ⟨some 85, some (.move (.tmp 16)), none⟩,
 ⟨some 86, some (.call ⟨(.value (.func Zj)), #[.tmp 84, .tmp 85], #[Ze, Zd]⟩), none⟩,
 ⟨some 83, some (.move (.tmp 86)), none⟩,
 ⟨some 87, some (.extract (.tmp 83) 0), none⟩,
 ⟨some 88, some (.extract (.tmp 83) 1), none⟩,
 ⟨some 18, some (.alloc Zc), none⟩,
 ⟨none, some (.store Zc (.tmp 18) (.tmp 87)), none⟩,
 ⟨some 19, some (.assign (.tmp 88)), none⟩])
  (.seq (.reg [] [⟨some 90, some (.move (.tmp 1)), none⟩,
 ⟨some 91, some (.move (.tmp 10)), none⟩,
 ⟨some 92, some (.call ⟨(.value (.func Zdc)), #[.tmp 90, .tmp 91], #[Ze, Zd]⟩), none⟩,
 ⟨some 89, some (.move (.tmp 92)), none⟩,
 ⟨some 93, some (.extract (.tmp 89) 0), none⟩,
 ⟨some 94, some (.extract (.tmp 89) 1), none⟩,
 ⟨some 20, some (.assign (.tmp 93)), none⟩,
 ⟨some 21, some (.assign (.tmp 94)), none⟩])
  (.seq (.reg [] [⟨some 96, some (.move (.tmp 1)), none⟩,
 ⟨some 97, some (.call ⟨(.value (.func Zu)), #[(.tmp 96), (.const (.int .i64 99))], #[Ze, Zd]⟩), none⟩,
 ⟨some 95, some (.move (.tmp 97)), none⟩,
 ⟨some 98, some (.extract (.tmp 95) 0), none⟩,
 ⟨some 99, some (.extract (.tmp 95) 1), none⟩,
 ⟨some 22, some (.assign (.tmp 98)), none⟩,
 ⟨some 23, some (.assign (.tmp 99)), none⟩])
  (.seq (.reg [] [⟨some 100, some (.move (.tmp 15)), none⟩,
 ⟨some 101, some (.move (.tmp 17)), none⟩,
 ⟨some 102, some (.binOp .add Zd (.tmp 100) (.tmp 101) Zd), none⟩,
 ⟨some 103, some (.move (.tmp 21)), none⟩,
 ⟨some 104, some (.binOp .add Zd (.tmp 102) (.tmp 103) Zd), none⟩,
 ⟨some 105, some (.binOp .eql Zd (.tmp 104) (.const (.int .i64 0)) Zd), none⟩,
 ⟨some 106, some (.move (.tmp 105)), none⟩,
 ⟨some 107, some (.move (.tmp 23)), some (some 106, true)⟩,
 ⟨some 108, some (.binOp .eql Zd (.tmp 107) (.const (.int .i64 70)) Zd), some (some 106, true)⟩,
 ⟨some 109, some (.pick (.tmp 106) (.tmp 108) (.const (.bool false))), none⟩,
 ⟨some 110, some (.move (.tmp 109)), none⟩,
 ⟨some 111, some (.move (.tmp 14)), some (some 110, true)⟩,
 ⟨some 112, some (.move (.tmp 2)), some (some 110, true)⟩,
 ⟨some 113, some (.binOp .eql Zd (.tmp 111) (.tmp 112) Zd), some (some 110, true)⟩,
 ⟨some 114, some (.pick (.tmp 110) (.tmp 113) (.const (.bool false))), none⟩,
 ⟨some 115, some (.move (.tmp 114)), none⟩,
 ⟨some 116, some (.move (.tmp 19)), some (some 115, true)⟩,
 ⟨some 117, some (.pick (.tmp 115) (.tmp 116) (.const (.bool false))), none⟩,
 ⟨some 118, some (.move (.tmp 117)), none⟩,
 ⟨some 119, some (.fieldAddr Zc (.tmp 18) 0), some (some 118, true)⟩,
 ⟨some 120, some (.load Zd (.tmp 119)), some (some 118, true)⟩,
 ⟨some 121, some (.binOp .eql Zd (.tmp 120) (.const (.int .i64 1)) Zd), some (some 118, true)⟩,
 ⟨some 122, some (.pick (.tmp 118) (.tmp 121) (.const (.bool false))), none⟩,
 ⟨some 123, some (.move (.tmp 122)), none⟩,
 ⟨some 124, some (.fieldAddr Zc (.tmp 18) 7), some (some 123, true)⟩,
 ⟨some 125, some (.load Za (.tmp 124)), some (some 123, true)⟩,
 ⟨some 126, some (.build Za #[(1, (.const (.int .u64 1)))]), some (some 123, true)⟩,
 ⟨some 127, some (.binOp .eql Za (.tmp 125) (.tmp 126) Za), some (some 123, true)⟩,
 ⟨some 128, some (.pick (.tmp 123) (.tmp 127) (.const (.bool false))), none⟩,
 ⟨some 129, some (.move (.tmp 128)), none⟩,
 ⟨some 130, some (.move (.tmp 20)), some (some 129, true)⟩,
 ⟨some 131, some (.binOp .eql Zd (.tmp 130) (.const (.int .i64 5)) Zd), some (some 129, true)⟩,
 ⟨some 132, some (.pick (.tmp 129) (.tmp 131) (.const (.bool false))), none⟩,
 ⟨some 0, some (.assign (.tmp 132)), none⟩])
  .ret)))))))))))))))
theorem Zhx {H : AHeap} : R Zcc [] H = fnK Try.prog [] H [(.tmp 0)] (evalL Try.prog KT R Zgl (Env.args [] 0) H) :=
  runs_body (D := DT) (f := Zcc) Try.func7 (by kernel_rfl) (by kernel_rfl) (by kernel_rfl) (by kernel_rfl) (by kernel_rfl) (Nat.le_of_ble_eq_true rfl)
def Zdf : LCode := (.seq (.seq (.reg [] [⟨some 10, some (.move (.tmp 5)), none⟩,
 ⟨some 11, some (.move (.tmp 0)), none⟩,
 ⟨some 12, some (.call ⟨(.builtin .len), #[.tmp 11], #[Zm]⟩), none⟩,
 ⟨some 13, some (.binOp .lss Zd (.tmp 10) (.tmp 12) Zd), none⟩])
  (.cond (.tmp 13) .skip
  (.exit 0)))
  (.seq (.block 1 (.seq (.seq (.reg [] [⟨some 16, some (.move (.tmp 0)), none⟩,
 ⟨some 17, some (.move (.tmp 5)), none⟩,
 ⟨some 18, some (.indexAddr Zm (.tmp 16) (.tmp 17)), none⟩,
 ⟨some 19, some (.fieldAddr Zc (.tmp 18) 8), none⟩,
 ⟨some 20, some (.load Zcg (.tmp 19)), none⟩,
 ⟨some 21, some (.call ⟨(.builtin .len), #[.tmp 20], #[Zcg]⟩), none⟩,
 ⟨some 22, some (.binOp .gtr Zd (.tmp 21) (.const (.int .i64 60)) Zd), none⟩])
  (.cond (.tmp 22) (.seq (.reg [] [⟨some 2, some (.assign (.const (.pointer none))), none⟩,
 ⟨some 3, some (.assign (.const (.bool false))), none⟩])
  .ret)
  .skip))
  (.reg [] [⟨some 23, some (.move (.tmp 4)), none⟩,
 ⟨some 24, some (.move (.tmp 0)), none⟩,
 ⟨some 25, some (.move (.tmp 5)), none⟩,
 ⟨some 26, some (.indexAddr Zm (.tmp 24) (.tmp 25)), none⟩,
 ⟨some 27, some (.load Zc (.tmp 26)), none⟩,
 ⟨some 28, some (.call ⟨(.value (.func Zl)), #[.tmp 23, .tmp 27], #[Ze, Zc]⟩), none⟩])))
  (.reg [] [⟨some 14, some (.move (.tmp 5)), none⟩,
 ⟨some 15, some (.binOp .add Zd (.tmp 14) (.const (.int .i64 1)) Zd), none⟩,
 ⟨some 5, some (.assign (.tmp 15)), none⟩])))
@[simp] theorem Zj6 : defs Zdf = [10, 11, 12, 13, 16, 17, 18, 19, 20, 21, 22, 2, 3, 23, 24, 25, 26, 27, 28, 14, 15, 5] := by rfl
def Zfu : LCode := (.seq (.reg [] [⟨some 2, some (.assign (.const (.pointer none))), none⟩,
 ⟨some 3, some (.assign (.const (.bool false))), none⟩])
  (.seq (.seq (.reg [] [⟨some 6, some (.move (.tmp 0)), none⟩,
 ⟨some 7, some (.call ⟨(.builtin .len), #[.tmp 6], #[Zm]⟩), none⟩,
 ⟨some 8, some (.binOp .gtr Zd (.tmp 7) (.const (.int .i64 60)) Zd), none⟩])
  (.cond (.tmp 8) (.seq (.reg [] [⟨some 2, some (.assign (.const (.pointer none))), none⟩,
 ⟨some 3, some (.assign (.const (.bool false))), none⟩])
  .ret)
  .skip))
  (.seq (.reg [] [⟨some 9, some (.call ⟨(.value (.func Zfd)), #[(.const (.int .i64 4096))], #[Zd]⟩), none⟩,
 ⟨some 4, some (.assign (.tmp 9)), none⟩])
  (.seq (.seq (.reg [] [⟨some 5, some (.assign (.const (.int .i64 0))), none⟩])
  (.block 0 (.loop Zdf)))
  (.seq (.reg [] [⟨some 29, some (.move (.tmp 4)), none⟩,
 ⟨some 30, some (.move (.tmp 4)), none⟩,
 ⟨some 31, some (.call ⟨(.value (.func Z9)), #[.tmp 30], #[Ze]⟩), none⟩,
 ⟨some 32, some (.binOp .gtr Zd (.tmp 31) (.const (.int .i64 0)) Zd), none⟩,
 ⟨some 2, some (.assign (.tmp 29)), none⟩,
 ⟨some 3, some (.assign (.tmp 32)), none⟩])
  .ret)))))
theorem Zic {a0 : AV} {H : AHeap} : R Zcm [a0] H = fnK Try.prog [] H [(.tmp 2), (.tmp 3)] (evalL Try.prog KT R Zfu (Env.args [a0] 0) H) :=
  runs_body (D := DT) (f := Zcm) Try.func8 (by kernel_rfl) (by kernel_rfl) (by kernel_rfl) (by kernel_rfl) (by kernel_rfl) (Nat.le_of_ble_eq_true rfl)
def Zff : LCode := (.seq (.reg [] [⟨some 4, some (.assign (.const (.int .i64 0))), none⟩])
  (.seq (.reg [] [⟨some 5, some (.move (.tmp 0)), none⟩,
 ⟨some 6, some (.move (.tmp 1)), none⟩,
 ⟨some 7, some (.binOp .rem Zd (.tmp 5) (.tmp 6) Zd), none⟩,
 ⟨some 0, some (.assign (.tmp 7)), none⟩])
  (.seq (.seq (.reg [] [⟨some 8, some (.move (.tmp 0)), none⟩,
 ⟨some 9, some (.binOp .lss Zd (.tmp 8) (.const (.int .i64 0)) Zd), none⟩])
  (.cond (.tmp 9) (.reg [] [⟨some 10, some (.move (.tmp 0)), none⟩,
 ⟨some 11, some (.move (.tmp 1)), none⟩,
 ⟨some 12, some (.binOp .add Zd (.tmp 10) (.tmp 11) Zd), none⟩,
 ⟨some 0, some (.assign (.tmp 12)), none⟩])
  .skip))
  (.seq (.reg [] [⟨some 13, some (.move (.tmp 0)), none⟩,
 ⟨some 4, some (.assign (.tmp 13)), none⟩])
  .ret))))
theorem Zhy {a0 a1 : AV} {H : AHeap} : R Zcd [a0, a1] H = fnK Try.prog [] H [(.tmp 4)] (evalL Try.prog KT R Zff (Env.args [a0, a1] 0) H) :=
  runs_body (D := DT) (f := Zcd) Try.func9 (by kernel_rfl) (by kernel_rfl) (by kernel_rfl) (by kernel_rfl) (by kernel_rfl) (Nat.le_of_ble_eq_true rfl)
def Zfb : LCode := (.seq (.reg [] [⟨some 2, some (.assign (.const (.int .i64 0))), none⟩])
  (.seq (.reg [] [⟨some 3, some (.move (.tmp 0)), none⟩,
 ⟨some 4, some (.nilCheck (.tmp 3)), none⟩,
 ⟨some 5, some (.fieldAddr Z3 (.tmp 4) 1), none⟩,
 ⟨some 6, some (.load Zm (.tmp 5)), none⟩,
 ⟨some 7, some (.call ⟨(.builtin .len), #[.tmp 6], #[Zm]⟩), none⟩,
 ⟨some 2, some (.assign (.tmp 7)), none⟩])
  .ret))
theorem Zgx {a0 : AV} {H : AHeap} : R Z9 [a0] H = fnK Try.prog [] H [(.tmp 2)] (evalL Try.prog KT R Zfb (Env.args [a0] 0) H) :=
  runs_body (D := DT) (f := Z9) Try.func10 (by kernel_rfl) (by kernel_rfl) (by kernel_rfl) (by kernel_rfl) (by kernel_rfl) (Nat.le_of_ble_eq_true rfl)
def Zcv : LCode := (.seq (.reg [] [⟨some 30, some (.binOp .lss Zd (.tmp 29) (.tmp 28) Zd), none⟩])
  (.seq (.cond (.tmp 30) .skip
  (.exit 0))
  (.seq (.block 1 (.seq (.reg [] [⟨some 31, some (.indexAddr Z0 (.tmp 27) (.tmp 29)), none⟩,
 ⟨some 32, some (.load Zd (.tmp 31)), none⟩,
 ⟨some 10, some (.assign (.tmp 32)), none⟩])
  (.seq (.reg [] [⟨some 34, some (.move (.tmp 0)), none⟩,
 ⟨some 35, some (.move (.tmp 10)), none⟩,
 ⟨some 36, some (.call ⟨(.value (.func Zj)), #[.tmp 34, .tmp 35], #[Ze, Zd]⟩), none⟩,
 ⟨some 33, some (.move (.tmp 36)), none⟩,
 ⟨some 37, some (.extract (.tmp 33) 0), none⟩,
 ⟨some 38, some (.extract (.tmp 33) 1), none⟩,
 ⟨some 11, some (.alloc Zc), none⟩,
 ⟨none, some (.store Zc (.tmp 11) (.tmp 37)), none⟩,
 ⟨some 12, some (.assign (.tmp 38)), none⟩])
  (.seq (.reg [10, 17, 22, 24, 1011] [⟨some 39, some (.move (.tmp 8)), none⟩,
 ⟨some 40, some (.nilCheck (.tmp 39)), none⟩,
 ⟨some 41, some (.fieldAddr Zs (.tmp 40) 1), none⟩,
 ⟨some 42, some (.load Zch (.tmp 41)), none⟩,
 ⟨some 43, some (.fieldAddr Zc (.tmp 11) 2), none⟩,
 ⟨some 44, some (.load Zd (.tmp 43)), none⟩,
 ⟨some 45, some (.lookup Zch (.tmp 42) (.tmp 44) false), none⟩,
 ⟨some 46, some (.move (.tmp 8)), none⟩,
 ⟨some 47, some (.nilCheck (.tmp 46)), none⟩,
 ⟨some 48, some (.fieldAddr Zs (.tmp 47) 1), none⟩,
 ⟨some 49, some (.load Zch (.tmp 48)), none⟩,
 ⟨some 50, some (.fieldAddr Zc (.tmp 11) 3), none⟩,
 ⟨some 51, some (.load Zd (.tmp 50)), none⟩,
 ⟨some 52, some (.lookup Zch (.tmp 49) (.tmp 51) false), none⟩,
 ⟨some 53, some (.move (.tmp 8)), none⟩,
 ⟨some 54, some (.nilCheck (.tmp 53)), none⟩,
 ⟨some 55, some (.fieldAddr Zs (.tmp 54) 1), none⟩,
 ⟨some 56, some (.load Zch (.tmp 55)), none⟩,
 ⟨some 57, some (.fieldAddr Zc (.tmp 11) 4), none⟩,
 ⟨some 58, some (.load Zd (.tmp 57)), none⟩,
 ⟨some 59, some (.lookup Zch (.tmp 56) (.tmp 58) false), none⟩,
 ⟨some 60, some (.fieldAddr Zc (.tmp 11) 2), none⟩,
 ⟨none, some (.store Zd (.tmp 60) (.tmp 45)), none⟩,
 ⟨some 61, some (.fieldAddr Zc (.tmp 11) 3), none⟩,
 ⟨none, some (.store Zd (.tmp 61) (.tmp 52)), none⟩,
 ⟨some 62, some (.fieldAddr Zc (.tmp 11) 4), none⟩,
 ⟨none, some (.store Zd (.tmp 62) (.tmp 59)), none⟩])
  (.seq (.reg [3, 7, 801, 997, 1008] [⟨some 63, some (.move (.tmp 8)), none⟩,
 ⟨some 64, some (.nilCheck (.tmp 63)), none⟩,
 ⟨some 65, some (.fieldAddr Zs (.tmp 64) 1), none⟩,
 ⟨some 66, some (.load Zch (.tmp 65)), none⟩,
 ⟨some 67, some (.move (.tmp 10)), none⟩,
 ⟨some 68, some (.move (.tmp 8)), none⟩,
 ⟨some 69, some (.load Zc (.tmp 11)), none⟩,
 ⟨some 70, some (.call ⟨(.value (.func Zn)), #[.tmp 68, .tmp 69], #[Zi, Zc]⟩), none⟩,
 ⟨none, some (.mapUpdate Zch (.tmp 66) (.tmp 67) (.tmp 70)), none⟩])
  (.seq (.reg [] [⟨some 71, some (.move (.tmp 8)), none⟩,
 ⟨some 72, some (.nilCheck (.tmp 71)), none⟩,
 ⟨some 73, some (.fieldAddr Zs (.tmp 72) 2), none⟩,
 ⟨some 74, some (.load Zbd (.tmp 73)), none⟩,
 ⟨some 75, some (.binOp .neq Zbd (.tmp 74) (.const (.int .i64 0)) Zbd), none⟩])
  (.cond (.tmp 75) (.seq (.reg [] [⟨some 76, some (.move (.tmp 8)), none⟩,
 ⟨some 77, some (.nilCheck (.tmp 76)), none⟩,
 ⟨some 78, some (.fieldAddr Zs (.tmp 77) 2), none⟩,
 ⟨some 79, some (.load Zbd (.tmp 78)), none⟩,
 ⟨some 4, some (.assign (.const (.int .i64 0))), none⟩,
 ⟨some 5, some (.assign (.tmp 79)), none⟩])
  .ret)
  .skip)))))))
  (.reg [] [⟨some 80, some (.binOp .add Zd (.tmp 29) (.const (.int .i64 1)) Zd), none⟩,
 ⟨some 29, some (.move (.tmp 80)), none⟩]))))
@[simp] theorem Zjq : defs Zcv = [30, 31, 32, 10, 34, 35, 36, 33, 37, 38, 11, 12, 39, 40, 41, 42, 43, 44, 45, 46, 47, 48, 49, 50, 51, 52, 53, 54, 55, 56, 57, 58, 59, 60, 61, 62, 63, 64, 65, 66, 67, 68, 69, 70, 71, 72, 73, 74, 75, 76, 77, 78, 79, 4, 5, 80, 29] := by rfl
def Ze8 : LCode := (.seq (.reg [] [⟨some 4, some (.assign (.const (.int .i64 0))), none⟩,
 ⟨some 5, some (.assign (.const (.int .i64 0))), none⟩])
  (.seq (.seq (.reg [] [⟨some 14, some (.move (.tmp 0)), none⟩,
 ⟨some 15, some (.move (.tmp 1)), none⟩,
 ⟨some 16, some (.call ⟨(.value (.func Zj)), #[.tmp 14, .tmp 15], #[Ze, Zd]⟩), none⟩,
 ⟨some 13, some (.move (.tmp 16)), none⟩,
 ⟨some 17, some (.extract (.tmp 13) 0), none⟩,
 ⟨some 18, some (.extract (.tmp 13) 1), none⟩,
 ⟨some 6, some (.alloc Zc), none⟩,
 ⟨none, some (.store Zc (.tmp 6) (.tmp 17)), none⟩,
 ⟨some 7, some (.assign (.tmp 18)), none⟩])
  (.seq (.reg [] [⟨some 19, some (.move (.tmp 7)), none⟩,
 ⟨some 20, some (.unOp .not Z8 (.tmp 19)), none⟩])
  (.cond (.tmp 20) (.seq (.reg [] [⟨some 4, some (.assign (.const (.int .i64 0))), none⟩,
 ⟨some 5, some (.assign (.const (.int .i64 70))), none⟩])
  .ret)
  .skip)))
  (.seq (.reg [] [⟨some 21, some (.move (.tmp 0)), none⟩,
 ⟨some 22, some (.makeMap Zch none), none⟩,
 ⟨some 23, some (.build Zs #[(0, (.tmp 21)), (1, (.tmp 22))]), none⟩,
 ⟨some 24, some (.box Zs (.tmp 23)), none⟩,
 ⟨some 8, some (.assign (.tmp 24)), none⟩])
  (.seq (.seq (.reg [] [⟨some 25, some (.move (.tmp 0)), none⟩,
 ⟨some 26, some (.move (.tmp 1)), none⟩,
 ⟨some 27, some (.call ⟨(.value (.func Z4)), #[.tmp 25, .tmp 26], #[Ze, Zd]⟩), none⟩,
 ⟨some 28, some (.call ⟨(.builtin .len), #[.tmp 27], #[Z0]⟩), none⟩,
 ⟨some 29, some (.move (.const (.int .i64 0))), none⟩])
  (.block 0 (.loop Zcv)))
  (.seq (.reg [] [⟨some 81, some (.move (.tmp 8)), none⟩,
 ⟨some 82, some (.nilCheck (.tmp 81)), none⟩,
 ⟨some 83, some (.fieldAddr Zs (.tmp 82) 1), none⟩,
 ⟨some 84, some (.load Zch (.tmp 83)), none⟩,
 ⟨some 85, some (.move (.tmp 1)), none⟩,
 ⟨some 86, some (.lookup Zch (.tmp 84) (.tmp 85) false), none⟩,
 ⟨some 4, some (.assign (.tmp 86)), none⟩,
 ⟨some 5, some (.assign (.const (.int .i64 0))), none⟩])
  .ret)))))
theorem Zhq {a0 a1 : AV} {H : AHeap} : R Zu [a0, a1] H = fnK Try.prog [] H [(.tmp 4), (.tmp 5)] (evalL Try.prog KT R Ze8 (Env.args [a0, a1] 0) H) :=
  runs_body (D := DT) (f := Zu) Try.func11 (by kernel_rfl) (by kernel_rfl) (by kernel_rfl) (by kernel_rfl) (by kernel_rfl) (Nat.le_of_ble_eq_true rfl)
def Zgw : LCode := (.seq (.reg [] [⟨some 4, some (.assign (.const (.int .i64 0))), none⟩,
 ⟨some 5, some (.assign (.const (.int .i64 0))), none⟩])
  (.seq (.seq (.reg [] [⟨some 9, some (.move (.tmp 0)), none⟩,
 ⟨some 10, some (.move (.tmp 1)), none⟩,
 ⟨some 11, some (.call ⟨(.value (.func Zj)), #[.tmp 9, .tmp 10], #[Ze, Zd]⟩), none⟩,
 ⟨some 8, some (.move (.tmp 11)), none⟩,
 ⟨some 12, some (.extract (.tmp 8) 0), none⟩,
 ⟨some 13, some (.extract (.tmp 8) 1), none⟩,
 ⟨some 6, some (.alloc Zc), none⟩,
 ⟨none, some (.store Zc (.tmp 6) (.tmp 12)), none⟩,
 ⟨some 7, some (.assign (.tmp 13)), none⟩])
  (.seq (.reg [] [⟨some 14, some (.move (.tmp 7)), none⟩,
 ⟨some 15, some (.unOp .not Z8 (.tmp 14)), none⟩])
  (.cond (.tmp 15) (.seq (.reg [] [⟨some 4, some (.assign (.const (.int .i64 0))), none⟩,
 ⟨some 5, some (.assign (.const (.int .i64 70))), none⟩])
  .ret)
  .skip)))
  (.seq (.reg [] [⟨some 16, some (.move (.tmp 0)), none⟩,
 ⟨some 17, some (.move (.tmp 1)), none⟩,
 ⟨some 18, some (.call ⟨(.value (.func Z4)), #[.tmp 16, .tmp 17], #[Ze, Zd]⟩), none⟩,
 ⟨some 19, some (.call ⟨(.builtin .len), #[.tmp 18], #[Z0]⟩), none⟩,
 ⟨some 4, some (.assign (.tmp 19)), none⟩,
 ⟨some 5, some (.assign (.const (.int .i64 0))), none⟩])
  .ret)))
theorem Zid {a0 a1 : AV} {H : AHeap} : R Zdc [a0, a1] H = fnK Try.prog [] H [(.tmp 4), (.tmp 5)] (evalL Try.prog KT R Zgw (Env.args [a0, a1] 0) H) :=
  runs_body (D := DT) (f := Zdc) Try.func12 (by kernel_rfl) (by kernel_rfl) (by kernel_rfl) (by kernel_rfl) (by kernel_rfl) (Nat.le_of_ble_eq_true rfl)
def Zb7 : LCode := (.seq (.seq (.reg [] [⟨some 29, some (.move (.tmp 7)), none⟩,
 ⟨some 30, some (.binOp .gtr Zd (.tmp 29) (.const (.int .i64 0)) Zd), none⟩])
  (.cond (.tmp 30) .skip
  (.exit 0)))
  (.seq (.block 1 (.seq (.seq (.reg [] [⟨some 33, some (.move (.tmp 5)), none⟩,
 ⟨some 34, some (.move (.tmp 7)), none⟩,
 ⟨some 35, some (.indexAddr Zfy (.tmp 33) (.tmp 34)), none⟩,
 ⟨some 36, some (.load Z8 (.tmp 35)), none⟩,
 ⟨some 37, some (.unOp .not Z8 (.tmp 36)), none⟩])
  (.cond (.tmp 37) (.exit 1)
  .skip))
  (.seq (.reg [] [⟨some 38, some (.move (.tmp 6)), none⟩,
 ⟨some 39, some (.binOp .add Zd (.tmp 38) (.const (.int .i64 1)) Zd), none⟩,
 ⟨some 6, some (.assign (.tmp 39)), none⟩])
  (.seq (.reg [] [⟨some 40, some (.move (.tmp 0)), none⟩,
 ⟨some 41, some (.nilCheck (.tmp 40)), none⟩,
 ⟨some 42, some (.fieldAddr Z3 (.tmp 41) 1), none⟩,
 ⟨some 43, some (.load Zm (.tmp 42)), none⟩,
 ⟨some 44, some (.move (.tmp 7)), none⟩,
 ⟨some 45, some (.binOp .sub Zd (.tmp 44) (.const (.int .i64 1)) Zd), none⟩,
 ⟨some 46, some (.indexAddr Zm (.tmp 43) (.tmp 45)), none⟩,
 ⟨some 47, some (.load Zc (.tmp 46)), none⟩,
 ⟨some 8, some (.alloc Zc), none⟩,
 ⟨none, some (.store Zc (.tmp 8) (.tmp 47)), none⟩])
  (.reg [5, 8, 10, 12] [⟨some 48, some (.move (.tmp 5)), none⟩,
 ⟨some 49, some (.fieldAddr Zc (.tmp 8) 2), none⟩,
 ⟨some 50, some (.load Zd (.tmp 49)), none⟩,
 ⟨some 51, some (.move (.tmp 5)), none⟩,
 ⟨some 52, some (.fieldAddr Zc (.tmp 8) 3), none⟩,
 ⟨some 53, some (.load Zd (.tmp 52)), none⟩,
 ⟨some 54, some (.move (.tmp 5)), none⟩,
 ⟨some 55, some (.fieldAddr Zc (.tmp 8) 4), none⟩,
 ⟨some 56, some (.load Zd (.tmp 55)), none⟩,
 ⟨some 57, some (.indexAddr Zfy (.tmp 48) (.tmp 50)), none⟩,
 ⟨none, some (.store Z8 (.tmp 57) (.const (.bool true))), none⟩,
 ⟨some 58, some (.indexAddr Zfy (.tmp 51) (.tmp 53)), none⟩,
 ⟨none, some (.store Z8 (.tmp 58) (.const (.bool true))), none⟩,
 ⟨some 59, some (.indexAddr Zfy (.tmp 54) (.tmp 56)), none⟩,
 ⟨none, some (.store Z8 (.tmp 59) (.const (.bool true))), none⟩])))))
  (.reg [] [⟨some 31, some (.move (.tmp 7)), none⟩,
 ⟨some 32, some (.binOp .sub Zd (.tmp 31) (.const (.int .i64 1)) Zd), none⟩,
 ⟨some 7, some (.assign (.tmp 32)), none⟩])))
def Zb8 : LCode := (.seq (.seq (.reg [] [⟨some 62, some (.move (.tmp 10)), none⟩,
 ⟨some 63, some (.move (.tmp 1)), none⟩,
 ⟨some 64, some (.binOp .leq Zd (.tmp 62) (.tmp 63) Zd), none⟩])
  (.cond (.tmp 64) .skip
  (.exit 2)))
  (.seq (.block 3 (.seq (.reg [] [⟨some 67, some (.move (.tmp 5)), none⟩,
 ⟨some 68, some (.move (.tmp 10)), none⟩,
 ⟨some 69, some (.indexAddr Zfy (.tmp 67) (.tmp 68)), none⟩,
 ⟨some 70, some (.load Z8 (.tmp 69)), none⟩])
  (.cond (.tmp 70) (.reg [] [⟨some 71, some (.move (.tmp 9)), none⟩,
 ⟨some 72, some (.move (.tmp 10)), none⟩,
 ⟨some 73, some (.buildSlice Z0 1 #[(0, (.tmp 72))]), none⟩,
 ⟨some 74, some (.call ⟨(.builtin .append), #[.tmp 71, .tmp 73], #[Z0, Z0]⟩), none⟩,
 ⟨some 9, some (.assign (.tmp 74)), none⟩])
  .skip)))
  (.reg [] [⟨some 65, some (.move (.tmp 10)), none⟩,
 ⟨some 66, some (.binOp .add Zd (.tmp 65) (.const (.int .i64 1)) Zd), none⟩,
 ⟨some 10, some (.assign (.tmp 66)), none⟩])))
@[simp] theorem Zin : defs Zb7 = [29, 30, 33, 34, 35, 36, 37, 38, 39, 6, 40, 41, 42, 43, 44, 45, 46, 47, 8, 48, 49, 50, 51, 52, 53, 54, 55, 56, 57, 58, 59, 31, 32, 7] := by rfl
@[simp] theorem Zio : defs Zb8 = [62, 63, 64, 67, 68, 69, 70, 71, 72, 73, 74, 9, 65, 66, 10] := by rfl
def Zcx : LCode := (.seq (.reg [] [⟨some 4, some (.assign (.const (.slice none 0 0))), none⟩])
  (.seq (.seq (.reg [] [⟨some 11, some (.move (.tmp 1)), none⟩,
 ⟨some 12, some (.binOp .lss Zd (.tmp 11) (.const (.int .i64 1)) Zd), none⟩,
 ⟨some 13, some (.move (.tmp 12)), none⟩,
 ⟨some 14, some (.move (.tmp 1)), some (some 13, false)⟩,
 ⟨some 15, some (.move (.tmp 0)), some (some 13, false)⟩,
 ⟨some 16, some (.nilCheck (.tmp 15)), some (some 13, false)⟩,
 ⟨some 17, some (.fieldAddr Z3 (.tmp 16) 1), some (some 13, false)⟩,
 ⟨some 18, some (.load Zm (.tmp 17)), some (some 13, false)⟩,
 ⟨some 19, some (.call ⟨(.builtin .len), #[.tmp 18], #[Zm]⟩), some (some 13, false)⟩,
 ⟨some 20, some (.binOp .gtr Zd (.tmp 14) (.tmp 19) Zd), some (some 13, false)⟩,
 ⟨some 21, some (.pick (.tmp 13) (.const (.bool true)) (.tmp 20)), none⟩])
  (.cond (.tmp 21) (.seq (.reg [] [⟨some 4, some (.assign (.const (.slice none 0 0))), none⟩])
  .ret)
  .skip))
  (.seq (.reg [] [⟨some 22, some (.move (.tmp 1)), none⟩,
 ⟨some 23, some (.binOp .add Zd (.tmp 22) (.const (.int .i64 1)) Zd), none⟩,
 ⟨some 24, some (.makeSlice Zfy (.tmp 23) (.tmp 23)), none⟩,
 ⟨some 5, some (.assign (.tmp 24)), none⟩])
  (.seq (.reg [] [⟨some 25, some (.move (.tmp 5)), none⟩,
 ⟨some 26, some (.move (.tmp 1)), none⟩,
 ⟨some 27, some (.indexAddr Zfy (.tmp 25) (.tmp 26)), none⟩,
 ⟨none, some (.store Z8 (.tmp 27) (.const (.bool true))), none⟩])
  (.seq (.reg [] [⟨some 6, some (.assign (.const (.int .i64 0))), none⟩])
  (.seq (.seq (.reg [] [⟨some 28, some (.move (.tmp 1)), none⟩,
 ⟨some 7, some (.assign (.tmp 28)), none⟩])
  (.block 0 (.loop Zb7)))
  (.seq (.reg [] [⟨some 60, some (.move (.tmp 6)), none⟩,
 ⟨some 61, some (.makeSlice Z0 (.const (.int .i64 0)) (.tmp 60)), none⟩,
 ⟨some 9, some (.assign (.tmp 61)), none⟩])
  (.seq (.seq (.reg [] [⟨some 10, some (.assign (.const (.int .i64 1))), none⟩])
  (.block 2 (.loop Zb8)))
  (.seq (.reg [] [⟨some 75, some (.move (.tmp 9)), none⟩,
 ⟨some 4, some (.assign (.tmp 75)), none⟩])
  .ret)))))))))
theorem Zgr {a0 a1 : AV} {H : AHeap} : R Z4 [a0, a1] H = fnK Try.prog [0] H [(.tmp 4)] (evalL Try.prog KT R Zcx (Env.args [a0, a1] 0) H) :=
  runs_body (D := DT) (f := Z4) Try.func13 (by kernel_rfl) (by kernel_rfl) (by kernel_rfl) (by kernel_rfl) (by kernel_rfl) (Nat.le_of_ble_eq_true rfl)
def Zgd : LCode := (.seq (.seq (.reg [] [⟨some 13, some (.move (.tmp 7)), none⟩,
 ⟨some 14, some (.move (.tmp 6)), none⟩,
 ⟨some 15, some (.call ⟨(.builtin .len), #[.tmp 14], #[Z0]⟩), none⟩,
 ⟨some 16, some (.binOp .lss Zd (.tmp 13) (.tmp 15) Zd), none⟩])
  (.cond (.tmp 16) .skip
  (.exit 0)))
  (.seq (.block 1 (.seq (.reg [] [⟨some 20, some (.move (.tmp 0)), none⟩,
 ⟨some 21, some (.move (.tmp 6)), none⟩,
 ⟨some 22, some (.move (.tmp 7)), none⟩,
 ⟨some 23, some (.indexAddr Z0 (.tmp 21) (.tmp 22)), none⟩,
 ⟨some 24, some (.load Zd (.tmp 23)), none⟩,
 ⟨some 25, some (.call ⟨(.value (.func Zj)), #[.tmp 20, .tmp 24], #[Ze, Zd]⟩), none⟩,
 ⟨some 19, some (.move (.tmp 25)), none⟩,
 ⟨some 26, some (.extract (.tmp 19) 0), none⟩,
 ⟨some 27, some (.extract (.tmp 19) 1), none⟩,
 ⟨some 8, some (.alloc Zc), none⟩,
 ⟨none, some (.store Zc (.tmp 8) (.tmp 26)), none⟩,
 ⟨some 9, some (.assign (.tmp 27)), none⟩])
  (.seq (.reg [] [⟨some 28, some (.fieldAddr Zc (.tmp 8) 0), none⟩,
 ⟨some 29, some (.load Zd (.tmp 28)), none⟩,
 ⟨some 30, some (.binOp .eql Zd (.tmp 29) (.const (.int .i64 2)) Zd), none⟩])
  (.cond (.tmp 30) (.reg [] [⟨some 31, some (.move (.tmp 5)), none⟩,
 ⟨some 32, some (.move (.tmp 6)), none⟩,
 ⟨some 33, some (.move (.tmp 7)), none⟩,
 ⟨some 34, some (.indexAddr Z0 (.tmp 32) (.tmp 33)), none⟩,
 ⟨some 35, some (.load Zd (.tmp 34)), none⟩,
 ⟨some 36, some (.buildSlice Z0 1 #[(0, (.tmp 35))]), none⟩,
 ⟨some 37, some (.call ⟨(.builtin .append), #[.tmp 31, .tmp 36], #[Z0, Z0]⟩), none⟩,
 ⟨some 5, some (.assign (.tmp 37)), none⟩])
  .skip))))
  (.reg [] [⟨some 17, some (.move (.tmp 7)), none⟩,
 ⟨some 18, some (.binOp .add Zd (.tmp 17) (.const (.int .i64 1)) Zd), none⟩,
 ⟨some 7, some (.assign (.tmp 18)), none⟩])))
@[simp] theorem Zj7 : defs Zgd = [13, 14, 15, 16, 20, 21, 22, 23, 24, 25, 19, 26, 27, 8, 9, 28, 29, 30, 31, 32, 33, 34, 35, 36, 37, 5, 17, 18, 7] := by rfl
def Zie : LCode := (.seq (.reg [] [⟨some 4, some (.assign (.const (.slice none 0 0))), none⟩])
  (.seq (.reg [] [⟨some 5, some (.assign (.const (.slice none 0 0))), none⟩])
  (.seq (.reg [] [⟨some 10, some (.move (.tmp 0)), none⟩,
 ⟨some 11, some (.move (.tmp 1)), none⟩,
 ⟨some 12, some (.call ⟨(.value (.func Z4)), #[.tmp 10, .tmp 11], #[Ze, Zd]⟩), none⟩,
 ⟨some 6, some (.assign (.tmp 12)), none⟩])
  (.seq (.seq (.reg [] [⟨some 7, some (.assign (.const (.int .i64 0))), none⟩])
  (.block 0 (.loop Zgd)))
  (.seq (.reg [] [⟨some 38, some (.move (.tmp 5)), none⟩,
 ⟨some 4, some (.assign (.tmp 38)), none⟩])
  .ret)))))
theorem Zkr {a0 a1 : AV} {H : AHeap} : R Zex [a0, a1] H = fnK Try.prog [] H [(.tmp 4)] (evalL Try.prog KT R Zie (Env.args [a0, a1] 0) H) :=
  runs_body (D := DT) (f := Zex) Try.func14 (by kernel_rfl) (by kernel_rfl) (by kernel_rfl) (by kernel_rfl) (by kernel_rfl) (Nat.le_of_ble_eq_true rfl)
def Zcy : LCode := (.seq (.reg [] [⟨some 4, some (.alloc Zc), none⟩,
 ⟨some 5, some (.assign (.const (.bool false))), none⟩])
  (.seq (.seq (.reg [] [⟨some 6, some (.move (.tmp 1)), none⟩,
 ⟨some 7, some (.binOp .lss Zd (.tmp 6) (.const (.int .i64 1)) Zd), none⟩,
 ⟨some 8, some (.move (.tmp 7)), none⟩,
 ⟨some 9, some (.move (.tmp 1)), some (some 8, false)⟩,
 ⟨some 10, some (.move (.tmp 0)), some (some 8, false)⟩,
 ⟨some 11, some (.nilCheck (.tmp 10)), some (some 8, false)⟩,
 ⟨some 12, some (.fieldAddr Z3 (.tmp 11) 1), some (some 8, false)⟩,
 ⟨some 13, some (.load Zm (.tmp 12)), some (some 8, false)⟩,
 ⟨some 14, some (.call ⟨(.builtin .len), #[.tmp 13], #[Zm]⟩), some (some 8, false)⟩,
 ⟨some 15, some (.binOp .gtr Zd (.tmp 9) (.tmp 14) Zd), some (some 8, false)⟩,
 ⟨some 16, some (.pick (.tmp 8) (.const (.bool true)) (.tmp 15)), none⟩])
  (.cond (.tmp 16) (.seq (.reg [] [⟨some 17, some (.build Zc #[]), none⟩,
 ⟨none, some (.store Zc (.tmp 4) (.tmp 17)), none⟩,
 ⟨some 5, some (.assign (.const (.bool false))), none⟩])
  .ret)
  .skip))
  (.seq (.reg [] [⟨some 18, some (.move (.tmp 0)), none⟩,
 ⟨some 19, some (.nilCheck (.tmp 18)), none⟩,
 ⟨some 20, some (.fieldAddr Z3 (.tmp 19) 1), none⟩,
 ⟨some 21, some (.load Zm (.tmp 20)), none⟩,
 ⟨some 22, some (.move (.tmp 1)), none⟩,
 ⟨some 23, some (.binOp .sub Zd (.tmp 22) (.const (.int .i64 1)) Zd), none⟩,
 ⟨some 24, some (.indexAddr Zm (.tmp 21) (.tmp 23)), none⟩,
 ⟨some 25, some (.load Zc (.tmp 24)), none⟩,
 ⟨none, some (.store Zc (.tmp 4) (.tmp 25)), none⟩,
 ⟨some 5, some (.assign (.const (.bool true))), none⟩])
  .ret)))
theorem Zgs {a0 a1 : AV} {H : AHeap} : R Zj [a0, a1] H = fnK Try.prog [] H [(.cell 4 Zc), (.tmp 5)] (evalL Try.prog KT R Zcy (Env.args [a0, a1] 0) H) :=
  runs_body (D := DT) (f := Zj) Try.func15 (by kernel_rfl) (by kernel_rfl) (by kernel_rfl) (by kernel_rfl) (by kernel_rfl) (Nat.le_of_ble_eq_true rfl)
def Zhr : LCode := (.seq (.reg [] [⟨some 6, some (.assign (.const (.int .i64 0))), none⟩])
  (.seq (.reg [] [⟨some 10, some (.move (.tmp 1)), none⟩,
 ⟨some 11, some (.move (.tmp 2)), none⟩,
 ⟨some 12, some (.build Za #[(0, (.tmp 10)), (1, (.tmp 11))]), none⟩,
 ⟨some 7, some (.alloc Za), none⟩,
 ⟨none, some (.store Za (.tmp 7) (.tmp 12)), none⟩])
  (.seq (.seq (.reg [] [⟨some 13, some (.move (.tmp 1)), none⟩,
 ⟨some 14, some (.binOp .eql Zd (.tmp 13) (.const (.int .i64 0)) Zd), none⟩])
  (.cond (.tmp 14) (.reg [] [⟨some 15, some (.move (.tmp 2)), none⟩,
 ⟨some 16, some (.binOp .and Zf (.tmp 15) (.const (.int .u64 1)) Zf), none⟩,
 ⟨some 17, some (.fieldAddr Za (.tmp 7) 1), none⟩,
 ⟨none, some (.store Zf (.tmp 17) (.tmp 16)), none⟩])
  .skip))
  (.seq (.reg [] [⟨some 19, some (.move (.tmp 0)), none⟩,
 ⟨some 20, some (.move (.tmp 1)), none⟩,
 ⟨some 21, some (.load Za (.tmp 7)), none⟩,
 ⟨some 22, some (.build Zc #[(0, (.const (.int .i64 1))), (1, (.tmp 20)), (7, (.tmp 21))]), none⟩,
 ⟨some 23, some (.call ⟨(.value (.func Zl)), #[.tmp 19, .tmp 22], #[Ze, Zc]⟩), none⟩,
 ⟨some 18, some (.move (.tmp 23)), none⟩,
 ⟨some 24, some (.extract (.tmp 18) 0), none⟩,
 ⟨some 25, some (.extract (.tmp 18) 1), none⟩,
 ⟨some 8, some (.assign (.tmp 24)), none⟩,
 ⟨some 9, some (.assign (.tmp 25)), none⟩])
  (.seq (.reg [] [⟨some 26, some (.move (.tmp 8)), none⟩,
 ⟨some 6, some (.assign (.tmp 26)), none⟩])
  .ret)))))
theorem Zkj {a0 a1 a2 : AV} {H : AHeap} : R Zcu [a0, a1, a2] H = fnK Try.prog [] H [(.tmp 6)] (evalL Try.prog KT R Zhr (Env.args [a0, a1, a2] 0) H) :=
  runs_body (D := DT) (f := Zcu) Try.func16 (by kernel_rfl) (by kernel_rfl) (by kernel_rfl) (by kernel_rfl) (by kernel_rfl) (Nat.le_of_ble_eq_true rfl)
def Zhz : LCode := (.seq (.reg [] [⟨some 8, some (.assign (.const (.bool false))), none⟩])
  (.seq (.reg [] [⟨some 12, some (.move (.tmp 0)), none⟩,
 ⟨some 13, some (.move (.tmp 1)), none⟩,
 ⟨some 14, some (.build Zc #[(0, (.const (.int .i64 3))), (2, (.tmp 13))]), none⟩,
 ⟨some 15, some (.call ⟨(.value (.func Zl)), #[.tmp 12, .tmp 14], #[Ze, Zc]⟩), none⟩,
 ⟨some 11, some (.move (.tmp 15)), none⟩,
 ⟨some 16, some (.extract (.tmp 11) 0), none⟩,
 ⟨some 17, some (.extract (.tmp 11) 1), none⟩,
 ⟨some 9, some (.assign (.tmp 16)), none⟩,
 ⟨some 10, some (.assign (.tmp 17)), none⟩])
  (.seq (.reg [] [⟨some 18, some (.move (.tmp 0)), none⟩,
 ⟨some 19, some (.move (.tmp 1)), none⟩,
 ⟨some 20, some (.move (.tmp 2)), none⟩,
 ⟨some 21, some (.build Zc #[(0, (.const (.int .i64 4))), (2, (.tmp 19)), (3, (.tmp 20))]), none⟩,
 ⟨some 22, some (.move (.tmp 1)), none⟩,
 ⟨some 23, some (.call ⟨(.value (.func Zq)), #[.tmp 18, .tmp 21, .tmp 22], #[Ze, Zc, Zd]⟩), none⟩,
 ⟨some 24, some (.move (.tmp 23)), none⟩,
 ⟨some 25, some (.move (.tmp 0)), some (some 24, true)⟩,
 ⟨some 26, some (.move (.tmp 3)), some (some 24, true)⟩,
 ⟨some 27, some (.move (.tmp 1)), some (some 24, true)⟩,
 ⟨some 28, some (.build Zc #[(0, (.const (.int .i64 4))), (2, (.tmp 26)), (3, (.tmp 27))]), some (some 24, true)⟩,
 ⟨some 29, some (.move (.tmp 3)), some (some 24, true)⟩,
 ⟨some 30, some (.call ⟨(.value (.func Zq)), #[.tmp 25, .tmp 28, .tmp 29], #[Ze, Zc, Zd]⟩), some (some 24, true)⟩,
 ⟨some 31, some (.pick (.tmp 24) (.tmp 30) (.const (.bool false))), none⟩,
 ⟨some 32, some (.move (.tmp 31)), none⟩,
 ⟨some 33, some (.move (.tmp 0)), some (some 32, true)⟩,
 ⟨some 34, some (.move (.tmp 1)), some (some 32, true)⟩,
 ⟨some 35, some (.move (.tmp 3)), some (some 32, true)⟩,
 ⟨some 36, some (.build Zc #[(0, (.const (.int .i64 5))), (2, (.tmp 34)), (3, (.tmp 35))]), some (some 32, true)⟩,
 ⟨some 37, some (.move (.tmp 1)), some (some 32, true)⟩,
 ⟨some 38, some (.call ⟨(.value (.func Zq)), #[.tmp 33, .tmp 36, .tmp 37], #[Ze, Zc, Zd]⟩), some (some 32, true)⟩,
 ⟨some 39, some (.pick (.tmp 32) (.tmp 38) (.const (.bool false))), none⟩,
 ⟨some 40, some (.move (.tmp 39)), none⟩,
 ⟨some 41, some (.move (.tmp 0)), some (some 40, true)⟩,
 ⟨some 42, some (.move (.tmp 2)), some (some 40, true)⟩,
 ⟨some 43, some (.move (.tmp 1)), some (some 40, true)⟩,
 ⟨some 44, some (.build Zc #[(0, (.const (.int .i64 5))), (2, (.tmp 42)), (3, (.tmp 43))]), some (some 40, true)⟩,
 ⟨some 45, some (.move (.tmp 2)), some (some 40, true)⟩,
 ⟨some 46, some (.call ⟨(.value (.func Zq)), #[.tmp 41, .tmp 44, .tmp 45], #[Ze, Zc, Zd]⟩), some (some 40, true)⟩,
 ⟨some 47, some (.pick (.tmp 40) (.tmp 46) (.const (.bool false))), none⟩,
 ⟨some 48, some (.move (.tmp 47)), none⟩,
 ⟨some 49, some (.move (.tmp 0)), some (some 48, true)⟩,
 ⟨some 50, some (.move (.tmp 1)), some (some 48, true)⟩,
 ⟨some 51, some (.move (.tmp 1)), some (some 48, true)⟩,
 ⟨some 52, some (.build Zc #[(0, (.const (.int .i64 4))), (2, (.tmp 50)), (3, (.tmp 51))]), some (some 48, true)⟩,
 ⟨some 53, some (.move (.tmp 1)), some (some 48, true)⟩,
 ⟨some 54, some (.call ⟨(.value (.func Zq)), #[.tmp 49, .tmp 52, .tmp 53], #[Ze, Zc, Zd]⟩), some (some 48, true)⟩,
 ⟨some 55, some (.pick (.tmp 48) (.tmp 54) (.const (.bool false))), none⟩,
 ⟨some 56, some (.move (.tmp 55)), none⟩,
 ⟨some 57, some (.move (.tmp 0)), some (some 56, true)⟩,
 ⟨some 58, some (.move (.tmp 1)), some (some 56, true)⟩,
 ⟨some 59, some (.move (.tmp 1)), some (some 56, true)⟩,
 ⟨some 60, some (.build Zc #[(0, (.const (.int .i64 5))), (2, (.tmp 58)), (3, (.tmp 59))]), some (some 56, true)⟩,
 ⟨some 61, some (.move (.tmp 1)), some (some 56, true)⟩,
 ⟨some 62, some (.call ⟨(.value (.func Zq)), #[.tmp 57, .tmp 60, .tmp 61], #[Ze, Zc, Zd]⟩), some (some 56, true)⟩,
 ⟨some 63, some (.pick (.tmp 56) (.tmp 62) (.const (.bool false))), none⟩,
 ⟨some 64, some (.move (.tmp 63)), none⟩,
 ⟨some 65, some (.move (.tmp 0)), some (some 64, true)⟩,
 ⟨some 66, some (.move (.tmp 1)), some (some 64, true)⟩,
 ⟨some 67, some (.move (.tmp 1)), some (some 64, true)⟩,
 ⟨some 68, some (.build Zc #[(0, (.const (.int .i64 6))), (2, (.tmp 66)), (3, (.tmp 67))]), some (some 64, true)⟩,
 ⟨some 69, some (.move (.tmp 3)), some (some 64, true)⟩,
 ⟨some 70, some (.call ⟨(.value (.func Zq)), #[.tmp 65, .tmp 68, .tmp 69], #[Ze, Zc, Zd]⟩), some (some 64, true)⟩,
 ⟨some 71, some (.pick (.tmp 64) (.tmp 70) (.const (.bool false))), none⟩,
 ⟨some 72, some (.move (.tmp 71)), none⟩,
 ⟨some 73, some (.move (.tmp 0)), some (some 72, true)⟩,
 ⟨some 74, some (.move (.tmp 1)), some (some 72, true)⟩,
 ⟨some 75, some (.move (.tmp 1)), some (some 72, true)⟩,
 ⟨some 76, some (.build Zc #[(0, (.const (.int .i64 8))), (2, (.tmp 74)), (3, (.tmp 75))]), some (some 72, true)⟩,
 ⟨some 77, some (.move (.tmp 2)), some (some 72, true)⟩,
 ⟨some 78, some (.call ⟨(.value (.func Zq)), #[.tmp 73, .tmp 76, .tmp 77], #[Ze, Zc, Zd]⟩), some (some 72, true)⟩,
 ⟨some 79, some (.pick (.tmp 72) (.tmp 78) (.const (.bool false))), none⟩,
 ⟨some 80, some (.move (.tmp 79)), none⟩,
 ⟨some 81, some (.move (.tmp 0)), some (some 80, true)⟩,
 ⟨some 82, some (.move (.tmp 9)), some (some 80, true)⟩,
 ⟨some 83, some (.call ⟨(.value (.func Zdd)), #[.tmp 81, .tmp 82], #[Ze, Zd]⟩), some (some 80, true)⟩,
 ⟨some 84, some (.unOp .not Z8 (.tmp 83)), some (some 80, true)⟩,
 ⟨some 85, some (.move (.tmp 84)), some (some 80, true)⟩,
 ⟨some 86, some (.move (.tmp 0)), some (some 85, false)⟩,
 ⟨some 87, some (.move (.tmp 9)), some (some 85, false)⟩,
 ⟨some 88, some (.build Zc #[(0, (.const (.int .i64 3))), (2, (.tmp 87))]), some (some 85, false)⟩,
 ⟨some 89, some (.move (.tmp 1)), some (some 85, false)⟩,
 ⟨some 90, some (.call ⟨(.value (.func Zq)), #[.tmp 86, .tmp 88, .tmp 89], #[Ze, Zc, Zd]⟩), some (some 85, false)⟩,
 ⟨some 91, some (.pick (.tmp 85) (.const (.bool true)) (.tmp 90)), some (some 80, true)⟩,
 ⟨some 92, some (.pick (.tmp 80) (.tmp 91) (.const (.bool false))), none⟩,
 ⟨some 93, some (.move (.tmp 92)), none⟩,
 ⟨some 94, some (.move (.tmp 0)), some (some 93, true)⟩,
 ⟨some 95, some (.move (.tmp 2)), some (some 93, true)⟩,
 ⟨some 96, some (.move (.tmp 1)), some (some 93, true)⟩,
 ⟨some 97, some (.move (.tmp 3)), some (some 93, true)⟩,
 ⟨some 98, some (.build Zc #[(0, (.const (.int .i64 9))), (2, (.tmp 95)), (3, (.tmp 96)), (4, (.tmp 97))]), some (some 93, true)⟩,
 ⟨some 99, some (.move (.tmp 1)), some (some 93, true)⟩,
 ⟨some 100, some (.call ⟨(.value (.func Zq)), #[.tmp 94, .tmp 98, .tmp 99], #[Ze, Zc, Zd]⟩), some (some 93, true)⟩,
 ⟨some 101, some (.pick (.tmp 93) (.tmp 100) (.const (.bool false))), none⟩,
 ⟨some 8, some (.assign (.tmp 101)), none⟩])
  .ret)))
theorem Zkn {a0 a1 a2 a3 : AV} {H : AHeap} : R Zfc [a0, a1, a2, a3] H = fnK Try.prog [] H [(.tmp 8)] (evalL Try.prog KT R Zhz (Env.args [a0, a1, a2, a3] 0) H) :=
  runs_body (D := DT) (f := Zfc) Try.func17 (by kernel_rfl) (by kernel_rfl) (by kernel_rfl) (by kernel_rfl) (by kernel_rfl) (Nat.le_of_ble_eq_true rfl)
def Zi4 : LCode := (.seq (.reg [] [⟨some 4, some (.box Zc (.tmp 1)), none⟩,
 ⟨some 6, some (.assign (.const (.bool false))), none⟩])
  (.seq (.reg [] [⟨some 12, some (.move (.tmp 0)), none⟩,
 ⟨some 13, some (.load Zc (.tmp 4)), none⟩,
 ⟨some 14, some (.call ⟨(.value (.func Zl)), #[.tmp 12, .tmp 13], #[Ze, Zc]⟩), none⟩,
 ⟨some 11, some (.move (.tmp 14)), none⟩,
 ⟨some 15, some (.extract (.tmp 11) 0), none⟩,
 ⟨some 16, some (.extract (.tmp 11) 1), none⟩,
 ⟨some 7, some (.assign (.tmp 15)), none⟩,
 ⟨some 8, some (.assign (.tmp 16)), none⟩])
  (.seq (.reg [] [⟨some 18, some (.move (.tmp 0)), none⟩,
 ⟨some 19, some (.move (.tmp 7)), none⟩,
 ⟨some 20, some (.call ⟨(.value (.func Zu)), #[.tmp 18, .tmp 19], #[Ze, Zd]⟩), none⟩,
 ⟨some 17, some (.move (.tmp 20)), none⟩,
 ⟨some 21, some (.extract (.tmp 17) 0), none⟩,
 ⟨some 22, some (.extract (.tmp 17) 1), none⟩,
 ⟨some 9, some (.assign (.tmp 21)), none⟩,
 ⟨some 10, some (.assign (.tmp 22)), none⟩])
  (.seq (.reg [] [⟨some 23, some (.move (.tmp 8)), none⟩,
 ⟨some 24, some (.binOp .eql Zd (.tmp 23) (.const (.int .i64 33)) Zd), none⟩,
 ⟨some 25, some (.move (.tmp 24)), none⟩,
 ⟨some 26, some (.move (.tmp 10)), some (some 25, false)⟩,
 ⟨some 27, some (.binOp .eql Zd (.tmp 26) (.const (.int .i64 33)) Zd), some (some 25, false)⟩,
 ⟨some 28, some (.pick (.tmp 25) (.const (.bool true)) (.tmp 27)), none⟩,
 ⟨some 29, some (.move (.tmp 28)), none⟩,
 ⟨some 30, some (.move (.tmp 8)), some (some 29, false)⟩,
 ⟨some 31, some (.move (.tmp 10)), some (some 29, false)⟩,
 ⟨some 32, some (.binOp .add Zd (.tmp 30) (.tmp 31) Zd), some (some 29, false)⟩,
 ⟨some 33, some (.binOp .eql Zd (.tmp 32) (.const (.int .i64 0)) Zd), some (some 29, false)⟩,
 ⟨some 34, some (.move (.tmp 33)), some (some 29, false)⟩,
 ⟨some 35, some (.move (.tmp 9)), some (some 34, true)⟩,
 ⟨some 36, some (.move (.tmp 2)), some (some 34, true)⟩,
 ⟨some 37, some (.binOp .eql Zd (.tmp 35) (.tmp 36) Zd), some (some 34, true)⟩,
 ⟨some 38, some (.pick (.tmp 34) (.tmp 37) (.const (.bool false))), some (some 29, false)⟩,
 ⟨some 39, some (.pick (.tmp 29) (.const (.bool true)) (.tmp 38)), none⟩,
 ⟨some 6, some (.assign (.tmp 39)), none⟩])
  .ret))))
theorem Zk1 {a0 a1 a2 : AV} {H : AHeap} : R Zq [a0, a1, a2] H = fnK Try.prog [] H [(.tmp 6)] (evalL Try.prog KT R Zi4 (Env.args [a0, a1, a2] 0) H) :=
  runs_body (D := DT) (f := Zq) Try.func18 (by kernel_rfl) (by kernel_rfl) (by kernel_rfl) (by kernel_rfl) (by kernel_rfl) (Nat.le_of_ble_eq_true rfl)
def Zb4 : LCode := (.seq (.reg [] [⟨some 3, some (.box Zc (.tmp 1)), none⟩,
 ⟨some 4, some (.assign (.const (.int .i64 0))), none⟩,
 ⟨some 5, some (.assign (.const (.int .i64 0))), none⟩])
  (.seq (.seq (.reg [] [⟨some 9, some (.move (.tmp 0)), none⟩,
 ⟨some 10, some (.load Zc (.tmp 3)), none⟩,
 ⟨some 11, some (.call ⟨(.value (.func Zcq)), #[.tmp 9, .tmp 10], #[Ze, Zc]⟩), none⟩,
 ⟨some 12, some (.unOp .not Z8 (.tmp 11)), none⟩])
  (.cond (.tmp 12) (.seq (.reg [] [⟨some 4, some (.assign (.const (.int .i64 0))), none⟩,
 ⟨some 5, some (.assign (.const (.int .i64 32))), none⟩])
  .ret)
  .skip))
  (.seq (.reg [] [⟨some 14, some (.move (.tmp 0)), none⟩,
 ⟨some 15, some (.load Zc (.tmp 3)), none⟩,
 ⟨some 16, some (.call ⟨(.value (.func Zcr)), #[.tmp 14, .tmp 15], #[Ze, Zc]⟩), none⟩,
 ⟨some 13, some (.move (.tmp 16)), none⟩,
 ⟨some 17, some (.extract (.tmp 13) 0), none⟩,
 ⟨some 18, some (.extract (.tmp 13) 1), none⟩,
 ⟨none, some (.store Zc (.tmp 3) (.tmp 17)), none⟩,
 ⟨some 6, some (.assign (.tmp 18)), none⟩])
  (.seq (.seq (.reg [] [⟨some 19, some (.move (.tmp 6)), none⟩,
 ⟨some 20, some (.binOp .neq Zbd (.tmp 19) (.const (.int .i64 0)) Zbd), none⟩])
  (.cond (.tmp 20) (.seq (.reg [] [⟨some 21, some (.move (.tmp 6)), none⟩,
 ⟨some 4, some (.assign (.const (.int .i64 0))), none⟩,
 ⟨some 5, some (.assign (.tmp 21)), none⟩])
  .ret)
  .skip))
  (.seq (.seq (.reg [] [⟨some 22, some (.move (.tmp 0)), none⟩,
 ⟨some 23, some (.nilCheck (.tmp 22)), none⟩,
 ⟨some 24, some (.fieldAddr Z3 (.tmp 23) 2), none⟩,
 ⟨some 25, some (.load Zcl (.tmp 24)), none⟩,
 ⟨some 26, some (.load Zc (.tmp 3)), none⟩,
 ⟨some 27, some (.lookup Zcl (.tmp 25) (.tmp 26) false), none⟩,
 ⟨some 7, some (.assign (.tmp 27)), none⟩])
  (.seq (.reg [] [⟨some 28, some (.move (.tmp 7)), none⟩,
 ⟨some 29, some (.binOp .gtr Zd (.tmp 28) (.const (.int .i64 0)) Zd), none⟩])
  (.cond (.tmp 29) (.seq (.reg [] [⟨some 30, some (.move (.tmp 7)), none⟩,
 ⟨some 4, some (.assign (.tmp 30)), none⟩,
 ⟨some 5, some (.assign (.const (.int .i64 0))), none⟩])
  .ret)
  .skip)))
  (.seq (.seq (.reg [] [⟨some 31, some (.move (.tmp 0)), none⟩,
 ⟨some 32, some (.nilCheck (.tmp 31)), none⟩,
 ⟨some 33, some (.fieldAddr Z3 (.tmp 32) 1), none⟩,
 ⟨some 34, some (.load Zm (.tmp 33)), none⟩,
 ⟨some 35, some (.call ⟨(.builtin .len), #[.tmp 34], #[Zm]⟩), none⟩,
 ⟨some 36, some (.move (.tmp 0)), none⟩,
 ⟨some 37, some (.nilCheck (.tmp 36)), none⟩,
 ⟨some 38, some (.fieldAddr Z3 (.tmp 37) 0), none⟩,
 ⟨some 39, some (.load Zd (.tmp 38)), none⟩,
 ⟨some 40, some (.binOp .geq Zd (.tmp 35) (.tmp 39) Zd), none⟩])
  (.cond (.tmp 40) (.seq (.reg [] [⟨some 4, some (.assign (.const (.int .i64 0))), none⟩,
 ⟨some 5, some (.assign (.const (.int .i64 33))), none⟩])
  .ret)
  .skip))
  (.seq (.reg [] [⟨some 41, some (.move (.tmp 0)), none⟩,
 ⟨some 42, some (.move (.tmp 0)), none⟩,
 ⟨some 43, some (.nilCheck (.tmp 42)), none⟩,
 ⟨some 44, some (.fieldAddr Z3 (.tmp 43) 1), none⟩,
 ⟨some 45, some (.load Zm (.tmp 44)), none⟩,
 ⟨some 46, some (.load Zc (.tmp 3)), none⟩,
 ⟨some 47, some (.buildSlice Zm 1 #[(0, (.tmp 46))]), none⟩,
 ⟨some 48, some (.call ⟨(.builtin .append), #[.tmp 45, .tmp 47], #[Zm, Zm]⟩), none⟩,
 ⟨some 49, some (.nilCheck (.tmp 41)), none⟩,
 ⟨some 50, some (.fieldAddr Z3 (.tmp 49) 1), none⟩,
 ⟨none, some (.store Zm (.tmp 50) (.tmp 48)), none⟩])
  (.seq (.reg [] [⟨some 51, some (.move (.tmp 0)), none⟩,
 ⟨some 52, some (.nilCheck (.tmp 51)), none⟩,
 ⟨some 53, some (.fieldAddr Z3 (.tmp 52) 1), none⟩,
 ⟨some 54, some (.load Zm (.tmp 53)), none⟩,
 ⟨some 55, some (.call ⟨(.builtin .len), #[.tmp 54], #[Zm]⟩), none⟩,
 ⟨some 8, some (.assign (.tmp 55)), none⟩])
  (.seq (.reg [] [⟨some 56, some (.move (.tmp 0)), none⟩,
 ⟨some 57, some (.nilCheck (.tmp 56)), none⟩,
 ⟨some 58, some (.fieldAddr Z3 (.tmp 57) 2), none⟩,
 ⟨some 59, some (.load Zcl (.tmp 58)), none⟩,
 ⟨some 60, some (.load Zc (.tmp 3)), none⟩,
 ⟨some 61, some (.move (.tmp 8)), none⟩,
 ⟨none, some (.mapUpdate Zcl (.tmp 59) (.tmp 60) (.tmp 61)), none⟩])
  (.seq (.seq (.reg [] [⟨some 62, some (.fieldAddr Zc (.tmp 3) 0), none⟩,
 ⟨some 63, some (.load Zd (.tmp 62)), none⟩,
 ⟨some 64, some (.binOp .eql Zd (.tmp 63) (.const (.int .i64 2)) Zd), none⟩])
  (.cond (.tmp 64) (.reg [] [⟨some 65, some (.move (.tmp 0)), none⟩,
 ⟨some 66, some (.nilCheck (.tmp 65)), none⟩,
 ⟨some 67, some (.fieldAddr Z3 (.tmp 66) 3), none⟩,
 ⟨some 68, some (.load Zc1 (.tmp 67)), none⟩,
 ⟨some 69, some (.fieldAddr Zc (.tmp 3) 8), none⟩,
 ⟨some 70, some (.load Zcg (.tmp 69)), none⟩,
 ⟨some 71, some (.move (.tmp 8)), none⟩,
 ⟨none, some (.mapUpdate Zc1 (.tmp 68) (.tmp 70) (.tmp 71)), none⟩])
  .skip))
  (.seq (.reg [] [⟨some 72, some (.move (.tmp 8)), none⟩,
 ⟨some 4, some (.assign (.tmp 72)), none⟩,
 ⟨some 5, some (.assign (.const (.int .i64 0))), none⟩])
  .ret)))))))))))
theorem Zgt {a0 a1 : AV} {H : AHeap} : R Zl [a0, a1] H = fnK Try.prog [] H [(.tmp 4), (.tmp 5)] (evalL Try.prog KT R Zb4 (Env.args [a0, a1] 0) H) :=
  runs_body (D := DT) (f := Zl) Try.func19 (by kernel_rfl) (by kernel_rfl) (by kernel_rfl) (by kernel_rfl) (by kernel_rfl) (Nat.le_of_ble_eq_true rfl)
def Zhs : LCode := (.seq (.reg [] [⟨some 4, some (.assign (.const (.bool false))), none⟩])
  (.seq (.reg [] [⟨some 8, some (.move (.tmp 0)), none⟩,
 ⟨some 9, some (.move (.tmp 1)), none⟩,
 ⟨some 10, some (.call ⟨(.value (.func Zu)), #[.tmp 8, .tmp 9], #[Ze, Zd]⟩), none⟩,
 ⟨some 7, some (.move (.tmp 10)), none⟩,
 ⟨some 11, some (.extract (.tmp 7) 0), none⟩,
 ⟨some 12, some (.extract (.tmp 7) 1), none⟩,
 ⟨some 5, some (.assign (.tmp 11)), none⟩,
 ⟨some 6, some (.assign (.tmp 12)), none⟩])
  (.seq (.reg [] [⟨some 13, some (.move (.tmp 6)), none⟩,
 ⟨some 14, some (.binOp .eql Zd (.tmp 13) (.const (.int .i64 33)) Zd), none⟩,
 ⟨some 15, some (.move (.tmp 14)), none⟩,
 ⟨some 16, some (.move (.tmp 6)), some (some 15, false)⟩,
 ⟨some 17, some (.binOp .eql Zd (.tmp 16) (.const (.int .i64 0)) Zd), some (some 15, false)⟩,
 ⟨some 18, some (.move (.tmp 17)), some (some 15, false)⟩,
 ⟨some 19, some (.move (.tmp 5)), some (some 18, true)⟩,
 ⟨some 20, some (.move (.tmp 1)), some (some 18, true)⟩,
 ⟨some 21, some (.binOp .eql Zd (.tmp 19) (.tmp 20) Zd), some (some 18, true)⟩,
 ⟨some 22, some (.pick (.tmp 18) (.tmp 21) (.const (.bool false))), some (some 15, false)⟩,
 ⟨some 23, some (.pick (.tmp 15) (.const (.bool true)) (.tmp 22)), none⟩,
 ⟨some 4, some (.assign (.tmp 23)), none⟩])
  .ret)))
theorem Zkk {a0 a1 : AV} {H : AHeap} : R Zdd [a0, a1] H = fnK Try.prog [] H [(.tmp 4)] (evalL Try.prog KT R Zhs (Env.args [a0, a1] 0) H) :=
  runs_body (D := DT) (f := Zdd) Try.func20 (by kernel_rfl) (by kernel_rfl) (by kernel_rfl) (by kernel_rfl) (by kernel_rfl) (Nat.le_of_ble_eq_true rfl)
def Zdn : LCode := (.seq (.seq (.reg [] [⟨some 13, some (.move (.tmp 8)), none⟩,
 ⟨some 14, some (.move (.tmp 7)), none⟩,
 ⟨some 15, some (.call ⟨(.builtin .len), #[.tmp 14], #[Z0]⟩), none⟩,
 ⟨some 16, some (.binOp .lss Zd (.tmp 13) (.tmp 15) Zd), none⟩])
  (.cond (.tmp 16) .skip
  (.exit 0)))
  (.seq (.block 1 (.seq (.reg [] [⟨some 20, some (.move (.tmp 0)), none⟩,
 ⟨some 21, some (.move (.tmp 7)), none⟩,
 ⟨some 22, some (.move (.tmp 8)), none⟩,
 ⟨some 23, some (.indexAddr Z0 (.tmp 21) (.tmp 22)), none⟩,
 ⟨some 24, some (.load Zd (.tmp 23)), none⟩,
 ⟨some 25, some (.call ⟨(.value (.func Zj)), #[.tmp 20, .tmp 24], #[Ze, Zd]⟩), none⟩,
 ⟨some 19, some (.move (.tmp 25)), none⟩,
 ⟨some 26, some (.extract (.tmp 19) 0), none⟩,
 ⟨some 27, some (.extract (.tmp 19) 1), none⟩,
 ⟨some 9, some (.alloc Zc), none⟩,
 ⟨none, some (.store Zc (.tmp 9) (.tmp 26)), none⟩,
 ⟨some 10, some (.assign (.tmp 27)), none⟩])
  (.reg [] [⟨some 28, some (.move (.tmp 6)), none⟩,
 ⟨some 29, some (.load Zc (.tmp 9)), none⟩,
 ⟨some 30, some (.buildSlice Zm 1 #[(0, (.tmp 29))]), none⟩,
 ⟨some 31, some (.call ⟨(.builtin .append), #[.tmp 28, .tmp 30], #[Zm, Zm]⟩), none⟩,
 ⟨some 6, some (.assign (.tmp 31)), none⟩])))
  (.reg [] [⟨some 17, some (.move (.tmp 8)), none⟩,
 ⟨some 18, some (.binOp .add Zd (.tmp 17) (.const (.int .i64 1)) Zd), none⟩,
 ⟨some 8, some (.assign (.tmp 18)), none⟩])))
@[simp] theorem Zj8 : defs Zdn = [13, 14, 15, 16, 20, 21, 22, 23, 24, 25, 19, 26, 27, 9, 10, 28, 29, 30, 31, 6, 17, 18, 8] := by rfl
def Zg0 : LCode := (.seq (.reg [] [⟨some 4, some (.assign (.const (.slice none 0 0))), none⟩,
 ⟨some 5, some (.assign (.const (.bool false))), none⟩])
  (.seq (.reg [] [⟨some 6, some (.assign (.const (.slice none 0 0))), none⟩])
  (.seq (.reg [] [⟨some 11, some (.move (.tmp 0)), none⟩,
 ⟨some 12, some (.call ⟨(.value (.func Zb3)), #[.tmp 11], #[Ze]⟩), none⟩,
 ⟨some 7, some (.assign (.tmp 12)), none⟩])
  (.seq (.seq (.reg [] [⟨some 8, some (.assign (.const (.int .i64 0))), none⟩])
  (.block 0 (.loop Zdn)))
  (.seq (.reg [] [⟨some 32, some (.move (.tmp 6)), none⟩,
 ⟨some 33, some (.move (.tmp 6)), none⟩,
 ⟨some 34, some (.move (.tmp 1)), none⟩,
 ⟨some 35, some (.call ⟨(.value (.func Zco)), #[.tmp 33, .tmp 34], #[Zm, Zd]⟩), none⟩,
 ⟨some 36, some (.move (.tmp 1)), none⟩,
 ⟨some 37, some (.binOp .leq Zd (.tmp 35) (.tmp 36) Zd), none⟩,
 ⟨some 4, some (.assign (.tmp 32)), none⟩,
 ⟨some 5, some (.assign (.tmp 37)), none⟩])
  .ret)))))
theorem Zip {a0 a1 : AV} {H : AHeap} : R Zc7 [a0, a1] H = fnK Try.prog [0, 0] H [(.tmp 4), (.tmp 5)] (evalL Try.prog KT R Zg0 (Env.args [a0, a1] 0) H) :=
  runs_body (D := DT) (f := Zc7) Try.func21 (by kernel_rfl) (by kernel_rfl) (by kernel_rfl) (by kernel_rfl) (by kernel_rfl) (Nat.le_of_ble_eq_true rfl)
def Zdo : LCode := (.seq (.reg [] [⟨some 18, some (.binOp .lss Zd (.tmp 17) (.tmp 16) Zd), none⟩])
  (.seq (.cond (.tmp 18) .skip
  (.exit 0))
  (.seq (.block 1 (.seq (.reg [] [⟨some 19, some (.indexAddr Z0 (.tmp 15) (.tmp 17)), none⟩,
 ⟨some 20, some (.load Zd (.tmp 19)), none⟩,
 ⟨some 8, some (.assign (.tmp 20)), none⟩])
  (.seq (.reg [] [⟨some 22, some (.move (.tmp 0)), none⟩,
 ⟨some 23, some (.move (.tmp 8)), none⟩,
 ⟨some 24, some (.call ⟨(.value (.func Zj)), #[.tmp 22, .tmp 23], #[Ze, Zd]⟩), none⟩,
 ⟨some 21, some (.move (.tmp 24)), none⟩,
 ⟨some 25, some (.extract (.tmp 21) 0), none⟩,
 ⟨some 26, some (.extract (.tmp 21) 1), none⟩,
 ⟨some 9, some (.alloc Zc), none⟩,
 ⟨none, some (.store Zc (.tmp 9) (.tmp 25)), none⟩,
 ⟨some 10, some (.assign (.tmp 26)), none⟩])
  (.seq (.reg [] [⟨some 27, some (.move (.tmp 5)), none⟩,
 ⟨some 28, some (.fieldAddr Zc (.tmp 9) 8), none⟩,
 ⟨some 29, some (.load Zcg (.tmp 28)), none⟩,
 ⟨some 30, some (.lookup Zbw (.tmp 27) (.tmp 29) false), none⟩,
 ⟨some 11, some (.alloc Za), none⟩,
 ⟨none, some (.store Za (.tmp 11) (.tmp 30)), none⟩])
  (.seq (.seq (.reg [] [⟨some 31, some (.load Za (.tmp 11)), none⟩,
 ⟨some 32, some (.fieldAddr Zc (.tmp 9) 1), none⟩,
 ⟨some 33, some (.load Zd (.tmp 32)), none⟩,
 ⟨some 34, some (.call ⟨(.value (.func Zf4)), #[.tmp 31, .tmp 33], #[Za, Zd]⟩), none⟩,
 ⟨some 35, some (.unOp .not Z8 (.tmp 34)), none⟩])
  (.cond (.tmp 35) (.reg [] [⟨some 36, some (.fieldAddr Zc (.tmp 9) 1), none⟩,
 ⟨some 37, some (.load Zd (.tmp 36)), none⟩,
 ⟨some 38, some (.build Za #[(0, (.tmp 37))]), none⟩,
 ⟨none, some (.store Za (.tmp 11) (.tmp 38)), none⟩])
  .skip))
  (.reg [] [⟨some 39, some (.move (.tmp 6)), none⟩,
 ⟨some 40, some (.fieldAddr Zc (.tmp 9) 8), none⟩,
 ⟨some 41, some (.load Zcg (.tmp 40)), none⟩,
 ⟨some 42, some (.load Za (.tmp 11)), none⟩,
 ⟨some 43, some (.build Zbx #[(0, (.tmp 41)), (1, (.tmp 42))]), none⟩,
 ⟨some 44, some (.buildSlice Z1 1 #[(0, (.tmp 43))]), none⟩,
 ⟨some 45, some (.call ⟨(.builtin .append), #[.tmp 39, .tmp 44], #[Z1, Z1]⟩), none⟩,
 ⟨some 6, some (.assign (.tmp 45)), none⟩]))))))
  (.reg [] [⟨some 46, some (.binOp .add Zd (.tmp 17) (.const (.int .i64 1)) Zd), none⟩,
 ⟨some 17, some (.move (.tmp 46)), none⟩]))))
@[simp] theorem Zj9 : defs Zdo = [18, 19, 20, 8, 22, 23, 24, 21, 25, 26, 9, 10, 27, 28, 29, 30, 11, 31, 32, 33, 34, 35, 36, 37, 38, 39, 40, 41, 42, 43, 44, 45, 6, 46, 17] := by rfl
def Zg1 : LCode := (.seq (.reg [] [⟨some 4, some (.assign (.const (.slice none 0 0))), none⟩])
  (.seq (.reg [] [⟨some 12, some (.move (.tmp 1)), none⟩,
 ⟨some 13, some (.call ⟨(.value (.func Zfj)), #[.tmp 12], #[Z1]⟩), none⟩,
 ⟨some 5, some (.assign (.tmp 13)), none⟩])
  (.seq (.reg [] [⟨some 6, some (.assign (.const (.slice none 0 0))), none⟩])
  (.seq (.seq (.reg [] [⟨some 14, some (.move (.tmp 0)), none⟩,
 ⟨some 15, some (.call ⟨(.value (.func Zb3)), #[.tmp 14], #[Ze]⟩), none⟩,
 ⟨some 16, some (.call ⟨(.builtin .len), #[.tmp 15], #[Z0]⟩), none⟩,
 ⟨some 17, some (.move (.const (.int .i64 0))), none⟩])
  (.block 0 (.loop Zdo)))
  (.seq (.reg [] [⟨some 47, some (.move (.tmp 6)), none⟩,
 ⟨some 4, some (.assign (.tmp 47)), none⟩])
  .ret)))))
theorem Ziq {a0 a1 : AV} {H : AHeap} : R Zdm [a0, a1] H = fnK Try.prog [0] H [(.tmp 4)] (evalL Try.prog KT R Zg1 (Env.args [a0, a1] 0) H) :=
  runs_body (D := DT) (f := Zdm) Try.func22 (by kernel_rfl) (by kernel_rfl) (by kernel_rfl) (by kernel_rfl) (by kernel_rfl) (Nat.le_of_ble_eq_true rfl)
def Zir : LCode := (.seq (.reg [] [⟨some 6, some (.alloc Za), none⟩,
 ⟨some 7, some (.assign (.const (.int .i64 0))), none⟩])
  (.seq (.reg [] [⟨some 8, some (.move (.tmp 0)), none⟩,
 ⟨some 9, some (.move (.tmp 1)), none⟩,
 ⟨some 10, some (.move (.tmp 2)), none⟩,
 ⟨some 11, some (.call ⟨(.value (.func Zfj)), #[.tmp 10], #[Z1]⟩), none⟩,
 ⟨some 12, some (.call ⟨(.value (.func Zfk)), #[.tmp 8, .tmp 9, .tmp 11], #[Ze, Zd, Zbw]⟩), none⟩,
 ⟨some 13, some (.extract (.tmp 12) 0), none⟩,
 ⟨some 14, some (.extract (.tmp 12) 1), none⟩,
 ⟨none, some (.store Za (.tmp 6) (.tmp 13)), none⟩,
 ⟨some 7, some (.assign (.tmp 14)), none⟩])
  .ret))
theorem Zka {a0 a1 a2 : AV} {H : AHeap} : R Zdi [a0, a1, a2] H = fnK Try.prog [] H [(.cell 6 Za), (.tmp 7)] (evalL Try.prog KT R Zir (Env.args [a0, a1, a2] 0) H) :=
  runs_body (D := DT) (f := Zdi) Try.func23 (by kernel_rfl) (by kernel_rfl) (by kernel_rfl) (by kernel_rfl) (by kernel_rfl) (Nat.le_of_ble_eq_true rfl)
def Zc9 : LCode := (.seq (.seq (.reg [] [⟨some 7, some (.move (.tmp 6)), none⟩,
 ⟨some 8, some (.move (.tmp 0)), none⟩,
 ⟨some 9, some (.call ⟨(.builtin .len), #[.tmp 8], #[Zm]⟩), none⟩,
 ⟨some 10, some (.binOp .lss Zd (.tmp 7) (.tmp 9) Zd), none⟩,
 ⟨some 11, some (.move (.tmp 10)), none⟩,
 ⟨some 12, some (.move (.tmp 5)), some (some 11, true)⟩,
 ⟨some 13, some (.move (.tmp 1)), some (some 11, true)⟩,
 ⟨some 14, some (.binOp .leq Zd (.tmp 12) (.tmp 13) Zd), some (some 11, true)⟩,
 ⟨some 15, some (.pick (.tmp 11) (.tmp 14) (.const (.bool false))), none⟩])
  (.cond (.tmp 15) .skip
  (.exit 0)))
  (.seq (.block 1 (.reg [] [⟨some 18, some (.move (.tmp 5)), none⟩,
 ⟨some 19, some (.move (.tmp 0)), none⟩,
 ⟨some 20, some (.move (.tmp 6)), none⟩,
 ⟨some 21, some (.indexAddr Zm (.tmp 19) (.tmp 20)), none⟩,
 ⟨some 22, some (.fieldAddr Zc (.tmp 21) 1), none⟩,
 ⟨some 23, some (.load Zd (.tmp 22)), none⟩,
 ⟨some 24, some (.call ⟨(.builtin .max), #[(.tmp 23), (.const (.int .i64 1))], #[Zd, Zd]⟩), none⟩,
 ⟨some 25, some (.binOp .add Zd (.tmp 18) (.tmp 24) Zd), none⟩,
 ⟨some 5, some (.assign (.tmp 25)), none⟩]))
  (.reg [] [⟨some 16, some (.move (.tmp 6)), none⟩,
 ⟨some 17, some (.binOp .add Zd (.tmp 16) (.const (.int .i64 1)) Zd), none⟩,
 ⟨some 6, some (.assign (.tmp 17)), none⟩])))
@[simp] theorem Zjr : defs Zc9 = [7, 8, 9, 10, 11, 12, 13, 14, 15, 18, 19, 20, 21, 22, 23, 24, 25, 5, 16, 17, 6] := by rfl
def Zgm : LCode := (.seq (.reg [] [⟨some 4, some (.assign (.const (.int .i64 0))), none⟩])
  (.seq (.reg [] [⟨some 5, some (.assign (.const (.int .i64 0))), none⟩])
  (.seq (.seq (.reg [] [⟨some 6, some (.assign (.const (.int .i64 0))), none⟩])
  (.block 0 (.loop Zc9)))
  (.seq (.reg [] [⟨some 26, some (.move (.tmp 5)), none⟩,
 ⟨some 4, some (.assign (.tmp 26)), none⟩])
  .ret))))
theorem Zh0 {a0 a1 : AV} {H : AHeap} : R Zco [a0, a1] H = fnK Try.prog [] H [(.tmp 4)] (evalL Try.prog KT R Zgm (Env.args [a0, a1] 0) H) :=
  runs_body (D := DT) (f := Zco) Try.func24 (by kernel_rfl) (by kernel_rfl) (by kernel_rfl) (by kernel_rfl) (by kernel_rfl) (Nat.le_of_ble_eq_true rfl)
def Zdp : LCode := (.seq (.seq (.reg [] [⟨some 9, some (.move (.tmp 6)), none⟩,
 ⟨some 10, some (.move (.tmp 0)), none⟩,
 ⟨some 11, some (.call ⟨(.builtin .len), #[.tmp 10], #[Zm]⟩), none⟩,
 ⟨some 12, some (.binOp .lss Zd (.tmp 9) (.tmp 11) Zd), none⟩])
  (.cond (.tmp 12) .skip
  (.exit 0)))
  (.seq (.block 1 (.seq (.reg [] [⟨some 15, some (.move (.tmp 0)), none⟩,
 ⟨some 16, some (.move (.tmp 6)), none⟩,
 ⟨some 17, some (.indexAddr Zm (.tmp 15) (.tmp 16)), none⟩,
 ⟨some 18, some (.fieldAddr Zc (.tmp 17) 1), none⟩,
 ⟨some 19, some (.load Zd (.tmp 18)), none⟩,
 ⟨some 20, some (.call ⟨(.builtin .max), #[(.tmp 19), (.const (.int .i64 1))], #[Zd, Zd]⟩), none⟩,
 ⟨some 7, some (.assign (.tmp 20)), none⟩])
  (.seq (.reg [] [⟨some 21, some (.move (.tmp 0)), none⟩,
 ⟨some 22, some (.move (.tmp 6)), none⟩,
 ⟨some 23, some (.indexAddr Zm (.tmp 21) (.tmp 22)), none⟩,
 ⟨some 24, some (.fieldAddr Zc (.tmp 23) 1), none⟩,
 ⟨some 25, some (.load Zd (.tmp 24)), none⟩,
 ⟨some 26, some (.move (.tmp 1)), none⟩,
 ⟨some 27, some (.convert Zd Zf (.tmp 26)), none⟩,
 ⟨some 28, some (.move (.tmp 7)), none⟩,
 ⟨some 29, some (.binOp .shl Zf (.const (.int .u64 1)) (.tmp 28) Zd), none⟩,
 ⟨some 30, some (.binOp .sub Zf (.tmp 29) (.const (.int .u64 1)) Zf), none⟩,
 ⟨some 31, some (.binOp .and Zf (.tmp 27) (.tmp 30) Zf), none⟩,
 ⟨some 32, some (.build Za #[(0, (.tmp 25)), (1, (.tmp 31))]), none⟩,
 ⟨some 8, some (.alloc Za), none⟩,
 ⟨none, some (.store Za (.tmp 8) (.tmp 32)), none⟩])
  (.seq (.reg [] [⟨some 33, some (.move (.tmp 1)), none⟩,
 ⟨some 34, some (.move (.tmp 7)), none⟩,
 ⟨some 35, some (.binOp .shr Zd (.tmp 33) (.tmp 34) Zd), none⟩,
 ⟨some 1, some (.assign (.tmp 35)), none⟩])
  (.reg [] [⟨some 36, some (.move (.tmp 5)), none⟩,
 ⟨some 37, some (.move (.tmp 0)), none⟩,
 ⟨some 38, some (.move (.tmp 6)), none⟩,
 ⟨some 39, some (.indexAddr Zm (.tmp 37) (.tmp 38)), none⟩,
 ⟨some 40, some (.fieldAddr Zc (.tmp 39) 8), none⟩,
 ⟨some 41, some (.load Zcg (.tmp 40)), none⟩,
 ⟨some 42, some (.load Za (.tmp 8)), none⟩,
 ⟨some 43, some (.build Zbx #[(0, (.tmp 41)), (1, (.tmp 42))]), none⟩,
 ⟨some 44, some (.buildSlice Z1 1 #[(0, (.tmp 43))]), none⟩,
 ⟨some 45, some (.call ⟨(.builtin .append), #[.tmp 36, .tmp 44], #[Z1, Z1]⟩), none⟩,
 ⟨some 5, some (.assign (.tmp 45)), none⟩])))))
  (.reg [] [⟨some 13, some (.move (.tmp 6)), none⟩,
 ⟨some 14, some (.binOp .add Zd (.tmp 13) (.const (.int .i64 1)) Zd), none⟩,
 ⟨some 6, some (.assign (.tmp 14)), none⟩])))
@[simp] theorem Zkb : defs Zdp = [9, 10, 11, 12, 15, 16, 17, 18, 19, 20, 7, 21, 22, 23, 24, 25, 26, 27, 28, 29, 30, 31, 32, 8, 33, 34, 35, 1, 36, 37, 38, 39, 40, 41, 42, 43, 44, 45, 5, 13, 14, 6] := by rfl
def Zg2 : LCode := (.seq (.reg [] [⟨some 4, some (.assign (.const (.slice none 0 0))), none⟩])
  (.seq (.reg [] [⟨some 5, some (.assign (.const (.slice none 0 0))), none⟩])
  (.seq (.seq (.reg [] [⟨some 6, some (.assign (.const (.int .i64 0))), none⟩])
  (.block 0 (.loop Zdp)))
  (.seq (.reg [] [⟨some 46, some (.move (.tmp 5)), none⟩,
 ⟨some 4, some (.assign (.tmp 46)), none⟩])
  .ret))))
theorem Zis {a0 a1 : AV} {H : AHeap} : R Zc8 [a0, a1] H = fnK Try.prog [0] H [(.tmp 4)] (evalL Try.prog KT R Zg2 (Env.args [a0, a1] 0) H) :=
  runs_body (D := DT) (f := Zc8) Try.func25 (by kernel_rfl) (by kernel_rfl) (by kernel_rfl) (by kernel_rfl) (by kernel_rfl) (Nat.le_of_ble_eq_true rfl)
def Zjg : LCode := (.seq (.reg [] [⟨some 2, some (.assign (.const (.pointer none))), none⟩])
  (.seq (.reg [] [⟨some 3, some (.move (.tmp 0)), none⟩,
 ⟨some 4, some (.call ⟨(.builtin .max), #[(.tmp 3), (.const (.int .i64 1))], #[Zd, Zd]⟩), none⟩,
 ⟨some 5, some (.call ⟨(.builtin .min), #[(.tmp 4), (.const (.int .i64 4096))], #[Zd, Zd]⟩), none⟩,
 ⟨some 6, some (.makeMap Zcl none), none⟩,
 ⟨some 7, some (.makeMap Zc1 none), none⟩,
 ⟨some 8, some (.build Z3 #[(0, (.tmp 5)), (2, (.tmp 6)), (3, (.tmp 7))]), none⟩,
 ⟨some 9, some (.box Z3 (.tmp 8)), none⟩,
 ⟨some 2, some (.assign (.tmp 9)), none⟩])
  .ret))
theorem Zko {a0 : AV} {H : AHeap} : R Zfd [a0] H = fnK Try.prog [] H [(.tmp 2)] (evalL Try.prog KT R Zjg (Env.args [a0] 0) H) :=
  runs_body (D := DT) (f := Zfd) Try.func26 (by kernel_rfl) (by kernel_rfl) (by kernel_rfl) (by kernel_rfl) (by kernel_rfl) (Nat.le_of_ble_eq_true rfl)
def Zbp : LCode := (.seq (.reg [] [⟨some 3, some (.box Zc (.tmp 1)), none⟩,
 ⟨some 4, some (.assign (.const (.int .i64 0))), none⟩])
  (.seq (.seq (.reg [] [⟨some 5, some (.move (.tmp 0)), none⟩,
 ⟨some 6, some (.nilCheck (.tmp 5)), none⟩,
 ⟨some 7, some (.fieldAddr Zs (.tmp 6) 2), none⟩,
 ⟨some 8, some (.load Zbd (.tmp 7)), none⟩,
 ⟨some 9, some (.binOp .neq Zbd (.tmp 8) (.const (.int .i64 0)) Zbd), none⟩])
  (.cond (.tmp 9) (.seq (.reg [] [⟨some 4, some (.assign (.const (.int .i64 0))), none⟩])
  .ret)
  .skip))
  (.seq (.seq (.reg [] [⟨some 10, some (.fieldAddr Zc (.tmp 3) 0), none⟩,
 ⟨some 11, some (.load Zd (.tmp 10)), none⟩,
 ⟨some 12, some (.call ⟨(.value (.func Zdr)), #[.tmp 11], #[Zd]⟩), none⟩])
  (.block 0 (.seq (.reg [] [⟨some 14, some (.binOp .eql Zd (.tmp 12) (.const (.int .i64 0)) Zd), none⟩,
 ⟨some 13, some (.assign (.tmp 14)), none⟩])
  (.cond (.tmp 13) (.seq (.reg [] [⟨some 15, some (.move (.tmp 0)), none⟩,
 ⟨some 16, some (.load Zc (.tmp 3)), none⟩,
 ⟨some 17, some (.call ⟨(.value (.func Zg)), #[.tmp 15, .tmp 16], #[Zi, Zc]⟩), none⟩,
 ⟨some 4, some (.assign (.tmp 17)), none⟩])
  .ret)
  (.seq (.reg [] [⟨some 19, some (.binOp .eql Zd (.tmp 12) (.const (.int .i64 1)) Zd), none⟩,
 ⟨some 18, some (.assign (.tmp 19)), none⟩])
  (.cond (.tmp 18) (.seq (.reg [] [⟨some 20, some (.move (.tmp 0)), none⟩,
 ⟨some 21, some (.load Zc (.tmp 3)), none⟩,
 ⟨some 22, some (.call ⟨(.value (.func Zbi)), #[.tmp 20, .tmp 21], #[Zi, Zc]⟩), none⟩,
 ⟨some 4, some (.assign (.tmp 22)), none⟩])
  .ret)
  (.seq (.reg [] [⟨some 24, some (.binOp .eql Zd (.tmp 12) (.const (.int .i64 3)) Zd), none⟩,
 ⟨some 23, some (.assign (.tmp 24)), none⟩])
  (.cond (.tmp 23) (.seq (.reg [] [⟨some 25, some (.move (.tmp 0)), none⟩,
 ⟨some 26, some (.load Zc (.tmp 3)), none⟩,
 ⟨some 27, some (.call ⟨(.value (.func Zbk)), #[.tmp 25, .tmp 26], #[Zi, Zc]⟩), none⟩,
 ⟨some 4, some (.assign (.tmp 27)), none⟩])
  .ret)
  .skip))))))))
  (.seq (.reg [] [⟨some 28, some (.move (.tmp 0)), none⟩,
 ⟨some 29, some (.load Zc (.tmp 3)), none⟩,
 ⟨some 30, some (.call ⟨(.value (.func Zbr)), #[.tmp 28, .tmp 29], #[Zi, Zc]⟩), none⟩,
 ⟨some 4, some (.assign (.tmp 30)), none⟩])
  .ret))))
theorem Zef {a0 a1 : AV} {H : AHeap} : R Zn [a0, a1] H = fnK Try.prog [] H [(.tmp 4)] (evalL Try.prog KT R Zbp (Env.args [a0, a1] 0) H) :=
  runs_body (D := DT) (f := Zn) Try.func27 (by kernel_rfl) (by kernel_rfl) (by kernel_rfl) (by kernel_rfl) (by kernel_rfl) (Nat.le_of_ble_eq_true rfl)
def Zbz : LCode := (.seq (.reg [] [⟨some 19, some (.binOp .lss Zd (.tmp 18) (.const (.int .i64 3)) Zd), none⟩])
  (.seq (.cond (.tmp 19) .skip
  (.exit 0))
  (.seq (.block 1 (.seq (.reg [] [⟨some 20, some (.move (.tmp 18)), none⟩,
 ⟨some 21, some (.index Ze4 (.tmp 17) (.tmp 18)), none⟩,
 ⟨some 6, some (.assign (.tmp 20)), none⟩,
 ⟨some 7, some (.assign (.tmp 21)), none⟩])
  (.seq (.reg [] [⟨some 22, some (.move (.tmp 6)), none⟩,
 ⟨some 23, some (.move (.tmp 5)), none⟩,
 ⟨some 24, some (.binOp .lss Zd (.tmp 22) (.tmp 23) Zd), none⟩,
 ⟨some 25, some (.move (.tmp 24)), none⟩,
 ⟨some 26, some (.move (.tmp 7)), some (some 25, true)⟩,
 ⟨some 27, some (.binOp .lss Zd (.tmp 26) (.const (.int .i64 1)) Zd), some (some 25, true)⟩,
 ⟨some 28, some (.move (.tmp 27)), some (some 25, true)⟩,
 ⟨some 29, some (.move (.tmp 7)), some (some 28, false)⟩,
 ⟨some 30, some (.move (.tmp 0)), some (some 28, false)⟩,
 ⟨some 31, some (.nilCheck (.tmp 30)), some (some 28, false)⟩,
 ⟨some 32, some (.fieldAddr Z3 (.tmp 31) 1), some (some 28, false)⟩,
 ⟨some 33, some (.load Zm (.tmp 32)), some (some 28, false)⟩,
 ⟨some 34, some (.call ⟨(.builtin .len), #[.tmp 33], #[Zm]⟩), some (some 28, false)⟩,
 ⟨some 35, some (.binOp .gtr Zd (.tmp 29) (.tmp 34) Zd), some (some 28, false)⟩,
 ⟨some 36, some (.pick (.tmp 28) (.const (.bool true)) (.tmp 35)), some (some 25, true)⟩,
 ⟨some 37, some (.pick (.tmp 25) (.tmp 36) (.const (.bool false))), none⟩,
 ⟨some 38, some (.move (.tmp 37)), none⟩,
 ⟨some 39, some (.move (.tmp 6)), some (some 38, false)⟩,
 ⟨some 40, some (.move (.tmp 5)), some (some 38, false)⟩,
 ⟨some 41, some (.binOp .geq Zd (.tmp 39) (.tmp 40) Zd), some (some 38, false)⟩,
 ⟨some 42, some (.move (.tmp 41)), some (some 38, false)⟩,
 ⟨some 43, some (.move (.tmp 7)), some (some 42, true)⟩,
 ⟨some 44, some (.binOp .neq Zd (.tmp 43) (.const (.int .i64 0)) Zd), some (some 42, true)⟩,
 ⟨some 45, some (.pick (.tmp 42) (.tmp 44) (.const (.bool false))), some (some 38, false)⟩,
 ⟨some 46, some (.pick (.tmp 38) (.const (.bool true)) (.tmp 45)), none⟩])
  (.cond (.tmp 46) (.seq (.reg [] [⟨some 4, some (.assign (.const (.bool false))), none⟩])
  .ret)
  .skip))))
  (.reg [] [⟨some 47, some (.binOp .add Zd (.tmp 18) (.const (.int .i64 1)) Zd), none⟩,
 ⟨some 18, some (.move (.tmp 47)), none⟩]))))
@[simp] theorem Zif : defs Zbz = [19, 20, 21, 6, 7, 22, 23, 24, 25, 26, 27, 28, 29, 30, 31, 32, 33, 34, 35, 36, 37, 38, 39, 40, 41, 42, 43, 44, 45, 46, 4, 47, 18] := by rfl
def Zet : LCode := (.seq (.reg [] [⟨some 3, some (.box Zc (.tmp 1)), none⟩,
 ⟨some 4, some (.assign (.const (.bool false))), none⟩])
  (.seq (.reg [] [⟨some 8, some (.fieldAddr Zc (.tmp 3) 0), none⟩,
 ⟨some 9, some (.load Zd (.tmp 8)), none⟩,
 ⟨some 10, some (.call ⟨(.value (.func Zdr)), #[.tmp 9], #[Zd]⟩), none⟩,
 ⟨some 5, some (.assign (.tmp 10)), none⟩])
  (.seq (.seq (.reg [] [⟨some 11, some (.fieldAddr Zc (.tmp 3) 2), none⟩,
 ⟨some 12, some (.load Zd (.tmp 11)), none⟩,
 ⟨some 13, some (.fieldAddr Zc (.tmp 3) 3), none⟩,
 ⟨some 14, some (.load Zd (.tmp 13)), none⟩,
 ⟨some 15, some (.fieldAddr Zc (.tmp 3) 4), none⟩,
 ⟨some 16, some (.load Zd (.tmp 15)), none⟩,
 ⟨some 17, some (.build Ze4 #[(0, (.tmp 12)), (1, (.tmp 14)), (2, (.tmp 16))]), none⟩,
 ⟨some 18, some (.move (.const (.int .i64 0))), none⟩])
  (.block 0 (.loop Zbz)))
  (.seq (.reg [] [⟨some 48, some (.move (.tmp 5)), none⟩,
 ⟨some 49, some (.binOp .geq Zd (.tmp 48) (.const (.int .i64 0)) Zd), none⟩,
 ⟨some 50, some (.move (.tmp 49)), none⟩,
 ⟨some 51, some (.fieldAddr Zc (.tmp 3) 0), some (some 50, true)⟩,
 ⟨some 52, some (.load Zd (.tmp 51)), some (some 50, true)⟩,
 ⟨some 53, some (.binOp .eql Zd (.tmp 52) (.const (.int .i64 1)) Zd), some (some 50, true)⟩,
 ⟨some 54, some (.move (.tmp 53)), some (some 50, true)⟩,
 ⟨some 55, some (.fieldAddr Zc (.tmp 3) 7), some (some 54, false)⟩,
 ⟨some 56, some (.load Za (.tmp 55)), some (some 54, false)⟩,
 ⟨some 57, some (.build Za #[]), some (some 54, false)⟩,
 ⟨some 58, some (.binOp .eql Za (.tmp 56) (.tmp 57) Za), some (some 54, false)⟩,
 ⟨some 59, some (.pick (.tmp 54) (.const (.bool true)) (.tmp 58)), some (some 50, true)⟩,
 ⟨some 60, some (.pick (.tmp 50) (.tmp 59) (.const (.bool false))), none⟩,
 ⟨some 61, some (.move (.tmp 60)), none⟩,
 ⟨some 62, some (.fieldAddr Zc (.tmp 3) 0), some (some 61, true)⟩,
 ⟨some 63, some (.load Zd (.tmp 62)), some (some 61, true)⟩,
 ⟨some 64, some (.binOp .eql Zd (.tmp 63) (.const (.int .i64 2)) Zd), some (some 61, true)⟩,
 ⟨some 65, some (.move (.tmp 64)), some (some 61, true)⟩,
 ⟨some 66, some (.fieldAddr Zc (.tmp 3) 8), some (some 65, false)⟩,
 ⟨some 67, some (.load Zcg (.tmp 66)), some (some 65, false)⟩,
 ⟨some 68, some (.binOp .eql Zcg (.tmp 67) (.const (.string { data := #[] })) Zcg), some (some 65, false)⟩,
 ⟨some 69, some (.pick (.tmp 65) (.const (.bool true)) (.tmp 68)), some (some 61, true)⟩,
 ⟨some 70, some (.pick (.tmp 61) (.tmp 69) (.const (.bool false))), none⟩,
 ⟨some 4, some (.assign (.tmp 70)), none⟩])
  .ret))))
theorem Zgf {a0 a1 : AV} {H : AHeap} : R Zcq [a0, a1] H = fnK Try.prog [] H [(.tmp 4)] (evalL Try.prog KT R Zet (Env.args [a0, a1] 0) H) :=
  runs_body (D := DT) (f := Zcq) Try.func28 (by kernel_rfl) (by kernel_rfl) (by kernel_rfl) (by kernel_rfl) (by kernel_rfl) (Nat.le_of_ble_eq_true rfl)
def Zb0 : LCode := (.seq (.reg [] [⟨some 94, some (.binOp .lss Zd (.tmp 93) (.const (.int .i64 3)) Zd), none⟩])
  (.seq (.cond (.tmp 94) .skip
  (.exit 1))
  (.seq (.block 2 (.seq (.reg [] [⟨some 95, some (.index Ze4 (.tmp 92) (.tmp 93)), none⟩,
 ⟨some 9, some (.assign (.tmp 95)), none⟩])
  (.seq (.reg [] [⟨some 96, some (.move (.tmp 9)), none⟩,
 ⟨some 97, some (.binOp .gtr Zd (.tmp 96) (.const (.int .i64 0)) Zd), none⟩])
  (.cond (.tmp 97) (.reg [] [⟨some 98, some (.move (.tmp 7)), none⟩,
 ⟨some 99, some (.move (.tmp 0)), none⟩,
 ⟨some 100, some (.nilCheck (.tmp 99)), none⟩,
 ⟨some 101, some (.fieldAddr Z3 (.tmp 100) 1), none⟩,
 ⟨some 102, some (.load Zm (.tmp 101)), none⟩,
 ⟨some 103, some (.move (.tmp 9)), none⟩,
 ⟨some 104, some (.binOp .sub Zd (.tmp 103) (.const (.int .i64 1)) Zd), none⟩,
 ⟨some 105, some (.indexAddr Zm (.tmp 102) (.tmp 104)), none⟩,
 ⟨some 106, some (.fieldAddr Zc (.tmp 105) 1), none⟩,
 ⟨some 107, some (.load Zd (.tmp 106)), none⟩,
 ⟨some 108, some (.buildSlice Z0 1 #[(0, (.tmp 107))]), none⟩,
 ⟨some 109, some (.call ⟨(.builtin .append), #[.tmp 98, .tmp 108], #[Z0, Z0]⟩), none⟩,
 ⟨some 7, some (.assign (.tmp 109)), none⟩])
  .skip))))
  (.reg [] [⟨some 110, some (.binOp .add Zd (.tmp 93) (.const (.int .i64 1)) Zd), none⟩,
 ⟨some 93, some (.move (.tmp 110)), none⟩]))))
@[simp] theorem Zig : defs Zb0 = [94, 95, 9, 96, 97, 98, 99, 100, 101, 102, 103, 104, 105, 106, 107, 108, 109, 7, 110, 93] := by rfl
def Zt : LCode := (.seq (.reg [] [⟨some 3, some (.box Zc (.tmp 1)), none⟩,
 ⟨some 4, some (.alloc Zc), none⟩,
 ⟨some 5, some (.assign (.const (.int .i64 0))), none⟩])
  (.seq (.seq (.reg [] [⟨some 11, some (.fieldAddr Zc (.tmp 3) 0), none⟩,
 ⟨some 12, some (.load Zd (.tmp 11)), none⟩])
  (.block 0 (.seq (.reg [] [⟨some 14, some (.binOp .eql Zd (.tmp 12) (.const (.int .i64 1)) Zd), none⟩,
 ⟨some 13, some (.assign (.tmp 14)), none⟩])
  (.cond (.tmp 13) (.seq (.seq (.reg [] [⟨some 15, some (.fieldAddr Zc (.tmp 3) 7), none⟩,
 ⟨some 16, some (.load Za (.tmp 15)), none⟩,
 ⟨some 17, some (.call ⟨(.value (.func Zd1)), #[.tmp 16], #[Za]⟩), none⟩,
 ⟨some 18, some (.unOp .not Z8 (.tmp 17)), none⟩,
 ⟨some 19, some (.move (.tmp 18)), none⟩,
 ⟨some 20, some (.fieldAddr Zc (.tmp 3) 7), some (some 19, false)⟩,
 ⟨some 21, some (.fieldAddr Za (.tmp 20) 0), some (some 19, false)⟩,
 ⟨some 22, some (.load Zd (.tmp 21)), some (some 19, false)⟩,
 ⟨some 23, some (.fieldAddr Zc (.tmp 3) 1), some (some 19, false)⟩,
 ⟨some 24, some (.load Zd (.tmp 23)), some (some 19, false)⟩,
 ⟨some 25, some (.binOp .neq Zd (.tmp 22) (.tmp 24) Zd), some (some 19, false)⟩,
 ⟨some 26, some (.pick (.tmp 19) (.const (.bool true)) (.tmp 25)), none⟩,
 ⟨some 27, some (.move (.tmp 26)), none⟩,
 ⟨some 28, some (.fieldAddr Zc (.tmp 3) 5), some (some 27, false)⟩,
 ⟨some 29, some (.load Zd (.tmp 28)), some (some 27, false)⟩,
 ⟨some 30, some (.binOp .neq Zd (.tmp 29) (.const (.int .i64 0)) Zd), some (some 27, false)⟩,
 ⟨some 31, some (.pick (.tmp 27) (.const (.bool true)) (.tmp 30)), none⟩,
 ⟨some 32, some (.move (.tmp 31)), none⟩,
 ⟨some 33, some (.fieldAddr Zc (.tmp 3) 6), some (some 32, false)⟩,
 ⟨some 34, some (.load Zd (.tmp 33)), some (some 32, false)⟩,
 ⟨some 35, some (.binOp .neq Zd (.tmp 34) (.const (.int .i64 0)) Zd), some (some 32, false)⟩,
 ⟨some 36, some (.pick (.tmp 32) (.const (.bool true)) (.tmp 35)), none⟩])
  (.cond (.tmp 36) (.seq (.reg [] [⟨some 37, some (.load Zc (.tmp 3)), none⟩,
 ⟨none, some (.store Zc (.tmp 4) (.tmp 37)), none⟩,
 ⟨some 5, some (.assign (.const (.int .i64 30))), none⟩])
  .ret)
  .skip))
  (.seq (.reg [] [⟨some 38, some (.load Zc (.tmp 3)), none⟩,
 ⟨none, some (.store Zc (.tmp 4) (.tmp 38)), none⟩,
 ⟨some 5, some (.assign (.const (.int .i64 0))), none⟩])
  .ret))
  (.seq (.reg [] [⟨some 40, some (.binOp .eql Zd (.tmp 12) (.const (.int .i64 2)) Zd), none⟩,
 ⟨some 39, some (.assign (.tmp 40)), none⟩])
  (.cond (.tmp 39) (.seq (.seq (.reg [] [⟨some 41, some (.fieldAddr Zc (.tmp 3) 1), none⟩,
 ⟨some 42, some (.load Zd (.tmp 41)), none⟩,
 ⟨some 43, some (.call ⟨(.value (.func Zf5)), #[.tmp 42], #[Zd]⟩), none⟩,
 ⟨some 44, some (.unOp .not Z8 (.tmp 43)), none⟩,
 ⟨some 45, some (.move (.tmp 44)), none⟩,
 ⟨some 46, some (.fieldAddr Zc (.tmp 3) 5), some (some 45, false)⟩,
 ⟨some 47, some (.load Zd (.tmp 46)), some (some 45, false)⟩,
 ⟨some 48, some (.binOp .neq Zd (.tmp 47) (.const (.int .i64 0)) Zd), some (some 45, false)⟩,
 ⟨some 49, some (.pick (.tmp 45) (.const (.bool true)) (.tmp 48)), none⟩,
 ⟨some 50, some (.move (.tmp 49)), none⟩,
 ⟨some 51, some (.fieldAddr Zc (.tmp 3) 6), some (some 50, false)⟩,
 ⟨some 52, some (.load Zd (.tmp 51)), some (some 50, false)⟩,
 ⟨some 53, some (.binOp .neq Zd (.tmp 52) (.const (.int .i64 0)) Zd), some (some 50, false)⟩,
 ⟨some 54, some (.pick (.tmp 50) (.const (.bool true)) (.tmp 53)), none⟩])
  (.cond (.tmp 54) (.seq (.reg [] [⟨some 55, some (.load Zc (.tmp 3)), none⟩,
 ⟨none, some (.store Zc (.tmp 4) (.tmp 55)), none⟩,
 ⟨some 5, some (.assign (.const (.int .i64 30))), none⟩])
  .ret)
  .skip))
  (.seq (.seq (.reg [] [⟨some 56, some (.move (.tmp 0)), none⟩,
 ⟨some 57, some (.nilCheck (.tmp 56)), none⟩,
 ⟨some 58, some (.fieldAddr Z3 (.tmp 57) 3), none⟩,
 ⟨some 59, some (.load Zc1 (.tmp 58)), none⟩,
 ⟨some 60, some (.fieldAddr Zc (.tmp 3) 8), none⟩,
 ⟨some 61, some (.load Zcg (.tmp 60)), none⟩,
 ⟨some 62, some (.lookup Zc1 (.tmp 59) (.tmp 61) false), none⟩,
 ⟨some 6, some (.assign (.tmp 62)), none⟩])
  (.seq (.reg [] [⟨some 63, some (.fieldAddr Zc (.tmp 3) 8), none⟩,
 ⟨some 64, some (.load Zcg (.tmp 63)), none⟩,
 ⟨some 65, some (.binOp .eql Zcg (.tmp 64) (.const (.string { data := #[] })) Zcg), none⟩,
 ⟨some 66, some (.move (.tmp 65)), none⟩,
 ⟨some 67, some (.move (.tmp 6)), some (some 66, false)⟩,
 ⟨some 68, some (.binOp .gtr Zd (.tmp 67) (.const (.int .i64 0)) Zd), some (some 66, false)⟩,
 ⟨some 69, some (.move (.tmp 68)), some (some 66, false)⟩,
 ⟨some 70, some (.move (.tmp 0)), some (some 69, true)⟩,
 ⟨some 71, some (.nilCheck (.tmp 70)), some (some 69, true)⟩,
 ⟨some 72, some (.fieldAddr Z3 (.tmp 71) 1), some (some 69, true)⟩,
 ⟨some 73, some (.load Zm (.tmp 72)), some (some 69, true)⟩,
 ⟨some 74, some (.move (.tmp 6)), some (some 69, true)⟩,
 ⟨some 75, some (.binOp .sub Zd (.tmp 74) (.const (.int .i64 1)) Zd), some (some 69, true)⟩,
 ⟨some 76, some (.indexAddr Zm (.tmp 73) (.tmp 75)), some (some 69, true)⟩,
 ⟨some 77, some (.fieldAddr Zc (.tmp 76) 1), some (some 69, true)⟩,
 ⟨some 78, some (.load Zd (.tmp 77)), some (some 69, true)⟩,
 ⟨some 79, some (.fieldAddr Zc (.tmp 3) 1), some (some 69, true)⟩,
 ⟨some 80, some (.load Zd (.tmp 79)), some (some 69, true)⟩,
 ⟨some 81, some (.binOp .neq Zd (.tmp 78) (.tmp 80) Zd), some (some 69, true)⟩,
 ⟨some 82, some (.pick (.tmp 69) (.tmp 81) (.const (.bool false))), some (some 66, false)⟩,
 ⟨some 83, some (.pick (.tmp 66) (.const (.bool true)) (.tmp 82)), none⟩])
  (.cond (.tmp 83) (.seq (.reg [] [⟨some 84, some (.load Zc (.tmp 3)), none⟩,
 ⟨none, some (.store Zc (.tmp 4) (.tmp 84)), none⟩,
 ⟨some 5, some (.assign (.const (.int .i64 34))), none⟩])
  .ret)
  .skip)))
  (.seq (.reg [] [⟨some 85, some (.load Zc (.tmp 3)), none⟩,
 ⟨none, some (.store Zc (.tmp 4) (.tmp 85)), none⟩,
 ⟨some 5, some (.assign (.const (.int .i64 0))), none⟩])
  .ret)))
  .skip))))))
  (.seq (.reg [] [⟨some 7, some (.assign (.const (.slice none 0 0))), none⟩])
  (.seq (.seq (.reg [] [⟨some 86, some (.fieldAddr Zc (.tmp 3) 2), none⟩,
 ⟨some 87, some (.load Zd (.tmp 86)), none⟩,
 ⟨some 88, some (.fieldAddr Zc (.tmp 3) 3), none⟩,
 ⟨some 89, some (.load Zd (.tmp 88)), none⟩,
 ⟨some 90, some (.fieldAddr Zc (.tmp 3) 4), none⟩,
 ⟨some 91, some (.load Zd (.tmp 90)), none⟩,
 ⟨some 92, some (.build Ze4 #[(0, (.tmp 87)), (1, (.tmp 89)), (2, (.tmp 91))]), none⟩,
 ⟨some 93, some (.move (.const (.int .i64 0))), none⟩])
  (.block 1 (.loop Zb0)))
  (.seq (.reg [] [⟨some 10, some (.assign (.const (.int .i64 0))), none⟩])
  (.seq (.reg [] [⟨some 112, some (.fieldAddr Zc (.tmp 3) 0), none⟩,
 ⟨some 113, some (.load Zd (.tmp 112)), none⟩,
 ⟨some 114, some (.fieldAddr Zc (.tmp 3) 5), none⟩,
 ⟨some 115, some (.load Zd (.tmp 114)), none⟩,
 ⟨some 116, some (.fieldAddr Zc (.tmp 3) 6), none⟩,
 ⟨some 117, some (.load Zd (.tmp 116)), none⟩,
 ⟨some 118, some (.move (.tmp 7)), none⟩,
 ⟨some 119, some (.call ⟨(.value (.func Zfe)), #[.tmp 113, .tmp 115, .tmp 117, .tmp 118], #[Zd, Zd, Zd, Z0]⟩), none⟩,
 ⟨some 111, some (.move (.tmp 119)), none⟩,
 ⟨some 120, some (.extract (.tmp 111) 0), none⟩,
 ⟨some 121, some (.extract (.tmp 111) 1), none⟩,
 ⟨some 122, some (.fieldAddr Zc (.tmp 3) 1), none⟩,
 ⟨none, some (.store Zd (.tmp 122) (.tmp 120)), none⟩,
 ⟨some 10, some (.assign (.tmp 121)), none⟩])
  (.seq (.reg [] [⟨some 123, some (.load Zc (.tmp 3)), none⟩,
 ⟨some 124, some (.move (.tmp 10)), none⟩,
 ⟨none, some (.store Zc (.tmp 4) (.tmp 123)), none⟩,
 ⟨some 5, some (.assign (.tmp 124)), none⟩])
  .ret)))))))
theorem Zgg {a0 a1 : AV} {H : AHeap} : R Zcr [a0, a1] H = fnK Try.prog [] H [(.cell 4 Zc), (.tmp 5)] (evalL Try.prog KT R Zt (Env.args [a0, a1] 0) H) :=
  runs_body (D := DT) (f := Zcr) Try.func29 (by kernel_rfl) (by kernel_rfl) (by kernel_rfl) (by kernel_rfl) (by kernel_rfl) (Nat.le_of_ble_eq_true rfl)
def Zb9 : LCode := (.seq (.reg [] [⟨some 12, some (.binOp .lss Zd (.tmp 11) (.tmp 10) Zd), none⟩])
  (.seq (.cond (.tmp 12) .skip
  (.exit 0))
  (.seq (.block 1 (.seq (.reg [] [⟨some 13, some (.move (.tmp 11)), none⟩,
 ⟨some 14, some (.indexAddr Zm (.tmp 9) (.tmp 11)), none⟩,
 ⟨some 15, some (.load Zc (.tmp 14)), none⟩,
 ⟨some 5, some (.alloc Zc), none⟩,
 ⟨some 4, some (.assign (.tmp 13)), none⟩,
 ⟨none, some (.store Zc (.tmp 5) (.tmp 15)), none⟩])
  (.seq (.reg [] [⟨some 16, some (.fieldAddr Zc (.tmp 5) 0), none⟩,
 ⟨some 17, some (.load Zd (.tmp 16)), none⟩,
 ⟨some 18, some (.binOp .eql Zd (.tmp 17) (.const (.int .i64 2)) Zd), none⟩])
  (.cond (.tmp 18) (.reg [] [⟨some 19, some (.move (.tmp 3)), none⟩,
 ⟨some 20, some (.move (.tmp 4)), none⟩,
 ⟨some 21, some (.binOp .add Zd (.tmp 20) (.const (.int .i64 1)) Zd), none⟩,
 ⟨some 22, some (.buildSlice Z0 1 #[(0, (.tmp 21))]), none⟩,
 ⟨some 23, some (.call ⟨(.builtin .append), #[.tmp 19, .tmp 22], #[Z0, Z0]⟩), none⟩,
 ⟨some 3, some (.assign (.tmp 23)), none⟩])
  .skip))))
  (.reg [] [⟨some 24, some (.binOp .add Zd (.tmp 11) (.const (.int .i64 1)) Zd), none⟩,
 ⟨some 11, some (.move (.tmp 24)), none⟩]))))
@[simp] theorem Zit : defs Zb9 = [12, 13, 14, 15, 5, 4, 16, 17, 18, 19, 20, 21, 22, 23, 3, 24, 11] := by rfl
def Ze9 : LCode := (.seq (.reg [] [⟨some 2, some (.assign (.const (.slice none 0 0))), none⟩])
  (.seq (.reg [] [⟨some 3, some (.assign (.const (.slice none 0 0))), none⟩])
  (.seq (.seq (.reg [] [⟨some 6, some (.move (.tmp 0)), none⟩,
 ⟨some 7, some (.nilCheck (.tmp 6)), none⟩,
 ⟨some 8, some (.fieldAddr Z3 (.tmp 7) 1), none⟩,
 ⟨some 9, some (.load Zm (.tmp 8)), none⟩,
 ⟨some 10, some (.call ⟨(.builtin .len), #[.tmp 9], #[Zm]⟩), none⟩,
 ⟨some 11, some (.move (.const (.int .i64 0))), none⟩])
  (.block 0 (.loop Zb9)))
  (.seq (.reg [] [⟨some 25, some (.move (.tmp 3)), none⟩,
 ⟨some 2, some (.assign (.tmp 25)), none⟩])
  .ret))))
theorem Zgu {a0 : AV} {H : AHeap} : R Zb3 [a0] H = fnK Try.prog [0] H [(.tmp 2)] (evalL Try.prog KT R Ze9 (Env.args [a0] 0) H) :=
  runs_body (D := DT) (f := Zb3) Try.func30 (by kernel_rfl) (by kernel_rfl) (by kernel_rfl) (by kernel_rfl) (by kernel_rfl) (Nat.le_of_ble_eq_true rfl)
def Zeu : LCode := (.seq (.reg [] [⟨some 12, some (.binOp .lss Zd (.tmp 11) (.tmp 10) Zd), none⟩])
  (.seq (.cond (.tmp 12) .skip
  (.exit 0))
  (.seq (.block 1 (.seq (.reg [] [⟨some 13, some (.indexAddr Z1 (.tmp 9) (.tmp 11)), none⟩,
 ⟨some 14, some (.load Zbx (.tmp 13)), none⟩,
 ⟨some 5, some (.alloc Zbx), none⟩,
 ⟨none, some (.store Zbx (.tmp 5) (.tmp 14)), none⟩])
  (.seq (.reg [] [⟨some 16, some (.move (.tmp 3)), none⟩,
 ⟨some 17, some (.fieldAddr Zbx (.tmp 5) 0), none⟩,
 ⟨some 18, some (.load Zcg (.tmp 17)), none⟩,
 ⟨some 19, some (.lookup Zbw (.tmp 16) (.tmp 18) true), none⟩,
 ⟨some 15, some (.move (.tmp 19)), none⟩,
 ⟨some 20, some (.extract (.tmp 15) 0), none⟩,
 ⟨some 21, some (.extract (.tmp 15) 1), none⟩,
 ⟨some 6, some (.alloc Za), none⟩,
 ⟨none, some (.store Za (.tmp 6) (.tmp 20)), none⟩,
 ⟨some 7, some (.assign (.tmp 21)), none⟩])
  (.seq (.reg [] [⟨some 22, some (.move (.tmp 7)), none⟩,
 ⟨some 23, some (.unOp .not Z8 (.tmp 22)), none⟩])
  (.cond (.tmp 23) (.reg [] [⟨some 24, some (.move (.tmp 3)), none⟩,
 ⟨some 25, some (.fieldAddr Zbx (.tmp 5) 0), none⟩,
 ⟨some 26, some (.load Zcg (.tmp 25)), none⟩,
 ⟨some 27, some (.fieldAddr Zbx (.tmp 5) 1), none⟩,
 ⟨some 28, some (.load Za (.tmp 27)), none⟩,
 ⟨none, some (.mapUpdate Zbw (.tmp 24) (.tmp 26) (.tmp 28)), none⟩])
  .skip)))))
  (.reg [] [⟨some 29, some (.binOp .add Zd (.tmp 11) (.const (.int .i64 1)) Zd), none⟩,
 ⟨some 11, some (.move (.tmp 29)), none⟩]))))
@[simp] theorem Zks : defs Zeu = [12, 13, 14, 5, 16, 17, 18, 19, 15, 20, 21, 6, 7, 22, 23, 24, 25, 26, 27, 28, 29, 11] := by rfl
def Zh3 : LCode := (.seq (.reg [] [⟨some 2, some (.assign (.const (.map none))), none⟩])
  (.seq (.reg [] [⟨some 8, some (.makeMap Zbw none), none⟩,
 ⟨some 3, some (.assign (.tmp 8)), none⟩])
  (.seq (.seq (.reg [] [⟨some 9, some (.move (.tmp 0)), none⟩,
 ⟨some 10, some (.call ⟨(.builtin .len), #[.tmp 9], #[Z1]⟩), none⟩,
 ⟨some 11, some (.move (.const (.int .i64 0))), none⟩])
  (.block 0 (.loop Zeu)))
  (.seq (.reg [] [⟨some 30, some (.move (.tmp 3)), none⟩,
 ⟨some 2, some (.assign (.tmp 30)), none⟩])
  .ret))))
theorem Zjs {a0 : AV} {H : AHeap} : R Zfj [a0] H = fnK Try.prog [] H [(.tmp 2)] (evalL Try.prog KT R Zh3 (Env.args [a0] 0) H) :=
  runs_body (D := DT) (f := Zfj) Try.func31 (by kernel_rfl) (by kernel_rfl) (by kernel_rfl) (by kernel_rfl) (by kernel_rfl) (Nat.le_of_ble_eq_true rfl)
def Ziu : LCode := (.seq (.reg [] [⟨some 2, some (.box Za (.tmp 0)), none⟩,
 ⟨some 4, some (.assign (.const (.bool false))), none⟩])
  (.seq (.reg [] [⟨some 5, some (.load Za (.tmp 2)), none⟩,
 ⟨some 6, some (.call ⟨(.value (.func Zd1)), #[.tmp 5], #[Za]⟩), none⟩,
 ⟨some 7, some (.move (.tmp 6)), none⟩,
 ⟨some 8, some (.fieldAddr Za (.tmp 2) 0), some (some 7, true)⟩,
 ⟨some 9, some (.load Zd (.tmp 8)), some (some 7, true)⟩,
 ⟨some 10, some (.move (.tmp 1)), some (some 7, true)⟩,
 ⟨some 11, some (.binOp .eql Zd (.tmp 9) (.tmp 10) Zd), some (some 7, true)⟩,
 ⟨some 12, some (.pick (.tmp 7) (.tmp 11) (.const (.bool false))), none⟩,
 ⟨some 4, some (.assign (.tmp 12)), none⟩])
  .ret))
theorem Zkc {a0 a1 : AV} {H : AHeap} : R Zf4 [a0, a1] H = fnK Try.prog [] H [(.tmp 4)] (evalL Try.prog KT R Ziu (Env.args [a0, a1] 0) H) :=
  runs_body (D := DT) (f := Zf4) Try.func32 (by kernel_rfl) (by kernel_rfl) (by kernel_rfl) (by kernel_rfl) (by kernel_rfl) (Nat.le_of_ble_eq_true rfl)
def Zev : LCode := (.seq (.reg [] [⟨some 35, some (.binOp .lss Zd (.tmp 34) (.tmp 33) Zd), none⟩])
  (.seq (.cond (.tmp 35) .skip
  (.exit 0))
  (.seq (.block 1 (.seq (.reg [] [⟨some 36, some (.indexAddr Z0 (.tmp 32) (.tmp 34)), none⟩,
 ⟨some 37, some (.load Zd (.tmp 36)), none⟩,
 ⟨some 12, some (.assign (.tmp 37)), none⟩])
  (.seq (.reg [] [⟨some 39, some (.move (.tmp 0)), none⟩,
 ⟨some 40, some (.move (.tmp 12)), none⟩,
 ⟨some 41, some (.call ⟨(.value (.func Zj)), #[.tmp 39, .tmp 40], #[Ze, Zd]⟩), none⟩,
 ⟨some 38, some (.move (.tmp 41)), none⟩,
 ⟨some 42, some (.extract (.tmp 38) 0), none⟩,
 ⟨some 43, some (.extract (.tmp 38) 1), none⟩,
 ⟨some 13, some (.alloc Zc), none⟩,
 ⟨none, some (.store Zc (.tmp 13) (.tmp 42)), none⟩,
 ⟨some 14, some (.assign (.tmp 43)), none⟩])
  (.seq (.reg [] [⟨some 44, some (.fieldAddr Zc (.tmp 13) 0), none⟩,
 ⟨some 45, some (.load Zd (.tmp 44)), none⟩])
  (.block 2 (.seq (.reg [] [⟨some 82, some (.binOp .eql Zd (.tmp 45) (.const (.int .i64 1)) Zd), none⟩,
 ⟨some 81, some (.assign (.tmp 82)), none⟩])
  (.cond (.tmp 81) (.reg [] [⟨some 83, some (.move (.tmp 10)), none⟩,
 ⟨some 84, some (.move (.tmp 12)), none⟩,
 ⟨some 85, some (.fieldAddr Zc (.tmp 13) 7), none⟩,
 ⟨some 86, some (.load Za (.tmp 85)), none⟩,
 ⟨none, some (.mapUpdate Zb2 (.tmp 83) (.tmp 84) (.tmp 86)), none⟩])
  (.seq (.reg [] [⟨some 88, some (.binOp .eql Zd (.tmp 45) (.const (.int .i64 2)) Zd), none⟩,
 ⟨some 87, some (.assign (.tmp 88)), none⟩])
  (.cond (.tmp 87) (.seq (.reg [] [⟨some 90, some (.move (.tmp 2)), none⟩,
 ⟨some 91, some (.fieldAddr Zc (.tmp 13) 8), none⟩,
 ⟨some 92, some (.load Zcg (.tmp 91)), none⟩,
 ⟨some 93, some (.lookup Zbw (.tmp 90) (.tmp 92) true), none⟩,
 ⟨some 89, some (.move (.tmp 93)), none⟩,
 ⟨some 94, some (.extract (.tmp 89) 0), none⟩,
 ⟨some 95, some (.extract (.tmp 89) 1), none⟩,
 ⟨some 15, some (.alloc Za), none⟩,
 ⟨none, some (.store Za (.tmp 15) (.tmp 94)), none⟩,
 ⟨some 16, some (.assign (.tmp 95)), none⟩])
  (.seq (.seq (.reg [] [⟨some 96, some (.move (.tmp 16)), none⟩,
 ⟨some 97, some (.unOp .not Z8 (.tmp 96)), none⟩,
 ⟨some 98, some (.move (.tmp 97)), none⟩,
 ⟨some 99, some (.load Za (.tmp 15)), some (some 98, false)⟩,
 ⟨some 100, some (.fieldAddr Zc (.tmp 13) 1), some (some 98, false)⟩,
 ⟨some 101, some (.load Zd (.tmp 100)), some (some 98, false)⟩,
 ⟨some 102, some (.call ⟨(.value (.func Zf4)), #[.tmp 99, .tmp 101], #[Za, Zd]⟩), some (some 98, false)⟩,
 ⟨some 103, some (.unOp .not Z8 (.tmp 102)), some (some 98, false)⟩,
 ⟨some 104, some (.pick (.tmp 98) (.const (.bool true)) (.tmp 103)), none⟩])
  (.cond (.tmp 104) (.seq (.reg [] [⟨some 105, some (.build Za #[]), none⟩,
 ⟨none, some (.store Za (.tmp 6) (.tmp 105)), none⟩,
 ⟨some 7, some (.assign (.const (.int .i64 41))), none⟩])
  .ret)
  .skip))
  (.reg [] [⟨some 106, some (.move (.tmp 10)), none⟩,
 ⟨some 107, some (.move (.tmp 12)), none⟩,
 ⟨some 108, some (.load Za (.tmp 15)), none⟩,
 ⟨none, some (.mapUpdate Zb2 (.tmp 106) (.tmp 107) (.tmp 108)), none⟩])))
  (.seq (.reg [14, 15, 6215] [⟨some 46, some (.move (.tmp 10)), none⟩,
 ⟨some 47, some (.fieldAddr Zc (.tmp 13) 2), none⟩,
 ⟨some 48, some (.load Zd (.tmp 47)), none⟩,
 ⟨some 49, some (.lookup Zb2 (.tmp 46) (.tmp 48) false), none⟩,
 ⟨some 50, some (.move (.tmp 10)), none⟩,
 ⟨some 51, some (.fieldAddr Zc (.tmp 13) 3), none⟩,
 ⟨some 52, some (.load Zd (.tmp 51)), none⟩,
 ⟨some 53, some (.lookup Zb2 (.tmp 50) (.tmp 52) false), none⟩,
 ⟨some 54, some (.move (.tmp 10)), none⟩,
 ⟨some 55, some (.fieldAddr Zc (.tmp 13) 4), none⟩,
 ⟨some 56, some (.load Zd (.tmp 55)), none⟩,
 ⟨some 57, some (.lookup Zb2 (.tmp 54) (.tmp 56) false), none⟩,
 ⟨some 59, some (.fieldAddr Zc (.tmp 13) 0), none⟩,
 ⟨some 60, some (.load Zd (.tmp 59)), none⟩,
 ⟨some 61, some (.call ⟨(.value (.func Zdr)), #[.tmp 60], #[Zd]⟩), none⟩,
 ⟨some 58, some (.buildSlice Zp 3 #[(0, (.tmp 49)), (1, (.tmp 53)), (2, (.tmp 57))]), none⟩,
 ⟨some 62, some (.slice Zp (.tmp 58) none (some (.tmp 61)) none), none⟩,
 ⟨some 17, some (.assign (.tmp 62)), none⟩])
  (.seq (.reg [] [⟨some 64, some (.fieldAddr Zc (.tmp 13) 0), none⟩,
 ⟨some 65, some (.load Zd (.tmp 64)), none⟩,
 ⟨some 66, some (.fieldAddr Zc (.tmp 13) 5), none⟩,
 ⟨some 67, some (.load Zd (.tmp 66)), none⟩,
 ⟨some 68, some (.fieldAddr Zc (.tmp 13) 6), none⟩,
 ⟨some 69, some (.load Zd (.tmp 68)), none⟩,
 ⟨some 70, some (.move (.tmp 17)), none⟩,
 ⟨some 71, some (.call ⟨(.value (.func Zez)), #[.tmp 65, .tmp 67, .tmp 69, .tmp 70], #[Zd, Zd, Zd, Zp]⟩), none⟩,
 ⟨some 63, some (.move (.tmp 71)), none⟩,
 ⟨some 72, some (.extract (.tmp 63) 0), none⟩,
 ⟨some 73, some (.extract (.tmp 63) 1), none⟩,
 ⟨some 18, some (.alloc Za), none⟩,
 ⟨none, some (.store Za (.tmp 18) (.tmp 72)), none⟩,
 ⟨some 19, some (.assign (.tmp 73)), none⟩])
  (.seq (.seq (.reg [] [⟨some 74, some (.move (.tmp 19)), none⟩,
 ⟨some 75, some (.binOp .neq Zbd (.tmp 74) (.const (.int .i64 0)) Zbd), none⟩])
  (.cond (.tmp 75) (.seq (.reg [] [⟨some 76, some (.build Za #[]), none⟩,
 ⟨some 77, some (.move (.tmp 19)), none⟩,
 ⟨none, some (.store Za (.tmp 6) (.tmp 76)), none⟩,
 ⟨some 7, some (.assign (.tmp 77)), none⟩])
  .ret)
  .skip))
  (.reg [] [⟨some 78, some (.move (.tmp 10)), none⟩,
 ⟨some 79, some (.move (.tmp 12)), none⟩,
 ⟨some 80, some (.load Za (.tmp 18)), none⟩,
 ⟨none, some (.mapUpdate Zb2 (.tmp 78) (.tmp 79) (.tmp 80)), none⟩])))))))))))))
  (.reg [] [⟨some 109, some (.binOp .add Zd (.tmp 34) (.const (.int .i64 1)) Zd), none⟩,
 ⟨some 34, some (.move (.tmp 109)), none⟩]))))
@[simp] theorem Zkt : defs Zev = [35, 36, 37, 12, 39, 40, 41, 38, 42, 43, 13, 14, 44, 45, 82, 81, 83, 84, 85, 86, 88, 87, 90, 91, 92, 93, 89, 94, 95, 15, 16, 96, 97, 98, 99, 100, 101, 102, 103, 104, 105, 7, 106, 107, 108, 46, 47, 48, 49, 50, 51, 52, 53, 54, 55, 56, 57, 59, 60, 61, 58, 62, 17, 64, 65, 66, 67, 68, 69, 70, 71, 63, 72, 73, 18, 19, 74, 75, 76, 77, 7, 78, 79, 80, 109, 34] := by rfl
def Zg3 : LCode := (.seq (.reg [] [⟨some 6, some (.alloc Za), none⟩,
 ⟨some 7, some (.assign (.const (.int .i64 0))), none⟩])
  (.seq (.seq (.reg [] [⟨some 21, some (.move (.tmp 0)), none⟩,
 ⟨some 22, some (.move (.tmp 1)), none⟩,
 ⟨some 23, some (.call ⟨(.value (.func Zj)), #[.tmp 21, .tmp 22], #[Ze, Zd]⟩), none⟩,
 ⟨some 20, some (.move (.tmp 23)), none⟩,
 ⟨some 24, some (.extract (.tmp 20) 0), none⟩,
 ⟨some 25, some (.extract (.tmp 20) 1), none⟩,
 ⟨some 8, some (.alloc Zc), none⟩,
 ⟨none, some (.store Zc (.tmp 8) (.tmp 24)), none⟩,
 ⟨some 9, some (.assign (.tmp 25)), none⟩])
  (.seq (.reg [] [⟨some 26, some (.move (.tmp 9)), none⟩,
 ⟨some 27, some (.unOp .not Z8 (.tmp 26)), none⟩])
  (.cond (.tmp 27) (.seq (.reg [] [⟨some 28, some (.build Za #[]), none⟩,
 ⟨none, some (.store Za (.tmp 6) (.tmp 28)), none⟩,
 ⟨some 7, some (.assign (.const (.int .i64 40))), none⟩])
  .ret)
  .skip)))
  (.seq (.reg [] [⟨some 29, some (.makeMap Zb2 none), none⟩,
 ⟨some 10, some (.assign (.tmp 29)), none⟩])
  (.seq (.seq (.reg [] [⟨some 30, some (.move (.tmp 0)), none⟩,
 ⟨some 31, some (.move (.tmp 1)), none⟩,
 ⟨some 32, some (.call ⟨(.value (.func Z4)), #[.tmp 30, .tmp 31], #[Ze, Zd]⟩), none⟩,
 ⟨some 33, some (.call ⟨(.builtin .len), #[.tmp 32], #[Z0]⟩), none⟩,
 ⟨some 34, some (.move (.const (.int .i64 0))), none⟩])
  (.block 0 (.loop Zev)))
  (.seq (.reg [] [⟨some 110, some (.move (.tmp 10)), none⟩,
 ⟨some 111, some (.move (.tmp 1)), none⟩,
 ⟨some 112, some (.lookup Zb2 (.tmp 110) (.tmp 111) false), none⟩,
 ⟨none, some (.store Za (.tmp 6) (.tmp 112)), none⟩,
 ⟨some 7, some (.assign (.const (.int .i64 0))), none⟩])
  .ret)))))
theorem Zjt {a0 a1 a2 : AV} {H : AHeap} : R Zfk [a0, a1, a2] H = fnK Try.prog [] H [(.cell 6 Za), (.tmp 7)] (evalL Try.prog KT R Zg3 (Env.args [a0, a1, a2] 0) H) :=
  runs_body (D := DT) (f := Zfk) Try.func33 (by kernel_rfl) (by kernel_rfl) (by kernel_rfl) (by kernel_rfl) (by kernel_rfl) (Nat.le_of_ble_eq_true rfl)
def Zc3 : LCode := (.seq (.reg [] [⟨some 2, some (.assign (.const (.int .i64 0))), none⟩])
  (.seq (.block 0 (.seq (.reg [] [⟨some 4, some (.move (.tmp 0)), none⟩,
 ⟨some 5, some (.binOp .lss Zd (.tmp 4) (.const (.int .i64 1)) Zd), none⟩,
 ⟨some 6, some (.move (.tmp 5)), none⟩,
 ⟨some 7, some (.move (.tmp 0)), some (some 6, false)⟩,
 ⟨some 8, some (.binOp .gtr Zd (.tmp 7) (.const (.int .i64 44)) Zd), some (some 6, false)⟩,
 ⟨some 9, some (.pick (.tmp 6) (.const (.bool true)) (.tmp 8)), none⟩,
 ⟨some 3, some (.assign (.tmp 9)), none⟩])
  (.cond (.tmp 3) (.seq (.reg [] [⟨some 2, some (.assign (.const (.int .i64 (-1)))), none⟩])
  .ret)
  (.seq (.reg [] [⟨some 11, some (.move (.tmp 0)), none⟩,
 ⟨some 12, some (.binOp .leq Zd (.tmp 11) (.const (.int .i64 2)) Zd), none⟩,
 ⟨some 10, some (.assign (.tmp 12)), none⟩])
  (.cond (.tmp 10) (.seq (.reg [] [⟨some 2, some (.assign (.const (.int .i64 0))), none⟩])
  .ret)
  (.seq (.reg [] [⟨some 14, some (.move (.tmp 0)), none⟩,
 ⟨some 15, some (.binOp .eql Zd (.tmp 14) (.const (.int .i64 3)) Zd), none⟩,
 ⟨some 16, some (.move (.tmp 15)), none⟩,
 ⟨some 17, some (.move (.tmp 0)), some (some 16, false)⟩,
 ⟨some 18, some (.binOp .eql Zd (.tmp 17) (.const (.int .i64 10)) Zd), some (some 16, false)⟩,
 ⟨some 19, some (.pick (.tmp 16) (.const (.bool true)) (.tmp 18)), none⟩,
 ⟨some 20, some (.move (.tmp 19)), none⟩,
 ⟨some 21, some (.move (.tmp 0)), some (some 20, false)⟩,
 ⟨some 22, some (.binOp .eql Zd (.tmp 21) (.const (.int .i64 11)) Zd), some (some 20, false)⟩,
 ⟨some 23, some (.pick (.tmp 20) (.const (.bool true)) (.tmp 22)), none⟩,
 ⟨some 24, some (.move (.tmp 23)), none⟩,
 ⟨some 25, some (.move (.tmp 0)), some (some 24, false)⟩,
 ⟨some 26, some (.binOp .geq Zd (.tmp 25) (.const (.int .i64 39)) Zd), some (some 24, false)⟩,
 ⟨some 27, some (.pick (.tmp 24) (.const (.bool true)) (.tmp 26)), none⟩,
 ⟨some 13, some (.assign (.tmp 27)), none⟩])
  (.cond (.tmp 13) (.seq (.reg [] [⟨some 2, some (.assign (.const (.int .i64 1))), none⟩])
  .ret)
  (.seq (.reg [] [⟨some 29, some (.move (.tmp 0)), none⟩,
 ⟨some 30, some (.binOp .eql Zd (.tmp 29) (.const (.int .i64 9)) Zd), none⟩,
 ⟨some 28, some (.assign (.tmp 30)), none⟩])
  (.cond (.tmp 28) (.seq (.reg [] [⟨some 2, some (.assign (.const (.int .i64 3))), none⟩])
  .ret)
  .skip)))))))))
  (.seq (.reg [] [⟨some 2, some (.assign (.const (.int .i64 2))), none⟩])
  .ret)))
theorem Zju {a0 : AV} {H : AHeap} : R Zdr [a0] H = fnK Try.prog [] H [(.tmp 2)] (evalL Try.prog KT R Zc3 (Env.args [a0] 0) H) :=
  runs_body (D := DT) (f := Zdr) Try.func34 (by kernel_rfl) (by kernel_rfl) (by kernel_rfl) (by kernel_rfl) (by kernel_rfl) (Nat.le_of_ble_eq_true rfl)
def Zda : LCode := (.seq (.reg [] [⟨some 3, some (.box Zc (.tmp 1)), none⟩,
 ⟨some 4, some (.assign (.const (.int .i64 0))), none⟩])
  (.seq (.reg [] [⟨some 8, some (.move (.tmp 0)), none⟩,
 ⟨some 9, some (.nilCheck (.tmp 8)), none⟩,
 ⟨some 10, some (.fieldAddr Zs (.tmp 9) 0), none⟩,
 ⟨some 11, some (.load Ze (.tmp 10)), none⟩,
 ⟨some 12, some (.load Zc (.tmp 3)), none⟩,
 ⟨some 13, some (.call ⟨(.value (.func Zl)), #[.tmp 11, .tmp 12], #[Ze, Zc]⟩), none⟩,
 ⟨some 7, some (.move (.tmp 13)), none⟩,
 ⟨some 14, some (.extract (.tmp 7) 0), none⟩,
 ⟨some 15, some (.extract (.tmp 7) 1), none⟩,
 ⟨some 5, some (.assign (.tmp 14)), none⟩,
 ⟨some 6, some (.assign (.tmp 15)), none⟩])
  (.seq (.seq (.reg [] [⟨some 16, some (.move (.tmp 0)), none⟩,
 ⟨some 17, some (.nilCheck (.tmp 16)), none⟩,
 ⟨some 18, some (.fieldAddr Zs (.tmp 17) 2), none⟩,
 ⟨some 19, some (.load Zbd (.tmp 18)), none⟩,
 ⟨some 20, some (.binOp .eql Zbd (.tmp 19) (.const (.int .i64 0)) Zbd), none⟩])
  (.cond (.tmp 20) (.reg [] [⟨some 21, some (.move (.tmp 0)), none⟩,
 ⟨some 22, some (.move (.tmp 6)), none⟩,
 ⟨some 23, some (.nilCheck (.tmp 21)), none⟩,
 ⟨some 24, some (.fieldAddr Zs (.tmp 23) 2), none⟩,
 ⟨none, some (.store Zbd (.tmp 24) (.tmp 22)), none⟩])
  .skip))
  (.seq (.reg [] [⟨some 25, some (.move (.tmp 5)), none⟩,
 ⟨some 4, some (.assign (.tmp 25)), none⟩])
  .ret))))
theorem Zeg {a0 a1 : AV} {H : AHeap} : R Zg [a0, a1] H = fnK Try.prog [] H [(.tmp 4)] (evalL Try.prog KT R Zda (Env.args [a0, a1] 0) H) :=
  runs_body (D := DT) (f := Zg) Try.func35 (by kernel_rfl) (by kernel_rfl) (by kernel_rfl) (by kernel_rfl) (by kernel_rfl) (Nat.le_of_ble_eq_true rfl)
def Zr : LCode := (.seq (.reg [] [⟨some 3, some (.box Zc (.tmp 1)), none⟩,
 ⟨some 4, some (.assign (.const (.int .i64 0))), none⟩])
  (.seq (.seq (.reg [] [⟨some 8, some (.move (.tmp 0)), none⟩,
 ⟨some 9, some (.load Zc (.tmp 3)), none⟩,
 ⟨some 10, some (.call ⟨(.value (.func Zy)), #[.tmp 8, .tmp 9], #[Zi, Zc]⟩), none⟩,
 ⟨some 5, some (.assign (.tmp 10)), none⟩])
  (.seq (.reg [] [⟨some 11, some (.move (.tmp 5)), none⟩,
 ⟨some 12, some (.binOp .gtr Zd (.tmp 11) (.const (.int .i64 0)) Zd), none⟩,
 ⟨some 13, some (.move (.tmp 12)), none⟩,
 ⟨some 14, some (.move (.tmp 0)), some (some 13, false)⟩,
 ⟨some 15, some (.nilCheck (.tmp 14)), some (some 13, false)⟩,
 ⟨some 16, some (.fieldAddr Zs (.tmp 15) 2), some (some 13, false)⟩,
 ⟨some 17, some (.load Zbd (.tmp 16)), some (some 13, false)⟩,
 ⟨some 18, some (.binOp .neq Zbd (.tmp 17) (.const (.int .i64 0)) Zbd), some (some 13, false)⟩,
 ⟨some 19, some (.pick (.tmp 13) (.const (.bool true)) (.tmp 18)), none⟩])
  (.cond (.tmp 19) (.seq (.reg [] [⟨some 20, some (.move (.tmp 5)), none⟩,
 ⟨some 4, some (.assign (.tmp 20)), none⟩])
  .ret)
  .skip)))
  (.seq (.reg [10] [⟨some 22, some (.move (.tmp 0)), none⟩,
 ⟨some 23, some (.nilCheck (.tmp 22)), none⟩,
 ⟨some 24, some (.fieldAddr Zs (.tmp 23) 0), none⟩,
 ⟨some 25, some (.load Ze (.tmp 24)), none⟩,
 ⟨some 26, some (.fieldAddr Zc (.tmp 3) 2), none⟩,
 ⟨some 27, some (.load Zd (.tmp 26)), none⟩,
 ⟨some 28, some (.call ⟨(.value (.func Zj)), #[.tmp 25, .tmp 27], #[Ze, Zd]⟩), none⟩,
 ⟨some 21, some (.move (.tmp 28)), none⟩,
 ⟨some 29, some (.extract (.tmp 21) 0), none⟩,
 ⟨some 30, some (.extract (.tmp 21) 1), none⟩,
 ⟨some 6, some (.alloc Zc), none⟩,
 ⟨none, some (.store Zc (.tmp 6) (.tmp 29)), none⟩,
 ⟨some 7, some (.assign (.tmp 30)), none⟩])
  (.seq (.block 0 (.seq (.reg [] [⟨some 32, some (.fieldAddr Zc (.tmp 3) 0), none⟩,
 ⟨some 33, some (.load Zd (.tmp 32)), none⟩,
 ⟨some 34, some (.call ⟨(.value (.func Zeq)), #[.tmp 33], #[Zd]⟩), none⟩,
 ⟨some 35, some (.binOp .and Zd (.tmp 34) (.const (.int .i64 128)) Zd), none⟩,
 ⟨some 36, some (.binOp .neq Zd (.tmp 35) (.const (.int .i64 0)) Zd), none⟩,
 ⟨some 37, some (.move (.tmp 36)), none⟩,
 ⟨some 38, some (.fieldAddr Zc (.tmp 6) 0), some (some 37, true)⟩,
 ⟨some 39, some (.load Zd (.tmp 38)), some (some 37, true)⟩,
 ⟨some 40, some (.fieldAddr Zc (.tmp 3) 0), some (some 37, true)⟩,
 ⟨some 41, some (.load Zd (.tmp 40)), some (some 37, true)⟩,
 ⟨some 42, some (.binOp .eql Zd (.tmp 39) (.tmp 41) Zd), some (some 37, true)⟩,
 ⟨some 43, some (.pick (.tmp 37) (.tmp 42) (.const (.bool false))), none⟩,
 ⟨some 31, some (.assign (.tmp 43)), none⟩])
  (.cond (.tmp 31) (.seq (.reg [] [⟨some 44, some (.fieldAddr Zc (.tmp 6) 2), none⟩,
 ⟨some 45, some (.load Zd (.tmp 44)), none⟩,
 ⟨some 4, some (.assign (.tmp 45)), none⟩])
  .ret)
  (.seq (.reg [] [⟨some 47, some (.fieldAddr Zc (.tmp 3) 0), none⟩,
 ⟨some 48, some (.load Zd (.tmp 47)), none⟩,
 ⟨some 49, some (.binOp .eql Zd (.tmp 48) (.const (.int .i64 39)) Zd), none⟩,
 ⟨some 50, some (.move (.tmp 49)), none⟩,
 ⟨some 51, some (.fieldAddr Zc (.tmp 3) 6), some (some 50, true)⟩,
 ⟨some 52, some (.load Zd (.tmp 51)), some (some 50, true)⟩,
 ⟨some 53, some (.binOp .eql Zd (.tmp 52) (.const (.int .i64 0)) Zd), some (some 50, true)⟩,
 ⟨some 54, some (.pick (.tmp 50) (.tmp 53) (.const (.bool false))), none⟩,
 ⟨some 55, some (.move (.tmp 54)), none⟩,
 ⟨some 56, some (.fieldAddr Zc (.tmp 3) 5), some (some 55, true)⟩,
 ⟨some 57, some (.load Zd (.tmp 56)), some (some 55, true)⟩,
 ⟨some 58, some (.fieldAddr Zc (.tmp 6) 1), some (some 55, true)⟩,
 ⟨some 59, some (.load Zd (.tmp 58)), some (some 55, true)⟩,
 ⟨some 60, some (.binOp .sub Zd (.tmp 59) (.const (.int .i64 1)) Zd), some (some 55, true)⟩,
 ⟨some 61, some (.binOp .eql Zd (.tmp 57) (.tmp 60) Zd), some (some 55, true)⟩,
 ⟨some 62, some (.pick (.tmp 55) (.tmp 61) (.const (.bool false))), none⟩,
 ⟨some 46, some (.assign (.tmp 62)), none⟩])
  (.cond (.tmp 46) (.seq (.reg [] [⟨some 63, some (.fieldAddr Zc (.tmp 3) 2), none⟩,
 ⟨some 64, some (.load Zd (.tmp 63)), none⟩,
 ⟨some 4, some (.assign (.tmp 64)), none⟩])
  .ret)
  (.seq (.reg [] [⟨some 66, some (.fieldAddr Zc (.tmp 3) 0), none⟩,
 ⟨some 67, some (.load Zd (.tmp 66)), none⟩,
 ⟨some 68, some (.binOp .eql Zd (.tmp 67) (.const (.int .i64 40)) Zd), none⟩,
 ⟨some 69, some (.move (.tmp 68)), none⟩,
 ⟨some 70, some (.fieldAddr Zc (.tmp 3) 0), some (some 69, false)⟩,
 ⟨some 71, some (.load Zd (.tmp 70)), some (some 69, false)⟩,
 ⟨some 72, some (.binOp .eql Zd (.tmp 71) (.const (.int .i64 41)) Zd), some (some 69, false)⟩,
 ⟨some 73, some (.pick (.tmp 69) (.const (.bool true)) (.tmp 72)), none⟩,
 ⟨some 74, some (.move (.tmp 73)), none⟩,
 ⟨some 75, some (.fieldAddr Zc (.tmp 3) 5), some (some 74, true)⟩,
 ⟨some 76, some (.load Zd (.tmp 75)), some (some 74, true)⟩,
 ⟨some 77, some (.binOp .eql Zd (.tmp 76) (.const (.int .i64 0)) Zd), some (some 74, true)⟩,
 ⟨some 78, some (.pick (.tmp 74) (.tmp 77) (.const (.bool false))), none⟩,
 ⟨some 65, some (.assign (.tmp 78)), none⟩])
  (.cond (.tmp 65) (.seq (.reg [] [⟨some 79, some (.fieldAddr Zc (.tmp 3) 2), none⟩,
 ⟨some 80, some (.load Zd (.tmp 79)), none⟩,
 ⟨some 4, some (.assign (.tmp 80)), none⟩])
  .ret)
  (.seq (.reg [] [⟨some 82, some (.fieldAddr Zc (.tmp 3) 0), none⟩,
 ⟨some 83, some (.load Zd (.tmp 82)), none⟩,
 ⟨some 84, some (.binOp .eql Zd (.tmp 83) (.const (.int .i64 42)) Zd), none⟩,
 ⟨some 85, some (.move (.tmp 84)), none⟩,
 ⟨some 86, some (.fieldAddr Zc (.tmp 3) 0), some (some 85, false)⟩,
 ⟨some 87, some (.load Zd (.tmp 86)), some (some 85, false)⟩,
 ⟨some 88, some (.binOp .eql Zd (.tmp 87) (.const (.int .i64 43)) Zd), some (some 85, false)⟩,
 ⟨some 89, some (.pick (.tmp 85) (.const (.bool true)) (.tmp 88)), none⟩,
 ⟨some 90, some (.move (.tmp 89)), none⟩,
 ⟨some 91, some (.fieldAddr Zc (.tmp 3) 5), some (some 90, true)⟩,
 ⟨some 92, some (.load Zd (.tmp 91)), some (some 90, true)⟩,
 ⟨some 93, some (.fieldAddr Zc (.tmp 6) 1), some (some 90, true)⟩,
 ⟨some 94, some (.load Zd (.tmp 93)), some (some 90, true)⟩,
 ⟨some 95, some (.binOp .rem Zd (.tmp 92) (.tmp 94) Zd), some (some 90, true)⟩,
 ⟨some 96, some (.binOp .eql Zd (.tmp 95) (.const (.int .i64 0)) Zd), some (some 90, true)⟩,
 ⟨some 97, some (.pick (.tmp 90) (.tmp 96) (.const (.bool false))), none⟩,
 ⟨some 81, some (.assign (.tmp 97)), none⟩])
  (.cond (.tmp 81) (.seq (.reg [] [⟨some 98, some (.fieldAddr Zc (.tmp 3) 2), none⟩,
 ⟨some 99, some (.load Zd (.tmp 98)), none⟩,
 ⟨some 4, some (.assign (.tmp 99)), none⟩])
  .ret)
  (.seq (.reg [] [⟨some 101, some (.fieldAddr Zc (.tmp 3) 0), none⟩,
 ⟨some 102, some (.load Zd (.tmp 101)), none⟩,
 ⟨some 103, some (.binOp .eql Zd (.tmp 102) (.const (.int .i64 44)) Zd), none⟩,
 ⟨some 104, some (.move (.tmp 103)), none⟩,
 ⟨some 105, some (.fieldAddr Zc (.tmp 3) 5), some (some 104, true)⟩,
 ⟨some 106, some (.load Zd (.tmp 105)), some (some 104, true)⟩,
 ⟨some 107, some (.binOp .eql Zd (.tmp 106) (.const (.int .i64 1)) Zd), some (some 104, true)⟩,
 ⟨some 108, some (.pick (.tmp 104) (.tmp 107) (.const (.bool false))), none⟩,
 ⟨some 100, some (.assign (.tmp 108)), none⟩])
  (.cond (.tmp 100) (.seq (.reg [] [⟨some 109, some (.fieldAddr Zc (.tmp 3) 2), none⟩,
 ⟨some 110, some (.load Zd (.tmp 109)), none⟩,
 ⟨some 4, some (.assign (.tmp 110)), none⟩])
  .ret)
  (.seq (.reg [] [⟨some 112, some (.fieldAddr Zc (.tmp 3) 0), none⟩,
 ⟨some 113, some (.load Zd (.tmp 112)), none⟩,
 ⟨some 114, some (.binOp .eql Zd (.tmp 113) (.const (.int .i64 39)) Zd), none⟩,
 ⟨some 111, some (.assign (.tmp 114)), none⟩])
  (.cond (.tmp 111) (.seq (.reg [] [⟨some 115, some (.move (.tmp 0)), none⟩,
 ⟨some 116, some (.load Zc (.tmp 3)), none⟩,
 ⟨some 117, some (.load Zc (.tmp 6)), none⟩,
 ⟨some 118, some (.call ⟨(.value (.func Zbb)), #[.tmp 115, .tmp 116, .tmp 117], #[Zi, Zc, Zc]⟩), none⟩,
 ⟨some 4, some (.assign (.tmp 118)), none⟩])
  .ret)
  .skip)))))))))))))
  (.seq (.reg [] [⟨some 119, some (.move (.tmp 0)), none⟩,
 ⟨some 120, some (.load Zc (.tmp 3)), none⟩,
 ⟨some 121, some (.call ⟨(.value (.func Zg)), #[.tmp 119, .tmp 120], #[Zi, Zc]⟩), none⟩,
 ⟨some 4, some (.assign (.tmp 121)), none⟩])
  .ret)))))
theorem Zf9 {a0 a1 : AV} {H : AHeap} : R Zbi [a0, a1] H = fnK Try.prog [] H [(.tmp 4)] (evalL Try.prog KT R Zr (Env.args [a0, a1] 0) H) :=
  runs_body (D := DT) (f := Zbi) Try.func36 (by kernel_rfl) (by kernel_rfl) (by kernel_rfl) (by kernel_rfl) (by kernel_rfl) (Nat.le_of_ble_eq_true rfl)
def Zbs : LCode := (.seq (.reg [] [⟨some 3, some (.box Zc (.tmp 1)), none⟩,
 ⟨some 4, some (.assign (.const (.int .i64 0))), none⟩])
  (.seq (.reg [] [⟨some 8, some (.move (.tmp 0)), none⟩,
 ⟨some 9, some (.fieldAddr Zc (.tmp 3) 2), none⟩,
 ⟨some 10, some (.load Zd (.tmp 9)), none⟩,
 ⟨some 11, some (.call ⟨(.value (.func Z2)), #[.tmp 8, .tmp 10], #[Zi, Zd]⟩), none⟩,
 ⟨some 7, some (.move (.tmp 11)), none⟩,
 ⟨some 12, some (.extract (.tmp 7) 0), none⟩,
 ⟨some 13, some (.extract (.tmp 7) 1), none⟩,
 ⟨some 5, some (.alloc Za), none⟩,
 ⟨none, some (.store Za (.tmp 5) (.tmp 12)), none⟩,
 ⟨some 6, some (.assign (.tmp 13)), none⟩])
  (.seq (.block 0 (.seq (.reg [] [⟨some 15, some (.fieldAddr Zc (.tmp 3) 3), none⟩,
 ⟨some 16, some (.load Zd (.tmp 15)), none⟩,
 ⟨some 17, some (.fieldAddr Zc (.tmp 3) 4), none⟩,
 ⟨some 18, some (.load Zd (.tmp 17)), none⟩,
 ⟨some 19, some (.binOp .eql Zd (.tmp 16) (.tmp 18) Zd), none⟩,
 ⟨some 14, some (.assign (.tmp 19)), none⟩])
  (.cond (.tmp 14) (.seq (.reg [] [⟨some 20, some (.fieldAddr Zc (.tmp 3) 3), none⟩,
 ⟨some 21, some (.load Zd (.tmp 20)), none⟩,
 ⟨some 4, some (.assign (.tmp 21)), none⟩])
  .ret)
  (.seq (.reg [] [⟨some 23, some (.move (.tmp 6)), none⟩,
 ⟨some 24, some (.move (.tmp 23)), none⟩,
 ⟨some 25, some (.fieldAddr Za (.tmp 5) 1), some (some 24, true)⟩,
 ⟨some 26, some (.load Zf (.tmp 25)), some (some 24, true)⟩,
 ⟨some 27, some (.binOp .eql Zf (.tmp 26) (.const (.int .u64 1)) Zf), some (some 24, true)⟩,
 ⟨some 28, some (.pick (.tmp 24) (.tmp 27) (.const (.bool false))), none⟩,
 ⟨some 22, some (.assign (.tmp 28)), none⟩])
  (.cond (.tmp 22) (.seq (.reg [] [⟨some 29, some (.fieldAddr Zc (.tmp 3) 3), none⟩,
 ⟨some 30, some (.load Zd (.tmp 29)), none⟩,
 ⟨some 4, some (.assign (.tmp 30)), none⟩])
  .ret)
  (.seq (.reg [] [⟨some 32, some (.move (.tmp 6)), none⟩,
 ⟨some 31, some (.assign (.tmp 32)), none⟩])
  (.cond (.tmp 31) (.seq (.reg [] [⟨some 33, some (.fieldAddr Zc (.tmp 3) 4), none⟩,
 ⟨some 34, some (.load Zd (.tmp 33)), none⟩,
 ⟨some 4, some (.assign (.tmp 34)), none⟩])
  .ret)
  .skip)))))))
  (.seq (.reg [] [⟨some 35, some (.move (.tmp 0)), none⟩,
 ⟨some 36, some (.load Zc (.tmp 3)), none⟩,
 ⟨some 37, some (.call ⟨(.value (.func Zg)), #[.tmp 35, .tmp 36], #[Zi, Zc]⟩), none⟩,
 ⟨some 4, some (.assign (.tmp 37)), none⟩])
  .ret))))
theorem Zfv {a0 a1 : AV} {H : AHeap} : R Zbk [a0, a1] H = fnK Try.prog [] H [(.tmp 4)] (evalL Try.prog KT R Zbs (Env.args [a0, a1] 0) H) :=
  runs_body (D := DT) (f := Zbk) Try.func37 (by kernel_rfl) (by kernel_rfl) (by kernel_rfl) (by kernel_rfl) (by kernel_rfl) (Nat.le_of_ble_eq_true rfl)
def Zbj : LCode := (.seq (.reg [] [⟨some 3, some (.box Zc (.tmp 1)), none⟩,
 ⟨some 4, some (.assign (.const (.int .i64 0))), none⟩])
  (.seq (.seq (.reg [] [⟨some 8, some (.move (.tmp 0)), none⟩,
 ⟨some 9, some (.load Zc (.tmp 3)), none⟩,
 ⟨some 10, some (.call ⟨(.value (.func Zy)), #[.tmp 8, .tmp 9], #[Zi, Zc]⟩), none⟩,
 ⟨some 5, some (.assign (.tmp 10)), none⟩])
  (.seq (.reg [] [⟨some 11, some (.move (.tmp 5)), none⟩,
 ⟨some 12, some (.binOp .gtr Zd (.tmp 11) (.const (.int .i64 0)) Zd), none⟩,
 ⟨some 13, some (.move (.tmp 12)), none⟩,
 ⟨some 14, some (.move (.tmp 0)), some (some 13, false)⟩,
 ⟨some 15, some (.nilCheck (.tmp 14)), some (some 13, false)⟩,
 ⟨some 16, some (.fieldAddr Zs (.tmp 15) 2), some (some 13, false)⟩,
 ⟨some 17, some (.load Zbd (.tmp 16)), some (some 13, false)⟩,
 ⟨some 18, some (.binOp .neq Zbd (.tmp 17) (.const (.int .i64 0)) Zbd), some (some 13, false)⟩,
 ⟨some 19, some (.pick (.tmp 13) (.const (.bool true)) (.tmp 18)), none⟩])
  (.cond (.tmp 19) (.seq (.reg [] [⟨some 20, some (.move (.tmp 5)), none⟩,
 ⟨some 4, some (.assign (.tmp 20)), none⟩])
  .ret)
  .skip)))
  (.seq (.reg [] [⟨some 21, some (.fieldAddr Zc (.tmp 3) 0), none⟩,
 ⟨some 22, some (.load Zd (.tmp 21)), none⟩,
 ⟨some 23, some (.call ⟨(.value (.func Zeq)), #[.tmp 22], #[Zd]⟩), none⟩,
 ⟨some 6, some (.assign (.tmp 23)), none⟩])
  (.seq (.seq (.reg [] [⟨some 24, some (.fieldAddr Zc (.tmp 3) 2), none⟩,
 ⟨some 25, some (.load Zd (.tmp 24)), none⟩,
 ⟨some 26, some (.fieldAddr Zc (.tmp 3) 3), none⟩,
 ⟨some 27, some (.load Zd (.tmp 26)), none⟩,
 ⟨some 28, some (.binOp .eql Zd (.tmp 25) (.tmp 27) Zd), none⟩])
  (.cond (.tmp 28) (.block 0 (.seq (.reg [] [⟨some 30, some (.move (.tmp 6)), none⟩,
 ⟨some 31, some (.binOp .and Zd (.tmp 30) (.const (.int .i64 1)) Zd), none⟩,
 ⟨some 32, some (.binOp .neq Zd (.tmp 31) (.const (.int .i64 0)) Zd), none⟩,
 ⟨some 29, some (.assign (.tmp 32)), none⟩])
  (.cond (.tmp 29) (.seq (.reg [] [⟨some 33, some (.fieldAddr Zc (.tmp 3) 2), none⟩,
 ⟨some 34, some (.load Zd (.tmp 33)), none⟩,
 ⟨some 4, some (.assign (.tmp 34)), none⟩])
  .ret)
  (.seq (.reg [] [⟨some 36, some (.move (.tmp 6)), none⟩,
 ⟨some 37, some (.binOp .and Zd (.tmp 36) (.const (.int .i64 2)) Zd), none⟩,
 ⟨some 38, some (.binOp .neq Zd (.tmp 37) (.const (.int .i64 0)) Zd), none⟩,
 ⟨some 35, some (.assign (.tmp 38)), none⟩])
  (.cond (.tmp 35) (.seq (.reg [] [⟨some 39, some (.move (.tmp 0)), none⟩,
 ⟨some 40, some (.move (.tmp 0)), none⟩,
 ⟨some 41, some (.load Zc (.tmp 3)), none⟩,
 ⟨some 42, some (.call ⟨(.value (.func Zby)), #[.tmp 40, .tmp 41], #[Zi, Zc]⟩), none⟩,
 ⟨some 43, some (.call ⟨(.value (.func Zh)), #[.tmp 39, .tmp 42], #[Zi, Za]⟩), none⟩,
 ⟨some 4, some (.assign (.tmp 43)), none⟩])
  .ret)
  (.seq (.reg [] [⟨some 45, some (.move (.tmp 6)), none⟩,
 ⟨some 46, some (.binOp .and Zd (.tmp 45) (.const (.int .i64 4)) Zd), none⟩,
 ⟨some 47, some (.binOp .neq Zd (.tmp 46) (.const (.int .i64 0)) Zd), none⟩,
 ⟨some 44, some (.assign (.tmp 47)), none⟩])
  (.cond (.tmp 44) (.seq (.reg [] [⟨some 48, some (.move (.tmp 0)), none⟩,
 ⟨some 49, some (.call ⟨(.value (.func Zeb)), #[(.const (.bool true))], #[Z8]⟩), none⟩,
 ⟨some 50, some (.call ⟨(.value (.func Zh)), #[.tmp 48, .tmp 49], #[Zi, Za]⟩), none⟩,
 ⟨some 4, some (.assign (.tmp 50)), none⟩])
  .ret)
  .skip)))))))
  .skip))
  (.seq (.seq (.reg [] [⟨some 51, some (.move (.tmp 0)), none⟩,
 ⟨some 52, some (.load Zc (.tmp 3)), none⟩,
 ⟨some 53, some (.call ⟨(.value (.func Zbm)), #[.tmp 51, .tmp 52], #[Zi, Zc]⟩), none⟩,
 ⟨some 7, some (.assign (.tmp 53)), none⟩])
  (.seq (.reg [] [⟨some 54, some (.move (.tmp 7)), none⟩,
 ⟨some 55, some (.binOp .gtr Zd (.tmp 54) (.const (.int .i64 0)) Zd), none⟩])
  (.cond (.tmp 55) (.seq (.reg [] [⟨some 56, some (.move (.tmp 7)), none⟩,
 ⟨some 4, some (.assign (.tmp 56)), none⟩])
  .ret)
  .skip)))
  (.seq (.reg [] [⟨some 57, some (.move (.tmp 0)), none⟩,
 ⟨some 58, some (.load Zc (.tmp 3)), none⟩,
 ⟨some 59, some (.move (.tmp 6)), none⟩,
 ⟨some 60, some (.call ⟨(.value (.func Zz)), #[.tmp 57, .tmp 58, .tmp 59], #[Zi, Zc, Zd]⟩), none⟩,
 ⟨some 4, some (.assign (.tmp 60)), none⟩])
  .ret))))))
theorem Zga {a0 a1 : AV} {H : AHeap} : R Zbr [a0, a1] H = fnK Try.prog [] H [(.tmp 4)] (evalL Try.prog KT R Zbj (Env.args [a0, a1] 0) H) :=
  runs_body (D := DT) (f := Zbr) Try.func38 (by kernel_rfl) (by kernel_rfl) (by kernel_rfl) (by kernel_rfl) (by kernel_rfl) (Nat.le_of_ble_eq_true rfl)
def Zf3 : LCode := (.seq (.reg [] [⟨some 1, some (.box Za (.tmp 0)), none⟩,
 ⟨some 2, some (.assign (.const (.bool false))), none⟩])
  (.seq (.seq (.reg [] [⟨some 3, some (.fieldAddr Za (.tmp 1) 0), none⟩,
 ⟨some 4, some (.load Zd (.tmp 3)), none⟩,
 ⟨some 5, some (.binOp .eql Zd (.tmp 4) (.const (.int .i64 0)) Zd), none⟩])
  (.cond (.tmp 5) (.seq (.reg [] [⟨some 6, some (.fieldAddr Za (.tmp 1) 1), none⟩,
 ⟨some 7, some (.load Zf (.tmp 6)), none⟩,
 ⟨some 8, some (.binOp .leq Zf (.tmp 7) (.const (.int .u64 1)) Zf), none⟩,
 ⟨some 9, some (.move (.tmp 8)), none⟩,
 ⟨some 10, some (.fieldAddr Za (.tmp 1) 2), some (some 9, true)⟩,
 ⟨some 11, some (.load Zf (.tmp 10)), some (some 9, true)⟩,
 ⟨some 12, some (.binOp .eql Zf (.tmp 11) (.const (.int .u64 0)) Zf), some (some 9, true)⟩,
 ⟨some 13, some (.pick (.tmp 9) (.tmp 12) (.const (.bool false))), none⟩,
 ⟨some 2, some (.assign (.tmp 13)), none⟩])
  .ret)
  .skip))
  (.seq (.reg [12, 13] [⟨some 14, some (.fieldAddr Za (.tmp 1) 0), none⟩,
 ⟨some 15, some (.load Zd (.tmp 14)), none⟩,
 ⟨some 16, some (.binOp .gtr Zd (.tmp 15) (.const (.int .i64 0)) Zd), none⟩,
 ⟨some 17, some (.move (.tmp 16)), none⟩,
 ⟨some 18, some (.fieldAddr Za (.tmp 1) 0), some (some 17, true)⟩,
 ⟨some 19, some (.load Zd (.tmp 18)), some (some 17, true)⟩,
 ⟨some 20, some (.binOp .leq Zd (.tmp 19) (.const (.int .i64 128)) Zd), some (some 17, true)⟩,
 ⟨some 21, some (.pick (.tmp 17) (.tmp 20) (.const (.bool false))), none⟩,
 ⟨some 22, some (.move (.tmp 21)), none⟩,
 ⟨some 23, some (.fieldAddr Za (.tmp 1) 0), some (some 22, true)⟩,
 ⟨some 24, some (.load Zd (.tmp 23)), some (some 22, true)⟩,
 ⟨some 25, some (.load Za (.tmp 1)), some (some 22, true)⟩,
 ⟨some 26, some (.call ⟨(.value (.func Zcp)), #[.tmp 25], #[Za]⟩), some (some 22, true)⟩,
 ⟨some 27, some (.call ⟨(.value (.func Zcw)), #[.tmp 24, .tmp 26], #[Zd, Zb]⟩), some (some 22, true)⟩,
 ⟨some 28, some (.load Za (.tmp 1)), some (some 22, true)⟩,
 ⟨some 29, some (.binOp .eql Za (.tmp 27) (.tmp 28) Za), some (some 22, true)⟩,
 ⟨some 30, some (.pick (.tmp 22) (.tmp 29) (.const (.bool false))), none⟩,
 ⟨some 2, some (.assign (.tmp 30)), none⟩])
  .ret)))
theorem Zjh {a0 : AV} {H : AHeap} : R Zd1 [a0] H = fnK Try.prog [] H [(.tmp 2)] (evalL Try.prog KT R Zf3 (Env.args [a0] 0) H) :=
  runs_body (D := DT) (f := Zd1) Try.func39 (by kernel_rfl) (by kernel_rfl) (by kernel_rfl) (by kernel_rfl) (by kernel_rfl) (Nat.le_of_ble_eq_true rfl)
def Ziv : LCode := (.seq (.reg [] [⟨some 2, some (.assign (.const (.bool false))), none⟩])
  (.seq (.reg [] [⟨some 3, some (.move (.tmp 0)), none⟩,
 ⟨some 4, some (.binOp .geq Zd (.tmp 3) (.const (.int .i64 0)) Zd), none⟩,
 ⟨some 5, some (.move (.tmp 4)), none⟩,
 ⟨some 6, some (.move (.tmp 0)), some (some 5, true)⟩,
 ⟨some 7, some (.binOp .leq Zd (.tmp 6) (.const (.int .i64 128)) Zd), some (some 5, true)⟩,
 ⟨some 8, some (.pick (.tmp 5) (.tmp 7) (.const (.bool false))), none⟩,
 ⟨some 2, some (.assign (.tmp 8)), none⟩])
  .ret))
theorem Zkd {a0 : AV} {H : AHeap} : R Zf5 [a0] H = fnK Try.prog [] H [(.tmp 2)] (evalL Try.prog KT R Ziv (Env.args [a0] 0) H) :=
  runs_body (D := DT) (f := Zf5) Try.func40 (by kernel_rfl) (by kernel_rfl) (by kernel_rfl) (by kernel_rfl) (by kernel_rfl) (Nat.le_of_ble_eq_true rfl)
def Zfg : LCode := (.seq (.reg [] [⟨some 8, some (.assign (.const (.int .i64 0))), none⟩,
 ⟨some 9, some (.assign (.const (.int .i64 0))), none⟩])
  (.seq (.reg [] [⟨some 13, some (.move (.tmp 0)), none⟩,
 ⟨some 14, some (.call ⟨(.value (.func Zdr)), #[.tmp 13], #[Zd]⟩), none⟩,
 ⟨some 10, some (.assign (.tmp 14)), none⟩])
  (.seq (.seq (.reg [] [⟨some 15, some (.move (.tmp 10)), none⟩,
 ⟨some 16, some (.binOp .lss Zd (.tmp 15) (.const (.int .i64 1)) Zd), none⟩])
  (.cond (.tmp 16) (.seq (.reg [] [⟨some 8, some (.assign (.const (.int .i64 0))), none⟩,
 ⟨some 9, some (.assign (.const (.int .i64 32))), none⟩])
  .ret)
  .skip))
  (.seq (.seq (.reg [] [⟨some 17, some (.move (.tmp 3)), none⟩,
 ⟨some 18, some (.call ⟨(.builtin .len), #[.tmp 17], #[Z0]⟩), none⟩,
 ⟨some 19, some (.move (.tmp 10)), none⟩,
 ⟨some 20, some (.binOp .neq Zd (.tmp 18) (.tmp 19) Zd), none⟩,
 ⟨some 21, some (.move (.tmp 20)), none⟩,
 ⟨some 22, some (.move (.tmp 3)), some (some 21, false)⟩,
 ⟨some 23, some (.call ⟨(.value (.func Zcb)), #[(.tmp 22), (.func Zdt)], #[Z0, Zk8]⟩), some (some 21, false)⟩,
 ⟨some 24, some (.pick (.tmp 21) (.const (.bool true)) (.tmp 23)), none⟩])
  (.cond (.tmp 24) (.seq (.reg [] [⟨some 8, some (.assign (.const (.int .i64 0))), none⟩,
 ⟨some 9, some (.assign (.const (.int .i64 30))), none⟩])
  .ret)
  .skip))
  (.seq (.reg [] [⟨some 26, some (.move (.tmp 0)), none⟩,
 ⟨some 27, some (.move (.tmp 1)), none⟩,
 ⟨some 28, some (.move (.tmp 2)), none⟩,
 ⟨some 29, some (.move (.tmp 3)), none⟩,
 ⟨some 30, some (.call ⟨(.value (.func Zgo)), #[.tmp 26, .tmp 27, .tmp 28, .tmp 29], #[Zd, Zd, Zd, Z0]⟩), none⟩,
 ⟨some 25, some (.move (.tmp 30)), none⟩,
 ⟨some 31, some (.extract (.tmp 25) 0), none⟩,
 ⟨some 32, some (.extract (.tmp 25) 1), none⟩,
 ⟨some 11, some (.assign (.tmp 31)), none⟩,
 ⟨some 12, some (.assign (.tmp 32)), none⟩])
  (.seq (.block 0 (.seq (.reg [] [⟨some 34, some (.move (.tmp 12)), none⟩,
 ⟨some 35, some (.unOp .not Z8 (.tmp 34)), none⟩,
 ⟨some 33, some (.assign (.tmp 35)), none⟩])
  (.cond (.tmp 33) (.seq (.reg [] [⟨some 8, some (.assign (.const (.int .i64 0))), none⟩,
 ⟨some 9, some (.assign (.const (.int .i64 30))), none⟩])
  .ret)
  (.seq (.reg [] [⟨some 37, some (.move (.tmp 11)), none⟩,
 ⟨some 38, some (.binOp .gtr Zd (.tmp 37) (.const (.int .i64 128)) Zd), none⟩,
 ⟨some 36, some (.assign (.tmp 38)), none⟩])
  (.cond (.tmp 36) (.seq (.reg [] [⟨some 8, some (.assign (.const (.int .i64 0))), none⟩,
 ⟨some 9, some (.assign (.const (.int .i64 31))), none⟩])
  .ret)
  .skip)))))
  (.seq (.reg [] [⟨some 39, some (.move (.tmp 11)), none⟩,
 ⟨some 8, some (.assign (.tmp 39)), none⟩,
 ⟨some 9, some (.assign (.const (.int .i64 0))), none⟩])
  .ret)))))))
theorem Zke {a0 a1 a2 a3 : AV} {H : AHeap} : R Zfe [a0, a1, a2, a3] H = fnK Try.prog [] H [(.tmp 8), (.tmp 9)] (evalL Try.prog KT R Zfg (Env.args [a0, a1, a2, a3] 0) H) :=
  runs_body (D := DT) (f := Zfe) Try.func41 (by kernel_rfl) (by kernel_rfl) (by kernel_rfl) (by kernel_rfl) (by kernel_rfl) (Nat.le_of_ble_eq_true rfl)
def Zew : LCode := (.seq (.reg [] [⟨some 23, some (.binOp .lss Zd (.tmp 22) (.tmp 21) Zd), none⟩])
  (.seq (.cond (.tmp 23) .skip
  (.exit 0))
  (.seq (.block 1 (.seq (.reg [] [⟨some 24, some (.move (.tmp 22)), none⟩,
 ⟨some 25, some (.indexAddr Zp (.tmp 20) (.tmp 22)), none⟩,
 ⟨some 26, some (.load Za (.tmp 25)), none⟩,
 ⟨some 12, some (.alloc Za), none⟩,
 ⟨some 11, some (.assign (.tmp 24)), none⟩,
 ⟨none, some (.store Za (.tmp 12) (.tmp 26)), none⟩])
  (.seq (.reg [] [⟨some 27, some (.move (.tmp 10)), none⟩,
 ⟨some 28, some (.move (.tmp 11)), none⟩,
 ⟨some 29, some (.fieldAddr Za (.tmp 12) 0), none⟩,
 ⟨some 30, some (.load Zd (.tmp 29)), none⟩,
 ⟨some 31, some (.indexAddr Z0 (.tmp 27) (.tmp 28)), none⟩,
 ⟨none, some (.store Zd (.tmp 31) (.tmp 30)), none⟩])
  (.seq (.reg [] [⟨some 32, some (.load Za (.tmp 12)), none⟩,
 ⟨some 33, some (.call ⟨(.value (.func Zd1)), #[.tmp 32], #[Za]⟩), none⟩,
 ⟨some 34, some (.unOp .not Z8 (.tmp 33)), none⟩])
  (.cond (.tmp 34) (.reg [] [⟨some 35, some (.move (.tmp 10)), none⟩,
 ⟨some 36, some (.move (.tmp 11)), none⟩,
 ⟨some 37, some (.indexAddr Z0 (.tmp 35) (.tmp 36)), none⟩,
 ⟨none, some (.store Zd (.tmp 37) (.const (.int .i64 (-1)))), none⟩])
  .skip)))))
  (.reg [] [⟨some 38, some (.binOp .add Zd (.tmp 22) (.const (.int .i64 1)) Zd), none⟩,
 ⟨some 22, some (.move (.tmp 38)), none⟩]))))
@[simp] theorem Zku : defs Zew = [23, 24, 25, 26, 12, 11, 27, 28, 29, 30, 31, 32, 33, 34, 35, 36, 37, 38, 22] := by rfl
def Zh4 : LCode := (.seq (.reg [] [⟨some 8, some (.alloc Za), none⟩,
 ⟨some 9, some (.assign (.const (.int .i64 0))), none⟩])
  (.seq (.reg [] [⟨some 17, some (.move (.tmp 3)), none⟩,
 ⟨some 18, some (.call ⟨(.builtin .len), #[.tmp 17], #[Zp]⟩), none⟩,
 ⟨some 19, some (.makeSlice Z0 (.tmp 18) (.tmp 18)), none⟩,
 ⟨some 10, some (.assign (.tmp 19)), none⟩])
  (.seq (.seq (.reg [] [⟨some 20, some (.move (.tmp 3)), none⟩,
 ⟨some 21, some (.call ⟨(.builtin .len), #[.tmp 20], #[Zp]⟩), none⟩,
 ⟨some 22, some (.move (.const (.int .i64 0))), none⟩])
  (.block 0 (.loop Zew)))
  (.seq (.seq (.reg [] [⟨some 40, some (.move (.tmp 0)), none⟩,
 ⟨some 41, some (.move (.tmp 1)), none⟩,
 ⟨some 42, some (.move (.tmp 2)), none⟩,
 ⟨some 43, some (.move (.tmp 10)), none⟩,
 ⟨some 44, some (.call ⟨(.value (.func Zfe)), #[.tmp 40, .tmp 41, .tmp 42, .tmp 43], #[Zd, Zd, Zd, Z0]⟩), none⟩,
 ⟨some 39, some (.move (.tmp 44)), none⟩,
 ⟨some 45, some (.extract (.tmp 39) 0), none⟩,
 ⟨some 46, some (.extract (.tmp 39) 1), none⟩,
 ⟨some 13, some (.assign (.tmp 45)), none⟩,
 ⟨some 14, some (.assign (.tmp 46)), none⟩])
  (.seq (.reg [] [⟨some 47, some (.move (.tmp 14)), none⟩,
 ⟨some 48, some (.binOp .neq Zbd (.tmp 47) (.const (.int .i64 0)) Zbd), none⟩])
  (.cond (.tmp 48) (.seq (.reg [] [⟨some 49, some (.build Za #[]), none⟩,
 ⟨some 50, some (.move (.tmp 14)), none⟩,
 ⟨none, some (.store Za (.tmp 8) (.tmp 49)), none⟩,
 ⟨some 9, some (.assign (.tmp 50)), none⟩])
  .ret)
  .skip)))
  (.seq (.reg [] [⟨some 52, some (.move (.tmp 0)), none⟩,
 ⟨some 53, some (.call ⟨(.value (.func Ze0)), #[.tmp 52], #[Zd]⟩), none⟩,
 ⟨some 51, some (.move (.tmp 53)), none⟩,
 ⟨some 54, some (.extract (.tmp 51) 0), none⟩,
 ⟨some 55, some (.extract (.tmp 51) 1), none⟩,
 ⟨some 15, some (.alloc Zv), none⟩,
 ⟨none, some (.store Zv (.tmp 15) (.tmp 54)), none⟩,
 ⟨some 16, some (.assign (.tmp 55)), none⟩])
  (.seq (.seq (.reg [] [⟨some 56, some (.move (.tmp 16)), none⟩,
 ⟨some 57, some (.unOp .not Z8 (.tmp 56)), none⟩])
  (.cond (.tmp 57) (.reg [] [⟨some 58, some (.move (.tmp 0)), none⟩,
 ⟨some 59, some (.call ⟨(.value (.func Zgc)), #[.tmp 58], #[Zd]⟩), none⟩,
 ⟨none, some (.store Zv (.tmp 15) (.tmp 59)), none⟩])
  .skip))
  (.seq (.reg [] [⟨some 60, some (.fieldAddr Zv (.tmp 15) 0), none⟩,
 ⟨some 61, some (.load Zk6 (.tmp 60)), none⟩,
 ⟨some 62, some (.move (.tmp 1)), none⟩,
 ⟨some 63, some (.move (.tmp 2)), none⟩,
 ⟨some 64, some (.move (.tmp 3)), none⟩,
 ⟨some 65, some (.call ⟨(.value (.tmp 61)), #[.tmp 62, .tmp 63, .tmp 64], #[Zd, Zd, Zp]⟩), none⟩,
 ⟨some 66, some (.extract (.tmp 65) 0), none⟩,
 ⟨some 67, some (.extract (.tmp 65) 1), none⟩,
 ⟨none, some (.store Za (.tmp 8) (.tmp 66)), none⟩,
 ⟨some 9, some (.assign (.tmp 67)), none⟩])
  .ret)))))))
theorem Zjv {a0 a1 a2 a3 : AV} {H : AHeap} : R Zez [a0, a1, a2, a3] H = fnK Try.prog [] H [(.cell 8 Za), (.tmp 9)] (evalL Try.prog KT R Zh4 (Env.args [a0, a1, a2, a3] 0) H) :=
  runs_body (D := DT) (f := Zez) Try.func42 (by kernel_rfl) (by kernel_rfl) (by kernel_rfl) (by kernel_rfl) (by kernel_rfl) (Nat.le_of_ble_eq_true rfl)
def Zbq : LCode := (.seq (.reg [] [⟨some 25, some (.binOp .lss Zd (.tmp 24) (.tmp 23) Zd), none⟩])
  (.seq (.cond (.tmp 25) .skip
  (.exit 0))
  (.seq (.block 1 (.seq (.reg [] [⟨some 26, some (.indexAddr Z0 (.tmp 22) (.tmp 24)), none⟩,
 ⟨some 27, some (.load Zd (.tmp 26)), none⟩,
 ⟨some 7, some (.assign (.tmp 27)), none⟩])
  (.seq (.reg [] [⟨some 29, some (.move (.tmp 0)), none⟩,
 ⟨some 30, some (.move (.tmp 7)), none⟩,
 ⟨some 31, some (.call ⟨(.value (.func Z2)), #[.tmp 29, .tmp 30], #[Zi, Zd]⟩), none⟩,
 ⟨some 28, some (.move (.tmp 31)), none⟩,
 ⟨some 32, some (.extract (.tmp 28) 0), none⟩,
 ⟨some 33, some (.extract (.tmp 28) 1), none⟩,
 ⟨some 8, some (.alloc Za), none⟩,
 ⟨none, some (.store Za (.tmp 8) (.tmp 32)), none⟩,
 ⟨some 9, some (.assign (.tmp 33)), none⟩])
  (.seq (.seq (.reg [] [⟨some 34, some (.move (.tmp 9)), none⟩,
 ⟨some 35, some (.unOp .not Z8 (.tmp 34)), none⟩])
  (.cond (.tmp 35) (.seq (.reg [] [⟨some 4, some (.assign (.const (.int .i64 0))), none⟩])
  .ret)
  .skip))
  (.reg [] [⟨some 36, some (.move (.tmp 5)), none⟩,
 ⟨some 37, some (.load Za (.tmp 8)), none⟩,
 ⟨some 38, some (.buildSlice Zp 1 #[(0, (.tmp 37))]), none⟩,
 ⟨some 39, some (.call ⟨(.builtin .append), #[.tmp 36, .tmp 38], #[Zp, Zp]⟩), none⟩,
 ⟨some 5, some (.assign (.tmp 39)), none⟩])))))
  (.reg [] [⟨some 40, some (.binOp .add Zd (.tmp 24) (.const (.int .i64 1)) Zd), none⟩,
 ⟨some 24, some (.move (.tmp 40)), none⟩]))))
@[simp] theorem Zht : defs Zbq = [25, 26, 27, 7, 29, 30, 31, 28, 32, 33, 8, 9, 34, 35, 4, 36, 37, 38, 39, 5, 40, 24] := by rfl
def Zdy : LCode := (.seq (.reg [] [⟨some 3, some (.box Zc (.tmp 1)), none⟩,
 ⟨some 4, some (.assign (.const (.int .i64 0))), none⟩])
  (.seq (.reg [] [⟨some 5, some (.assign (.const (.slice none 0 0))), none⟩])
  (.seq (.seq (.reg [8, 9, 5609] [⟨some 12, some (.fieldAddr Zc (.tmp 3) 2), none⟩,
 ⟨some 13, some (.load Zd (.tmp 12)), none⟩,
 ⟨some 14, some (.fieldAddr Zc (.tmp 3) 3), none⟩,
 ⟨some 15, some (.load Zd (.tmp 14)), none⟩,
 ⟨some 16, some (.fieldAddr Zc (.tmp 3) 4), none⟩,
 ⟨some 17, some (.load Zd (.tmp 16)), none⟩,
 ⟨some 19, some (.fieldAddr Zc (.tmp 3) 0), none⟩,
 ⟨some 20, some (.load Zd (.tmp 19)), none⟩,
 ⟨some 21, some (.call ⟨(.value (.func Zdr)), #[.tmp 20], #[Zd]⟩), none⟩,
 ⟨some 18, some (.buildSlice Z0 3 #[(0, (.tmp 13)), (1, (.tmp 15)), (2, (.tmp 17))]), none⟩,
 ⟨some 22, some (.slice Z0 (.tmp 18) none (some (.tmp 21)) none), none⟩,
 ⟨some 23, some (.call ⟨(.builtin .len), #[.tmp 22], #[Z0]⟩), none⟩,
 ⟨some 24, some (.move (.const (.int .i64 0))), none⟩])
  (.block 0 (.loop Zbq)))
  (.seq (.reg [] [⟨some 42, some (.fieldAddr Zc (.tmp 3) 0), none⟩,
 ⟨some 43, some (.load Zd (.tmp 42)), none⟩,
 ⟨some 44, some (.fieldAddr Zc (.tmp 3) 5), none⟩,
 ⟨some 45, some (.load Zd (.tmp 44)), none⟩,
 ⟨some 46, some (.fieldAddr Zc (.tmp 3) 6), none⟩,
 ⟨some 47, some (.load Zd (.tmp 46)), none⟩,
 ⟨some 48, some (.move (.tmp 5)), none⟩,
 ⟨some 49, some (.call ⟨(.value (.func Zez)), #[.tmp 43, .tmp 45, .tmp 47, .tmp 48], #[Zd, Zd, Zd, Zp]⟩), none⟩,
 ⟨some 41, some (.move (.tmp 49)), none⟩,
 ⟨some 50, some (.extract (.tmp 41) 0), none⟩,
 ⟨some 51, some (.extract (.tmp 41) 1), none⟩,
 ⟨some 10, some (.alloc Za), none⟩,
 ⟨none, some (.store Za (.tmp 10) (.tmp 50)), none⟩,
 ⟨some 11, some (.assign (.tmp 51)), none⟩])
  (.seq (.seq (.reg [] [⟨some 52, some (.move (.tmp 11)), none⟩,
 ⟨some 53, some (.binOp .neq Zbd (.tmp 52) (.const (.int .i64 0)) Zbd), none⟩])
  (.cond (.tmp 53) (.seq (.reg [] [⟨some 4, some (.assign (.const (.int .i64 0))), none⟩])
  .ret)
  .skip))
  (.seq (.reg [] [⟨some 54, some (.move (.tmp 0)), none⟩,
 ⟨some 55, some (.load Za (.tmp 10)), none⟩,
 ⟨some 56, some (.call ⟨(.value (.func Zh)), #[.tmp 54, .tmp 55], #[Zi, Za]⟩), none⟩,
 ⟨some 4, some (.assign (.tmp 56)), none⟩])
  .ret))))))
theorem Zfw {a0 a1 : AV} {H : AHeap} : R Zy [a0, a1] H = fnK Try.prog [] H [(.tmp 4)] (evalL Try.prog KT R Zdy (Env.args [a0, a1] 0) H) :=
  runs_body (D := DT) (f := Zy) Try.func43 (by kernel_rfl) (by kernel_rfl) (by kernel_rfl) (by kernel_rfl) (by kernel_rfl) (Nat.le_of_ble_eq_true rfl)
end Go.Proofs.Ytiobohfiaapgeaa
end
