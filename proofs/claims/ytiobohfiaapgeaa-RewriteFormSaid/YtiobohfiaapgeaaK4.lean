/- Texts AT1 of this claim, one behind the other. -/
import Derived.Test.YtiobohfiaapgeaaChecked
import Derived.Test.YtiobohfiaapgeaaK3
section
namespace Go.Proofs.Ytiobohfiaapgeaa
open Go.RowKit
def Zd : TypeId := 3
def Zbg : TypeId := 4
def Zd8 : TypeId := 9
def Zs : TypeId := 22
def Zl : TypeId := 24
def Zba : TypeId := 29
def Z7 : TypeId := 32
def Ze : TypeId := 35
def Zb : TypeId := 37
def Zc : TypeId := 39
def Zcc : TypeId := 59
def Zcr : TypeId := 60
def Z0 : TypeId := 62
def Zh : TypeId := 63
def Zb8 : TypeId := 64
def Zq : TypeId := 66
def Ze3 : TypeId := 68
def Zed : TypeId := 80
def Zi4 : TypeId := 82
def Zm : TypeId := 86
def Za : TypeId := 96
def Zi2 : TypeId := 101
def Zt : TypeId := 103
def Zgm : TypeId := 112
def Zdx : TypeId := 119
def Zdq : TypeId := 120
def Zd3 : TypeId := 127
def Zbx : FuncId := 3
def Zc5 : FuncId := 7
def Zdc : FuncId := 8
def Zdy : FuncId := 9
def Zbr : FuncId := 10
def Zz : FuncId := 11
def Zcj : FuncId := 12
def Zbb : FuncId := 13
def Zck : FuncId := 14
def Zo : FuncId := 15
def Zn : FuncId := 19
def Zej : FuncId := 26
def Zj : FuncId := 27
def Zcf : FuncId := 28
def Zcg : FuncId := 29
def Zdr : FuncId := 34
def Zf : FuncId := 35
def Zbe : FuncId := 36
def Zbh : FuncId := 37
def Zbo : FuncId := 38
def Zdz : FuncId := 39
def Ze9 : FuncId := 40
def Zek : FuncId := 41
def Zfg : FuncId := 42
def Zw : FuncId := 43
def Zd5 : FuncId := 44
def Z5 : FuncId := 45
def Zy : FuncId := 46
def Zg : FuncId := 47
def Zbt : FuncId := 48
def Zds : FuncId := 49
def Zbj : FuncId := 50
def Zx : FuncId := 51
def Zcm : FuncId := 52
def Zce : FuncId := 53
def Zb5 : FuncId := 54
def Zc8 : FuncId := 55
def Zfp : FuncId := 56
def Zea : FuncId := 57
def Zfh : FuncId := 58
def Z2 : FuncId := 59
def Z1 : FuncId := 60
def Zee : FuncId := 61
def Zcd : FuncId := 62
def Zef : FuncId := 63
def Zcs : FuncId := 64
def Zdh : FuncId := 65
def Zcw : FuncId := 66
def Zdi : FuncId := 67
def Zdj : FuncId := 68
def Zc3 : FuncId := 69
def Zdk : FuncId := 70
def Zdl : FuncId := 71
def Zdm : FuncId := 72
def Zbq : FuncId := 73
def Zf9 : FuncId := 74
def Zdt : FuncId := 75
def Zep : FuncId := 76
def Zfa : FuncId := 77
def Zd9 : FuncId := 78
def Zfb : FuncId := 79
def Zfq : FuncId := 80
def Zga : FuncId := 81
def Ze4 : FuncId := 82
def Z8 : FuncId := 83
def Z3 : FuncId := 84
def Zbz : FuncId := 85
def Zcz : FuncId := 86
def Zbc : FuncId := 87
def Z4 : FuncId := 88
def Zcb : FuncId := 89
def Zeb : FuncId := 90
def Zc9 : FuncId := 91
def Zec : FuncId := 92
def Zd0 : FuncId := 93
def Zbd : FuncId := 94
def Zb6 : FuncId := 95
def Zbi : FuncId := 96
def Zb7 : FuncId := 97
def Zch : FuncId := 98
def Zdd : FuncId := 99
def Zda : FuncId := 100
def Zfm : FuncId := 101
def Z9 : FuncId := 102
def Zd1 : FuncId := 103
def Zd2 : FuncId := 104
def Zci : FuncId := 105
def KT : TypeId → Option (List Sc) := fun t => if t = Zb then some [(.i .i64), (.i .u64), (.i .u64)] else if t = Zc then some [(.i .i64), (.i .i64), (.i .i64), (.i .i64), (.i .i64), (.i .i64), (.i .i64), (.i .i64), (.i .u64), (.i .u64), .s] else if t = Za then some [(.i .u64), (.i .u64)] else none
def DT : Quiets := fun f r => if f = Zz then (if r = 9 then [10, 17, 22, 24, 1011] else if r = 10 then [3, 7, 801, 997, 1008] else []) else if f = Zbb then (if r = 12 then [5, 8, 10, 12] else if r = 1000000 then [0] else []) else if f = Zbe then (if r = 4 then [10] else []) else if f = Zdz then (if r = 3 then [12, 13] else []) else if f = Zw then (if r = 2 then [8, 9, 5609] else []) else if f = Z5 then (if r = 5 then [10] else if r = 12 then [10] else []) else if f = Zy then (if r = 2 then [3, 5, 999, 1006] else []) else if f = Zbt then (if r = 2 then [10] else []) else if f = Zx then (if r = 3 then [10] else []) else if f = Z1 then (if r = 10 then [3] else if r = 12 then [2, 5, 997, 1006] else []) else if f = Zc3 then (if r = 1 then [3] else []) else if f = Zf9 then (if r = 4 then [3, 4] else if r = 6 then [3, 4] else []) else if f = Zdt then (if r = 3 then [1, 5] else []) else if f = Zd9 then (if r = 8 then [1, 3, 5, 11, 12] else []) else if f = Zfq then (if r = 4 then [4, 6, 7] else if r = 6 then [5] else if r = 8 then [5] else []) else if f = Zcb then (if r = 1 then [1] else []) else if f = Zc9 then (if r = 1 then [1, 4, 5] else if r = 16 then [3, 5, 10, 11] else if r = 17 then [1, 3] else if r = 19 then [3, 5, 10, 11] else if r = 20 then [1] else []) else if f = Zd0 then (if r = 1 then [1, 4, 5] else []) else if f = Zbi then (if r = 1 then [2] else []) else if f = Zch then (if r = 2 then [1, 2, 3, 1006] else []) else if f = Zdd then (if r = 2 then [3, 4] else []) else if f = Zfm then (if r = 1 then [3, 5, 10, 11] else if r = 5 then [1] else if r = 7 then [2] else []) else if f = Zci then (if r = 10 then [3] else if r = 11 then [1, 2, 999, 1005] else []) else []
noncomputable def R : Calling := runs Try.prog KT DT
theorem good : Good Try.prog KT := by
  refine ⟨fun t sh h => ?_, Try.checked.mixed⟩
  unfold KT at h
  split at h
  · rename_i ht; subst ht; cases h; exact keyOK_of (d := 8) (by kernel_rfl) (by omega) (by kernel_rfl) (by kernel_rfl)
  split at h
  · rename_i ht; subst ht; cases h; exact keyOK_of (d := 8) (by kernel_rfl) (by omega) (by kernel_rfl) (by kernel_rfl)
  split at h
  · rename_i ht; subst ht; cases h; exact keyOK_of (d := 8) (by kernel_rfl) (by omega) (by kernel_rfl) (by kernel_rfl)
  cases h
@[simp] theorem ty0 : lnS Try.prog Z7 = .slice := by kernel_rfl
@[simp] theorem ty1 : eszS Try.prog Z7 = some 1 := by kernel_rfl
@[simp] theorem ty2 : ldS Try.prog Zd = some none := by kernel_rfl
@[simp] theorem ty3 : tZ Try.prog Zc = some [(.int .i64 0), (.int .i64 0), (.int .i64 0), (.int .i64 0), (.int .i64 0), (.int .i64 0), (.int .i64 0), (.int .i64 0), (u 0#64), (u 0#64), (.str .empty)] := by kernel_rfl
@[simp] theorem ty4 : tS Try.prog Zc = some 11 := by kernel_rfl
@[simp] theorem ty5 : faS Try.prog Zc 0 = some 0 := by kernel_rfl
@[simp] theorem ty6 : eqS Try.prog Zl = .ptr := by kernel_rfl
@[simp] theorem ty7 : blS Try.prog Zc = some true := by kernel_rfl
@[simp] theorem ty8 : plS Try.prog Zc 0 = some (0, 1) := by kernel_rfl
@[simp] theorem ty9 : plS Try.prog Zc 1 = some (1, 1) := by kernel_rfl
@[simp] theorem ty10 : plS Try.prog Zc 8 = some (10, 1) := by kernel_rfl
@[simp] theorem ty11 : tZ Try.prog Zb = some [(.int .i64 0), (u 0#64), (u 0#64)] := by kernel_rfl
@[simp] theorem ty12 : blS Try.prog Zb = some true := by kernel_rfl
@[simp] theorem ty13 : plS Try.prog Zb 0 = some (0, 1) := by kernel_rfl
@[simp] theorem ty14 : plS Try.prog Zb 1 = some (1, 1) := by kernel_rfl
@[simp] theorem ty15 : plS Try.prog Zc 7 = some (7, 3) := by kernel_rfl
@[simp] theorem ty16 : plS Try.prog Zc 2 = some (2, 1) := by kernel_rfl
@[simp] theorem ty17 : plS Try.prog Zc 3 = some (3, 1) := by kernel_rfl
@[simp] theorem ty18 : faS Try.prog Zc 7 = some 7 := by kernel_rfl
@[simp] theorem ty19 : ldS Try.prog Zb = some (some 3) := by kernel_rfl
@[simp] theorem ty20 : KT Zb = some [(.i .i64), (.i .u64), (.i .u64)] := by kernel_rfl
@[simp] theorem ty21 : mkeyS Try.prog KT Zb8 = some (.one (.i .i64)) := by kernel_rfl
@[simp] theorem ty22 : mapS Try.prog KT Zb8 = some ((.one (.i .i64)), (.int .i64 0)) := by kernel_rfl
@[simp] theorem ty23 : tZ Try.prog Zq = some [.nilp, .nilm, (.int .i64 0)] := by kernel_rfl
@[simp] theorem ty24 : blS Try.prog Zq = some true := by kernel_rfl
@[simp] theorem ty25 : plS Try.prog Zq 0 = some (0, 1) := by kernel_rfl
@[simp] theorem ty26 : plS Try.prog Zq 1 = some (1, 1) := by kernel_rfl
@[simp] theorem ty27 : faS Try.prog Zq 1 = some 1 := by kernel_rfl
@[simp] theorem ty28 : ldS Try.prog Zb8 = some none := by kernel_rfl
@[simp] theorem ty29 : faS Try.prog Zc 2 = some 2 := by kernel_rfl
@[simp] theorem ty30 : faS Try.prog Zc 3 = some 3 := by kernel_rfl
@[simp] theorem ty31 : faS Try.prog Zc 4 = some 4 := by kernel_rfl
@[simp] theorem ty32 : tS Try.prog Zd = some 1 := by kernel_rfl
@[simp] theorem ty33 : ldS Try.prog Zc = some (some 11) := by kernel_rfl
@[simp] theorem ty34 : faS Try.prog Zq 2 = some 2 := by kernel_rfl
@[simp] theorem ty35 : ldS Try.prog Zba = some none := by kernel_rfl
@[simp] theorem ty36 : faS Try.prog Z0 1 = some 1 := by kernel_rfl
@[simp] theorem ty37 : ldS Try.prog Zs = some none := by kernel_rfl
@[simp] theorem ty38 : lnS Try.prog Zs = .slice := by kernel_rfl
@[simp] theorem ty39 : mkS Try.prog Ze3 = some (1, 1, [(.bool false)]) := by kernel_rfl
@[simp] theorem ty40 : eszS Try.prog Ze3 = some 1 := by kernel_rfl
@[simp] theorem ty41 : tS Try.prog Zbg = some 1 := by kernel_rfl
@[simp] theorem ty42 : ldS Try.prog Zbg = some none := by kernel_rfl
@[simp] theorem ty43 : eszS Try.prog Zs = some 11 := by kernel_rfl
@[simp] theorem ty44 : mkS Try.prog Z7 = some (1, 8, [(.int .i64 0)]) := by kernel_rfl
@[simp] theorem ty45 : bsS Try.prog Z7 = some (1, [(.int .i64 0)]) := by kernel_rfl
@[simp] theorem ty46 : faS Try.prog Zq 0 = some 0 := by kernel_rfl
@[simp] theorem ty47 : ldS Try.prog Zl = some none := by kernel_rfl
@[simp] theorem ty48 : tS Try.prog Zba = some 1 := by kernel_rfl
@[simp] theorem ty49 : faS Try.prog Z0 2 = some 2 := by kernel_rfl
@[simp] theorem ty50 : ldS Try.prog Zcc = some none := by kernel_rfl
@[simp] theorem ty51 : mkeyS Try.prog KT Zcc = some (.many [(.i .i64), (.i .i64), (.i .i64), (.i .i64), (.i .i64), (.i .i64), (.i .i64), (.i .i64), (.i .u64), (.i .u64), .s]) := by kernel_rfl
@[simp] theorem ty52 : mapS Try.prog KT Zcc = some ((.many [(.i .i64), (.i .i64), (.i .i64), (.i .i64), (.i .i64), (.i .i64), (.i .i64), (.i .i64), (.i .u64), (.i .u64), .s]), (.int .i64 0)) := by kernel_rfl
@[simp] theorem ty53 : faS Try.prog Z0 0 = some 0 := by kernel_rfl
@[simp] theorem ty54 : bsS Try.prog Zs = some (11, [(.int .i64 0), (.int .i64 0), (.int .i64 0), (.int .i64 0), (.int .i64 0), (.int .i64 0), (.int .i64 0), (.int .i64 0), (u 0#64), (u 0#64), (.str .empty)]) := by kernel_rfl
@[simp] theorem ty55 : mkS Try.prog Zs = some (11, 96, [(.int .i64 0), (.int .i64 0), (.int .i64 0), (.int .i64 0), (.int .i64 0), (.int .i64 0), (.int .i64 0), (.int .i64 0), (u 0#64), (u 0#64), (.str .empty)]) := by kernel_rfl
@[simp] theorem ty56 : tS Try.prog Zs = some 1 := by kernel_rfl
@[simp] theorem ty57 : faS Try.prog Z0 3 = some 3 := by kernel_rfl
@[simp] theorem ty58 : ldS Try.prog Zcr = some none := by kernel_rfl
@[simp] theorem ty59 : faS Try.prog Zc 8 = some 10 := by kernel_rfl
@[simp] theorem ty60 : ldS Try.prog Zd8 = some none := by kernel_rfl
@[simp] theorem ty61 : mkeyS Try.prog KT Zcr = some (.one .s) := by kernel_rfl
@[simp] theorem ty62 : mapS Try.prog KT Zcr = some ((.one .s), (.int .i64 0)) := by kernel_rfl
@[simp] theorem ty63 : tZ Try.prog Zed = some [(.int .i64 0), (.int .i64 0), (.int .i64 0)] := by kernel_rfl
@[simp] theorem ty64 : blS Try.prog Zed = some true := by kernel_rfl
@[simp] theorem ty65 : plS Try.prog Zed 0 = some (0, 1) := by kernel_rfl
@[simp] theorem ty66 : plS Try.prog Zed 1 = some (1, 1) := by kernel_rfl
@[simp] theorem ty67 : plS Try.prog Zed 2 = some (2, 1) := by kernel_rfl
@[simp] theorem ty68 : arrS Try.prog Zed = some (3, 1) := by kernel_rfl
@[simp] theorem ty69 : arrL Try.prog Zed = some none := by kernel_rfl
@[simp] theorem ty70 : faS Try.prog Zb 0 = some 0 := by kernel_rfl
@[simp] theorem ty71 : faS Try.prog Zc 1 = some 1 := by kernel_rfl
@[simp] theorem ty72 : faS Try.prog Zc 5 = some 5 := by kernel_rfl
@[simp] theorem ty73 : faS Try.prog Zc 6 = some 6 := by kernel_rfl
@[simp] theorem ty74 : faS Try.prog Zb 1 = some 1 := by kernel_rfl
@[simp] theorem ty75 : ldS Try.prog Ze = some none := by kernel_rfl
@[simp] theorem ty76 : faS Try.prog Zb 2 = some 2 := by kernel_rfl
@[simp] theorem ty77 : tZ Try.prog Za = some [(u 0#64), (u 0#64)] := by kernel_rfl
@[simp] theorem ty78 : tS Try.prog Za = some 2 := by kernel_rfl
@[simp] theorem ty79 : faS Try.prog Za 0 = some 0 := by kernel_rfl
@[simp] theorem ty80 : faS Try.prog Za 1 = some 1 := by kernel_rfl
@[simp] theorem ty81 : plS Try.prog Zb 2 = some (2, 1) := by kernel_rfl
@[simp] theorem ty82 : tS Try.prog Zb = some 3 := by kernel_rfl
@[simp] theorem ty83 : blS Try.prog Za = some true := by kernel_rfl
@[simp] theorem ty84 : ldS Try.prog Za = some (some 2) := by kernel_rfl
@[simp] theorem ty85 : plS Try.prog Za 0 = some (0, 1) := by kernel_rfl
@[simp] theorem ty86 : plS Try.prog Za 1 = some (1, 1) := by kernel_rfl
@[simp] theorem ty87 : cvS Try.prog Zd Zd3 = some (some .u64) := by kernel_rfl
@[simp] theorem ty88 : bsS Try.prog Zm = some (3, [(.int .i64 0), (u 0#64), (u 0#64)]) := by kernel_rfl
@[simp] theorem ty89 : mkS Try.prog Zm = some (3, 24, [(.int .i64 0), (u 0#64), (u 0#64)]) := by kernel_rfl
@[simp] theorem ty90 : lnS Try.prog Zm = .slice := by kernel_rfl
@[simp] theorem ty91 : eszS Try.prog Zm = some 3 := by kernel_rfl
@[simp] theorem ty92 : tZ Try.prog Zt = some [.nilf] := by kernel_rfl
@[simp] theorem ty93 : tS Try.prog Zt = some 1 := by kernel_rfl
@[simp] theorem ty94 : faS Try.prog Zt 0 = some 0 := by kernel_rfl
@[simp] theorem ty95 : ldS Try.prog Zi2 = some none := by kernel_rfl
@[simp] theorem ty96 : blS Try.prog Zt = some true := by kernel_rfl
@[simp] theorem ty97 : plS Try.prog Zt 0 = some (0, 1) := by kernel_rfl
@[simp] theorem ty98 : ldS Try.prog Zt = some (some 1) := by kernel_rfl
@[simp] theorem ty99 : ldS Try.prog Zgm = some none := by kernel_rfl
@[simp] theorem ty100 : eqS Try.prog Zbg = .bool := by kernel_rfl
@[simp] theorem ty101 : fdS Try.prog Za 0 = some (0, none) := by kernel_rfl
@[simp] theorem ty102 : fdS Try.prog Zb 1 = some (1, none) := by kernel_rfl
@[simp] theorem ty103 : KT Za = some [(.i .u64), (.i .u64)] := by kernel_rfl
@[simp] theorem ty104 : tS Try.prog Ze = some 1 := by kernel_rfl
@[simp] theorem ty105 : cvS Try.prog Zd Ze = some (some .u64) := by kernel_rfl
@[simp] theorem ty106 : cvS Try.prog Ze Zd = some (some .i64) := by kernel_rfl
@[simp] theorem ty107 : plS Try.prog Zc 5 = some (5, 1) := by kernel_rfl
@[simp] theorem ty108 : plS Try.prog Zc 6 = some (6, 1) := by kernel_rfl
@[simp] theorem ty109 : tZ Try.prog Zdx = some [(.int .i64 0), (.int .i64 0)] := by kernel_rfl
@[simp] theorem ty110 : blS Try.prog Zdx = some true := by kernel_rfl
@[simp] theorem ty111 : plS Try.prog Zdx 0 = some (0, 1) := by kernel_rfl
@[simp] theorem ty112 : plS Try.prog Zdx 1 = some (1, 1) := by kernel_rfl
@[simp] theorem ty113 : tZ Try.prog Zdq = some [(.int .i64 0), (.int .i64 0), (.int .i64 0), (.int .i64 0)] := by kernel_rfl
@[simp] theorem ty114 : blS Try.prog Zdq = some true := by kernel_rfl
@[simp] theorem ty115 : plS Try.prog Zdq 0 = some (0, 2) := by kernel_rfl
@[simp] theorem ty116 : plS Try.prog Zdq 1 = some (2, 2) := by kernel_rfl
@[simp] theorem ty117 : arrS Try.prog Zdq = some (2, 2) := by kernel_rfl
@[simp] theorem ty118 : arrL Try.prog Zdq = some (some 2) := by kernel_rfl
@[simp] theorem ty119 : tS Try.prog Zdx = some 2 := by kernel_rfl
@[simp] theorem ty120 : arrS Try.prog Zdx = some (2, 1) := by kernel_rfl
@[simp] theorem ty121 : arrL Try.prog Zdx = some none := by kernel_rfl
@[simp] theorem ty122 : tZ Try.prog Z0 = some [(.int .i64 0), .nils, .nilm, .nilm] := by kernel_rfl
@[simp] theorem ty123 : blS Try.prog Z0 = some true := by kernel_rfl
@[simp] theorem ty124 : plS Try.prog Z0 0 = some (0, 1) := by kernel_rfl
@[simp] theorem ty125 : plS Try.prog Z0 2 = some (2, 1) := by kernel_rfl
@[simp] theorem ty126 : plS Try.prog Z0 3 = some (3, 1) := by kernel_rfl
@[simp] theorem ty127 : lnS Try.prog Zd8 = .str := by kernel_rfl
def Zb0 : LCode := (.seq (.seq (.reg [] [⟨some 118, some (.move (.tmp 19)), none⟩,
 ⟨some 119, some (.move (.tmp 15)), none⟩,
 ⟨some 120, some (.call ⟨(.builtin .len), #[.tmp 119], #[Z7]⟩), none⟩,
 ⟨some 121, some (.binOp .lss Zd (.tmp 118) (.tmp 120) Zd), none⟩])
  (.cond (.tmp 121) .skip
  (.exit 2)))
  (.seq (.block 3 (.reg [] [⟨some 124, some (.move (.tmp 18)), none⟩,
 ⟨some 125, some (.move (.tmp 124)), none⟩,
 ⟨some 126, some (.move (.tmp 15)), some (some 125, false)⟩,
 ⟨some 127, some (.move (.tmp 19)), some (some 125, false)⟩,
 ⟨some 128, some (.indexAddr Z7 (.tmp 126) (.tmp 127)), some (some 125, false)⟩,
 ⟨some 129, some (.load Zd (.tmp 128)), some (some 125, false)⟩,
 ⟨some 130, some (.move (.tmp 16)), some (some 125, false)⟩,
 ⟨some 131, some (.move (.tmp 17)), some (some 125, false)⟩,
 ⟨some 132, some (.indexAddr Z7 (.tmp 130) (.tmp 131)), some (some 125, false)⟩,
 ⟨some 133, some (.load Zd (.tmp 132)), some (some 125, false)⟩,
 ⟨some 134, some (.binOp .eql Zd (.tmp 129) (.tmp 133) Zd), some (some 125, false)⟩,
 ⟨some 135, some (.pick (.tmp 125) (.const (.bool true)) (.tmp 134)), none⟩,
 ⟨some 18, some (.assign (.tmp 135)), none⟩]))
  (.reg [] [⟨some 122, some (.move (.tmp 19)), none⟩,
 ⟨some 123, some (.binOp .add Zd (.tmp 122) (.const (.int .i64 1)) Zd), none⟩,
 ⟨some 19, some (.assign (.tmp 123)), none⟩])))
def Zb1 : LCode := (.seq (.seq (.reg [] [⟨some 112, some (.move (.tmp 17)), none⟩,
 ⟨some 113, some (.move (.tmp 16)), none⟩,
 ⟨some 114, some (.call ⟨(.builtin .len), #[.tmp 113], #[Z7]⟩), none⟩,
 ⟨some 115, some (.binOp .lss Zd (.tmp 112) (.tmp 114) Zd), none⟩])
  (.cond (.tmp 115) .skip
  (.exit 0)))
  (.seq (.block 1 (.seq (.reg [] [⟨some 18, some (.assign (.const (.bool false))), none⟩])
  (.seq (.seq (.reg [] [⟨some 19, some (.assign (.const (.int .i64 0))), none⟩])
  (.block 2 (.loop Zb0)))
  (.seq (.reg [] [⟨some 136, some (.move (.tmp 18)), none⟩,
 ⟨some 137, some (.unOp .not Zbg (.tmp 136)), none⟩])
  (.cond (.tmp 137) (.seq (.reg [] [⟨some 4, some (.assign (.const (.bool false))), none⟩])
  .ret)
  .skip)))))
  (.reg [] [⟨some 116, some (.move (.tmp 17)), none⟩,
 ⟨some 117, some (.binOp .add Zd (.tmp 116) (.const (.int .i64 1)) Zd), none⟩,
 ⟨some 17, some (.assign (.tmp 117)), none⟩])))
@[simp] theorem Zg6 : defs Zb0 = [118, 119, 120, 121, 124, 125, 126, 127, 128, 129, 130, 131, 132, 133, 134, 135, 18, 122, 123, 19] := by rfl
@[simp] theorem Zg7 : defs Zb1 = [112, 113, 114, 115, 18, 19, 118, 119, 120, 121, 124, 125, 126, 127, 128, 129, 130, 131, 132, 133, 134, 135, 18, 122, 123, 19, 136, 137, 4, 116, 117, 17] := by rfl
def Zeg : LCode := (.seq (.reg [] [⟨some 4, some (.assign (.const (.bool false))), none⟩])
  (.seq (.seq (.reg [] [⟨some 22, some (.call ⟨(.value (.func Zc5)), #[], #[]⟩), none⟩,
 ⟨some 23, some (.unOp .not Zbg (.tmp 22)), none⟩])
  (.cond (.tmp 23) (.seq (.reg [] [⟨some 4, some (.assign (.const (.bool false))), none⟩])
  .ret)
  .skip))
  (.seq (.reg [] [⟨some 25, some (.move (.tmp 0)), none⟩,
 ⟨some 26, some (.call ⟨(.value (.func Zdc)), #[.tmp 25], #[Zs]⟩), none⟩,
 ⟨some 24, some (.move (.tmp 26)), none⟩,
 ⟨some 27, some (.extract (.tmp 24) 0), none⟩,
 ⟨some 28, some (.extract (.tmp 24) 1), none⟩,
 ⟨some 5, some (.assign (.tmp 27)), none⟩,
 ⟨some 6, some (.assign (.tmp 28)), none⟩])
  (.seq (.seq (.reg [] [⟨some 29, some (.move (.tmp 6)), none⟩,
 ⟨some 30, some (.unOp .not Zbg (.tmp 29)), none⟩])
  (.cond (.tmp 30) (.seq (.reg [] [⟨some 4, some (.assign (.const (.bool true))), none⟩])
  .ret)
  .skip))
  (.seq (.reg [] [⟨some 31, some (.move (.tmp 1)), none⟩,
 ⟨some 32, some (.move (.tmp 5)), none⟩,
 ⟨some 33, some (.call ⟨(.value (.func Zbr)), #[.tmp 32], #[Zl]⟩), none⟩,
 ⟨some 34, some (.call ⟨(.value (.func Zdy)), #[.tmp 31, .tmp 33], #[Zd, Zd]⟩), none⟩,
 ⟨some 35, some (.binOp .add Zd (.const (.int .i64 1)) (.tmp 34) Zd), none⟩,
 ⟨some 1, some (.assign (.tmp 35)), none⟩])
  (.seq (.reg [] [⟨some 37, some (.move (.tmp 5)), none⟩,
 ⟨some 38, some (.move (.tmp 1)), none⟩,
 ⟨some 39, some (.call ⟨(.value (.func Zz)), #[.tmp 37, .tmp 38], #[Zl, Zd]⟩), none⟩,
 ⟨some 36, some (.move (.tmp 39)), none⟩,
 ⟨some 40, some (.extract (.tmp 36) 0), none⟩,
 ⟨some 41, some (.extract (.tmp 36) 1), none⟩,
 ⟨some 7, some (.assign (.tmp 40)), none⟩,
 ⟨some 8, some (.assign (.tmp 41)), none⟩])
  (.seq (.reg [] [⟨some 43, some (.move (.tmp 5)), none⟩,
 ⟨some 44, some (.move (.tmp 7)), none⟩,
 ⟨some 45, some (.call ⟨(.value (.func Zz)), #[.tmp 43, .tmp 44], #[Zl, Zd]⟩), none⟩,
 ⟨some 42, some (.move (.tmp 45)), none⟩,
 ⟨some 46, some (.extract (.tmp 42) 0), none⟩,
 ⟨some 47, some (.extract (.tmp 42) 1), none⟩,
 ⟨some 9, some (.assign (.tmp 46)), none⟩,
 ⟨some 10, some (.assign (.tmp 47)), none⟩])
  (.seq (.reg [] [⟨some 49, some (.move (.tmp 5)), none⟩,
 ⟨some 50, some (.move (.tmp 1)), none⟩,
 ⟨some 51, some (.call ⟨(.value (.func Zcj)), #[.tmp 49, .tmp 50], #[Zl, Zd]⟩), none⟩,
 ⟨some 48, some (.move (.tmp 51)), none⟩,
 ⟨some 52, some (.extract (.tmp 48) 0), none⟩,
 ⟨some 53, some (.extract (.tmp 48) 1), none⟩,
 ⟨some 11, some (.assign (.tmp 52)), none⟩,
 ⟨some 12, some (.assign (.tmp 53)), none⟩])
  (.seq (.reg [] [⟨some 55, some (.move (.tmp 5)), none⟩,
 ⟨some 56, some (.move (.tmp 7)), none⟩,
 ⟨some 57, some (.call ⟨(.value (.func Zcj)), #[.tmp 55, .tmp 56], #[Zl, Zd]⟩), none⟩,
 ⟨some 54, some (.move (.tmp 57)), none⟩,
 ⟨some 58, some (.extract (.tmp 54) 0), none⟩,
 ⟨some 59, some (.extract (.tmp 54) 1), none⟩,
 ⟨some 13, some (.assign (.tmp 58)), none⟩,
 ⟨some 14, some (.assign (.tmp 59)), none⟩])
  (.seq (.seq (.reg [] [⟨some 60, some (.move (.tmp 8)), none⟩,
 ⟨some 61, some (.binOp .eql Zd (.tmp 60) (.const (.int .i64 33)) Zd), none⟩,
 ⟨some 62, some (.move (.tmp 61)), none⟩,
 ⟨some 63, some (.move (.tmp 8)), some (some 62, false)⟩,
 ⟨some 64, some (.binOp .eql Zd (.tmp 63) (.const (.int .i64 0)) Zd), some (some 62, false)⟩,
 ⟨some 65, some (.move (.tmp 64)), some (some 62, false)⟩,
 ⟨some 66, some (.move (.tmp 10)), some (some 65, true)⟩,
 ⟨some 67, some (.binOp .eql Zd (.tmp 66) (.const (.int .i64 33)) Zd), some (some 65, true)⟩,
 ⟨some 68, some (.pick (.tmp 65) (.tmp 67) (.const (.bool false))), some (some 62, false)⟩,
 ⟨some 69, some (.pick (.tmp 62) (.const (.bool true)) (.tmp 68)), none⟩])
  (.cond (.tmp 69) (.seq (.reg [] [⟨some 4, some (.assign (.const (.bool true))), none⟩])
  .ret)
  .skip))
  (.seq (.seq (.reg [] [⟨some 70, some (.move (.tmp 8)), none⟩,
 ⟨some 71, some (.move (.tmp 10)), none⟩,
 ⟨some 72, some (.binOp .add Zd (.tmp 70) (.tmp 71) Zd), none⟩,
 ⟨some 73, some (.move (.tmp 12)), none⟩,
 ⟨some 74, some (.binOp .add Zd (.tmp 72) (.tmp 73) Zd), none⟩,
 ⟨some 75, some (.move (.tmp 14)), none⟩,
 ⟨some 76, some (.binOp .add Zd (.tmp 74) (.tmp 75) Zd), none⟩,
 ⟨some 77, some (.binOp .neq Zd (.tmp 76) (.const (.int .i64 0)) Zd), none⟩,
 ⟨some 78, some (.move (.tmp 77)), none⟩,
 ⟨some 79, some (.move (.tmp 9)), some (some 78, false)⟩,
 ⟨some 80, some (.move (.tmp 7)), some (some 78, false)⟩,
 ⟨some 81, some (.binOp .neq Zd (.tmp 79) (.tmp 80) Zd), some (some 78, false)⟩,
 ⟨some 82, some (.pick (.tmp 78) (.const (.bool true)) (.tmp 81)), none⟩,
 ⟨some 83, some (.move (.tmp 82)), none⟩,
 ⟨some 84, some (.move (.tmp 13)), some (some 83, false)⟩,
 ⟨some 85, some (.move (.tmp 11)), some (some 83, false)⟩,
 ⟨some 86, some (.binOp .mul Zd (.const (.int .i64 4)) (.tmp 85) Zd), some (some 83, false)⟩,
 ⟨some 87, some (.binOp .add Zd (.tmp 86) (.const (.int .i64 64)) Zd), some (some 83, false)⟩,
 ⟨some 88, some (.binOp .gtr Zd (.tmp 84) (.tmp 87) Zd), some (some 83, false)⟩,
 ⟨some 89, some (.pick (.tmp 83) (.const (.bool true)) (.tmp 88)), none⟩,
 ⟨some 90, some (.move (.tmp 89)), none⟩,
 ⟨some 91, some (.move (.tmp 11)), some (some 90, false)⟩,
 ⟨some 92, some (.move (.tmp 5)), some (some 90, false)⟩,
 ⟨some 93, some (.move (.tmp 1)), some (some 90, false)⟩,
 ⟨some 94, some (.call ⟨(.value (.func Zbb)), #[.tmp 92, .tmp 93], #[Zl, Zd]⟩), some (some 90, false)⟩,
 ⟨some 95, some (.call ⟨(.builtin .len), #[.tmp 94], #[Z7]⟩), some (some 90, false)⟩,
 ⟨some 96, some (.binOp .neq Zd (.tmp 91) (.tmp 95) Zd), some (some 90, false)⟩,
 ⟨some 97, some (.pick (.tmp 90) (.const (.bool true)) (.tmp 96)), none⟩,
 ⟨some 98, some (.move (.tmp 97)), none⟩,
 ⟨some 99, some (.move (.tmp 13)), some (some 98, false)⟩,
 ⟨some 100, some (.move (.tmp 5)), some (some 98, false)⟩,
 ⟨some 101, some (.move (.tmp 7)), some (some 98, false)⟩,
 ⟨some 102, some (.call ⟨(.value (.func Zbb)), #[.tmp 100, .tmp 101], #[Zl, Zd]⟩), some (some 98, false)⟩,
 ⟨some 103, some (.call ⟨(.builtin .len), #[.tmp 102], #[Z7]⟩), some (some 98, false)⟩,
 ⟨some 104, some (.binOp .neq Zd (.tmp 99) (.tmp 103) Zd), some (some 98, false)⟩,
 ⟨some 105, some (.pick (.tmp 98) (.const (.bool true)) (.tmp 104)), none⟩])
  (.cond (.tmp 105) (.seq (.reg [] [⟨some 4, some (.assign (.const (.bool false))), none⟩])
  .ret)
  .skip))
  (.seq (.reg [] [⟨some 106, some (.move (.tmp 5)), none⟩,
 ⟨some 107, some (.move (.tmp 1)), none⟩,
 ⟨some 108, some (.call ⟨(.value (.func Zck)), #[.tmp 106, .tmp 107], #[Zl, Zd]⟩), none⟩,
 ⟨some 109, some (.move (.tmp 5)), none⟩,
 ⟨some 110, some (.move (.tmp 7)), none⟩,
 ⟨some 111, some (.call ⟨(.value (.func Zck)), #[.tmp 109, .tmp 110], #[Zl, Zd]⟩), none⟩,
 ⟨some 15, some (.assign (.tmp 108)), none⟩,
 ⟨some 16, some (.assign (.tmp 111)), none⟩])
  (.seq (.seq (.reg [] [⟨some 17, some (.assign (.const (.int .i64 0))), none⟩])
  (.block 0 (.loop Zb1)))
  (.seq (.reg [] [⟨some 139, some (.move (.tmp 5)), none⟩,
 ⟨some 140, some (.move (.tmp 7)), none⟩,
 ⟨some 141, some (.call ⟨(.value (.func Zo)), #[.tmp 139, .tmp 140], #[Zl, Zd]⟩), none⟩,
 ⟨some 138, some (.move (.tmp 141)), none⟩,
 ⟨some 142, some (.extract (.tmp 138) 0), none⟩,
 ⟨some 143, some (.extract (.tmp 138) 1), none⟩,
 ⟨some 20, some (.alloc Zc), none⟩,
 ⟨none, some (.store Zc (.tmp 20) (.tmp 142)), none⟩,
 ⟨some 21, some (.assign (.tmp 143)), none⟩])
  (.seq (.reg [] [⟨some 144, some (.move (.tmp 15)), none⟩,
 ⟨some 145, some (.call ⟨(.builtin .len), #[.tmp 144], #[Z7]⟩), none⟩,
 ⟨some 146, some (.binOp .gtr Zd (.tmp 145) (.const (.int .i64 0)) Zd), none⟩,
 ⟨some 147, some (.move (.tmp 146)), none⟩,
 ⟨some 148, some (.fieldAddr Zc (.tmp 20) 0), some (some 147, false)⟩,
 ⟨some 149, some (.load Zd (.tmp 148)), some (some 147, false)⟩,
 ⟨some 150, some (.binOp .eql Zd (.tmp 149) (.const (.int .i64 1)) Zd), some (some 147, false)⟩,
 ⟨some 151, some (.pick (.tmp 147) (.const (.bool true)) (.tmp 150)), none⟩,
 ⟨some 4, some (.assign (.tmp 151)), none⟩])
  .ret)))))))))))))))
theorem Zfr {a0 a1 : AV} {H : AHeap} : R Zbx [a0, a1] H = fnK Try.prog [] H [(.tmp 4)] (evalL Try.prog KT R Zeg (Env.args [a0, a1] 0) H) :=
  runs_body (D := DT) (f := Zbx) Try.func3 (by kernel_rfl) (by kernel_rfl) (by kernel_rfl) (by kernel_rfl) (by kernel_rfl) (Nat.le_of_ble_eq_true rfl)
def Zfn : LCode := (.seq (.reg [] [⟨some 0, some (.assign (.const (.bool false))), none⟩])
  (.seq (.reg [] [⟨some 24, some (.call ⟨(.value (.func Zej)), #[(.const (.int .i64 50))], #[Zd]⟩), none⟩,
 ⟨some 1, some (.assign (.tmp 24)), none⟩])
  (.seq (.seq (.reg [] [⟨some 25, some (.move (.tmp 1)), none⟩,
 ⟨some 26, some (.binOp .eql Zl (.tmp 25) (.const (.pointer none)) Zl), none⟩])
  (.cond (.tmp 26) (.seq (.reg [] [⟨some 0, some (.assign (.const (.bool false))), none⟩])
  .ret)
  .skip))
  (.seq (.reg [] [⟨some 28, some (.move (.tmp 1)), none⟩,
 ⟨some 29, some (.build Zc #[(0, (.const (.int .i64 2))), (1, (.const (.int .i64 4))), (8, (.const (.string { data := #[120] })))]), none⟩,
 ⟨some 30, some (.call ⟨(.value (.func Zn)), #[.tmp 28, .tmp 29], #[Zl, Zc]⟩), none⟩,
 ⟨some 27, some (.move (.tmp 30)), none⟩,
 ⟨some 31, some (.extract (.tmp 27) 0), none⟩,
 ⟨some 32, some (.extract (.tmp 27) 1), none⟩,
 ⟨some 2, some (.assign (.tmp 31)), none⟩,
 ⟨some 3, some (.assign (.tmp 32)), none⟩])
  (.seq (.reg [] [⟨some 34, some (.move (.tmp 1)), none⟩,
 ⟨some 35, some (.build Zb #[(0, (.const (.int .i64 4))), (1, (.const (.int .u64 3)))]), none⟩,
 ⟨some 36, some (.build Zc #[(0, (.const (.int .i64 1))), (1, (.const (.int .i64 4))), (7, (.tmp 35))]), none⟩,
 ⟨some 37, some (.call ⟨(.value (.func Zn)), #[.tmp 34, .tmp 36], #[Zl, Zc]⟩), none⟩,
 ⟨some 33, some (.move (.tmp 37)), none⟩,
 ⟨some 38, some (.extract (.tmp 33) 0), none⟩,
 ⟨some 39, some (.extract (.tmp 33) 1), none⟩,
 ⟨some 4, some (.assign (.tmp 38)), none⟩,
 ⟨some 5, some (.assign (.tmp 39)), none⟩])
  (.seq (.reg [] [⟨some 41, some (.move (.tmp 1)), none⟩,
 ⟨some 42, some (.build Zb #[(0, (.const (.int .i64 4)))]), none⟩,
 ⟨some 43, some (.build Zc #[(0, (.const (.int .i64 1))), (1, (.const (.int .i64 4))), (7, (.tmp 42))]), none⟩,
 ⟨some 44, some (.call ⟨(.value (.func Zn)), #[.tmp 41, .tmp 43], #[Zl, Zc]⟩), none⟩,
 ⟨some 40, some (.move (.tmp 44)), none⟩,
 ⟨some 45, some (.extract (.tmp 40) 0), none⟩,
 ⟨some 46, some (.extract (.tmp 40) 1), none⟩,
 ⟨some 6, some (.assign (.tmp 45)), none⟩,
 ⟨some 7, some (.assign (.tmp 46)), none⟩])
  (.seq (.reg [] [⟨some 48, some (.move (.tmp 1)), none⟩,
 ⟨some 49, some (.move (.tmp 4)), none⟩,
 ⟨some 50, some (.move (.tmp 6)), none⟩,
 ⟨some 51, some (.build Zc #[(0, (.const (.int .i64 20))), (2, (.tmp 49)), (3, (.tmp 50))]), none⟩,
 ⟨some 52, some (.call ⟨(.value (.func Zn)), #[.tmp 48, .tmp 51], #[Zl, Zc]⟩), none⟩,
 ⟨some 47, some (.move (.tmp 52)), none⟩,
 ⟨some 53, some (.extract (.tmp 47) 0), none⟩,
 ⟨some 54, some (.extract (.tmp 47) 1), none⟩,
 ⟨some 8, some (.assign (.tmp 53)), none⟩,
 ⟨some 9, some (.assign (.tmp 54)), none⟩])
  (.seq (.reg [] [⟨some 56, some (.move (.tmp 1)), none⟩,
 ⟨some 57, some (.move (.tmp 2)), none⟩,
 ⟨some 58, some (.move (.tmp 8)), none⟩,
 ⟨some 59, some (.build Zc #[(0, (.const (.int .i64 18))), (2, (.tmp 57)), (3, (.tmp 58))]), none⟩,
 ⟨some 60, some (.call ⟨(.value (.func Zn)), #[.tmp 56, .tmp 59], #[Zl, Zc]⟩), none⟩,
 ⟨some 55, some (.move (.tmp 60)), none⟩,
 ⟨some 61, some (.extract (.tmp 55) 0), none⟩,
 ⟨some 62, some (.extract (.tmp 55) 1), none⟩,
 ⟨some 10, some (.assign (.tmp 61)), none⟩,
 ⟨some 11, some (.assign (.tmp 62)), none⟩])
  (.seq (.reg [] [⟨some 64, some (.move (.tmp 1)), none⟩,
 ⟨some 65, some (.move (.tmp 2)), none⟩,
 ⟨some 66, some (.move (.tmp 2)), none⟩,
 ⟨some 67, some (.build Zc #[(0, (.const (.int .i64 8))), (2, (.tmp 65)), (3, (.tmp 66))]), none⟩,
 ⟨some 68, some (.call ⟨(.value (.func Zn)), #[.tmp 64, .tmp 67], #[Zl, Zc]⟩), none⟩,
 ⟨some 63, some (.move (.tmp 68)), none⟩,
 ⟨some 69, some (.extract (.tmp 63) 0), none⟩,
 ⟨some 70, some (.extract (.tmp 63) 1), none⟩,
 ⟨some 12, some (.assign (.tmp 69)), none⟩,
 ⟨some 13, some (.assign (.tmp 70)), none⟩])
  (.seq (.reg [] [⟨some 72, some (.move (.tmp 1)), none⟩,
 ⟨some 73, some (.move (.tmp 10)), none⟩,
 ⟨some 74, some (.call ⟨(.value (.func Zz)), #[.tmp 72, .tmp 73], #[Zl, Zd]⟩), none⟩,
 ⟨some 71, some (.move (.tmp 74)), none⟩,
 ⟨some 75, some (.extract (.tmp 71) 0), none⟩,
 ⟨some 76, some (.extract (.tmp 71) 1), none⟩,
 ⟨some 14, some (.assign (.tmp 75)), none⟩,
 ⟨some 15, some (.assign (.tmp 76)), none⟩])
  (.seq (.reg [] [⟨some 78, some (.move (.tmp 1)), none⟩,
 ⟨some 79, some (.move (.tmp 12)), none⟩,
 ⟨some 80, some (.call ⟨(.value (.func Zz)), #[.tmp 78, .tmp 79], #[Zl, Zd]⟩), none⟩,
 ⟨some 77, some (.move (.tmp 80)), none⟩,
 ⟨some 81, some (.extract (.tmp 77) 0), none⟩,
 ⟨some 82, some (.extract (.tmp 77) 1), none⟩,
 ⟨some 16, some (.assign (.tmp 81)), none⟩,
 ⟨some 17, some (.assign (.tmp 82)), none⟩])
  (.seq (.reg [] [⟨some 84, some (.move (.tmp 1)), none⟩,
 ⟨some 85, some (.move (.tmp 16)), none⟩,
 ⟨some 86, some (.call ⟨(.value (.func Zo)), #[.tmp 84, .tmp 85], #[Zl, Zd]⟩), none⟩,
 ⟨some 83, some (.move (.tmp 86)), none⟩,
 ⟨some 87, some (.extract (.tmp 83) 0), none⟩,
 ⟨some 88, some (.extract (.tmp 83) 1), none⟩,
 ⟨some 18, some (.alloc Zc), none⟩,
 ⟨none, some (.store Zc (.tmp 18) (.tmp 87)), none⟩,
 ⟨some 19, some (.assign (.tmp 88)), none⟩])
  (.seq (.reg [] [⟨some 90, some (.move (.tmp 1)), none⟩,
 ⟨some 91, some (.move (.tmp 10)), none⟩,
 ⟨some 92, some (.call ⟨(.value (.func Zcj)), #[.tmp 90, .tmp 91], #[Zl, Zd]⟩), none⟩,
 ⟨some 89, some (.move (.tmp 92)), none⟩,
 ⟨some 93, some (.extract (.tmp 89) 0), none⟩,
 ⟨some 94, some (.extract (.tmp 89) 1), none⟩,
 ⟨some 20, some (.assign (.tmp 93)), none⟩,
 ⟨some 21, some (.assign (.tmp 94)), none⟩])
  (.seq (.reg [] [⟨some 96, some (.move (.tmp 1)), none⟩,
 ⟨some 97, some (.call ⟨(.value (.func Zz)), #[(.tmp 96), (.const (.int .i64 99))], #[Zl, Zd]⟩), none⟩,
 ⟨some 95, some (.move (.tmp 97)), none⟩,
 ⟨some 98, some (.extract (.tmp 95) 0), none⟩,
 ⟨some 99, some (.extract (.tmp 95) 1), none⟩,
 ⟨some 22, some (.assign (.tmp 98)), none⟩,
 ⟨some 23, some (.assign (.tmp 99)), none⟩])
  (.seq (.reg [] [⟨some 100, some (.move (.tmp 15)), none⟩,
 ⟨some 101, some (.move (.tmp 17)), none⟩,
 ⟨some 102, some (.binOp .add Zd (.tmp 100) (.tmp 101) Zd), none⟩,
 ⟨some 103, some (.move (.tmp 21)), none⟩,
 ⟨some 104, some (.binOp .add Zd (.tmp 102) (.tmp 103) Zd), none⟩,
 ⟨some 105, some (.binOp .eql Zd (.tmp 104) (.const (.int .i64 0)) Zd), none⟩,
 ⟨some 106, some (.move (.tmp 105)), none⟩,
 ⟨some 107, some (.move (.tmp 23)), some (some 106, true)⟩,
 ⟨some 108, some (.binOp .eql Zd (.tmp 107) (.const (.int .i64 70)) Zd), some (some 106, true)⟩,
 ⟨some 109, some (.pick (.tmp 106) (.tmp 108) (.const (.bool false))), none⟩,
 ⟨some 110, some (.move (.tmp 109)), none⟩,
 ⟨some 111, some (.move (.tmp 14)), some (some 110, true)⟩,
 ⟨some 112, some (.move (.tmp 2)), some (some 110, true)⟩,
 ⟨some 113, some (.binOp .eql Zd (.tmp 111) (.tmp 112) Zd), some (some 110, true)⟩,
 ⟨some 114, some (.pick (.tmp 110) (.tmp 113) (.const (.bool false))), none⟩,
 ⟨some 115, some (.move (.tmp 114)), none⟩,
 ⟨some 116, some (.move (.tmp 19)), some (some 115, true)⟩,
 ⟨some 117, some (.pick (.tmp 115) (.tmp 116) (.const (.bool false))), none⟩,
 ⟨some 118, some (.move (.tmp 117)), none⟩,
 ⟨some 119, some (.fieldAddr Zc (.tmp 18) 0), some (some 118, true)⟩,
 ⟨some 120, some (.load Zd (.tmp 119)), some (some 118, true)⟩,
 ⟨some 121, some (.binOp .eql Zd (.tmp 120) (.const (.int .i64 1)) Zd), some (some 118, true)⟩,
 ⟨some 122, some (.pick (.tmp 118) (.tmp 121) (.const (.bool false))), none⟩,
 ⟨some 123, some (.move (.tmp 122)), none⟩,
 ⟨some 124, some (.fieldAddr Zc (.tmp 18) 7), some (some 123, true)⟩,
 ⟨some 125, some (.load Zb (.tmp 124)), some (some 123, true)⟩,
 ⟨some 126, some (.build Zb #[(1, (.const (.int .u64 1)))]), some (some 123, true)⟩,
 ⟨some 127, some (.binOp .eql Zb (.tmp 125) (.tmp 126) Zb), some (some 123, true)⟩,
 ⟨some 128, some (.pick (.tmp 123) (.tmp 127) (.const (.bool false))), none⟩,
 ⟨some 129, some (.move (.tmp 128)), none⟩,
 ⟨some 130, some (.move (.tmp 20)), some (some 129, true)⟩,
 ⟨some 131, some (.binOp .eql Zd (.tmp 130) (.const (.int .i64 5)) Zd), some (some 129, true)⟩,
 ⟨some 132, some (.pick (.tmp 129) (.tmp 131) (.const (.bool false))), none⟩,
 ⟨some 0, some (.assign (.tmp 132)), none⟩])
  .ret)))))))))))))))
theorem Zgr {H : AHeap} : R Zc5 [] H = fnK Try.prog [] H [(.tmp 0)] (evalL Try.prog KT R Zfn (Env.args [] 0) H) :=
  runs_body (D := DT) (f := Zc5) Try.func7 (by kernel_rfl) (by kernel_rfl) (by kernel_rfl) (by kernel_rfl) (by kernel_rfl) (Nat.le_of_ble_eq_true rfl)
def Zc0 : LCode := (.seq (.seq (.reg [] [⟨some 10, some (.move (.tmp 5)), none⟩,
 ⟨some 11, some (.move (.tmp 0)), none⟩,
 ⟨some 12, some (.call ⟨(.builtin .len), #[.tmp 11], #[Zs]⟩), none⟩,
 ⟨some 13, some (.binOp .lss Zd (.tmp 10) (.tmp 12) Zd), none⟩])
  (.cond (.tmp 13) .skip
  (.exit 0)))
  (.seq (.block 1 (.seq (.seq (.reg [] [⟨some 16, some (.move (.tmp 0)), none⟩,
 ⟨some 17, some (.move (.tmp 5)), none⟩,
 ⟨some 18, some (.indexAddr Zs (.tmp 16) (.tmp 17)), none⟩,
 ⟨some 19, some (.fieldAddr Zc (.tmp 18) 8), none⟩,
 ⟨some 20, some (.load Zd8 (.tmp 19)), none⟩,
 ⟨some 21, some (.call ⟨(.builtin .len), #[.tmp 20], #[Zd8]⟩), none⟩,
 ⟨some 22, some (.binOp .gtr Zd (.tmp 21) (.const (.int .i64 60)) Zd), none⟩])
  (.cond (.tmp 22) (.seq (.reg [] [⟨some 2, some (.assign (.const (.pointer none))), none⟩,
 ⟨some 3, some (.assign (.const (.bool false))), none⟩])
  .ret)
  .skip))
  (.reg [] [⟨some 23, some (.move (.tmp 4)), none⟩,
 ⟨some 24, some (.move (.tmp 0)), none⟩,
 ⟨some 25, some (.move (.tmp 5)), none⟩,
 ⟨some 26, some (.indexAddr Zs (.tmp 24) (.tmp 25)), none⟩,
 ⟨some 27, some (.load Zc (.tmp 26)), none⟩,
 ⟨some 28, some (.call ⟨(.value (.func Zn)), #[.tmp 23, .tmp 27], #[Zl, Zc]⟩), none⟩])))
  (.reg [] [⟨some 14, some (.move (.tmp 5)), none⟩,
 ⟨some 15, some (.binOp .add Zd (.tmp 14) (.const (.int .i64 1)) Zd), none⟩,
 ⟨some 5, some (.assign (.tmp 15)), none⟩])))
@[simp] theorem Zie : defs Zc0 = [10, 11, 12, 13, 16, 17, 18, 19, 20, 21, 22, 2, 3, 23, 24, 25, 26, 27, 28, 14, 15, 5] := by rfl
def Zey : LCode := (.seq (.reg [] [⟨some 2, some (.assign (.const (.pointer none))), none⟩,
 ⟨some 3, some (.assign (.const (.bool false))), none⟩])
  (.seq (.seq (.reg [] [⟨some 6, some (.move (.tmp 0)), none⟩,
 ⟨some 7, some (.call ⟨(.builtin .len), #[.tmp 6], #[Zs]⟩), none⟩,
 ⟨some 8, some (.binOp .gtr Zd (.tmp 7) (.const (.int .i64 60)) Zd), none⟩])
  (.cond (.tmp 8) (.seq (.reg [] [⟨some 2, some (.assign (.const (.pointer none))), none⟩,
 ⟨some 3, some (.assign (.const (.bool false))), none⟩])
  .ret)
  .skip))
  (.seq (.reg [] [⟨some 9, some (.call ⟨(.value (.func Zej)), #[(.const (.int .i64 4096))], #[Zd]⟩), none⟩,
 ⟨some 4, some (.assign (.tmp 9)), none⟩])
  (.seq (.seq (.reg [] [⟨some 5, some (.assign (.const (.int .i64 0))), none⟩])
  (.block 0 (.loop Zc0)))
  (.seq (.reg [] [⟨some 29, some (.move (.tmp 4)), none⟩,
 ⟨some 30, some (.move (.tmp 4)), none⟩,
 ⟨some 31, some (.call ⟨(.value (.func Zbr)), #[.tmp 30], #[Zl]⟩), none⟩,
 ⟨some 32, some (.binOp .gtr Zd (.tmp 31) (.const (.int .i64 0)) Zd), none⟩,
 ⟨some 2, some (.assign (.tmp 29)), none⟩,
 ⟨some 3, some (.assign (.tmp 32)), none⟩])
  .ret)))))
theorem Zg1 {a0 : AV} {H : AHeap} : R Zdc [a0] H = fnK Try.prog [] H [(.tmp 2), (.tmp 3)] (evalL Try.prog KT R Zey (Env.args [a0] 0) H) :=
  runs_body (D := DT) (f := Zdc) Try.func8 (by kernel_rfl) (by kernel_rfl) (by kernel_rfl) (by kernel_rfl) (by kernel_rfl) (Nat.le_of_ble_eq_true rfl)
def Zel : LCode := (.seq (.reg [] [⟨some 4, some (.assign (.const (.int .i64 0))), none⟩])
  (.seq (.reg [] [⟨some 5, some (.move (.tmp 0)), none⟩,
 ⟨some 6, some (.move (.tmp 1)), none⟩,
 ⟨some 7, some (.binOp .rem Zd (.tmp 5) (.tmp 6) Zd), none⟩,
 ⟨some 0, some (.assign (.tmp 7)), none⟩])
  (.seq (.seq (.reg [] [⟨some 8, some (.move (.tmp 0)), none⟩,
 ⟨some 9, some (.binOp .lss Zd (.tmp 8) (.const (.int .i64 0)) Zd), none⟩])
  (.cond (.tmp 9) (.reg [] [⟨some 10, some (.move (.tmp 0)), none⟩,
 ⟨some 11, some (.move (.tmp 1)), none⟩,
 ⟨some 12, some (.binOp .add Zd (.tmp 10) (.tmp 11) Zd), none⟩,
 ⟨some 0, some (.assign (.tmp 12)), none⟩])
  .skip))
  (.seq (.reg [] [⟨some 13, some (.move (.tmp 0)), none⟩,
 ⟨some 4, some (.assign (.tmp 13)), none⟩])
  .ret))))
theorem Zgs {a0 a1 : AV} {H : AHeap} : R Zdy [a0, a1] H = fnK Try.prog [] H [(.tmp 4)] (evalL Try.prog KT R Zel (Env.args [a0, a1] 0) H) :=
  runs_body (D := DT) (f := Zdy) Try.func9 (by kernel_rfl) (by kernel_rfl) (by kernel_rfl) (by kernel_rfl) (by kernel_rfl) (Nat.le_of_ble_eq_true rfl)
def Zei : LCode := (.seq (.reg [] [⟨some 2, some (.assign (.const (.int .i64 0))), none⟩])
  (.seq (.reg [] [⟨some 3, some (.move (.tmp 0)), none⟩,
 ⟨some 4, some (.nilCheck (.tmp 3)), none⟩,
 ⟨some 5, some (.fieldAddr Z0 (.tmp 4) 1), none⟩,
 ⟨some 6, some (.load Zs (.tmp 5)), none⟩,
 ⟨some 7, some (.call ⟨(.builtin .len), #[.tmp 6], #[Zs]⟩), none⟩,
 ⟨some 2, some (.assign (.tmp 7)), none⟩])
  .ret))
theorem Zfy {a0 : AV} {H : AHeap} : R Zbr [a0] H = fnK Try.prog [] H [(.tmp 2)] (evalL Try.prog KT R Zei (Env.args [a0] 0) H) :=
  runs_body (D := DT) (f := Zbr) Try.func10 (by kernel_rfl) (by kernel_rfl) (by kernel_rfl) (by kernel_rfl) (by kernel_rfl) (Nat.le_of_ble_eq_true rfl)
def Zcl : LCode := (.seq (.reg [] [⟨some 30, some (.binOp .lss Zd (.tmp 29) (.tmp 28) Zd), none⟩])
  (.seq (.cond (.tmp 30) .skip
  (.exit 0))
  (.seq (.block 1 (.seq (.reg [] [⟨some 31, some (.indexAddr Z7 (.tmp 27) (.tmp 29)), none⟩,
 ⟨some 32, some (.load Zd (.tmp 31)), none⟩,
 ⟨some 10, some (.assign (.tmp 32)), none⟩])
  (.seq (.reg [] [⟨some 34, some (.move (.tmp 0)), none⟩,
 ⟨some 35, some (.move (.tmp 10)), none⟩,
 ⟨some 36, some (.call ⟨(.value (.func Zo)), #[.tmp 34, .tmp 35], #[Zl, Zd]⟩), none⟩,
 ⟨some 33, some (.move (.tmp 36)), none⟩,
 ⟨some 37, some (.extract (.tmp 33) 0), none⟩,
 ⟨some 38, some (.extract (.tmp 33) 1), none⟩,
 ⟨some 11, some (.alloc Zc), none⟩,
 ⟨none, some (.store Zc (.tmp 11) (.tmp 37)), none⟩,
 ⟨some 12, some (.assign (.tmp 38)), none⟩])
  (.seq (.reg [10, 17, 22, 24, 1011] [⟨some 39, some (.move (.tmp 8)), none⟩,
 ⟨some 40, some (.nilCheck (.tmp 39)), none⟩,
 ⟨some 41, some (.fieldAddr Zq (.tmp 40) 1), none⟩,
 ⟨some 42, some (.load Zb8 (.tmp 41)), none⟩,
 ⟨some 43, some (.fieldAddr Zc (.tmp 11) 2), none⟩,
 ⟨some 44, some (.load Zd (.tmp 43)), none⟩,
 ⟨some 45, some (.lookup Zb8 (.tmp 42) (.tmp 44) false), none⟩,
 ⟨some 46, some (.move (.tmp 8)), none⟩,
 ⟨some 47, some (.nilCheck (.tmp 46)), none⟩,
 ⟨some 48, some (.fieldAddr Zq (.tmp 47) 1), none⟩,
 ⟨some 49, some (.load Zb8 (.tmp 48)), none⟩,
 ⟨some 50, some (.fieldAddr Zc (.tmp 11) 3), none⟩,
 ⟨some 51, some (.load Zd (.tmp 50)), none⟩,
 ⟨some 52, some (.lookup Zb8 (.tmp 49) (.tmp 51) false), none⟩,
 ⟨some 53, some (.move (.tmp 8)), none⟩,
 ⟨some 54, some (.nilCheck (.tmp 53)), none⟩,
 ⟨some 55, some (.fieldAddr Zq (.tmp 54) 1), none⟩,
 ⟨some 56, some (.load Zb8 (.tmp 55)), none⟩,
 ⟨some 57, some (.fieldAddr Zc (.tmp 11) 4), none⟩,
 ⟨some 58, some (.load Zd (.tmp 57)), none⟩,
 ⟨some 59, some (.lookup Zb8 (.tmp 56) (.tmp 58) false), none⟩,
 ⟨some 60, some (.fieldAddr Zc (.tmp 11) 2), none⟩,
 ⟨none, some (.store Zd (.tmp 60) (.tmp 45)), none⟩,
 ⟨some 61, some (.fieldAddr Zc (.tmp 11) 3), none⟩,
 ⟨none, some (.store Zd (.tmp 61) (.tmp 52)), none⟩,
 ⟨some 62, some (.fieldAddr Zc (.tmp 11) 4), none⟩,
 ⟨none, some (.store Zd (.tmp 62) (.tmp 59)), none⟩])
  (.seq (.reg [3, 7, 801, 997, 1008] [⟨some 63, some (.move (.tmp 8)), none⟩,
 ⟨some 64, some (.nilCheck (.tmp 63)), none⟩,
 ⟨some 65, some (.fieldAddr Zq (.tmp 64) 1), none⟩,
 ⟨some 66, some (.load Zb8 (.tmp 65)), none⟩,
 ⟨some 67, some (.move (.tmp 10)), none⟩,
 ⟨some 68, some (.move (.tmp 8)), none⟩,
 ⟨some 69, some (.load Zc (.tmp 11)), none⟩,
 ⟨some 70, some (.call ⟨(.value (.func Zj)), #[.tmp 68, .tmp 69], #[Zh, Zc]⟩), none⟩,
 ⟨none, some (.mapUpdate Zb8 (.tmp 66) (.tmp 67) (.tmp 70)), none⟩])
  (.seq (.reg [] [⟨some 71, some (.move (.tmp 8)), none⟩,
 ⟨some 72, some (.nilCheck (.tmp 71)), none⟩,
 ⟨some 73, some (.fieldAddr Zq (.tmp 72) 2), none⟩,
 ⟨some 74, some (.load Zba (.tmp 73)), none⟩,
 ⟨some 75, some (.binOp .neq Zba (.tmp 74) (.const (.int .i64 0)) Zba), none⟩])
  (.cond (.tmp 75) (.seq (.reg [] [⟨some 76, some (.move (.tmp 8)), none⟩,
 ⟨some 77, some (.nilCheck (.tmp 76)), none⟩,
 ⟨some 78, some (.fieldAddr Zq (.tmp 77) 2), none⟩,
 ⟨some 79, some (.load Zba (.tmp 78)), none⟩,
 ⟨some 4, some (.assign (.const (.int .i64 0))), none⟩,
 ⟨some 5, some (.assign (.tmp 79)), none⟩])
  .ret)
  .skip)))))))
  (.reg [] [⟨some 80, some (.binOp .add Zd (.tmp 29) (.const (.int .i64 1)) Zd), none⟩,
 ⟨some 29, some (.move (.tmp 80)), none⟩]))))
@[simp] theorem Zh1 : defs Zcl = [30, 31, 32, 10, 34, 35, 36, 33, 37, 38, 11, 12, 39, 40, 41, 42, 43, 44, 45, 46, 47, 48, 49, 50, 51, 52, 53, 54, 55, 56, 57, 58, 59, 60, 61, 62, 63, 64, 65, 66, 67, 68, 69, 70, 71, 72, 73, 74, 75, 76, 77, 78, 79, 4, 5, 80, 29] := by rfl
def Zdo : LCode := (.seq (.reg [] [⟨some 4, some (.assign (.const (.int .i64 0))), none⟩,
 ⟨some 5, some (.assign (.const (.int .i64 0))), none⟩])
  (.seq (.seq (.reg [] [⟨some 14, some (.move (.tmp 0)), none⟩,
 ⟨some 15, some (.move (.tmp 1)), none⟩,
 ⟨some 16, some (.call ⟨(.value (.func Zo)), #[.tmp 14, .tmp 15], #[Zl, Zd]⟩), none⟩,
 ⟨some 13, some (.move (.tmp 16)), none⟩,
 ⟨some 17, some (.extract (.tmp 13) 0), none⟩,
 ⟨some 18, some (.extract (.tmp 13) 1), none⟩,
 ⟨some 6, some (.alloc Zc), none⟩,
 ⟨none, some (.store Zc (.tmp 6) (.tmp 17)), none⟩,
 ⟨some 7, some (.assign (.tmp 18)), none⟩])
  (.seq (.reg [] [⟨some 19, some (.move (.tmp 7)), none⟩,
 ⟨some 20, some (.unOp .not Zbg (.tmp 19)), none⟩])
  (.cond (.tmp 20) (.seq (.reg [] [⟨some 4, some (.assign (.const (.int .i64 0))), none⟩,
 ⟨some 5, some (.assign (.const (.int .i64 70))), none⟩])
  .ret)
  .skip)))
  (.seq (.reg [] [⟨some 21, some (.move (.tmp 0)), none⟩,
 ⟨some 22, some (.makeMap Zb8 none), none⟩,
 ⟨some 23, some (.build Zq #[(0, (.tmp 21)), (1, (.tmp 22))]), none⟩,
 ⟨some 24, some (.box Zq (.tmp 23)), none⟩,
 ⟨some 8, some (.assign (.tmp 24)), none⟩])
  (.seq (.seq (.reg [] [⟨some 25, some (.move (.tmp 0)), none⟩,
 ⟨some 26, some (.move (.tmp 1)), none⟩,
 ⟨some 27, some (.call ⟨(.value (.func Zbb)), #[.tmp 25, .tmp 26], #[Zl, Zd]⟩), none⟩,
 ⟨some 28, some (.call ⟨(.builtin .len), #[.tmp 27], #[Z7]⟩), none⟩,
 ⟨some 29, some (.move (.const (.int .i64 0))), none⟩])
  (.block 0 (.loop Zcl)))
  (.seq (.reg [] [⟨some 81, some (.move (.tmp 8)), none⟩,
 ⟨some 82, some (.nilCheck (.tmp 81)), none⟩,
 ⟨some 83, some (.fieldAddr Zq (.tmp 82) 1), none⟩,
 ⟨some 84, some (.load Zb8 (.tmp 83)), none⟩,
 ⟨some 85, some (.move (.tmp 1)), none⟩,
 ⟨some 86, some (.lookup Zb8 (.tmp 84) (.tmp 85) false), none⟩,
 ⟨some 4, some (.assign (.tmp 86)), none⟩,
 ⟨some 5, some (.assign (.const (.int .i64 0))), none⟩])
  .ret)))))
theorem Zfi {a0 a1 : AV} {H : AHeap} : R Zz [a0, a1] H = fnK Try.prog [] H [(.tmp 4), (.tmp 5)] (evalL Try.prog KT R Zdo (Env.args [a0, a1] 0) H) :=
  runs_body (D := DT) (f := Zz) Try.func11 (by kernel_rfl) (by kernel_rfl) (by kernel_rfl) (by kernel_rfl) (by kernel_rfl) (Nat.le_of_ble_eq_true rfl)
def Zez : LCode := (.seq (.reg [] [⟨some 4, some (.assign (.const (.int .i64 0))), none⟩,
 ⟨some 5, some (.assign (.const (.int .i64 0))), none⟩])
  (.seq (.seq (.reg [] [⟨some 9, some (.move (.tmp 0)), none⟩,
 ⟨some 10, some (.move (.tmp 1)), none⟩,
 ⟨some 11, some (.call ⟨(.value (.func Zo)), #[.tmp 9, .tmp 10], #[Zl, Zd]⟩), none⟩,
 ⟨some 8, some (.move (.tmp 11)), none⟩,
 ⟨some 12, some (.extract (.tmp 8) 0), none⟩,
 ⟨some 13, some (.extract (.tmp 8) 1), none⟩,
 ⟨some 6, some (.alloc Zc), none⟩,
 ⟨none, some (.store Zc (.tmp 6) (.tmp 12)), none⟩,
 ⟨some 7, some (.assign (.tmp 13)), none⟩])
  (.seq (.reg [] [⟨some 14, some (.move (.tmp 7)), none⟩,
 ⟨some 15, some (.unOp .not Zbg (.tmp 14)), none⟩])
  (.cond (.tmp 15) (.seq (.reg [] [⟨some 4, some (.assign (.const (.int .i64 0))), none⟩,
 ⟨some 5, some (.assign (.const (.int .i64 70))), none⟩])
  .ret)
  .skip)))
  (.seq (.reg [] [⟨some 16, some (.move (.tmp 0)), none⟩,
 ⟨some 17, some (.move (.tmp 1)), none⟩,
 ⟨some 18, some (.call ⟨(.value (.func Zbb)), #[.tmp 16, .tmp 17], #[Zl, Zd]⟩), none⟩,
 ⟨some 19, some (.call ⟨(.builtin .len), #[.tmp 18], #[Z7]⟩), none⟩,
 ⟨some 4, some (.assign (.tmp 19)), none⟩,
 ⟨some 5, some (.assign (.const (.int .i64 0))), none⟩])
  .ret)))
theorem Zfw {a0 a1 : AV} {H : AHeap} : R Zcj [a0, a1] H = fnK Try.prog [] H [(.tmp 4), (.tmp 5)] (evalL Try.prog KT R Zez (Env.args [a0, a1] 0) H) :=
  runs_body (D := DT) (f := Zcj) Try.func12 (by kernel_rfl) (by kernel_rfl) (by kernel_rfl) (by kernel_rfl) (by kernel_rfl) (Nat.le_of_ble_eq_true rfl)
def Zb2 : LCode := (.seq (.seq (.reg [] [⟨some 29, some (.move (.tmp 7)), none⟩,
 ⟨some 30, some (.binOp .gtr Zd (.tmp 29) (.const (.int .i64 0)) Zd), none⟩])
  (.cond (.tmp 30) .skip
  (.exit 0)))
  (.seq (.block 1 (.seq (.seq (.reg [] [⟨some 33, some (.move (.tmp 5)), none⟩,
 ⟨some 34, some (.move (.tmp 7)), none⟩,
 ⟨some 35, some (.indexAddr Ze3 (.tmp 33) (.tmp 34)), none⟩,
 ⟨some 36, some (.load Zbg (.tmp 35)), none⟩,
 ⟨some 37, some (.unOp .not Zbg (.tmp 36)), none⟩])
  (.cond (.tmp 37) (.exit 1)
  .skip))
  (.seq (.reg [] [⟨some 38, some (.move (.tmp 6)), none⟩,
 ⟨some 39, some (.binOp .add Zd (.tmp 38) (.const (.int .i64 1)) Zd), none⟩,
 ⟨some 6, some (.assign (.tmp 39)), none⟩])
  (.seq (.reg [] [⟨some 40, some (.move (.tmp 0)), none⟩,
 ⟨some 41, some (.nilCheck (.tmp 40)), none⟩,
 ⟨some 42, some (.fieldAddr Z0 (.tmp 41) 1), none⟩,
 ⟨some 43, some (.load Zs (.tmp 42)), none⟩,
 ⟨some 44, some (.move (.tmp 7)), none⟩,
 ⟨some 45, some (.binOp .sub Zd (.tmp 44) (.const (.int .i64 1)) Zd), none⟩,
 ⟨some 46, some (.indexAddr Zs (.tmp 43) (.tmp 45)), none⟩,
 ⟨some 47, some (.load Zc (.tmp 46)), none⟩,
 ⟨some 8, some (.alloc Zc), none⟩,
 ⟨none, some (.store Zc (.tmp 8) (.tmp 47)), none⟩])
  (.reg [5, 8, 10, 12] [⟨some 48, some (.move (.tmp 5)), none⟩,
 ⟨some 49, some (.fieldAddr Zc (.tmp 8) 2), none⟩,
 ⟨some 50, some (.load Zd (.tmp 49)), none⟩,
 ⟨some 51, some (.move (.tmp 5)), none⟩,
 ⟨some 52, some (.fieldAddr Zc (.tmp 8) 3), none⟩,
 ⟨some 53, some (.load Zd (.tmp 52)), none⟩,
 ⟨some 54, some (.move (.tmp 5)), none⟩,
 ⟨some 55, some (.fieldAddr Zc (.tmp 8) 4), none⟩,
 ⟨some 56, some (.load Zd (.tmp 55)), none⟩,
 ⟨some 57, some (.indexAddr Ze3 (.tmp 48) (.tmp 50)), none⟩,
 ⟨none, some (.store Zbg (.tmp 57) (.const (.bool true))), none⟩,
 ⟨some 58, some (.indexAddr Ze3 (.tmp 51) (.tmp 53)), none⟩,
 ⟨none, some (.store Zbg (.tmp 58) (.const (.bool true))), none⟩,
 ⟨some 59, some (.indexAddr Ze3 (.tmp 54) (.tmp 56)), none⟩,
 ⟨none, some (.store Zbg (.tmp 59) (.const (.bool true))), none⟩])))))
  (.reg [] [⟨some 31, some (.move (.tmp 7)), none⟩,
 ⟨some 32, some (.binOp .sub Zd (.tmp 31) (.const (.int .i64 1)) Zd), none⟩,
 ⟨some 7, some (.assign (.tmp 32)), none⟩])))
def Zb3 : LCode := (.seq (.seq (.reg [] [⟨some 62, some (.move (.tmp 10)), none⟩,
 ⟨some 63, some (.move (.tmp 1)), none⟩,
 ⟨some 64, some (.binOp .leq Zd (.tmp 62) (.tmp 63) Zd), none⟩])
  (.cond (.tmp 64) .skip
  (.exit 2)))
  (.seq (.block 3 (.seq (.reg [] [⟨some 67, some (.move (.tmp 5)), none⟩,
 ⟨some 68, some (.move (.tmp 10)), none⟩,
 ⟨some 69, some (.indexAddr Ze3 (.tmp 67) (.tmp 68)), none⟩,
 ⟨some 70, some (.load Zbg (.tmp 69)), none⟩])
  (.cond (.tmp 70) (.reg [] [⟨some 71, some (.move (.tmp 9)), none⟩,
 ⟨some 72, some (.move (.tmp 10)), none⟩,
 ⟨some 73, some (.buildSlice Z7 1 #[(0, (.tmp 72))]), none⟩,
 ⟨some 74, some (.call ⟨(.builtin .append), #[.tmp 71, .tmp 73], #[Z7, Z7]⟩), none⟩,
 ⟨some 9, some (.assign (.tmp 74)), none⟩])
  .skip)))
  (.reg [] [⟨some 65, some (.move (.tmp 10)), none⟩,
 ⟨some 66, some (.binOp .add Zd (.tmp 65) (.const (.int .i64 1)) Zd), none⟩,
 ⟨some 10, some (.assign (.tmp 66)), none⟩])))
@[simp] theorem Zg8 : defs Zb2 = [29, 30, 33, 34, 35, 36, 37, 38, 39, 6, 40, 41, 42, 43, 44, 45, 46, 47, 8, 48, 49, 50, 51, 52, 53, 54, 55, 56, 57, 58, 59, 31, 32, 7] := by rfl
@[simp] theorem Zg9 : defs Zb3 = [62, 63, 64, 67, 68, 69, 70, 71, 72, 73, 74, 9, 65, 66, 10] := by rfl
def Zcn : LCode := (.seq (.reg [] [⟨some 4, some (.assign (.const (.slice none 0 0))), none⟩])
  (.seq (.seq (.reg [] [⟨some 11, some (.move (.tmp 1)), none⟩,
 ⟨some 12, some (.binOp .lss Zd (.tmp 11) (.const (.int .i64 1)) Zd), none⟩,
 ⟨some 13, some (.move (.tmp 12)), none⟩,
 ⟨some 14, some (.move (.tmp 1)), some (some 13, false)⟩,
 ⟨some 15, some (.move (.tmp 0)), some (some 13, false)⟩,
 ⟨some 16, some (.nilCheck (.tmp 15)), some (some 13, false)⟩,
 ⟨some 17, some (.fieldAddr Z0 (.tmp 16) 1), some (some 13, false)⟩,
 ⟨some 18, some (.load Zs (.tmp 17)), some (some 13, false)⟩,
 ⟨some 19, some (.call ⟨(.builtin .len), #[.tmp 18], #[Zs]⟩), some (some 13, false)⟩,
 ⟨some 20, some (.binOp .gtr Zd (.tmp 14) (.tmp 19) Zd), some (some 13, false)⟩,
 ⟨some 21, some (.pick (.tmp 13) (.const (.bool true)) (.tmp 20)), none⟩])
  (.cond (.tmp 21) (.seq (.reg [] [⟨some 4, some (.assign (.const (.slice none 0 0))), none⟩])
  .ret)
  .skip))
  (.seq (.reg [] [⟨some 22, some (.move (.tmp 1)), none⟩,
 ⟨some 23, some (.binOp .add Zd (.tmp 22) (.const (.int .i64 1)) Zd), none⟩,
 ⟨some 24, some (.makeSlice Ze3 (.tmp 23) (.tmp 23)), none⟩,
 ⟨some 5, some (.assign (.tmp 24)), none⟩])
  (.seq (.reg [] [⟨some 25, some (.move (.tmp 5)), none⟩,
 ⟨some 26, some (.move (.tmp 1)), none⟩,
 ⟨some 27, some (.indexAddr Ze3 (.tmp 25) (.tmp 26)), none⟩,
 ⟨none, some (.store Zbg (.tmp 27) (.const (.bool true))), none⟩])
  (.seq (.reg [] [⟨some 6, some (.assign (.const (.int .i64 0))), none⟩])
  (.seq (.seq (.reg [] [⟨some 28, some (.move (.tmp 1)), none⟩,
 ⟨some 7, some (.assign (.tmp 28)), none⟩])
  (.block 0 (.loop Zb2)))
  (.seq (.reg [] [⟨some 60, some (.move (.tmp 6)), none⟩,
 ⟨some 61, some (.makeSlice Z7 (.const (.int .i64 0)) (.tmp 60)), none⟩,
 ⟨some 9, some (.assign (.tmp 61)), none⟩])
  (.seq (.seq (.reg [] [⟨some 10, some (.assign (.const (.int .i64 1))), none⟩])
  (.block 2 (.loop Zb3)))
  (.seq (.reg [] [⟨some 75, some (.move (.tmp 9)), none⟩,
 ⟨some 4, some (.assign (.tmp 75)), none⟩])
  .ret)))))))))
theorem Zfs {a0 a1 : AV} {H : AHeap} : R Zbb [a0, a1] H = fnK Try.prog [0] H [(.tmp 4)] (evalL Try.prog KT R Zcn (Env.args [a0, a1] 0) H) :=
  runs_body (D := DT) (f := Zbb) Try.func13 (by kernel_rfl) (by kernel_rfl) (by kernel_rfl) (by kernel_rfl) (by kernel_rfl) (Nat.le_of_ble_eq_true rfl)
def Zc1 : LCode := (.seq (.seq (.reg [] [⟨some 13, some (.move (.tmp 7)), none⟩,
 ⟨some 14, some (.move (.tmp 6)), none⟩,
 ⟨some 15, some (.call ⟨(.builtin .len), #[.tmp 14], #[Z7]⟩), none⟩,
 ⟨some 16, some (.binOp .lss Zd (.tmp 13) (.tmp 15) Zd), none⟩])
  (.cond (.tmp 16) .skip
  (.exit 0)))
  (.seq (.block 1 (.seq (.reg [] [⟨some 20, some (.move (.tmp 0)), none⟩,
 ⟨some 21, some (.move (.tmp 6)), none⟩,
 ⟨some 22, some (.move (.tmp 7)), none⟩,
 ⟨some 23, some (.indexAddr Z7 (.tmp 21) (.tmp 22)), none⟩,
 ⟨some 24, some (.load Zd (.tmp 23)), none⟩,
 ⟨some 25, some (.call ⟨(.value (.func Zo)), #[.tmp 20, .tmp 24], #[Zl, Zd]⟩), none⟩,
 ⟨some 19, some (.move (.tmp 25)), none⟩,
 ⟨some 26, some (.extract (.tmp 19) 0), none⟩,
 ⟨some 27, some (.extract (.tmp 19) 1), none⟩,
 ⟨some 8, some (.alloc Zc), none⟩,
 ⟨none, some (.store Zc (.tmp 8) (.tmp 26)), none⟩,
 ⟨some 9, some (.assign (.tmp 27)), none⟩])
  (.seq (.reg [] [⟨some 28, some (.fieldAddr Zc (.tmp 8) 0), none⟩,
 ⟨some 29, some (.load Zd (.tmp 28)), none⟩,
 ⟨some 30, some (.binOp .eql Zd (.tmp 29) (.const (.int .i64 2)) Zd), none⟩])
  (.cond (.tmp 30) (.reg [] [⟨some 31, some (.move (.tmp 5)), none⟩,
 ⟨some 32, some (.move (.tmp 6)), none⟩,
 ⟨some 33, some (.move (.tmp 7)), none⟩,
 ⟨some 34, some (.indexAddr Z7 (.tmp 32) (.tmp 33)), none⟩,
 ⟨some 35, some (.load Zd (.tmp 34)), none⟩,
 ⟨some 36, some (.buildSlice Z7 1 #[(0, (.tmp 35))]), none⟩,
 ⟨some 37, some (.call ⟨(.builtin .append), #[.tmp 31, .tmp 36], #[Z7, Z7]⟩), none⟩,
 ⟨some 5, some (.assign (.tmp 37)), none⟩])
  .skip))))
  (.reg [] [⟨some 17, some (.move (.tmp 7)), none⟩,
 ⟨some 18, some (.binOp .add Zd (.tmp 17) (.const (.int .i64 1)) Zd), none⟩,
 ⟨some 7, some (.assign (.tmp 18)), none⟩])))
@[simp] theorem Zif : defs Zc1 = [13, 14, 15, 16, 20, 21, 22, 23, 24, 25, 19, 26, 27, 8, 9, 28, 29, 30, 31, 32, 33, 34, 35, 36, 37, 5, 17, 18, 7] := by rfl
def Zfx : LCode := (.seq (.reg [] [⟨some 4, some (.assign (.const (.slice none 0 0))), none⟩])
  (.seq (.reg [] [⟨some 5, some (.assign (.const (.slice none 0 0))), none⟩])
  (.seq (.reg [] [⟨some 10, some (.move (.tmp 0)), none⟩,
 ⟨some 11, some (.move (.tmp 1)), none⟩,
 ⟨some 12, some (.call ⟨(.value (.func Zbb)), #[.tmp 10, .tmp 11], #[Zl, Zd]⟩), none⟩,
 ⟨some 6, some (.assign (.tmp 12)), none⟩])
  (.seq (.seq (.reg [] [⟨some 7, some (.assign (.const (.int .i64 0))), none⟩])
  (.block 0 (.loop Zc1)))
  (.seq (.reg [] [⟨some 38, some (.move (.tmp 5)), none⟩,
 ⟨some 4, some (.assign (.tmp 38)), none⟩])
  .ret)))))
theorem Zg2 {a0 a1 : AV} {H : AHeap} : R Zck [a0, a1] H = fnK Try.prog [] H [(.tmp 4)] (evalL Try.prog KT R Zfx (Env.args [a0, a1] 0) H) :=
  runs_body (D := DT) (f := Zck) Try.func14 (by kernel_rfl) (by kernel_rfl) (by kernel_rfl) (by kernel_rfl) (by kernel_rfl) (Nat.le_of_ble_eq_true rfl)
def Zco : LCode := (.seq (.reg [] [⟨some 4, some (.alloc Zc), none⟩,
 ⟨some 5, some (.assign (.const (.bool false))), none⟩])
  (.seq (.seq (.reg [] [⟨some 6, some (.move (.tmp 1)), none⟩,
 ⟨some 7, some (.binOp .lss Zd (.tmp 6) (.const (.int .i64 1)) Zd), none⟩,
 ⟨some 8, some (.move (.tmp 7)), none⟩,
 ⟨some 9, some (.move (.tmp 1)), some (some 8, false)⟩,
 ⟨some 10, some (.move (.tmp 0)), some (some 8, false)⟩,
 ⟨some 11, some (.nilCheck (.tmp 10)), some (some 8, false)⟩,
 ⟨some 12, some (.fieldAddr Z0 (.tmp 11) 1), some (some 8, false)⟩,
 ⟨some 13, some (.load Zs (.tmp 12)), some (some 8, false)⟩,
 ⟨some 14, some (.call ⟨(.builtin .len), #[.tmp 13], #[Zs]⟩), some (some 8, false)⟩,
 ⟨some 15, some (.binOp .gtr Zd (.tmp 9) (.tmp 14) Zd), some (some 8, false)⟩,
 ⟨some 16, some (.pick (.tmp 8) (.const (.bool true)) (.tmp 15)), none⟩])
  (.cond (.tmp 16) (.seq (.reg [] [⟨some 17, some (.build Zc #[]), none⟩,
 ⟨none, some (.store Zc (.tmp 4) (.tmp 17)), none⟩,
 ⟨some 5, some (.assign (.const (.bool false))), none⟩])
  .ret)
  .skip))
  (.seq (.reg [] [⟨some 18, some (.move (.tmp 0)), none⟩,
 ⟨some 19, some (.nilCheck (.tmp 18)), none⟩,
 ⟨some 20, some (.fieldAddr Z0 (.tmp 19) 1), none⟩,
 ⟨some 21, some (.load Zs (.tmp 20)), none⟩,
 ⟨some 22, some (.move (.tmp 1)), none⟩,
 ⟨some 23, some (.binOp .sub Zd (.tmp 22) (.const (.int .i64 1)) Zd), none⟩,
 ⟨some 24, some (.indexAddr Zs (.tmp 21) (.tmp 23)), none⟩,
 ⟨some 25, some (.load Zc (.tmp 24)), none⟩,
 ⟨none, some (.store Zc (.tmp 4) (.tmp 25)), none⟩,
 ⟨some 5, some (.assign (.const (.bool true))), none⟩])
  .ret)))
theorem Zft {a0 a1 : AV} {H : AHeap} : R Zo [a0, a1] H = fnK Try.prog [] H [(.cell 4 Zc), (.tmp 5)] (evalL Try.prog KT R Zco (Env.args [a0, a1] 0) H) :=
  runs_body (D := DT) (f := Zo) Try.func15 (by kernel_rfl) (by kernel_rfl) (by kernel_rfl) (by kernel_rfl) (by kernel_rfl) (Nat.le_of_ble_eq_true rfl)
def Zby : LCode := (.seq (.reg [] [⟨some 3, some (.box Zc (.tmp 1)), none⟩,
 ⟨some 4, some (.assign (.const (.int .i64 0))), none⟩,
 ⟨some 5, some (.assign (.const (.int .i64 0))), none⟩])
  (.seq (.seq (.reg [] [⟨some 9, some (.move (.tmp 0)), none⟩,
 ⟨some 10, some (.load Zc (.tmp 3)), none⟩,
 ⟨some 11, some (.call ⟨(.value (.func Zcf)), #[.tmp 9, .tmp 10], #[Zl, Zc]⟩), none⟩,
 ⟨some 12, some (.unOp .not Zbg (.tmp 11)), none⟩])
  (.cond (.tmp 12) (.seq (.reg [] [⟨some 4, some (.assign (.const (.int .i64 0))), none⟩,
 ⟨some 5, some (.assign (.const (.int .i64 32))), none⟩])
  .ret)
  .skip))
  (.seq (.reg [] [⟨some 14, some (.move (.tmp 0)), none⟩,
 ⟨some 15, some (.load Zc (.tmp 3)), none⟩,
 ⟨some 16, some (.call ⟨(.value (.func Zcg)), #[.tmp 14, .tmp 15], #[Zl, Zc]⟩), none⟩,
 ⟨some 13, some (.move (.tmp 16)), none⟩,
 ⟨some 17, some (.extract (.tmp 13) 0), none⟩,
 ⟨some 18, some (.extract (.tmp 13) 1), none⟩,
 ⟨none, some (.store Zc (.tmp 3) (.tmp 17)), none⟩,
 ⟨some 6, some (.assign (.tmp 18)), none⟩])
  (.seq (.seq (.reg [] [⟨some 19, some (.move (.tmp 6)), none⟩,
 ⟨some 20, some (.binOp .neq Zba (.tmp 19) (.const (.int .i64 0)) Zba), none⟩])
  (.cond (.tmp 20) (.seq (.reg [] [⟨some 21, some (.move (.tmp 6)), none⟩,
 ⟨some 4, some (.assign (.const (.int .i64 0))), none⟩,
 ⟨some 5, some (.assign (.tmp 21)), none⟩])
  .ret)
  .skip))
  (.seq (.seq (.reg [] [⟨some 22, some (.move (.tmp 0)), none⟩,
 ⟨some 23, some (.nilCheck (.tmp 22)), none⟩,
 ⟨some 24, some (.fieldAddr Z0 (.tmp 23) 2), none⟩,
 ⟨some 25, some (.load Zcc (.tmp 24)), none⟩,
 ⟨some 26, some (.load Zc (.tmp 3)), none⟩,
 ⟨some 27, some (.lookup Zcc (.tmp 25) (.tmp 26) false), none⟩,
 ⟨some 7, some (.assign (.tmp 27)), none⟩])
  (.seq (.reg [] [⟨some 28, some (.move (.tmp 7)), none⟩,
 ⟨some 29, some (.binOp .gtr Zd (.tmp 28) (.const (.int .i64 0)) Zd), none⟩])
  (.cond (.tmp 29) (.seq (.reg [] [⟨some 30, some (.move (.tmp 7)), none⟩,
 ⟨some 4, some (.assign (.tmp 30)), none⟩,
 ⟨some 5, some (.assign (.const (.int .i64 0))), none⟩])
  .ret)
  .skip)))
  (.seq (.seq (.reg [] [⟨some 31, some (.move (.tmp 0)), none⟩,
 ⟨some 32, some (.nilCheck (.tmp 31)), none⟩,
 ⟨some 33, some (.fieldAddr Z0 (.tmp 32) 1), none⟩,
 ⟨some 34, some (.load Zs (.tmp 33)), none⟩,
 ⟨some 35, some (.call ⟨(.builtin .len), #[.tmp 34], #[Zs]⟩), none⟩,
 ⟨some 36, some (.move (.tmp 0)), none⟩,
 ⟨some 37, some (.nilCheck (.tmp 36)), none⟩,
 ⟨some 38, some (.fieldAddr Z0 (.tmp 37) 0), none⟩,
 ⟨some 39, some (.load Zd (.tmp 38)), none⟩,
 ⟨some 40, some (.binOp .geq Zd (.tmp 35) (.tmp 39) Zd), none⟩])
  (.cond (.tmp 40) (.seq (.reg [] [⟨some 4, some (.assign (.const (.int .i64 0))), none⟩,
 ⟨some 5, some (.assign (.const (.int .i64 33))), none⟩])
  .ret)
  .skip))
  (.seq (.reg [] [⟨some 41, some (.move (.tmp 0)), none⟩,
 ⟨some 42, some (.move (.tmp 0)), none⟩,
 ⟨some 43, some (.nilCheck (.tmp 42)), none⟩,
 ⟨some 44, some (.fieldAddr Z0 (.tmp 43) 1), none⟩,
 ⟨some 45, some (.load Zs (.tmp 44)), none⟩,
 ⟨some 46, some (.load Zc (.tmp 3)), none⟩,
 ⟨some 47, some (.buildSlice Zs 1 #[(0, (.tmp 46))]), none⟩,
 ⟨some 48, some (.call ⟨(.builtin .append), #[.tmp 45, .tmp 47], #[Zs, Zs]⟩), none⟩,
 ⟨some 49, some (.nilCheck (.tmp 41)), none⟩,
 ⟨some 50, some (.fieldAddr Z0 (.tmp 49) 1), none⟩,
 ⟨none, some (.store Zs (.tmp 50) (.tmp 48)), none⟩])
  (.seq (.reg [] [⟨some 51, some (.move (.tmp 0)), none⟩,
 ⟨some 52, some (.nilCheck (.tmp 51)), none⟩,
 ⟨some 53, some (.fieldAddr Z0 (.tmp 52) 1), none⟩,
 ⟨some 54, some (.load Zs (.tmp 53)), none⟩,
 ⟨some 55, some (.call ⟨(.builtin .len), #[.tmp 54], #[Zs]⟩), none⟩,
 ⟨some 8, some (.assign (.tmp 55)), none⟩])
  (.seq (.reg [] [⟨some 56, some (.move (.tmp 0)), none⟩,
 ⟨some 57, some (.nilCheck (.tmp 56)), none⟩,
 ⟨some 58, some (.fieldAddr Z0 (.tmp 57) 2), none⟩,
 ⟨some 59, some (.load Zcc (.tmp 58)), none⟩,
 ⟨some 60, some (.load Zc (.tmp 3)), none⟩,
 ⟨some 61, some (.move (.tmp 8)), none⟩,
 ⟨none, some (.mapUpdate Zcc (.tmp 59) (.tmp 60) (.tmp 61)), none⟩])
  (.seq (.seq (.reg [] [⟨some 62, some (.fieldAddr Zc (.tmp 3) 0), none⟩,
 ⟨some 63, some (.load Zd (.tmp 62)), none⟩,
 ⟨some 64, some (.binOp .eql Zd (.tmp 63) (.const (.int .i64 2)) Zd), none⟩])
  (.cond (.tmp 64) (.reg [] [⟨some 65, some (.move (.tmp 0)), none⟩,
 ⟨some 66, some (.nilCheck (.tmp 65)), none⟩,
 ⟨some 67, some (.fieldAddr Z0 (.tmp 66) 3), none⟩,
 ⟨some 68, some (.load Zcr (.tmp 67)), none⟩,
 ⟨some 69, some (.fieldAddr Zc (.tmp 3) 8), none⟩,
 ⟨some 70, some (.load Zd8 (.tmp 69)), none⟩,
 ⟨some 71, some (.move (.tmp 8)), none⟩,
 ⟨none, some (.mapUpdate Zcr (.tmp 68) (.tmp 70) (.tmp 71)), none⟩])
  .skip))
  (.seq (.reg [] [⟨some 72, some (.move (.tmp 8)), none⟩,
 ⟨some 4, some (.assign (.tmp 72)), none⟩,
 ⟨some 5, some (.assign (.const (.int .i64 0))), none⟩])
  .ret)))))))))))
theorem Zfu {a0 a1 : AV} {H : AHeap} : R Zn [a0, a1] H = fnK Try.prog [] H [(.tmp 4), (.tmp 5)] (evalL Try.prog KT R Zby (Env.args [a0, a1] 0) H) :=
  runs_body (D := DT) (f := Zn) Try.func19 (by kernel_rfl) (by kernel_rfl) (by kernel_rfl) (by kernel_rfl) (by kernel_rfl) (Nat.le_of_ble_eq_true rfl)
def Zhs : LCode := (.seq (.reg [] [⟨some 2, some (.assign (.const (.pointer none))), none⟩])
  (.seq (.reg [] [⟨some 3, some (.move (.tmp 0)), none⟩,
 ⟨some 4, some (.call ⟨(.builtin .max), #[(.tmp 3), (.const (.int .i64 1))], #[Zd, Zd]⟩), none⟩,
 ⟨some 5, some (.call ⟨(.builtin .min), #[(.tmp 4), (.const (.int .i64 4096))], #[Zd, Zd]⟩), none⟩,
 ⟨some 6, some (.makeMap Zcc none), none⟩,
 ⟨some 7, some (.makeMap Zcr none), none⟩,
 ⟨some 8, some (.build Z0 #[(0, (.tmp 5)), (2, (.tmp 6)), (3, (.tmp 7))]), none⟩,
 ⟨some 9, some (.box Z0 (.tmp 8)), none⟩,
 ⟨some 2, some (.assign (.tmp 9)), none⟩])
  .ret))
theorem Zio {a0 : AV} {H : AHeap} : R Zej [a0] H = fnK Try.prog [] H [(.tmp 2)] (evalL Try.prog KT R Zhs (Env.args [a0] 0) H) :=
  runs_body (D := DT) (f := Zej) Try.func26 (by kernel_rfl) (by kernel_rfl) (by kernel_rfl) (by kernel_rfl) (by kernel_rfl) (Nat.le_of_ble_eq_true rfl)
def Zbm : LCode := (.seq (.reg [] [⟨some 3, some (.box Zc (.tmp 1)), none⟩,
 ⟨some 4, some (.assign (.const (.int .i64 0))), none⟩])
  (.seq (.seq (.reg [] [⟨some 5, some (.move (.tmp 0)), none⟩,
 ⟨some 6, some (.nilCheck (.tmp 5)), none⟩,
 ⟨some 7, some (.fieldAddr Zq (.tmp 6) 2), none⟩,
 ⟨some 8, some (.load Zba (.tmp 7)), none⟩,
 ⟨some 9, some (.binOp .neq Zba (.tmp 8) (.const (.int .i64 0)) Zba), none⟩])
  (.cond (.tmp 9) (.seq (.reg [] [⟨some 4, some (.assign (.const (.int .i64 0))), none⟩])
  .ret)
  .skip))
  (.seq (.seq (.reg [] [⟨some 10, some (.fieldAddr Zc (.tmp 3) 0), none⟩,
 ⟨some 11, some (.load Zd (.tmp 10)), none⟩,
 ⟨some 12, some (.call ⟨(.value (.func Zdr)), #[.tmp 11], #[Zd]⟩), none⟩])
  (.block 0 (.seq (.reg [] [⟨some 14, some (.binOp .eql Zd (.tmp 12) (.const (.int .i64 0)) Zd), none⟩,
 ⟨some 13, some (.assign (.tmp 14)), none⟩])
  (.cond (.tmp 13) (.seq (.reg [] [⟨some 15, some (.move (.tmp 0)), none⟩,
 ⟨some 16, some (.load Zc (.tmp 3)), none⟩,
 ⟨some 17, some (.call ⟨(.value (.func Zf)), #[.tmp 15, .tmp 16], #[Zh, Zc]⟩), none⟩,
 ⟨some 4, some (.assign (.tmp 17)), none⟩])
  .ret)
  (.seq (.reg [] [⟨some 19, some (.binOp .eql Zd (.tmp 12) (.const (.int .i64 1)) Zd), none⟩,
 ⟨some 18, some (.assign (.tmp 19)), none⟩])
  (.cond (.tmp 18) (.seq (.reg [] [⟨some 20, some (.move (.tmp 0)), none⟩,
 ⟨some 21, some (.load Zc (.tmp 3)), none⟩,
 ⟨some 22, some (.call ⟨(.value (.func Zbe)), #[.tmp 20, .tmp 21], #[Zh, Zc]⟩), none⟩,
 ⟨some 4, some (.assign (.tmp 22)), none⟩])
  .ret)
  (.seq (.reg [] [⟨some 24, some (.binOp .eql Zd (.tmp 12) (.const (.int .i64 3)) Zd), none⟩,
 ⟨some 23, some (.assign (.tmp 24)), none⟩])
  (.cond (.tmp 23) (.seq (.reg [] [⟨some 25, some (.move (.tmp 0)), none⟩,
 ⟨some 26, some (.load Zc (.tmp 3)), none⟩,
 ⟨some 27, some (.call ⟨(.value (.func Zbh)), #[.tmp 25, .tmp 26], #[Zh, Zc]⟩), none⟩,
 ⟨some 4, some (.assign (.tmp 27)), none⟩])
  .ret)
  .skip))))))))
  (.seq (.reg [] [⟨some 28, some (.move (.tmp 0)), none⟩,
 ⟨some 29, some (.load Zc (.tmp 3)), none⟩,
 ⟨some 30, some (.call ⟨(.value (.func Zbo)), #[.tmp 28, .tmp 29], #[Zh, Zc]⟩), none⟩,
 ⟨some 4, some (.assign (.tmp 30)), none⟩])
  .ret))))
theorem Zdu {a0 a1 : AV} {H : AHeap} : R Zj [a0, a1] H = fnK Try.prog [] H [(.tmp 4)] (evalL Try.prog KT R Zbm (Env.args [a0, a1] 0) H) :=
  runs_body (D := DT) (f := Zj) Try.func27 (by kernel_rfl) (by kernel_rfl) (by kernel_rfl) (by kernel_rfl) (by kernel_rfl) (Nat.le_of_ble_eq_true rfl)
def Zbu : LCode := (.seq (.reg [] [⟨some 19, some (.binOp .lss Zd (.tmp 18) (.const (.int .i64 3)) Zd), none⟩])
  (.seq (.cond (.tmp 19) .skip
  (.exit 0))
  (.seq (.block 1 (.seq (.reg [] [⟨some 20, some (.move (.tmp 18)), none⟩,
 ⟨some 21, some (.index Zed (.tmp 17) (.tmp 18)), none⟩,
 ⟨some 6, some (.assign (.tmp 20)), none⟩,
 ⟨some 7, some (.assign (.tmp 21)), none⟩])
  (.seq (.reg [] [⟨some 22, some (.move (.tmp 6)), none⟩,
 ⟨some 23, some (.move (.tmp 5)), none⟩,
 ⟨some 24, some (.binOp .lss Zd (.tmp 22) (.tmp 23) Zd), none⟩,
 ⟨some 25, some (.move (.tmp 24)), none⟩,
 ⟨some 26, some (.move (.tmp 7)), some (some 25, true)⟩,
 ⟨some 27, some (.binOp .lss Zd (.tmp 26) (.const (.int .i64 1)) Zd), some (some 25, true)⟩,
 ⟨some 28, some (.move (.tmp 27)), some (some 25, true)⟩,
 ⟨some 29, some (.move (.tmp 7)), some (some 28, false)⟩,
 ⟨some 30, some (.move (.tmp 0)), some (some 28, false)⟩,
 ⟨some 31, some (.nilCheck (.tmp 30)), some (some 28, false)⟩,
 ⟨some 32, some (.fieldAddr Z0 (.tmp 31) 1), some (some 28, false)⟩,
 ⟨some 33, some (.load Zs (.tmp 32)), some (some 28, false)⟩,
 ⟨some 34, some (.call ⟨(.builtin .len), #[.tmp 33], #[Zs]⟩), some (some 28, false)⟩,
 ⟨some 35, some (.binOp .gtr Zd (.tmp 29) (.tmp 34) Zd), some (some 28, false)⟩,
 ⟨some 36, some (.pick (.tmp 28) (.const (.bool true)) (.tmp 35)), some (some 25, true)⟩,
 ⟨some 37, some (.pick (.tmp 25) (.tmp 36) (.const (.bool false))), none⟩,
 ⟨some 38, some (.move (.tmp 37)), none⟩,
 ⟨some 39, some (.move (.tmp 6)), some (some 38, false)⟩,
 ⟨some 40, some (.move (.tmp 5)), some (some 38, false)⟩,
 ⟨some 41, some (.binOp .geq Zd (.tmp 39) (.tmp 40) Zd), some (some 38, false)⟩,
 ⟨some 42, some (.move (.tmp 41)), some (some 38, false)⟩,
 ⟨some 43, some (.move (.tmp 7)), some (some 42, true)⟩,
 ⟨some 44, some (.binOp .neq Zd (.tmp 43) (.const (.int .i64 0)) Zd), some (some 42, true)⟩,
 ⟨some 45, some (.pick (.tmp 42) (.tmp 44) (.const (.bool false))), some (some 38, false)⟩,
 ⟨some 46, some (.pick (.tmp 38) (.const (.bool true)) (.tmp 45)), none⟩])
  (.cond (.tmp 46) (.seq (.reg [] [⟨some 4, some (.assign (.const (.bool false))), none⟩])
  .ret)
  .skip))))
  (.reg [] [⟨some 47, some (.binOp .add Zd (.tmp 18) (.const (.int .i64 1)) Zd), none⟩,
 ⟨some 18, some (.move (.tmp 47)), none⟩]))))
@[simp] theorem Zg3 : defs Zbu = [19, 20, 21, 6, 7, 22, 23, 24, 25, 26, 27, 28, 29, 30, 31, 32, 33, 34, 35, 36, 37, 38, 39, 40, 41, 42, 43, 44, 45, 46, 4, 47, 18] := by rfl
def Zd6 : LCode := (.seq (.reg [] [⟨some 3, some (.box Zc (.tmp 1)), none⟩,
 ⟨some 4, some (.assign (.const (.bool false))), none⟩])
  (.seq (.reg [] [⟨some 8, some (.fieldAddr Zc (.tmp 3) 0), none⟩,
 ⟨some 9, some (.load Zd (.tmp 8)), none⟩,
 ⟨some 10, some (.call ⟨(.value (.func Zdr)), #[.tmp 9], #[Zd]⟩), none⟩,
 ⟨some 5, some (.assign (.tmp 10)), none⟩])
  (.seq (.seq (.reg [] [⟨some 11, some (.fieldAddr Zc (.tmp 3) 2), none⟩,
 ⟨some 12, some (.load Zd (.tmp 11)), none⟩,
 ⟨some 13, some (.fieldAddr Zc (.tmp 3) 3), none⟩,
 ⟨some 14, some (.load Zd (.tmp 13)), none⟩,
 ⟨some 15, some (.fieldAddr Zc (.tmp 3) 4), none⟩,
 ⟨some 16, some (.load Zd (.tmp 15)), none⟩,
 ⟨some 17, some (.build Zed #[(0, (.tmp 12)), (1, (.tmp 14)), (2, (.tmp 16))]), none⟩,
 ⟨some 18, some (.move (.const (.int .i64 0))), none⟩])
  (.block 0 (.loop Zbu)))
  (.seq (.reg [] [⟨some 48, some (.move (.tmp 5)), none⟩,
 ⟨some 49, some (.binOp .geq Zd (.tmp 48) (.const (.int .i64 0)) Zd), none⟩,
 ⟨some 50, some (.move (.tmp 49)), none⟩,
 ⟨some 51, some (.fieldAddr Zc (.tmp 3) 0), some (some 50, true)⟩,
 ⟨some 52, some (.load Zd (.tmp 51)), some (some 50, true)⟩,
 ⟨some 53, some (.binOp .eql Zd (.tmp 52) (.const (.int .i64 1)) Zd), some (some 50, true)⟩,
 ⟨some 54, some (.move (.tmp 53)), some (some 50, true)⟩,
 ⟨some 55, some (.fieldAddr Zc (.tmp 3) 7), some (some 54, false)⟩,
 ⟨some 56, some (.load Zb (.tmp 55)), some (some 54, false)⟩,
 ⟨some 57, some (.build Zb #[]), some (some 54, false)⟩,
 ⟨some 58, some (.binOp .eql Zb (.tmp 56) (.tmp 57) Zb), some (some 54, false)⟩,
 ⟨some 59, some (.pick (.tmp 54) (.const (.bool true)) (.tmp 58)), some (some 50, true)⟩,
 ⟨some 60, some (.pick (.tmp 50) (.tmp 59) (.const (.bool false))), none⟩,
 ⟨some 61, some (.move (.tmp 60)), none⟩,
 ⟨some 62, some (.fieldAddr Zc (.tmp 3) 0), some (some 61, true)⟩,
 ⟨some 63, some (.load Zd (.tmp 62)), some (some 61, true)⟩,
 ⟨some 64, some (.binOp .eql Zd (.tmp 63) (.const (.int .i64 2)) Zd), some (some 61, true)⟩,
 ⟨some 65, some (.move (.tmp 64)), some (some 61, true)⟩,
 ⟨some 66, some (.fieldAddr Zc (.tmp 3) 8), some (some 65, false)⟩,
 ⟨some 67, some (.load Zd8 (.tmp 66)), some (some 65, false)⟩,
 ⟨some 68, some (.binOp .eql Zd8 (.tmp 67) (.const (.string { data := #[] })) Zd8), some (some 65, false)⟩,
 ⟨some 69, some (.pick (.tmp 65) (.const (.bool true)) (.tmp 68)), some (some 61, true)⟩,
 ⟨some 70, some (.pick (.tmp 61) (.tmp 69) (.const (.bool false))), none⟩,
 ⟨some 4, some (.assign (.tmp 70)), none⟩])
  .ret))))
theorem Zfj {a0 a1 : AV} {H : AHeap} : R Zcf [a0, a1] H = fnK Try.prog [] H [(.tmp 4)] (evalL Try.prog KT R Zd6 (Env.args [a0, a1] 0) H) :=
  runs_body (D := DT) (f := Zcf) Try.func28 (by kernel_rfl) (by kernel_rfl) (by kernel_rfl) (by kernel_rfl) (by kernel_rfl) (Nat.le_of_ble_eq_true rfl)
def Zbv : LCode := (.seq (.reg [] [⟨some 94, some (.binOp .lss Zd (.tmp 93) (.const (.int .i64 3)) Zd), none⟩])
  (.seq (.cond (.tmp 94) .skip
  (.exit 1))
  (.seq (.block 2 (.seq (.reg [] [⟨some 95, some (.index Zed (.tmp 92) (.tmp 93)), none⟩,
 ⟨some 9, some (.assign (.tmp 95)), none⟩])
  (.seq (.reg [] [⟨some 96, some (.move (.tmp 9)), none⟩,
 ⟨some 97, some (.binOp .gtr Zd (.tmp 96) (.const (.int .i64 0)) Zd), none⟩])
  (.cond (.tmp 97) (.reg [] [⟨some 98, some (.move (.tmp 7)), none⟩,
 ⟨some 99, some (.move (.tmp 0)), none⟩,
 ⟨some 100, some (.nilCheck (.tmp 99)), none⟩,
 ⟨some 101, some (.fieldAddr Z0 (.tmp 100) 1), none⟩,
 ⟨some 102, some (.load Zs (.tmp 101)), none⟩,
 ⟨some 103, some (.move (.tmp 9)), none⟩,
 ⟨some 104, some (.binOp .sub Zd (.tmp 103) (.const (.int .i64 1)) Zd), none⟩,
 ⟨some 105, some (.indexAddr Zs (.tmp 102) (.tmp 104)), none⟩,
 ⟨some 106, some (.fieldAddr Zc (.tmp 105) 1), none⟩,
 ⟨some 107, some (.load Zd (.tmp 106)), none⟩,
 ⟨some 108, some (.buildSlice Z7 1 #[(0, (.tmp 107))]), none⟩,
 ⟨some 109, some (.call ⟨(.builtin .append), #[.tmp 98, .tmp 108], #[Z7, Z7]⟩), none⟩,
 ⟨some 7, some (.assign (.tmp 109)), none⟩])
  .skip))))
  (.reg [] [⟨some 110, some (.binOp .add Zd (.tmp 93) (.const (.int .i64 1)) Zd), none⟩,
 ⟨some 93, some (.move (.tmp 110)), none⟩]))))
@[simp] theorem Zg4 : defs Zbv = [94, 95, 9, 96, 97, 98, 99, 100, 101, 102, 103, 104, 105, 106, 107, 108, 109, 7, 110, 93] := by rfl
def Zr : LCode := (.seq (.reg [] [⟨some 3, some (.box Zc (.tmp 1)), none⟩,
 ⟨some 4, some (.alloc Zc), none⟩,
 ⟨some 5, some (.assign (.const (.int .i64 0))), none⟩])
  (.seq (.seq (.reg [] [⟨some 11, some (.fieldAddr Zc (.tmp 3) 0), none⟩,
 ⟨some 12, some (.load Zd (.tmp 11)), none⟩])
  (.block 0 (.seq (.reg [] [⟨some 14, some (.binOp .eql Zd (.tmp 12) (.const (.int .i64 1)) Zd), none⟩,
 ⟨some 13, some (.assign (.tmp 14)), none⟩])
  (.cond (.tmp 13) (.seq (.seq (.reg [] [⟨some 15, some (.fieldAddr Zc (.tmp 3) 7), none⟩,
 ⟨some 16, some (.load Zb (.tmp 15)), none⟩,
 ⟨some 17, some (.call ⟨(.value (.func Zdz)), #[.tmp 16], #[Zb]⟩), none⟩,
 ⟨some 18, some (.unOp .not Zbg (.tmp 17)), none⟩,
 ⟨some 19, some (.move (.tmp 18)), none⟩,
 ⟨some 20, some (.fieldAddr Zc (.tmp 3) 7), some (some 19, false)⟩,
 ⟨some 21, some (.fieldAddr Zb (.tmp 20) 0), some (some 19, false)⟩,
 ⟨some 22, some (.load Zd (.tmp 21)), some (some 19, false)⟩,
 ⟨some 23, some (.fieldAddr Zc (.tmp 3) 1), some (some 19, false)⟩,
 ⟨some 24, some (.load Zd (.tmp 23)), some (some 19, false)⟩,
 ⟨some 25, some (.binOp .neq Zd (.tmp 22) (.tmp 24) Zd), some (some 19, false)⟩,
 ⟨some 26, some (.pick (.tmp 19) (.const (.bool true)) (.tmp 25)), none⟩,
 ⟨some 27, some (.move (.tmp 26)), none⟩,
 ⟨some 28, some (.fieldAddr Zc (.tmp 3) 5), some (some 27, false)⟩,
 ⟨some 29, some (.load Zd (.tmp 28)), some (some 27, false)⟩,
 ⟨some 30, some (.binOp .neq Zd (.tmp 29) (.const (.int .i64 0)) Zd), some (some 27, false)⟩,
 ⟨some 31, some (.pick (.tmp 27) (.const (.bool true)) (.tmp 30)), none⟩,
 ⟨some 32, some (.move (.tmp 31)), none⟩,
 ⟨some 33, some (.fieldAddr Zc (.tmp 3) 6), some (some 32, false)⟩,
 ⟨some 34, some (.load Zd (.tmp 33)), some (some 32, false)⟩,
 ⟨some 35, some (.binOp .neq Zd (.tmp 34) (.const (.int .i64 0)) Zd), some (some 32, false)⟩,
 ⟨some 36, some (.pick (.tmp 32) (.const (.bool true)) (.tmp 35)), none⟩])
  (.cond (.tmp 36) (.seq (.reg [] [⟨some 37, some (.load Zc (.tmp 3)), none⟩,
 ⟨none, some (.store Zc (.tmp 4) (.tmp 37)), none⟩,
 ⟨some 5, some (.assign (.const (.int .i64 30))), none⟩])
  .ret)
  .skip))
  (.seq (.reg [] [⟨some 38, some (.load Zc (.tmp 3)), none⟩,
 ⟨none, some (.store Zc (.tmp 4) (.tmp 38)), none⟩,
 ⟨some 5, some (.assign (.const (.int .i64 0))), none⟩])
  .ret))
  (.seq (.reg [] [⟨some 40, some (.binOp .eql Zd (.tmp 12) (.const (.int .i64 2)) Zd), none⟩,
 ⟨some 39, some (.assign (.tmp 40)), none⟩])
  (.cond (.tmp 39) (.seq (.seq (.reg [] [⟨some 41, some (.fieldAddr Zc (.tmp 3) 1), none⟩,
 ⟨some 42, some (.load Zd (.tmp 41)), none⟩,
 ⟨some 43, some (.call ⟨(.value (.func Ze9)), #[.tmp 42], #[Zd]⟩), none⟩,
 ⟨some 44, some (.unOp .not Zbg (.tmp 43)), none⟩,
 ⟨some 45, some (.move (.tmp 44)), none⟩,
 ⟨some 46, some (.fieldAddr Zc (.tmp 3) 5), some (some 45, false)⟩,
 ⟨some 47, some (.load Zd (.tmp 46)), some (some 45, false)⟩,
 ⟨some 48, some (.binOp .neq Zd (.tmp 47) (.const (.int .i64 0)) Zd), some (some 45, false)⟩,
 ⟨some 49, some (.pick (.tmp 45) (.const (.bool true)) (.tmp 48)), none⟩,
 ⟨some 50, some (.move (.tmp 49)), none⟩,
 ⟨some 51, some (.fieldAddr Zc (.tmp 3) 6), some (some 50, false)⟩,
 ⟨some 52, some (.load Zd (.tmp 51)), some (some 50, false)⟩,
 ⟨some 53, some (.binOp .neq Zd (.tmp 52) (.const (.int .i64 0)) Zd), some (some 50, false)⟩,
 ⟨some 54, some (.pick (.tmp 50) (.const (.bool true)) (.tmp 53)), none⟩])
  (.cond (.tmp 54) (.seq (.reg [] [⟨some 55, some (.load Zc (.tmp 3)), none⟩,
 ⟨none, some (.store Zc (.tmp 4) (.tmp 55)), none⟩,
 ⟨some 5, some (.assign (.const (.int .i64 30))), none⟩])
  .ret)
  .skip))
  (.seq (.seq (.reg [] [⟨some 56, some (.move (.tmp 0)), none⟩,
 ⟨some 57, some (.nilCheck (.tmp 56)), none⟩,
 ⟨some 58, some (.fieldAddr Z0 (.tmp 57) 3), none⟩,
 ⟨some 59, some (.load Zcr (.tmp 58)), none⟩,
 ⟨some 60, some (.fieldAddr Zc (.tmp 3) 8), none⟩,
 ⟨some 61, some (.load Zd8 (.tmp 60)), none⟩,
 ⟨some 62, some (.lookup Zcr (.tmp 59) (.tmp 61) false), none⟩,
 ⟨some 6, some (.assign (.tmp 62)), none⟩])
  (.seq (.reg [] [⟨some 63, some (.fieldAddr Zc (.tmp 3) 8), none⟩,
 ⟨some 64, some (.load Zd8 (.tmp 63)), none⟩,
 ⟨some 65, some (.binOp .eql Zd8 (.tmp 64) (.const (.string { data := #[] })) Zd8), none⟩,
 ⟨some 66, some (.move (.tmp 65)), none⟩,
 ⟨some 67, some (.move (.tmp 6)), some (some 66, false)⟩,
 ⟨some 68, some (.binOp .gtr Zd (.tmp 67) (.const (.int .i64 0)) Zd), some (some 66, false)⟩,
 ⟨some 69, some (.move (.tmp 68)), some (some 66, false)⟩,
 ⟨some 70, some (.move (.tmp 0)), some (some 69, true)⟩,
 ⟨some 71, some (.nilCheck (.tmp 70)), some (some 69, true)⟩,
 ⟨some 72, some (.fieldAddr Z0 (.tmp 71) 1), some (some 69, true)⟩,
 ⟨some 73, some (.load Zs (.tmp 72)), some (some 69, true)⟩,
 ⟨some 74, some (.move (.tmp 6)), some (some 69, true)⟩,
 ⟨some 75, some (.binOp .sub Zd (.tmp 74) (.const (.int .i64 1)) Zd), some (some 69, true)⟩,
 ⟨some 76, some (.indexAddr Zs (.tmp 73) (.tmp 75)), some (some 69, true)⟩,
 ⟨some 77, some (.fieldAddr Zc (.tmp 76) 1), some (some 69, true)⟩,
 ⟨some 78, some (.load Zd (.tmp 77)), some (some 69, true)⟩,
 ⟨some 79, some (.fieldAddr Zc (.tmp 3) 1), some (some 69, true)⟩,
 ⟨some 80, some (.load Zd (.tmp 79)), some (some 69, true)⟩,
 ⟨some 81, some (.binOp .neq Zd (.tmp 78) (.tmp 80) Zd), some (some 69, true)⟩,
 ⟨some 82, some (.pick (.tmp 69) (.tmp 81) (.const (.bool false))), some (some 66, false)⟩,
 ⟨some 83, some (.pick (.tmp 66) (.const (.bool true)) (.tmp 82)), none⟩])
  (.cond (.tmp 83) (.seq (.reg [] [⟨some 84, some (.load Zc (.tmp 3)), none⟩,
 ⟨none, some (.store Zc (.tmp 4) (.tmp 84)), none⟩,
 ⟨some 5, some (.assign (.const (.int .i64 34))), none⟩])
  .ret)
  .skip)))
  (.seq (.reg [] [⟨some 85, some (.load Zc (.tmp 3)), none⟩,
 ⟨none, some (.store Zc (.tmp 4) (.tmp 85)), none⟩,
 ⟨some 5, some (.assign (.const (.int .i64 0))), none⟩])
  .ret)))
  .skip))))))
  (.seq (.reg [] [⟨some 7, some (.assign (.const (.slice none 0 0))), none⟩])
  (.seq (.seq (.reg [] [⟨some 86, some (.fieldAddr Zc (.tmp 3) 2), none⟩,
 ⟨some 87, some (.load Zd (.tmp 86)), none⟩,
 ⟨some 88, some (.fieldAddr Zc (.tmp 3) 3), none⟩,
 ⟨some 89, some (.load Zd (.tmp 88)), none⟩,
 ⟨some 90, some (.fieldAddr Zc (.tmp 3) 4), none⟩,
 ⟨some 91, some (.load Zd (.tmp 90)), none⟩,
 ⟨some 92, some (.build Zed #[(0, (.tmp 87)), (1, (.tmp 89)), (2, (.tmp 91))]), none⟩,
 ⟨some 93, some (.move (.const (.int .i64 0))), none⟩])
  (.block 1 (.loop Zbv)))
  (.seq (.reg [] [⟨some 10, some (.assign (.const (.int .i64 0))), none⟩])
  (.seq (.reg [] [⟨some 112, some (.fieldAddr Zc (.tmp 3) 0), none⟩,
 ⟨some 113, some (.load Zd (.tmp 112)), none⟩,
 ⟨some 114, some (.fieldAddr Zc (.tmp 3) 5), none⟩,
 ⟨some 115, some (.load Zd (.tmp 114)), none⟩,
 ⟨some 116, some (.fieldAddr Zc (.tmp 3) 6), none⟩,
 ⟨some 117, some (.load Zd (.tmp 116)), none⟩,
 ⟨some 118, some (.move (.tmp 7)), none⟩,
 ⟨some 119, some (.call ⟨(.value (.func Zek)), #[.tmp 113, .tmp 115, .tmp 117, .tmp 118], #[Zd, Zd, Zd, Z7]⟩), none⟩,
 ⟨some 111, some (.move (.tmp 119)), none⟩,
 ⟨some 120, some (.extract (.tmp 111) 0), none⟩,
 ⟨some 121, some (.extract (.tmp 111) 1), none⟩,
 ⟨some 122, some (.fieldAddr Zc (.tmp 3) 1), none⟩,
 ⟨none, some (.store Zd (.tmp 122) (.tmp 120)), none⟩,
 ⟨some 10, some (.assign (.tmp 121)), none⟩])
  (.seq (.reg [] [⟨some 123, some (.load Zc (.tmp 3)), none⟩,
 ⟨some 124, some (.move (.tmp 10)), none⟩,
 ⟨none, some (.store Zc (.tmp 4) (.tmp 123)), none⟩,
 ⟨some 5, some (.assign (.tmp 124)), none⟩])
  .ret)))))))
theorem Zfk {a0 a1 : AV} {H : AHeap} : R Zcg [a0, a1] H = fnK Try.prog [] H [(.cell 4 Zc), (.tmp 5)] (evalL Try.prog KT R Zr (Env.args [a0, a1] 0) H) :=
  runs_body (D := DT) (f := Zcg) Try.func29 (by kernel_rfl) (by kernel_rfl) (by kernel_rfl) (by kernel_rfl) (by kernel_rfl) (Nat.le_of_ble_eq_true rfl)
def Zct : LCode := (.seq (.reg [] [⟨some 2, some (.assign (.const (.int .i64 0))), none⟩])
  (.seq (.block 0 (.seq (.reg [] [⟨some 4, some (.move (.tmp 0)), none⟩,
 ⟨some 5, some (.binOp .lss Zd (.tmp 4) (.const (.int .i64 1)) Zd), none⟩,
 ⟨some 6, some (.move (.tmp 5)), none⟩,
 ⟨some 7, some (.move (.tmp 0)), some (some 6, false)⟩,
 ⟨some 8, some (.binOp .gtr Zd (.tmp 7) (.const (.int .i64 44)) Zd), some (some 6, false)⟩,
 ⟨some 9, some (.pick (.tmp 6) (.const (.bool true)) (.tmp 8)), none⟩,
 ⟨some 3, some (.assign (.tmp 9)), none⟩])
  (.cond (.tmp 3) (.seq (.reg [] [⟨some 2, some (.assign (.const (.int .i64 (-1)))), none⟩])
  .ret)
  (.seq (.reg [] [⟨some 11, some (.move (.tmp 0)), none⟩,
 ⟨some 12, some (.binOp .leq Zd (.tmp 11) (.const (.int .i64 2)) Zd), none⟩,
 ⟨some 10, some (.assign (.tmp 12)), none⟩])
  (.cond (.tmp 10) (.seq (.reg [] [⟨some 2, some (.assign (.const (.int .i64 0))), none⟩])
  .ret)
  (.seq (.reg [] [⟨some 14, some (.move (.tmp 0)), none⟩,
 ⟨some 15, some (.binOp .eql Zd (.tmp 14) (.const (.int .i64 3)) Zd), none⟩,
 ⟨some 16, some (.move (.tmp 15)), none⟩,
 ⟨some 17, some (.move (.tmp 0)), some (some 16, false)⟩,
 ⟨some 18, some (.binOp .eql Zd (.tmp 17) (.const (.int .i64 10)) Zd), some (some 16, false)⟩,
 ⟨some 19, some (.pick (.tmp 16) (.const (.bool true)) (.tmp 18)), none⟩,
 ⟨some 20, some (.move (.tmp 19)), none⟩,
 ⟨some 21, some (.move (.tmp 0)), some (some 20, false)⟩,
 ⟨some 22, some (.binOp .eql Zd (.tmp 21) (.const (.int .i64 11)) Zd), some (some 20, false)⟩,
 ⟨some 23, some (.pick (.tmp 20) (.const (.bool true)) (.tmp 22)), none⟩,
 ⟨some 24, some (.move (.tmp 23)), none⟩,
 ⟨some 25, some (.move (.tmp 0)), some (some 24, false)⟩,
 ⟨some 26, some (.binOp .geq Zd (.tmp 25) (.const (.int .i64 39)) Zd), some (some 24, false)⟩,
 ⟨some 27, some (.pick (.tmp 24) (.const (.bool true)) (.tmp 26)), none⟩,
 ⟨some 13, some (.assign (.tmp 27)), none⟩])
  (.cond (.tmp 13) (.seq (.reg [] [⟨some 2, some (.assign (.const (.int .i64 1))), none⟩])
  .ret)
  (.seq (.reg [] [⟨some 29, some (.move (.tmp 0)), none⟩,
 ⟨some 30, some (.binOp .eql Zd (.tmp 29) (.const (.int .i64 9)) Zd), none⟩,
 ⟨some 28, some (.assign (.tmp 30)), none⟩])
  (.cond (.tmp 28) (.seq (.reg [] [⟨some 2, some (.assign (.const (.int .i64 3))), none⟩])
  .ret)
  .skip)))))))))
  (.seq (.reg [] [⟨some 2, some (.assign (.const (.int .i64 2))), none⟩])
  .ret)))
theorem Zh2 {a0 : AV} {H : AHeap} : R Zdr [a0] H = fnK Try.prog [] H [(.tmp 2)] (evalL Try.prog KT R Zct (Env.args [a0] 0) H) :=
  runs_body (D := DT) (f := Zdr) Try.func34 (by kernel_rfl) (by kernel_rfl) (by kernel_rfl) (by kernel_rfl) (by kernel_rfl) (Nat.le_of_ble_eq_true rfl)
def Zcx : LCode := (.seq (.reg [] [⟨some 3, some (.box Zc (.tmp 1)), none⟩,
 ⟨some 4, some (.assign (.const (.int .i64 0))), none⟩])
  (.seq (.reg [] [⟨some 8, some (.move (.tmp 0)), none⟩,
 ⟨some 9, some (.nilCheck (.tmp 8)), none⟩,
 ⟨some 10, some (.fieldAddr Zq (.tmp 9) 0), none⟩,
 ⟨some 11, some (.load Zl (.tmp 10)), none⟩,
 ⟨some 12, some (.load Zc (.tmp 3)), none⟩,
 ⟨some 13, some (.call ⟨(.value (.func Zn)), #[.tmp 11, .tmp 12], #[Zl, Zc]⟩), none⟩,
 ⟨some 7, some (.move (.tmp 13)), none⟩,
 ⟨some 14, some (.extract (.tmp 7) 0), none⟩,
 ⟨some 15, some (.extract (.tmp 7) 1), none⟩,
 ⟨some 5, some (.assign (.tmp 14)), none⟩,
 ⟨some 6, some (.assign (.tmp 15)), none⟩])
  (.seq (.seq (.reg [] [⟨some 16, some (.move (.tmp 0)), none⟩,
 ⟨some 17, some (.nilCheck (.tmp 16)), none⟩,
 ⟨some 18, some (.fieldAddr Zq (.tmp 17) 2), none⟩,
 ⟨some 19, some (.load Zba (.tmp 18)), none⟩,
 ⟨some 20, some (.binOp .eql Zba (.tmp 19) (.const (.int .i64 0)) Zba), none⟩])
  (.cond (.tmp 20) (.reg [] [⟨some 21, some (.move (.tmp 0)), none⟩,
 ⟨some 22, some (.move (.tmp 6)), none⟩,
 ⟨some 23, some (.nilCheck (.tmp 21)), none⟩,
 ⟨some 24, some (.fieldAddr Zq (.tmp 23) 2), none⟩,
 ⟨none, some (.store Zba (.tmp 24) (.tmp 22)), none⟩])
  .skip))
  (.seq (.reg [] [⟨some 25, some (.move (.tmp 5)), none⟩,
 ⟨some 4, some (.assign (.tmp 25)), none⟩])
  .ret))))
theorem Zdv {a0 a1 : AV} {H : AHeap} : R Zf [a0, a1] H = fnK Try.prog [] H [(.tmp 4)] (evalL Try.prog KT R Zcx (Env.args [a0, a1] 0) H) :=
  runs_body (D := DT) (f := Zf) Try.func35 (by kernel_rfl) (by kernel_rfl) (by kernel_rfl) (by kernel_rfl) (by kernel_rfl) (Nat.le_of_ble_eq_true rfl)
def Zp : LCode := (.seq (.reg [] [⟨some 3, some (.box Zc (.tmp 1)), none⟩,
 ⟨some 4, some (.assign (.const (.int .i64 0))), none⟩])
  (.seq (.seq (.reg [] [⟨some 8, some (.move (.tmp 0)), none⟩,
 ⟨some 9, some (.load Zc (.tmp 3)), none⟩,
 ⟨some 10, some (.call ⟨(.value (.func Zw)), #[.tmp 8, .tmp 9], #[Zh, Zc]⟩), none⟩,
 ⟨some 5, some (.assign (.tmp 10)), none⟩])
  (.seq (.reg [] [⟨some 11, some (.move (.tmp 5)), none⟩,
 ⟨some 12, some (.binOp .gtr Zd (.tmp 11) (.const (.int .i64 0)) Zd), none⟩,
 ⟨some 13, some (.move (.tmp 12)), none⟩,
 ⟨some 14, some (.move (.tmp 0)), some (some 13, false)⟩,
 ⟨some 15, some (.nilCheck (.tmp 14)), some (some 13, false)⟩,
 ⟨some 16, some (.fieldAddr Zq (.tmp 15) 2), some (some 13, false)⟩,
 ⟨some 17, some (.load Zba (.tmp 16)), some (some 13, false)⟩,
 ⟨some 18, some (.binOp .neq Zba (.tmp 17) (.const (.int .i64 0)) Zba), some (some 13, false)⟩,
 ⟨some 19, some (.pick (.tmp 13) (.const (.bool true)) (.tmp 18)), none⟩])
  (.cond (.tmp 19) (.seq (.reg [] [⟨some 20, some (.move (.tmp 5)), none⟩,
 ⟨some 4, some (.assign (.tmp 20)), none⟩])
  .ret)
  .skip)))
  (.seq (.reg [10] [⟨some 22, some (.move (.tmp 0)), none⟩,
 ⟨some 23, some (.nilCheck (.tmp 22)), none⟩,
 ⟨some 24, some (.fieldAddr Zq (.tmp 23) 0), none⟩,
 ⟨some 25, some (.load Zl (.tmp 24)), none⟩,
 ⟨some 26, some (.fieldAddr Zc (.tmp 3) 2), none⟩,
 ⟨some 27, some (.load Zd (.tmp 26)), none⟩,
 ⟨some 28, some (.call ⟨(.value (.func Zo)), #[.tmp 25, .tmp 27], #[Zl, Zd]⟩), none⟩,
 ⟨some 21, some (.move (.tmp 28)), none⟩,
 ⟨some 29, some (.extract (.tmp 21) 0), none⟩,
 ⟨some 30, some (.extract (.tmp 21) 1), none⟩,
 ⟨some 6, some (.alloc Zc), none⟩,
 ⟨none, some (.store Zc (.tmp 6) (.tmp 29)), none⟩,
 ⟨some 7, some (.assign (.tmp 30)), none⟩])
  (.seq (.block 0 (.seq (.reg [] [⟨some 32, some (.fieldAddr Zc (.tmp 3) 0), none⟩,
 ⟨some 33, some (.load Zd (.tmp 32)), none⟩,
 ⟨some 34, some (.call ⟨(.value (.func Zd5)), #[.tmp 33], #[Zd]⟩), none⟩,
 ⟨some 35, some (.binOp .and Zd (.tmp 34) (.const (.int .i64 128)) Zd), none⟩,
 ⟨some 36, some (.binOp .neq Zd (.tmp 35) (.const (.int .i64 0)) Zd), none⟩,
 ⟨some 37, some (.move (.tmp 36)), none⟩,
 ⟨some 38, some (.fieldAddr Zc (.tmp 6) 0), some (some 37, true)⟩,
 ⟨some 39, some (.load Zd (.tmp 38)), some (some 37, true)⟩,
 ⟨some 40, some (.fieldAddr Zc (.tmp 3) 0), some (some 37, true)⟩,
 ⟨some 41, some (.load Zd (.tmp 40)), some (some 37, true)⟩,
 ⟨some 42, some (.binOp .eql Zd (.tmp 39) (.tmp 41) Zd), some (some 37, true)⟩,
 ⟨some 43, some (.pick (.tmp 37) (.tmp 42) (.const (.bool false))), none⟩,
 ⟨some 31, some (.assign (.tmp 43)), none⟩])
  (.cond (.tmp 31) (.seq (.reg [] [⟨some 44, some (.fieldAddr Zc (.tmp 6) 2), none⟩,
 ⟨some 45, some (.load Zd (.tmp 44)), none⟩,
 ⟨some 4, some (.assign (.tmp 45)), none⟩])
  .ret)
  (.seq (.reg [] [⟨some 47, some (.fieldAddr Zc (.tmp 3) 0), none⟩,
 ⟨some 48, some (.load Zd (.tmp 47)), none⟩,
 ⟨some 49, some (.binOp .eql Zd (.tmp 48) (.const (.int .i64 39)) Zd), none⟩,
 ⟨some 50, some (.move (.tmp 49)), none⟩,
 ⟨some 51, some (.fieldAddr Zc (.tmp 3) 6), some (some 50, true)⟩,
 ⟨some 52, some (.load Zd (.tmp 51)), some (some 50, true)⟩,
 ⟨some 53, some (.binOp .eql Zd (.tmp 52) (.const (.int .i64 0)) Zd), some (some 50, true)⟩,
 ⟨some 54, some (.pick (.tmp 50) (.tmp 53) (.const (.bool false))), none⟩,
 ⟨some 55, some (.move (.tmp 54)), none⟩,
 ⟨some 56, some (.fieldAddr Zc (.tmp 3) 5), some (some 55, true)⟩,
 ⟨some 57, some (.load Zd (.tmp 56)), some (some 55, true)⟩,
 ⟨some 58, some (.fieldAddr Zc (.tmp 6) 1), some (some 55, true)⟩,
 ⟨some 59, some (.load Zd (.tmp 58)), some (some 55, true)⟩,
 ⟨some 60, some (.binOp .sub Zd (.tmp 59) (.const (.int .i64 1)) Zd), some (some 55, true)⟩,
 ⟨some 61, some (.binOp .eql Zd (.tmp 57) (.tmp 60) Zd), some (some 55, true)⟩,
 ⟨some 62, some (.pick (.tmp 55) (.tmp 61) (.const (.bool false))), none⟩,
 ⟨some 46, some (.assign (.tmp 62)), none⟩])
  (.cond (.tmp 46) (.seq (.reg [] [⟨some 63, some (.fieldAddr Zc (.tmp 3) 2), none⟩,
 ⟨some 64, some (.load Zd (.tmp 63)), none⟩,
 ⟨some 4, some (.assign (.tmp 64)), none⟩])
  .ret)
  (.seq (.reg [] [⟨some 66, some (.fieldAddr Zc (.tmp 3) 0), none⟩,
 ⟨some 67, some (.load Zd (.tmp 66)), none⟩,
 ⟨some 68, some (.binOp .eql Zd (.tmp 67) (.const (.int .i64 40)) Zd), none⟩,
 ⟨some 69, some (.move (.tmp 68)), none⟩,
 ⟨some 70, some (.fieldAddr Zc (.tmp 3) 0), some (some 69, false)⟩,
 ⟨some 71, some (.load Zd (.tmp 70)), some (some 69, false)⟩,
 ⟨some 72, some (.binOp .eql Zd (.tmp 71) (.const (.int .i64 41)) Zd), some (some 69, false)⟩,
 ⟨some 73, some (.pick (.tmp 69) (.const (.bool true)) (.tmp 72)), none⟩,
 ⟨some 74, some (.move (.tmp 73)), none⟩,
 ⟨some 75, some (.fieldAddr Zc (.tmp 3) 5), some (some 74, true)⟩,
 ⟨some 76, some (.load Zd (.tmp 75)), some (some 74, true)⟩,
 ⟨some 77, some (.binOp .eql Zd (.tmp 76) (.const (.int .i64 0)) Zd), some (some 74, true)⟩,
 ⟨some 78, some (.pick (.tmp 74) (.tmp 77) (.const (.bool false))), none⟩,
 ⟨some 65, some (.assign (.tmp 78)), none⟩])
  (.cond (.tmp 65) (.seq (.reg [] [⟨some 79, some (.fieldAddr Zc (.tmp 3) 2), none⟩,
 ⟨some 80, some (.load Zd (.tmp 79)), none⟩,
 ⟨some 4, some (.assign (.tmp 80)), none⟩])
  .ret)
  (.seq (.reg [] [⟨some 82, some (.fieldAddr Zc (.tmp 3) 0), none⟩,
 ⟨some 83, some (.load Zd (.tmp 82)), none⟩,
 ⟨some 84, some (.binOp .eql Zd (.tmp 83) (.const (.int .i64 42)) Zd), none⟩,
 ⟨some 85, some (.move (.tmp 84)), none⟩,
 ⟨some 86, some (.fieldAddr Zc (.tmp 3) 0), some (some 85, false)⟩,
 ⟨some 87, some (.load Zd (.tmp 86)), some (some 85, false)⟩,
 ⟨some 88, some (.binOp .eql Zd (.tmp 87) (.const (.int .i64 43)) Zd), some (some 85, false)⟩,
 ⟨some 89, some (.pick (.tmp 85) (.const (.bool true)) (.tmp 88)), none⟩,
 ⟨some 90, some (.move (.tmp 89)), none⟩,
 ⟨some 91, some (.fieldAddr Zc (.tmp 3) 5), some (some 90, true)⟩,
 ⟨some 92, some (.load Zd (.tmp 91)), some (some 90, true)⟩,
 ⟨some 93, some (.fieldAddr Zc (.tmp 6) 1), some (some 90, true)⟩,
 ⟨some 94, some (.load Zd (.tmp 93)), some (some 90, true)⟩,
 ⟨some 95, some (.binOp .rem Zd (.tmp 92) (.tmp 94) Zd), some (some 90, true)⟩,
 ⟨some 96, some (.binOp .eql Zd (.tmp 95) (.const (.int .i64 0)) Zd), some (some 90, true)⟩,
 ⟨some 97, some (.pick (.tmp 90) (.tmp 96) (.const (.bool false))), none⟩,
 ⟨some 81, some (.assign (.tmp 97)), none⟩])
  (.cond (.tmp 81) (.seq (.reg [] [⟨some 98, some (.fieldAddr Zc (.tmp 3) 2), none⟩,
 ⟨some 99, some (.load Zd (.tmp 98)), none⟩,
 ⟨some 4, some (.assign (.tmp 99)), none⟩])
  .ret)
  (.seq (.reg [] [⟨some 101, some (.fieldAddr Zc (.tmp 3) 0), none⟩,
 ⟨some 102, some (.load Zd (.tmp 101)), none⟩,
 ⟨some 103, some (.binOp .eql Zd (.tmp 102) (.const (.int .i64 44)) Zd), none⟩,
 ⟨some 104, some (.move (.tmp 103)), none⟩,
 ⟨some 105, some (.fieldAddr Zc (.tmp 3) 5), some (some 104, true)⟩,
 ⟨some 106, some (.load Zd (.tmp 105)), some (some 104, true)⟩,
 ⟨some 107, some (.binOp .eql Zd (.tmp 106) (.const (.int .i64 1)) Zd), some (some 104, true)⟩,
 ⟨some 108, some (.pick (.tmp 104) (.tmp 107) (.const (.bool false))), none⟩,
 ⟨some 100, some (.assign (.tmp 108)), none⟩])
  (.cond (.tmp 100) (.seq (.reg [] [⟨some 109, some (.fieldAddr Zc (.tmp 3) 2), none⟩,
 ⟨some 110, some (.load Zd (.tmp 109)), none⟩,
 ⟨some 4, some (.assign (.tmp 110)), none⟩])
  .ret)
  (.seq (.reg [] [⟨some 112, some (.fieldAddr Zc (.tmp 3) 0), none⟩,
 ⟨some 113, some (.load Zd (.tmp 112)), none⟩,
 ⟨some 114, some (.binOp .eql Zd (.tmp 113) (.const (.int .i64 39)) Zd), none⟩,
 ⟨some 111, some (.assign (.tmp 114)), none⟩])
  (.cond (.tmp 111) (.seq (.reg [] [⟨some 115, some (.move (.tmp 0)), none⟩,
 ⟨some 116, some (.load Zc (.tmp 3)), none⟩,
 ⟨some 117, some (.load Zc (.tmp 6)), none⟩,
 ⟨some 118, some (.call ⟨(.value (.func Z5)), #[.tmp 115, .tmp 116, .tmp 117], #[Zh, Zc, Zc]⟩), none⟩,
 ⟨some 4, some (.assign (.tmp 118)), none⟩])
  .ret)
  .skip)))))))))))))
  (.seq (.reg [] [⟨some 119, some (.move (.tmp 0)), none⟩,
 ⟨some 120, some (.load Zc (.tmp 3)), none⟩,
 ⟨some 121, some (.call ⟨(.value (.func Zf)), #[.tmp 119, .tmp 120], #[Zh, Zc]⟩), none⟩,
 ⟨some 4, some (.assign (.tmp 121)), none⟩])
  .ret)))))
theorem Zfd {a0 a1 : AV} {H : AHeap} : R Zbe [a0, a1] H = fnK Try.prog [] H [(.tmp 4)] (evalL Try.prog KT R Zp (Env.args [a0, a1] 0) H) :=
  runs_body (D := DT) (f := Zbe) Try.func36 (by kernel_rfl) (by kernel_rfl) (by kernel_rfl) (by kernel_rfl) (by kernel_rfl) (Nat.le_of_ble_eq_true rfl)
def Zbp : LCode := (.seq (.reg [] [⟨some 3, some (.box Zc (.tmp 1)), none⟩,
 ⟨some 4, some (.assign (.const (.int .i64 0))), none⟩])
  (.seq (.reg [] [⟨some 8, some (.move (.tmp 0)), none⟩,
 ⟨some 9, some (.fieldAddr Zc (.tmp 3) 2), none⟩,
 ⟨some 10, some (.load Zd (.tmp 9)), none⟩,
 ⟨some 11, some (.call ⟨(.value (.func Zy)), #[.tmp 8, .tmp 10], #[Zh, Zd]⟩), none⟩,
 ⟨some 7, some (.move (.tmp 11)), none⟩,
 ⟨some 12, some (.extract (.tmp 7) 0), none⟩,
 ⟨some 13, some (.extract (.tmp 7) 1), none⟩,
 ⟨some 5, some (.alloc Zb), none⟩,
 ⟨none, some (.store Zb (.tmp 5) (.tmp 12)), none⟩,
 ⟨some 6, some (.assign (.tmp 13)), none⟩])
  (.seq (.block 0 (.seq (.reg [] [⟨some 15, some (.fieldAddr Zc (.tmp 3) 3), none⟩,
 ⟨some 16, some (.load Zd (.tmp 15)), none⟩,
 ⟨some 17, some (.fieldAddr Zc (.tmp 3) 4), none⟩,
 ⟨some 18, some (.load Zd (.tmp 17)), none⟩,
 ⟨some 19, some (.binOp .eql Zd (.tmp 16) (.tmp 18) Zd), none⟩,
 ⟨some 14, some (.assign (.tmp 19)), none⟩])
  (.cond (.tmp 14) (.seq (.reg [] [⟨some 20, some (.fieldAddr Zc (.tmp 3) 3), none⟩,
 ⟨some 21, some (.load Zd (.tmp 20)), none⟩,
 ⟨some 4, some (.assign (.tmp 21)), none⟩])
  .ret)
  (.seq (.reg [] [⟨some 23, some (.move (.tmp 6)), none⟩,
 ⟨some 24, some (.move (.tmp 23)), none⟩,
 ⟨some 25, some (.fieldAddr Zb (.tmp 5) 1), some (some 24, true)⟩,
 ⟨some 26, some (.load Ze (.tmp 25)), some (some 24, true)⟩,
 ⟨some 27, some (.binOp .eql Ze (.tmp 26) (.const (.int .u64 1)) Ze), some (some 24, true)⟩,
 ⟨some 28, some (.pick (.tmp 24) (.tmp 27) (.const (.bool false))), none⟩,
 ⟨some 22, some (.assign (.tmp 28)), none⟩])
  (.cond (.tmp 22) (.seq (.reg [] [⟨some 29, some (.fieldAddr Zc (.tmp 3) 3), none⟩,
 ⟨some 30, some (.load Zd (.tmp 29)), none⟩,
 ⟨some 4, some (.assign (.tmp 30)), none⟩])
  .ret)
  (.seq (.reg [] [⟨some 32, some (.move (.tmp 6)), none⟩,
 ⟨some 31, some (.assign (.tmp 32)), none⟩])
  (.cond (.tmp 31) (.seq (.reg [] [⟨some 33, some (.fieldAddr Zc (.tmp 3) 4), none⟩,
 ⟨some 34, some (.load Zd (.tmp 33)), none⟩,
 ⟨some 4, some (.assign (.tmp 34)), none⟩])
  .ret)
  .skip)))))))
  (.seq (.reg [] [⟨some 35, some (.move (.tmp 0)), none⟩,
 ⟨some 36, some (.load Zc (.tmp 3)), none⟩,
 ⟨some 37, some (.call ⟨(.value (.func Zf)), #[.tmp 35, .tmp 36], #[Zh, Zc]⟩), none⟩,
 ⟨some 4, some (.assign (.tmp 37)), none⟩])
  .ret))))
theorem Ze0 {a0 a1 : AV} {H : AHeap} : R Zbh [a0, a1] H = fnK Try.prog [] H [(.tmp 4)] (evalL Try.prog KT R Zbp (Env.args [a0, a1] 0) H) :=
  runs_body (D := DT) (f := Zbh) Try.func37 (by kernel_rfl) (by kernel_rfl) (by kernel_rfl) (by kernel_rfl) (by kernel_rfl) (Nat.le_of_ble_eq_true rfl)
def Zbf : LCode := (.seq (.reg [] [⟨some 3, some (.box Zc (.tmp 1)), none⟩,
 ⟨some 4, some (.assign (.const (.int .i64 0))), none⟩])
  (.seq (.seq (.reg [] [⟨some 8, some (.move (.tmp 0)), none⟩,
 ⟨some 9, some (.load Zc (.tmp 3)), none⟩,
 ⟨some 10, some (.call ⟨(.value (.func Zw)), #[.tmp 8, .tmp 9], #[Zh, Zc]⟩), none⟩,
 ⟨some 5, some (.assign (.tmp 10)), none⟩])
  (.seq (.reg [] [⟨some 11, some (.move (.tmp 5)), none⟩,
 ⟨some 12, some (.binOp .gtr Zd (.tmp 11) (.const (.int .i64 0)) Zd), none⟩,
 ⟨some 13, some (.move (.tmp 12)), none⟩,
 ⟨some 14, some (.move (.tmp 0)), some (some 13, false)⟩,
 ⟨some 15, some (.nilCheck (.tmp 14)), some (some 13, false)⟩,
 ⟨some 16, some (.fieldAddr Zq (.tmp 15) 2), some (some 13, false)⟩,
 ⟨some 17, some (.load Zba (.tmp 16)), some (some 13, false)⟩,
 ⟨some 18, some (.binOp .neq Zba (.tmp 17) (.const (.int .i64 0)) Zba), some (some 13, false)⟩,
 ⟨some 19, some (.pick (.tmp 13) (.const (.bool true)) (.tmp 18)), none⟩])
  (.cond (.tmp 19) (.seq (.reg [] [⟨some 20, some (.move (.tmp 5)), none⟩,
 ⟨some 4, some (.assign (.tmp 20)), none⟩])
  .ret)
  .skip)))
  (.seq (.reg [] [⟨some 21, some (.fieldAddr Zc (.tmp 3) 0), none⟩,
 ⟨some 22, some (.load Zd (.tmp 21)), none⟩,
 ⟨some 23, some (.call ⟨(.value (.func Zd5)), #[.tmp 22], #[Zd]⟩), none⟩,
 ⟨some 6, some (.assign (.tmp 23)), none⟩])
  (.seq (.seq (.reg [] [⟨some 24, some (.fieldAddr Zc (.tmp 3) 2), none⟩,
 ⟨some 25, some (.load Zd (.tmp 24)), none⟩,
 ⟨some 26, some (.fieldAddr Zc (.tmp 3) 3), none⟩,
 ⟨some 27, some (.load Zd (.tmp 26)), none⟩,
 ⟨some 28, some (.binOp .eql Zd (.tmp 25) (.tmp 27) Zd), none⟩])
  (.cond (.tmp 28) (.block 0 (.seq (.reg [] [⟨some 30, some (.move (.tmp 6)), none⟩,
 ⟨some 31, some (.binOp .and Zd (.tmp 30) (.const (.int .i64 1)) Zd), none⟩,
 ⟨some 32, some (.binOp .neq Zd (.tmp 31) (.const (.int .i64 0)) Zd), none⟩,
 ⟨some 29, some (.assign (.tmp 32)), none⟩])
  (.cond (.tmp 29) (.seq (.reg [] [⟨some 33, some (.fieldAddr Zc (.tmp 3) 2), none⟩,
 ⟨some 34, some (.load Zd (.tmp 33)), none⟩,
 ⟨some 4, some (.assign (.tmp 34)), none⟩])
  .ret)
  (.seq (.reg [] [⟨some 36, some (.move (.tmp 6)), none⟩,
 ⟨some 37, some (.binOp .and Zd (.tmp 36) (.const (.int .i64 2)) Zd), none⟩,
 ⟨some 38, some (.binOp .neq Zd (.tmp 37) (.const (.int .i64 0)) Zd), none⟩,
 ⟨some 35, some (.assign (.tmp 38)), none⟩])
  (.cond (.tmp 35) (.seq (.reg [] [⟨some 39, some (.move (.tmp 0)), none⟩,
 ⟨some 40, some (.move (.tmp 0)), none⟩,
 ⟨some 41, some (.load Zc (.tmp 3)), none⟩,
 ⟨some 42, some (.call ⟨(.value (.func Zbt)), #[.tmp 40, .tmp 41], #[Zh, Zc]⟩), none⟩,
 ⟨some 43, some (.call ⟨(.value (.func Zg)), #[.tmp 39, .tmp 42], #[Zh, Zb]⟩), none⟩,
 ⟨some 4, some (.assign (.tmp 43)), none⟩])
  .ret)
  (.seq (.reg [] [⟨some 45, some (.move (.tmp 6)), none⟩,
 ⟨some 46, some (.binOp .and Zd (.tmp 45) (.const (.int .i64 4)) Zd), none⟩,
 ⟨some 47, some (.binOp .neq Zd (.tmp 46) (.const (.int .i64 0)) Zd), none⟩,
 ⟨some 44, some (.assign (.tmp 47)), none⟩])
  (.cond (.tmp 44) (.seq (.reg [] [⟨some 48, some (.move (.tmp 0)), none⟩,
 ⟨some 49, some (.call ⟨(.value (.func Zds)), #[(.const (.bool true))], #[Zbg]⟩), none⟩,
 ⟨some 50, some (.call ⟨(.value (.func Zg)), #[.tmp 48, .tmp 49], #[Zh, Zb]⟩), none⟩,
 ⟨some 4, some (.assign (.tmp 50)), none⟩])
  .ret)
  .skip)))))))
  .skip))
  (.seq (.seq (.reg [] [⟨some 51, some (.move (.tmp 0)), none⟩,
 ⟨some 52, some (.load Zc (.tmp 3)), none⟩,
 ⟨some 53, some (.call ⟨(.value (.func Zbj)), #[.tmp 51, .tmp 52], #[Zh, Zc]⟩), none⟩,
 ⟨some 7, some (.assign (.tmp 53)), none⟩])
  (.seq (.reg [] [⟨some 54, some (.move (.tmp 7)), none⟩,
 ⟨some 55, some (.binOp .gtr Zd (.tmp 54) (.const (.int .i64 0)) Zd), none⟩])
  (.cond (.tmp 55) (.seq (.reg [] [⟨some 56, some (.move (.tmp 7)), none⟩,
 ⟨some 4, some (.assign (.tmp 56)), none⟩])
  .ret)
  .skip)))
  (.seq (.reg [] [⟨some 57, some (.move (.tmp 0)), none⟩,
 ⟨some 58, some (.load Zc (.tmp 3)), none⟩,
 ⟨some 59, some (.move (.tmp 6)), none⟩,
 ⟨some 60, some (.call ⟨(.value (.func Zx)), #[.tmp 57, .tmp 58, .tmp 59], #[Zh, Zc, Zd]⟩), none⟩,
 ⟨some 4, some (.assign (.tmp 60)), none⟩])
  .ret))))))
theorem Zfe {a0 a1 : AV} {H : AHeap} : R Zbo [a0, a1] H = fnK Try.prog [] H [(.tmp 4)] (evalL Try.prog KT R Zbf (Env.args [a0, a1] 0) H) :=
  runs_body (D := DT) (f := Zbo) Try.func38 (by kernel_rfl) (by kernel_rfl) (by kernel_rfl) (by kernel_rfl) (by kernel_rfl) (Nat.le_of_ble_eq_true rfl)
def Ze8 : LCode := (.seq (.reg [] [⟨some 1, some (.box Zb (.tmp 0)), none⟩,
 ⟨some 2, some (.assign (.const (.bool false))), none⟩])
  (.seq (.seq (.reg [] [⟨some 3, some (.fieldAddr Zb (.tmp 1) 0), none⟩,
 ⟨some 4, some (.load Zd (.tmp 3)), none⟩,
 ⟨some 5, some (.binOp .eql Zd (.tmp 4) (.const (.int .i64 0)) Zd), none⟩])
  (.cond (.tmp 5) (.seq (.reg [] [⟨some 6, some (.fieldAddr Zb (.tmp 1) 1), none⟩,
 ⟨some 7, some (.load Ze (.tmp 6)), none⟩,
 ⟨some 8, some (.binOp .leq Ze (.tmp 7) (.const (.int .u64 1)) Ze), none⟩,
 ⟨some 9, some (.move (.tmp 8)), none⟩,
 ⟨some 10, some (.fieldAddr Zb (.tmp 1) 2), some (some 9, true)⟩,
 ⟨some 11, some (.load Ze (.tmp 10)), some (some 9, true)⟩,
 ⟨some 12, some (.binOp .eql Ze (.tmp 11) (.const (.int .u64 0)) Ze), some (some 9, true)⟩,
 ⟨some 13, some (.pick (.tmp 9) (.tmp 12) (.const (.bool false))), none⟩,
 ⟨some 2, some (.assign (.tmp 13)), none⟩])
  .ret)
  .skip))
  (.seq (.reg [12, 13] [⟨some 14, some (.fieldAddr Zb (.tmp 1) 0), none⟩,
 ⟨some 15, some (.load Zd (.tmp 14)), none⟩,
 ⟨some 16, some (.binOp .gtr Zd (.tmp 15) (.const (.int .i64 0)) Zd), none⟩,
 ⟨some 17, some (.move (.tmp 16)), none⟩,
 ⟨some 18, some (.fieldAddr Zb (.tmp 1) 0), some (some 17, true)⟩,
 ⟨some 19, some (.load Zd (.tmp 18)), some (some 17, true)⟩,
 ⟨some 20, some (.binOp .leq Zd (.tmp 19) (.const (.int .i64 128)) Zd), some (some 17, true)⟩,
 ⟨some 21, some (.pick (.tmp 17) (.tmp 20) (.const (.bool false))), none⟩,
 ⟨some 22, some (.move (.tmp 21)), none⟩,
 ⟨some 23, some (.fieldAddr Zb (.tmp 1) 0), some (some 22, true)⟩,
 ⟨some 24, some (.load Zd (.tmp 23)), some (some 22, true)⟩,
 ⟨some 25, some (.load Zb (.tmp 1)), some (some 22, true)⟩,
 ⟨some 26, some (.call ⟨(.value (.func Zce)), #[.tmp 25], #[Zb]⟩), some (some 22, true)⟩,
 ⟨some 27, some (.call ⟨(.value (.func Zcm)), #[.tmp 24, .tmp 26], #[Zd, Za]⟩), some (some 22, true)⟩,
 ⟨some 28, some (.load Zb (.tmp 1)), some (some 22, true)⟩,
 ⟨some 29, some (.binOp .eql Zb (.tmp 27) (.tmp 28) Zb), some (some 22, true)⟩,
 ⟨some 30, some (.pick (.tmp 22) (.tmp 29) (.const (.bool false))), none⟩,
 ⟨some 2, some (.assign (.tmp 30)), none⟩])
  .ret)))
theorem Zht {a0 : AV} {H : AHeap} : R Zdz [a0] H = fnK Try.prog [] H [(.tmp 2)] (evalL Try.prog KT R Ze8 (Env.args [a0] 0) H) :=
  runs_body (D := DT) (f := Zdz) Try.func39 (by kernel_rfl) (by kernel_rfl) (by kernel_rfl) (by kernel_rfl) (by kernel_rfl) (Nat.le_of_ble_eq_true rfl)
def Zha : LCode := (.seq (.reg [] [⟨some 2, some (.assign (.const (.bool false))), none⟩])
  (.seq (.reg [] [⟨some 3, some (.move (.tmp 0)), none⟩,
 ⟨some 4, some (.binOp .geq Zd (.tmp 3) (.const (.int .i64 0)) Zd), none⟩,
 ⟨some 5, some (.move (.tmp 4)), none⟩,
 ⟨some 6, some (.move (.tmp 0)), some (some 5, true)⟩,
 ⟨some 7, some (.binOp .leq Zd (.tmp 6) (.const (.int .i64 128)) Zd), some (some 5, true)⟩,
 ⟨some 8, some (.pick (.tmp 5) (.tmp 7) (.const (.bool false))), none⟩,
 ⟨some 2, some (.assign (.tmp 8)), none⟩])
  .ret))
theorem Zig {a0 : AV} {H : AHeap} : R Ze9 [a0] H = fnK Try.prog [] H [(.tmp 2)] (evalL Try.prog KT R Zha (Env.args [a0] 0) H) :=
  runs_body (D := DT) (f := Ze9) Try.func40 (by kernel_rfl) (by kernel_rfl) (by kernel_rfl) (by kernel_rfl) (by kernel_rfl) (Nat.le_of_ble_eq_true rfl)
def Zem : LCode := (.seq (.reg [] [⟨some 8, some (.assign (.const (.int .i64 0))), none⟩,
 ⟨some 9, some (.assign (.const (.int .i64 0))), none⟩])
  (.seq (.reg [] [⟨some 13, some (.move (.tmp 0)), none⟩,
 ⟨some 14, some (.call ⟨(.value (.func Zdr)), #[.tmp 13], #[Zd]⟩), none⟩,
 ⟨some 10, some (.assign (.tmp 14)), none⟩])
  (.seq (.seq (.reg [] [⟨some 15, some (.move (.tmp 10)), none⟩,
 ⟨some 16, some (.binOp .lss Zd (.tmp 15) (.const (.int .i64 1)) Zd), none⟩])
  (.cond (.tmp 16) (.seq (.reg [] [⟨some 8, some (.assign (.const (.int .i64 0))), none⟩,
 ⟨some 9, some (.assign (.const (.int .i64 32))), none⟩])
  .ret)
  .skip))
  (.seq (.seq (.reg [] [⟨some 17, some (.move (.tmp 3)), none⟩,
 ⟨some 18, some (.call ⟨(.builtin .len), #[.tmp 17], #[Z7]⟩), none⟩,
 ⟨some 19, some (.move (.tmp 10)), none⟩,
 ⟨some 20, some (.binOp .neq Zd (.tmp 18) (.tmp 19) Zd), none⟩,
 ⟨some 21, some (.move (.tmp 20)), none⟩,
 ⟨some 22, some (.move (.tmp 3)), some (some 21, false)⟩,
 ⟨some 23, some (.call ⟨(.value (.func Zb5)), #[(.tmp 22), (.func Zc8)], #[Z7, Zi4]⟩), some (some 21, false)⟩,
 ⟨some 24, some (.pick (.tmp 21) (.const (.bool true)) (.tmp 23)), none⟩])
  (.cond (.tmp 24) (.seq (.reg [] [⟨some 8, some (.assign (.const (.int .i64 0))), none⟩,
 ⟨some 9, some (.assign (.const (.int .i64 30))), none⟩])
  .ret)
  .skip))
  (.seq (.reg [] [⟨some 26, some (.move (.tmp 0)), none⟩,
 ⟨some 27, some (.move (.tmp 1)), none⟩,
 ⟨some 28, some (.move (.tmp 2)), none⟩,
 ⟨some 29, some (.move (.tmp 3)), none⟩,
 ⟨some 30, some (.call ⟨(.value (.func Zfp)), #[.tmp 26, .tmp 27, .tmp 28, .tmp 29], #[Zd, Zd, Zd, Z7]⟩), none⟩,
 ⟨some 25, some (.move (.tmp 30)), none⟩,
 ⟨some 31, some (.extract (.tmp 25) 0), none⟩,
 ⟨some 32, some (.extract (.tmp 25) 1), none⟩,
 ⟨some 11, some (.assign (.tmp 31)), none⟩,
 ⟨some 12, some (.assign (.tmp 32)), none⟩])
  (.seq (.block 0 (.seq (.reg [] [⟨some 34, some (.move (.tmp 12)), none⟩,
 ⟨some 35, some (.unOp .not Zbg (.tmp 34)), none⟩,
 ⟨some 33, some (.assign (.tmp 35)), none⟩])
  (.cond (.tmp 33) (.seq (.reg [] [⟨some 8, some (.assign (.const (.int .i64 0))), none⟩,
 ⟨some 9, some (.assign (.const (.int .i64 30))), none⟩])
  .ret)
  (.seq (.reg [] [⟨some 37, some (.move (.tmp 11)), none⟩,
 ⟨some 38, some (.binOp .gtr Zd (.tmp 37) (.const (.int .i64 128)) Zd), none⟩,
 ⟨some 36, some (.assign (.tmp 38)), none⟩])
  (.cond (.tmp 36) (.seq (.reg [] [⟨some 8, some (.assign (.const (.int .i64 0))), none⟩,
 ⟨some 9, some (.assign (.const (.int .i64 31))), none⟩])
  .ret)
  .skip)))))
  (.seq (.reg [] [⟨some 39, some (.move (.tmp 11)), none⟩,
 ⟨some 8, some (.assign (.tmp 39)), none⟩,
 ⟨some 9, some (.assign (.const (.int .i64 0))), none⟩])
  .ret)))))))
theorem Zih {a0 a1 a2 a3 : AV} {H : AHeap} : R Zek [a0, a1, a2, a3] H = fnK Try.prog [] H [(.tmp 8), (.tmp 9)] (evalL Try.prog KT R Zem (Env.args [a0, a1, a2, a3] 0) H) :=
  runs_body (D := DT) (f := Zek) Try.func41 (by kernel_rfl) (by kernel_rfl) (by kernel_rfl) (by kernel_rfl) (by kernel_rfl) (Nat.le_of_ble_eq_true rfl)
def Zd7 : LCode := (.seq (.reg [] [⟨some 23, some (.binOp .lss Zd (.tmp 22) (.tmp 21) Zd), none⟩])
  (.seq (.cond (.tmp 23) .skip
  (.exit 0))
  (.seq (.block 1 (.seq (.reg [] [⟨some 24, some (.move (.tmp 22)), none⟩,
 ⟨some 25, some (.indexAddr Zm (.tmp 20) (.tmp 22)), none⟩,
 ⟨some 26, some (.load Zb (.tmp 25)), none⟩,
 ⟨some 12, some (.alloc Zb), none⟩,
 ⟨some 11, some (.assign (.tmp 24)), none⟩,
 ⟨none, some (.store Zb (.tmp 12) (.tmp 26)), none⟩])
  (.seq (.reg [] [⟨some 27, some (.move (.tmp 10)), none⟩,
 ⟨some 28, some (.move (.tmp 11)), none⟩,
 ⟨some 29, some (.fieldAddr Zb (.tmp 12) 0), none⟩,
 ⟨some 30, some (.load Zd (.tmp 29)), none⟩,
 ⟨some 31, some (.indexAddr Z7 (.tmp 27) (.tmp 28)), none⟩,
 ⟨none, some (.store Zd (.tmp 31) (.tmp 30)), none⟩])
  (.seq (.reg [] [⟨some 32, some (.load Zb (.tmp 12)), none⟩,
 ⟨some 33, some (.call ⟨(.value (.func Zdz)), #[.tmp 32], #[Zb]⟩), none⟩,
 ⟨some 34, some (.unOp .not Zbg (.tmp 33)), none⟩])
  (.cond (.tmp 34) (.reg [] [⟨some 35, some (.move (.tmp 10)), none⟩,
 ⟨some 36, some (.move (.tmp 11)), none⟩,
 ⟨some 37, some (.indexAddr Z7 (.tmp 35) (.tmp 36)), none⟩,
 ⟨none, some (.store Zd (.tmp 37) (.const (.int .i64 (-1)))), none⟩])
  .skip)))))
  (.reg [] [⟨some 38, some (.binOp .add Zd (.tmp 22) (.const (.int .i64 1)) Zd), none⟩,
 ⟨some 22, some (.move (.tmp 38)), none⟩]))))
@[simp] theorem Zir : defs Zd7 = [23, 24, 25, 26, 12, 11, 27, 28, 29, 30, 31, 32, 33, 34, 35, 36, 37, 38, 22] := by rfl
def Zgv : LCode := (.seq (.reg [] [⟨some 8, some (.alloc Zb), none⟩,
 ⟨some 9, some (.assign (.const (.int .i64 0))), none⟩])
  (.seq (.reg [] [⟨some 17, some (.move (.tmp 3)), none⟩,
 ⟨some 18, some (.call ⟨(.builtin .len), #[.tmp 17], #[Zm]⟩), none⟩,
 ⟨some 19, some (.makeSlice Z7 (.tmp 18) (.tmp 18)), none⟩,
 ⟨some 10, some (.assign (.tmp 19)), none⟩])
  (.seq (.seq (.reg [] [⟨some 20, some (.move (.tmp 3)), none⟩,
 ⟨some 21, some (.call ⟨(.builtin .len), #[.tmp 20], #[Zm]⟩), none⟩,
 ⟨some 22, some (.move (.const (.int .i64 0))), none⟩])
  (.block 0 (.loop Zd7)))
  (.seq (.seq (.reg [] [⟨some 40, some (.move (.tmp 0)), none⟩,
 ⟨some 41, some (.move (.tmp 1)), none⟩,
 ⟨some 42, some (.move (.tmp 2)), none⟩,
 ⟨some 43, some (.move (.tmp 10)), none⟩,
 ⟨some 44, some (.call ⟨(.value (.func Zek)), #[.tmp 40, .tmp 41, .tmp 42, .tmp 43], #[Zd, Zd, Zd, Z7]⟩), none⟩,
 ⟨some 39, some (.move (.tmp 44)), none⟩,
 ⟨some 45, some (.extract (.tmp 39) 0), none⟩,
 ⟨some 46, some (.extract (.tmp 39) 1), none⟩,
 ⟨some 13, some (.assign (.tmp 45)), none⟩,
 ⟨some 14, some (.assign (.tmp 46)), none⟩])
  (.seq (.reg [] [⟨some 47, some (.move (.tmp 14)), none⟩,
 ⟨some 48, some (.binOp .neq Zba (.tmp 47) (.const (.int .i64 0)) Zba), none⟩])
  (.cond (.tmp 48) (.seq (.reg [] [⟨some 49, some (.build Zb #[]), none⟩,
 ⟨some 50, some (.move (.tmp 14)), none⟩,
 ⟨none, some (.store Zb (.tmp 8) (.tmp 49)), none⟩,
 ⟨some 9, some (.assign (.tmp 50)), none⟩])
  .ret)
  .skip)))
  (.seq (.reg [] [⟨some 52, some (.move (.tmp 0)), none⟩,
 ⟨some 53, some (.call ⟨(.value (.func Zea)), #[.tmp 52], #[Zd]⟩), none⟩,
 ⟨some 51, some (.move (.tmp 53)), none⟩,
 ⟨some 54, some (.extract (.tmp 51) 0), none⟩,
 ⟨some 55, some (.extract (.tmp 51) 1), none⟩,
 ⟨some 15, some (.alloc Zt), none⟩,
 ⟨none, some (.store Zt (.tmp 15) (.tmp 54)), none⟩,
 ⟨some 16, some (.assign (.tmp 55)), none⟩])
  (.seq (.seq (.reg [] [⟨some 56, some (.move (.tmp 16)), none⟩,
 ⟨some 57, some (.unOp .not Zbg (.tmp 56)), none⟩])
  (.cond (.tmp 57) (.reg [] [⟨some 58, some (.move (.tmp 0)), none⟩,
 ⟨some 59, some (.call ⟨(.value (.func Zfh)), #[.tmp 58], #[Zd]⟩), none⟩,
 ⟨none, some (.store Zt (.tmp 15) (.tmp 59)), none⟩])
  .skip))
  (.seq (.reg [] [⟨some 60, some (.fieldAddr Zt (.tmp 15) 0), none⟩,
 ⟨some 61, some (.load Zi2 (.tmp 60)), none⟩,
 ⟨some 62, some (.move (.tmp 1)), none⟩,
 ⟨some 63, some (.move (.tmp 2)), none⟩,
 ⟨some 64, some (.move (.tmp 3)), none⟩,
 ⟨some 65, some (.call ⟨(.value (.tmp 61)), #[.tmp 62, .tmp 63, .tmp 64], #[Zd, Zd, Zm]⟩), none⟩,
 ⟨some 66, some (.extract (.tmp 65) 0), none⟩,
 ⟨some 67, some (.extract (.tmp 65) 1), none⟩,
 ⟨none, some (.store Zb (.tmp 8) (.tmp 66)), none⟩,
 ⟨some 9, some (.assign (.tmp 67)), none⟩])
  .ret)))))))
theorem Zh3 {a0 a1 a2 a3 : AV} {H : AHeap} : R Zfg [a0, a1, a2, a3] H = fnK Try.prog [] H [(.cell 8 Zb), (.tmp 9)] (evalL Try.prog KT R Zgv (Env.args [a0, a1, a2, a3] 0) H) :=
  runs_body (D := DT) (f := Zfg) Try.func42 (by kernel_rfl) (by kernel_rfl) (by kernel_rfl) (by kernel_rfl) (by kernel_rfl) (Nat.le_of_ble_eq_true rfl)
def Zbn : LCode := (.seq (.reg [] [⟨some 25, some (.binOp .lss Zd (.tmp 24) (.tmp 23) Zd), none⟩])
  (.seq (.cond (.tmp 25) .skip
  (.exit 0))
  (.seq (.block 1 (.seq (.reg [] [⟨some 26, some (.indexAddr Z7 (.tmp 22) (.tmp 24)), none⟩,
 ⟨some 27, some (.load Zd (.tmp 26)), none⟩,
 ⟨some 7, some (.assign (.tmp 27)), none⟩])
  (.seq (.reg [] [⟨some 29, some (.move (.tmp 0)), none⟩,
 ⟨some 30, some (.move (.tmp 7)), none⟩,
 ⟨some 31, some (.call ⟨(.value (.func Zy)), #[.tmp 29, .tmp 30], #[Zh, Zd]⟩), none⟩,
 ⟨some 28, some (.move (.tmp 31)), none⟩,
 ⟨some 32, some (.extract (.tmp 28) 0), none⟩,
 ⟨some 33, some (.extract (.tmp 28) 1), none⟩,
 ⟨some 8, some (.alloc Zb), none⟩,
 ⟨none, some (.store Zb (.tmp 8) (.tmp 32)), none⟩,
 ⟨some 9, some (.assign (.tmp 33)), none⟩])
  (.seq (.seq (.reg [] [⟨some 34, some (.move (.tmp 9)), none⟩,
 ⟨some 35, some (.unOp .not Zbg (.tmp 34)), none⟩])
  (.cond (.tmp 35) (.seq (.reg [] [⟨some 4, some (.assign (.const (.int .i64 0))), none⟩])
  .ret)
  .skip))
  (.reg [] [⟨some 36, some (.move (.tmp 5)), none⟩,
 ⟨some 37, some (.load Zb (.tmp 8)), none⟩,
 ⟨some 38, some (.buildSlice Zm 1 #[(0, (.tmp 37))]), none⟩,
 ⟨some 39, some (.call ⟨(.builtin .append), #[.tmp 36, .tmp 38], #[Zm, Zm]⟩), none⟩,
 ⟨some 5, some (.assign (.tmp 39)), none⟩])))))
  (.reg [] [⟨some 40, some (.binOp .add Zd (.tmp 24) (.const (.int .i64 1)) Zd), none⟩,
 ⟨some 24, some (.move (.tmp 40)), none⟩]))))
@[simp] theorem Zgn : defs Zbn = [25, 26, 27, 7, 29, 30, 31, 28, 32, 33, 8, 9, 34, 35, 4, 36, 37, 38, 39, 5, 40, 24] := by rfl
def Zde : LCode := (.seq (.reg [] [⟨some 3, some (.box Zc (.tmp 1)), none⟩,
 ⟨some 4, some (.assign (.const (.int .i64 0))), none⟩])
  (.seq (.reg [] [⟨some 5, some (.assign (.const (.slice none 0 0))), none⟩])
  (.seq (.seq (.reg [8, 9, 5609] [⟨some 12, some (.fieldAddr Zc (.tmp 3) 2), none⟩,
 ⟨some 13, some (.load Zd (.tmp 12)), none⟩,
 ⟨some 14, some (.fieldAddr Zc (.tmp 3) 3), none⟩,
 ⟨some 15, some (.load Zd (.tmp 14)), none⟩,
 ⟨some 16, some (.fieldAddr Zc (.tmp 3) 4), none⟩,
 ⟨some 17, some (.load Zd (.tmp 16)), none⟩,
 ⟨some 19, some (.fieldAddr Zc (.tmp 3) 0), none⟩,
 ⟨some 20, some (.load Zd (.tmp 19)), none⟩,
 ⟨some 21, some (.call ⟨(.value (.func Zdr)), #[.tmp 20], #[Zd]⟩), none⟩,
 ⟨some 18, some (.buildSlice Z7 3 #[(0, (.tmp 13)), (1, (.tmp 15)), (2, (.tmp 17))]), none⟩,
 ⟨some 22, some (.slice Z7 (.tmp 18) none (some (.tmp 21)) none), none⟩,
 ⟨some 23, some (.call ⟨(.builtin .len), #[.tmp 22], #[Z7]⟩), none⟩,
 ⟨some 24, some (.move (.const (.int .i64 0))), none⟩])
  (.block 0 (.loop Zbn)))
  (.seq (.reg [] [⟨some 42, some (.fieldAddr Zc (.tmp 3) 0), none⟩,
 ⟨some 43, some (.load Zd (.tmp 42)), none⟩,
 ⟨some 44, some (.fieldAddr Zc (.tmp 3) 5), none⟩,
 ⟨some 45, some (.load Zd (.tmp 44)), none⟩,
 ⟨some 46, some (.fieldAddr Zc (.tmp 3) 6), none⟩,
 ⟨some 47, some (.load Zd (.tmp 46)), none⟩,
 ⟨some 48, some (.move (.tmp 5)), none⟩,
 ⟨some 49, some (.call ⟨(.value (.func Zfg)), #[.tmp 43, .tmp 45, .tmp 47, .tmp 48], #[Zd, Zd, Zd, Zm]⟩), none⟩,
 ⟨some 41, some (.move (.tmp 49)), none⟩,
 ⟨some 50, some (.extract (.tmp 41) 0), none⟩,
 ⟨some 51, some (.extract (.tmp 41) 1), none⟩,
 ⟨some 10, some (.alloc Zb), none⟩,
 ⟨none, some (.store Zb (.tmp 10) (.tmp 50)), none⟩,
 ⟨some 11, some (.assign (.tmp 51)), none⟩])
  (.seq (.seq (.reg [] [⟨some 52, some (.move (.tmp 11)), none⟩,
 ⟨some 53, some (.binOp .neq Zba (.tmp 52) (.const (.int .i64 0)) Zba), none⟩])
  (.cond (.tmp 53) (.seq (.reg [] [⟨some 4, some (.assign (.const (.int .i64 0))), none⟩])
  .ret)
  .skip))
  (.seq (.reg [] [⟨some 54, some (.move (.tmp 0)), none⟩,
 ⟨some 55, some (.load Zb (.tmp 10)), none⟩,
 ⟨some 56, some (.call ⟨(.value (.func Zg)), #[.tmp 54, .tmp 55], #[Zh, Zb]⟩), none⟩,
 ⟨some 4, some (.assign (.tmp 56)), none⟩])
  .ret))))))
theorem Ze1 {a0 a1 : AV} {H : AHeap} : R Zw [a0, a1] H = fnK Try.prog [] H [(.tmp 4)] (evalL Try.prog KT R Zde (Env.args [a0, a1] 0) H) :=
  runs_body (D := DT) (f := Zw) Try.func43 (by kernel_rfl) (by kernel_rfl) (by kernel_rfl) (by kernel_rfl) (by kernel_rfl) (Nat.le_of_ble_eq_true rfl)
def Zv : LCode := (.seq (.reg [] [⟨some 2, some (.assign (.const (.int .i64 0))), none⟩])
  (.seq (.seq (.reg [] [⟨some 3, some (.move (.tmp 0)), none⟩])
  (.block 0 (.seq (.seq (.reg [] [⟨some 5, some (.binOp .eql Zd (.tmp 3) (.const (.int .i64 4)) Zd), none⟩,
 ⟨some 4, some (.assign (.tmp 5)), none⟩])
  (.cond (.tmp 4) .skip
  (.reg [] [⟨some 6, some (.binOp .eql Zd (.tmp 3) (.const (.int .i64 5)) Zd), none⟩,
 ⟨some 4, some (.assign (.tmp 6)), none⟩])))
  (.cond (.tmp 4) (.seq (.reg [] [⟨some 2, some (.assign (.const (.int .i64 1))), none⟩])
  .ret)
  (.seq (.seq (.reg [] [⟨some 8, some (.binOp .eql Zd (.tmp 3) (.const (.int .i64 6)) Zd), none⟩,
 ⟨some 7, some (.assign (.tmp 8)), none⟩])
  (.cond (.tmp 7) .skip
  (.seq (.reg [] [⟨some 9, some (.binOp .eql Zd (.tmp 3) (.const (.int .i64 29)) Zd), none⟩,
 ⟨some 7, some (.assign (.tmp 9)), none⟩])
  (.cond (.tmp 7) .skip
  (.seq (.reg [] [⟨some 10, some (.binOp .eql Zd (.tmp 3) (.const (.int .i64 31)) Zd), none⟩,
 ⟨some 7, some (.assign (.tmp 10)), none⟩])
  (.cond (.tmp 7) .skip
  (.seq (.reg [] [⟨some 11, some (.binOp .eql Zd (.tmp 3) (.const (.int .i64 33)) Zd), none⟩,
 ⟨some 7, some (.assign (.tmp 11)), none⟩])
  (.cond (.tmp 7) .skip
  (.reg [] [⟨some 12, some (.binOp .eql Zd (.tmp 3) (.const (.int .i64 35)) Zd), none⟩,
 ⟨some 7, some (.assign (.tmp 12)), none⟩])))))))))
  (.cond (.tmp 7) (.seq (.reg [] [⟨some 2, some (.assign (.const (.int .i64 2))), none⟩])
  .ret)
  (.seq (.seq (.reg [] [⟨some 14, some (.binOp .eql Zd (.tmp 3) (.const (.int .i64 8)) Zd), none⟩,
 ⟨some 13, some (.assign (.tmp 14)), none⟩])
  (.cond (.tmp 13) .skip
  (.seq (.reg [] [⟨some 15, some (.binOp .eql Zd (.tmp 3) (.const (.int .i64 30)) Zd), none⟩,
 ⟨some 13, some (.assign (.tmp 15)), none⟩])
  (.cond (.tmp 13) .skip
  (.seq (.reg [] [⟨some 16, some (.binOp .eql Zd (.tmp 3) (.const (.int .i64 32)) Zd), none⟩,
 ⟨some 13, some (.assign (.tmp 16)), none⟩])
  (.cond (.tmp 13) .skip
  (.seq (.reg [] [⟨some 17, some (.binOp .eql Zd (.tmp 3) (.const (.int .i64 34)) Zd), none⟩,
 ⟨some 13, some (.assign (.tmp 17)), none⟩])
  (.cond (.tmp 13) .skip
  (.seq (.reg [] [⟨some 18, some (.binOp .eql Zd (.tmp 3) (.const (.int .i64 36)) Zd), none⟩,
 ⟨some 13, some (.assign (.tmp 18)), none⟩])
  (.cond (.tmp 13) .skip
  (.reg [] [⟨some 19, some (.binOp .eql Zd (.tmp 3) (.const (.int .i64 7)) Zd), none⟩,
 ⟨some 13, some (.assign (.tmp 19)), none⟩])))))))))))
  (.cond (.tmp 13) (.seq (.reg [] [⟨some 2, some (.assign (.const (.int .i64 4))), none⟩])
  .ret)
  (.seq (.reg [] [⟨some 21, some (.binOp .eql Zd (.tmp 3) (.const (.int .i64 12)) Zd), none⟩,
 ⟨some 20, some (.assign (.tmp 21)), none⟩])
  (.cond (.tmp 20) (.seq (.reg [] [⟨some 2, some (.assign (.const (.int .i64 9))), none⟩])
  .ret)
  (.seq (.reg [] [⟨some 23, some (.binOp .eql Zd (.tmp 3) (.const (.int .i64 13)) Zd), none⟩,
 ⟨some 22, some (.assign (.tmp 23)), none⟩])
  (.cond (.tmp 22) (.seq (.reg [] [⟨some 2, some (.assign (.const (.int .i64 17))), none⟩])
  .ret)
  (.seq (.reg [] [⟨some 25, some (.binOp .eql Zd (.tmp 3) (.const (.int .i64 14)) Zd), none⟩,
 ⟨some 24, some (.assign (.tmp 25)), none⟩])
  (.cond (.tmp 24) (.seq (.reg [] [⟨some 2, some (.assign (.const (.int .i64 18))), none⟩])
  .ret)
  (.seq (.reg [] [⟨some 27, some (.binOp .eql Zd (.tmp 3) (.const (.int .i64 18)) Zd), none⟩,
 ⟨some 26, some (.assign (.tmp 27)), none⟩])
  (.cond (.tmp 26) (.seq (.reg [] [⟨some 2, some (.assign (.const (.int .i64 16))), none⟩])
  .ret)
  (.seq (.reg [] [⟨some 29, some (.binOp .eql Zd (.tmp 3) (.const (.int .i64 19)) Zd), none⟩,
 ⟨some 28, some (.assign (.tmp 29)), none⟩])
  (.cond (.tmp 28) (.seq (.reg [] [⟨some 2, some (.assign (.const (.int .i64 34))), none⟩])
  .ret)
  (.seq (.reg [] [⟨some 31, some (.binOp .eql Zd (.tmp 3) (.const (.int .i64 20)) Zd), none⟩,
 ⟨some 30, some (.assign (.tmp 31)), none⟩])
  (.cond (.tmp 30) (.seq (.reg [] [⟨some 2, some (.assign (.const (.int .i64 264))), none⟩])
  .ret)
  (.seq (.reg [] [⟨some 33, some (.binOp .eql Zd (.tmp 3) (.const (.int .i64 21)) Zd), none⟩,
 ⟨some 32, some (.assign (.tmp 33)), none⟩])
  (.cond (.tmp 32) (.seq (.reg [] [⟨some 2, some (.assign (.const (.int .i64 256))), none⟩])
  .ret)
  (.seq (.seq (.reg [] [⟨some 35, some (.binOp .eql Zd (.tmp 3) (.const (.int .i64 26)) Zd), none⟩,
 ⟨some 34, some (.assign (.tmp 35)), none⟩])
  (.cond (.tmp 34) .skip
  (.seq (.reg [] [⟨some 36, some (.binOp .eql Zd (.tmp 3) (.const (.int .i64 27)) Zd), none⟩,
 ⟨some 34, some (.assign (.tmp 36)), none⟩])
  (.cond (.tmp 34) .skip
  (.reg [] [⟨some 37, some (.binOp .eql Zd (.tmp 3) (.const (.int .i64 28)) Zd), none⟩,
 ⟨some 34, some (.assign (.tmp 37)), none⟩])))))
  (.cond (.tmp 34) (.seq (.reg [] [⟨some 2, some (.assign (.const (.int .i64 96))), none⟩])
  .ret)
  (.seq (.seq (.reg [] [⟨some 39, some (.binOp .eql Zd (.tmp 3) (.const (.int .i64 3)) Zd), none⟩,
 ⟨some 38, some (.assign (.tmp 39)), none⟩])
  (.cond (.tmp 38) .skip
  (.seq (.reg [] [⟨some 40, some (.binOp .eql Zd (.tmp 3) (.const (.int .i64 10)) Zd), none⟩,
 ⟨some 38, some (.assign (.tmp 40)), none⟩])
  (.cond (.tmp 38) .skip
  (.reg [] [⟨some 41, some (.binOp .eql Zd (.tmp 3) (.const (.int .i64 11)) Zd), none⟩,
 ⟨some 38, some (.assign (.tmp 41)), none⟩])))))
  (.cond (.tmp 38) (.seq (.reg [] [⟨some 2, some (.assign (.const (.int .i64 128))), none⟩])
  .ret)
  .skip))))))))))))))))))))))))))
  (.seq (.reg [] [⟨some 2, some (.assign (.const (.int .i64 0))), none⟩])
  .ret)))
theorem Zhi {a0 : AV} {H : AHeap} : R Zd5 [a0] H = fnK Try.prog [] H [(.tmp 2)] (evalL Try.prog KT R Zv (Env.args [a0] 0) H) :=
  runs_body (D := DT) (f := Zd5) Try.func44 (by kernel_rfl) (by kernel_rfl) (by kernel_rfl) (by kernel_rfl) (by kernel_rfl) (Nat.le_of_ble_eq_true rfl)
def Z6 : LCode := (.seq (.reg [] [⟨some 4, some (.box Zc (.tmp 1)), none⟩,
 ⟨some 5, some (.box Zc (.tmp 2)), none⟩,
 ⟨some 6, some (.assign (.const (.int .i64 0))), none⟩])
  (.seq (.seq (.reg [] [⟨some 11, some (.fieldAddr Zc (.tmp 5) 0), none⟩,
 ⟨some 12, some (.load Zd (.tmp 11)), none⟩])
  (.block 0 (.seq (.reg [] [⟨some 14, some (.binOp .eql Zd (.tmp 12) (.const (.int .i64 39)) Zd), none⟩,
 ⟨some 13, some (.assign (.tmp 14)), none⟩])
  (.cond (.tmp 13) (.seq (.reg [] [⟨some 15, some (.move (.tmp 0)), none⟩,
 ⟨some 16, some (.fieldAddr Zc (.tmp 5) 2), none⟩,
 ⟨some 17, some (.load Zd (.tmp 16)), none⟩,
 ⟨some 18, some (.fieldAddr Zc (.tmp 4) 5), none⟩,
 ⟨some 19, some (.load Zd (.tmp 18)), none⟩,
 ⟨some 20, some (.fieldAddr Zc (.tmp 5) 6), none⟩,
 ⟨some 21, some (.load Zd (.tmp 20)), none⟩,
 ⟨some 22, some (.binOp .add Zd (.tmp 19) (.tmp 21) Zd), none⟩,
 ⟨some 23, some (.fieldAddr Zc (.tmp 4) 6), none⟩,
 ⟨some 24, some (.load Zd (.tmp 23)), none⟩,
 ⟨some 25, some (.fieldAddr Zc (.tmp 5) 6), none⟩,
 ⟨some 26, some (.load Zd (.tmp 25)), none⟩,
 ⟨some 27, some (.binOp .add Zd (.tmp 24) (.tmp 26) Zd), none⟩,
 ⟨some 28, some (.build Zc #[(0, (.const (.int .i64 39))), (2, (.tmp 17)), (5, (.tmp 22)), (6, (.tmp 27))]), none⟩,
 ⟨some 29, some (.call ⟨(.value (.func Zj)), #[.tmp 15, .tmp 28], #[Zh, Zc]⟩), none⟩,
 ⟨some 6, some (.assign (.tmp 29)), none⟩])
  .ret)
  (.seq (.reg [] [⟨some 31, some (.binOp .eql Zd (.tmp 12) (.const (.int .i64 38)) Zd), none⟩,
 ⟨some 30, some (.assign (.tmp 31)), none⟩])
  (.cond (.tmp 30) (.seq (.reg [10] [⟨some 33, some (.move (.tmp 0)), none⟩,
 ⟨some 34, some (.nilCheck (.tmp 33)), none⟩,
 ⟨some 35, some (.fieldAddr Zq (.tmp 34) 0), none⟩,
 ⟨some 36, some (.load Zl (.tmp 35)), none⟩,
 ⟨some 37, some (.fieldAddr Zc (.tmp 5) 3), none⟩,
 ⟨some 38, some (.load Zd (.tmp 37)), none⟩,
 ⟨some 39, some (.call ⟨(.value (.func Zo)), #[.tmp 36, .tmp 38], #[Zl, Zd]⟩), none⟩,
 ⟨some 32, some (.move (.tmp 39)), none⟩,
 ⟨some 40, some (.extract (.tmp 32) 0), none⟩,
 ⟨some 41, some (.extract (.tmp 32) 1), none⟩,
 ⟨some 7, some (.alloc Zc), none⟩,
 ⟨none, some (.store Zc (.tmp 7) (.tmp 40)), none⟩,
 ⟨some 8, some (.assign (.tmp 41)), none⟩])
  (.seq (.seq (.reg [] [⟨some 42, some (.fieldAddr Zc (.tmp 4) 6), none⟩,
 ⟨some 43, some (.load Zd (.tmp 42)), none⟩,
 ⟨some 44, some (.fieldAddr Zc (.tmp 7) 1), none⟩,
 ⟨some 45, some (.load Zd (.tmp 44)), none⟩,
 ⟨some 46, some (.binOp .geq Zd (.tmp 43) (.tmp 45) Zd), none⟩])
  (.cond (.tmp 46) (.seq (.reg [] [⟨some 47, some (.move (.tmp 0)), none⟩,
 ⟨some 48, some (.fieldAddr Zc (.tmp 5) 2), none⟩,
 ⟨some 49, some (.load Zd (.tmp 48)), none⟩,
 ⟨some 50, some (.fieldAddr Zc (.tmp 4) 5), none⟩,
 ⟨some 51, some (.load Zd (.tmp 50)), none⟩,
 ⟨some 52, some (.fieldAddr Zc (.tmp 7) 1), none⟩,
 ⟨some 53, some (.load Zd (.tmp 52)), none⟩,
 ⟨some 54, some (.binOp .sub Zd (.tmp 51) (.tmp 53) Zd), none⟩,
 ⟨some 55, some (.fieldAddr Zc (.tmp 4) 6), none⟩,
 ⟨some 56, some (.load Zd (.tmp 55)), none⟩,
 ⟨some 57, some (.fieldAddr Zc (.tmp 7) 1), none⟩,
 ⟨some 58, some (.load Zd (.tmp 57)), none⟩,
 ⟨some 59, some (.binOp .sub Zd (.tmp 56) (.tmp 58) Zd), none⟩,
 ⟨some 60, some (.build Zc #[(0, (.const (.int .i64 39))), (2, (.tmp 49)), (5, (.tmp 54)), (6, (.tmp 59))]), none⟩,
 ⟨some 61, some (.call ⟨(.value (.func Zj)), #[.tmp 47, .tmp 60], #[Zh, Zc]⟩), none⟩,
 ⟨some 6, some (.assign (.tmp 61)), none⟩])
  .ret)
  .skip))
  (.seq (.reg [] [⟨some 62, some (.fieldAddr Zc (.tmp 4) 5), none⟩,
 ⟨some 63, some (.load Zd (.tmp 62)), none⟩,
 ⟨some 64, some (.fieldAddr Zc (.tmp 7) 1), none⟩,
 ⟨some 65, some (.load Zd (.tmp 64)), none⟩,
 ⟨some 66, some (.binOp .lss Zd (.tmp 63) (.tmp 65) Zd), none⟩])
  (.cond (.tmp 66) (.seq (.reg [] [⟨some 67, some (.move (.tmp 0)), none⟩,
 ⟨some 68, some (.fieldAddr Zc (.tmp 5) 3), none⟩,
 ⟨some 69, some (.load Zd (.tmp 68)), none⟩,
 ⟨some 70, some (.fieldAddr Zc (.tmp 4) 5), none⟩,
 ⟨some 71, some (.load Zd (.tmp 70)), none⟩,
 ⟨some 72, some (.fieldAddr Zc (.tmp 4) 6), none⟩,
 ⟨some 73, some (.load Zd (.tmp 72)), none⟩,
 ⟨some 74, some (.build Zc #[(0, (.const (.int .i64 39))), (2, (.tmp 69)), (5, (.tmp 71)), (6, (.tmp 73))]), none⟩,
 ⟨some 75, some (.call ⟨(.value (.func Zj)), #[.tmp 67, .tmp 74], #[Zh, Zc]⟩), none⟩,
 ⟨some 6, some (.assign (.tmp 75)), none⟩])
  .ret)
  .skip))))
  (.seq (.seq (.reg [] [⟨some 77, some (.binOp .eql Zd (.tmp 12) (.const (.int .i64 40)) Zd), none⟩,
 ⟨some 76, some (.assign (.tmp 77)), none⟩])
  (.cond (.tmp 76) .skip
  (.reg [] [⟨some 78, some (.binOp .eql Zd (.tmp 12) (.const (.int .i64 41)) Zd), none⟩,
 ⟨some 76, some (.assign (.tmp 78)), none⟩])))
  (.cond (.tmp 76) (.seq (.reg [10] [⟨some 80, some (.move (.tmp 0)), none⟩,
 ⟨some 81, some (.nilCheck (.tmp 80)), none⟩,
 ⟨some 82, some (.fieldAddr Zq (.tmp 81) 0), none⟩,
 ⟨some 83, some (.load Zl (.tmp 82)), none⟩,
 ⟨some 84, some (.fieldAddr Zc (.tmp 5) 2), none⟩,
 ⟨some 85, some (.load Zd (.tmp 84)), none⟩,
 ⟨some 86, some (.call ⟨(.value (.func Zo)), #[.tmp 83, .tmp 85], #[Zl, Zd]⟩), none⟩,
 ⟨some 79, some (.move (.tmp 86)), none⟩,
 ⟨some 87, some (.extract (.tmp 79) 0), none⟩,
 ⟨some 88, some (.extract (.tmp 79) 1), none⟩,
 ⟨some 9, some (.alloc Zc), none⟩,
 ⟨none, some (.store Zc (.tmp 9) (.tmp 87)), none⟩,
 ⟨some 10, some (.assign (.tmp 88)), none⟩])
  (.seq (.reg [] [⟨some 89, some (.fieldAddr Zc (.tmp 4) 5), none⟩,
 ⟨some 90, some (.load Zd (.tmp 89)), none⟩,
 ⟨some 91, some (.fieldAddr Zc (.tmp 9) 1), none⟩,
 ⟨some 92, some (.load Zd (.tmp 91)), none⟩,
 ⟨some 93, some (.binOp .lss Zd (.tmp 90) (.tmp 92) Zd), none⟩])
  (.cond (.tmp 93) (.seq (.reg [] [⟨some 94, some (.move (.tmp 0)), none⟩,
 ⟨some 95, some (.fieldAddr Zc (.tmp 5) 2), none⟩,
 ⟨some 96, some (.load Zd (.tmp 95)), none⟩,
 ⟨some 97, some (.fieldAddr Zc (.tmp 4) 5), none⟩,
 ⟨some 98, some (.load Zd (.tmp 97)), none⟩,
 ⟨some 99, some (.fieldAddr Zc (.tmp 4) 6), none⟩,
 ⟨some 100, some (.load Zd (.tmp 99)), none⟩,
 ⟨some 101, some (.build Zc #[(0, (.const (.int .i64 39))), (2, (.tmp 96)), (5, (.tmp 98)), (6, (.tmp 100))]), none⟩,
 ⟨some 102, some (.call ⟨(.value (.func Zj)), #[.tmp 94, .tmp 101], #[Zh, Zc]⟩), none⟩,
 ⟨some 6, some (.assign (.tmp 102)), none⟩])
  .ret)
  .skip)))
  .skip))))))))
  (.seq (.reg [] [⟨some 103, some (.move (.tmp 0)), none⟩,
 ⟨some 104, some (.load Zc (.tmp 4)), none⟩,
 ⟨some 105, some (.call ⟨(.value (.func Zf)), #[.tmp 103, .tmp 104], #[Zh, Zc]⟩), none⟩,
 ⟨some 6, some (.assign (.tmp 105)), none⟩])
  .ret)))
theorem Ze5 {a0 a1 a2 : AV} {H : AHeap} : R Z5 [a0, a1, a2] H = fnK Try.prog [] H [(.tmp 6)] (evalL Try.prog KT R Z6 (Env.args [a0, a1, a2] 0) H) :=
  runs_body (D := DT) (f := Z5) Try.func45 (by kernel_rfl) (by kernel_rfl) (by kernel_rfl) (by kernel_rfl) (by kernel_rfl) (Nat.le_of_ble_eq_true rfl)
def Zdp : LCode := (.seq (.reg [] [⟨some 4, some (.alloc Zb), none⟩,
 ⟨some 5, some (.assign (.const (.bool false))), none⟩])
  (.seq (.reg [] [⟨some 9, some (.move (.tmp 0)), none⟩,
 ⟨some 10, some (.nilCheck (.tmp 9)), none⟩,
 ⟨some 11, some (.fieldAddr Zq (.tmp 10) 0), none⟩,
 ⟨some 12, some (.load Zl (.tmp 11)), none⟩,
 ⟨some 13, some (.move (.tmp 1)), none⟩,
 ⟨some 14, some (.call ⟨(.value (.func Zo)), #[.tmp 12, .tmp 13], #[Zl, Zd]⟩), none⟩,
 ⟨some 8, some (.move (.tmp 14)), none⟩,
 ⟨some 15, some (.extract (.tmp 8) 0), none⟩,
 ⟨some 16, some (.extract (.tmp 8) 1), none⟩,
 ⟨some 6, some (.alloc Zc), none⟩,
 ⟨none, some (.store Zc (.tmp 6) (.tmp 15)), none⟩,
 ⟨some 7, some (.assign (.tmp 16)), none⟩])
  (.seq (.reg [3, 5, 999, 1006] [⟨some 17, some (.fieldAddr Zc (.tmp 6) 7), none⟩,
 ⟨some 18, some (.load Zb (.tmp 17)), none⟩,
 ⟨some 19, some (.fieldAddr Zc (.tmp 6) 0), none⟩,
 ⟨some 20, some (.load Zd (.tmp 19)), none⟩,
 ⟨some 21, some (.binOp .eql Zd (.tmp 20) (.const (.int .i64 1)) Zd), none⟩,
 ⟨none, some (.store Zb (.tmp 4) (.tmp 18)), none⟩,
 ⟨some 5, some (.assign (.tmp 21)), none⟩])
  .ret)))
theorem Ze6 {a0 a1 : AV} {H : AHeap} : R Zy [a0, a1] H = fnK Try.prog [] H [(.cell 4 Zb), (.tmp 5)] (evalL Try.prog KT R Zdp (Env.args [a0, a1] 0) H) :=
  runs_body (D := DT) (f := Zy) Try.func46 (by kernel_rfl) (by kernel_rfl) (by kernel_rfl) (by kernel_rfl) (by kernel_rfl) (Nat.le_of_ble_eq_true rfl)
def Zc6 : LCode := (.seq (.reg [] [⟨some 3, some (.box Zb (.tmp 1)), none⟩,
 ⟨some 4, some (.assign (.const (.int .i64 0))), none⟩])
  (.seq (.reg [] [⟨some 5, some (.move (.tmp 0)), none⟩,
 ⟨some 6, some (.fieldAddr Zb (.tmp 3) 0), none⟩,
 ⟨some 7, some (.load Zd (.tmp 6)), none⟩,
 ⟨some 8, some (.load Zb (.tmp 3)), none⟩,
 ⟨some 9, some (.build Zc #[(0, (.const (.int .i64 1))), (1, (.tmp 7)), (7, (.tmp 8))]), none⟩,
 ⟨some 10, some (.call ⟨(.value (.func Zf)), #[.tmp 5, .tmp 9], #[Zh, Zc]⟩), none⟩,
 ⟨some 4, some (.assign (.tmp 10)), none⟩])
  .ret))
theorem Zen {a0 a1 : AV} {H : AHeap} : R Zg [a0, a1] H = fnK Try.prog [] H [(.tmp 4)] (evalL Try.prog KT R Zc6 (Env.args [a0, a1] 0) H) :=
  runs_body (D := DT) (f := Zg) Try.func47 (by kernel_rfl) (by kernel_rfl) (by kernel_rfl) (by kernel_rfl) (by kernel_rfl) (Nat.le_of_ble_eq_true rfl)
def Zb9 : LCode := (.seq (.reg [] [⟨some 3, some (.box Zc (.tmp 1)), none⟩,
 ⟨some 4, some (.alloc Zb), none⟩])
  (.seq (.seq (.reg [] [⟨some 7, some (.fieldAddr Zc (.tmp 3) 0), none⟩,
 ⟨some 8, some (.load Zd (.tmp 7)), none⟩,
 ⟨some 9, some (.binOp .eql Zd (.tmp 8) (.const (.int .i64 14)) Zd), none⟩,
 ⟨some 10, some (.move (.tmp 9)), none⟩,
 ⟨some 11, some (.fieldAddr Zc (.tmp 3) 0), some (some 10, false)⟩,
 ⟨some 12, some (.load Zd (.tmp 11)), some (some 10, false)⟩,
 ⟨some 13, some (.binOp .eql Zd (.tmp 12) (.const (.int .i64 19)) Zd), some (some 10, false)⟩,
 ⟨some 14, some (.pick (.tmp 10) (.const (.bool true)) (.tmp 13)), none⟩])
  (.cond (.tmp 14) (.seq (.reg [10] [⟨some 16, some (.move (.tmp 0)), none⟩,
 ⟨some 17, some (.nilCheck (.tmp 16)), none⟩,
 ⟨some 18, some (.fieldAddr Zq (.tmp 17) 0), none⟩,
 ⟨some 19, some (.load Zl (.tmp 18)), none⟩,
 ⟨some 20, some (.fieldAddr Zc (.tmp 3) 2), none⟩,
 ⟨some 21, some (.load Zd (.tmp 20)), none⟩,
 ⟨some 22, some (.call ⟨(.value (.func Zo)), #[.tmp 19, .tmp 21], #[Zl, Zd]⟩), none⟩,
 ⟨some 15, some (.move (.tmp 22)), none⟩,
 ⟨some 23, some (.extract (.tmp 15) 0), none⟩,
 ⟨some 24, some (.extract (.tmp 15) 1), none⟩,
 ⟨some 5, some (.alloc Zc), none⟩,
 ⟨none, some (.store Zc (.tmp 5) (.tmp 23)), none⟩,
 ⟨some 6, some (.assign (.tmp 24)), none⟩])
  (.seq (.reg [] [⟨some 25, some (.fieldAddr Zc (.tmp 5) 1), none⟩,
 ⟨some 26, some (.load Zd (.tmp 25)), none⟩,
 ⟨some 27, some (.build Zb #[(0, (.tmp 26))]), none⟩,
 ⟨none, some (.store Zb (.tmp 4) (.tmp 27)), none⟩])
  .ret))
  .skip))
  (.seq (.reg [] [⟨some 28, some (.build Zb #[]), none⟩,
 ⟨none, some (.store Zb (.tmp 4) (.tmp 28)), none⟩])
  .ret)))
theorem Zfc {a0 a1 : AV} {H : AHeap} : R Zbt [a0, a1] H = fnK Try.prog [] H [(.cell 4 Zb)] (evalL Try.prog KT R Zb9 (Env.args [a0, a1] 0) H) :=
  runs_body (D := DT) (f := Zbt) Try.func48 (by kernel_rfl) (by kernel_rfl) (by kernel_rfl) (by kernel_rfl) (by kernel_rfl) (Nat.le_of_ble_eq_true rfl)
def Zhb : LCode := (.seq (.reg [] [⟨some 2, some (.alloc Zb), none⟩])
  (.seq (.seq (.reg [] [⟨some 3, some (.move (.tmp 0)), none⟩])
  (.cond (.tmp 3) (.seq (.reg [] [⟨some 4, some (.build Zb #[(1, (.const (.int .u64 1)))]), none⟩,
 ⟨none, some (.store Zb (.tmp 2) (.tmp 4)), none⟩])
  .ret)
  .skip))
  (.seq (.reg [] [⟨some 5, some (.build Zb #[]), none⟩,
 ⟨none, some (.store Zb (.tmp 2) (.tmp 5)), none⟩])
  .ret)))
theorem Zh4 {a0 : AV} {H : AHeap} : R Zds [a0] H = fnK Try.prog [] H [(.cell 2 Zb)] (evalL Try.prog KT R Zhb (Env.args [a0] 0) H) :=
  runs_body (D := DT) (f := Zds) Try.func49 (by kernel_rfl) (by kernel_rfl) (by kernel_rfl) (by kernel_rfl) (by kernel_rfl) (Nat.le_of_ble_eq_true rfl)
def Zi : LCode := (.seq (.reg [] [⟨some 3, some (.box Zc (.tmp 1)), none⟩,
 ⟨some 4, some (.assign (.const (.int .i64 0))), none⟩])
  (.seq (.seq (.reg [] [⟨some 10, some (.fieldAddr Zc (.tmp 3) 0), none⟩,
 ⟨some 11, some (.load Zd (.tmp 10)), none⟩,
 ⟨some 12, some (.binOp .lss Zd (.tmp 11) (.const (.int .i64 4)) Zd), none⟩,
 ⟨some 13, some (.move (.tmp 12)), none⟩,
 ⟨some 14, some (.fieldAddr Zc (.tmp 3) 0), some (some 13, false)⟩,
 ⟨some 15, some (.load Zd (.tmp 14)), some (some 13, false)⟩,
 ⟨some 16, some (.binOp .gtr Zd (.tmp 15) (.const (.int .i64 8)) Zd), some (some 13, false)⟩,
 ⟨some 17, some (.pick (.tmp 13) (.const (.bool true)) (.tmp 16)), none⟩])
  (.cond (.tmp 17) (.seq (.reg [] [⟨some 4, some (.assign (.const (.int .i64 0))), none⟩])
  .ret)
  .skip))
  (.seq (.reg [] [⟨some 18, some (.fieldAddr Zc (.tmp 3) 2), none⟩,
 ⟨some 19, some (.load Zd (.tmp 18)), none⟩,
 ⟨some 20, some (.fieldAddr Zc (.tmp 3) 3), none⟩,
 ⟨some 21, some (.load Zd (.tmp 20)), none⟩,
 ⟨some 5, some (.assign (.tmp 19)), none⟩,
 ⟨some 6, some (.assign (.tmp 21)), none⟩])
  (.seq (.reg [] [⟨some 23, some (.move (.tmp 0)), none⟩,
 ⟨some 24, some (.move (.tmp 5)), none⟩,
 ⟨some 25, some (.call ⟨(.value (.func Zy)), #[.tmp 23, .tmp 24], #[Zh, Zd]⟩), none⟩,
 ⟨some 22, some (.move (.tmp 25)), none⟩,
 ⟨some 26, some (.extract (.tmp 22) 0), none⟩,
 ⟨some 27, some (.extract (.tmp 22) 1), none⟩,
 ⟨some 7, some (.alloc Zb), none⟩,
 ⟨none, some (.store Zb (.tmp 7) (.tmp 26)), none⟩,
 ⟨some 8, some (.assign (.tmp 27)), none⟩])
  (.seq (.seq (.reg [] [⟨some 28, some (.move (.tmp 8)), none⟩,
 ⟨some 29, some (.unOp .not Zbg (.tmp 28)), none⟩,
 ⟨some 30, some (.move (.tmp 29)), none⟩,
 ⟨some 31, some (.fieldAddr Zc (.tmp 3) 0), some (some 30, true)⟩,
 ⟨some 32, some (.load Zd (.tmp 31)), some (some 30, true)⟩,
 ⟨some 33, some (.binOp .neq Zd (.tmp 32) (.const (.int .i64 7)) Zd), some (some 30, true)⟩,
 ⟨some 34, some (.pick (.tmp 30) (.tmp 33) (.const (.bool false))), none⟩])
  (.cond (.tmp 34) (.seq (.reg [] [⟨some 35, some (.move (.tmp 6)), none⟩,
 ⟨some 36, some (.move (.tmp 5)), none⟩,
 ⟨some 5, some (.assign (.tmp 35)), none⟩,
 ⟨some 6, some (.assign (.tmp 36)), none⟩])
  (.reg [] [⟨some 38, some (.move (.tmp 0)), none⟩,
 ⟨some 39, some (.move (.tmp 5)), none⟩,
 ⟨some 40, some (.call ⟨(.value (.func Zy)), #[.tmp 38, .tmp 39], #[Zh, Zd]⟩), none⟩,
 ⟨some 37, some (.move (.tmp 40)), none⟩,
 ⟨some 41, some (.extract (.tmp 37) 0), none⟩,
 ⟨some 42, some (.extract (.tmp 37) 1), none⟩,
 ⟨none, some (.store Zb (.tmp 7) (.tmp 41)), none⟩,
 ⟨some 8, some (.assign (.tmp 42)), none⟩]))
  .skip))
  (.seq (.seq (.reg [] [⟨some 43, some (.move (.tmp 8)), none⟩,
 ⟨some 44, some (.unOp .not Zbg (.tmp 43)), none⟩,
 ⟨some 45, some (.move (.tmp 44)), none⟩,
 ⟨some 46, some (.fieldAddr Zb (.tmp 7) 0), some (some 45, false)⟩,
 ⟨some 47, some (.load Zd (.tmp 46)), some (some 45, false)⟩,
 ⟨some 48, some (.binOp .gtr Zd (.tmp 47) (.const (.int .i64 0)) Zd), some (some 45, false)⟩,
 ⟨some 49, some (.pick (.tmp 45) (.const (.bool true)) (.tmp 48)), none⟩])
  (.cond (.tmp 49) (.seq (.reg [] [⟨some 4, some (.assign (.const (.int .i64 0))), none⟩])
  .ret)
  .skip))
  (.seq (.reg [] [⟨some 50, some (.fieldAddr Zb (.tmp 7) 1), none⟩,
 ⟨some 51, some (.load Ze (.tmp 50)), none⟩,
 ⟨some 52, some (.binOp .eql Ze (.tmp 51) (.const (.int .u64 1)) Ze), none⟩,
 ⟨some 9, some (.assign (.tmp 52)), none⟩])
  (.seq (.seq (.reg [] [⟨some 53, some (.fieldAddr Zc (.tmp 3) 0), none⟩,
 ⟨some 54, some (.load Zd (.tmp 53)), none⟩])
  (.block 0 (.seq (.reg [] [⟨some 56, some (.binOp .eql Zd (.tmp 54) (.const (.int .i64 4)) Zd), none⟩,
 ⟨some 55, some (.assign (.tmp 56)), none⟩])
  (.cond (.tmp 55) (.seq (.seq (.reg [] [⟨some 57, some (.move (.tmp 9)), none⟩])
  (.cond (.tmp 57) (.seq (.reg [] [⟨some 58, some (.move (.tmp 6)), none⟩,
 ⟨some 4, some (.assign (.tmp 58)), none⟩])
  .ret)
  .skip))
  (.seq (.reg [] [⟨some 59, some (.move (.tmp 5)), none⟩,
 ⟨some 4, some (.assign (.tmp 59)), none⟩])
  .ret))
  (.seq (.reg [] [⟨some 61, some (.binOp .eql Zd (.tmp 54) (.const (.int .i64 5)) Zd), none⟩,
 ⟨some 60, some (.assign (.tmp 61)), none⟩])
  (.cond (.tmp 60) (.seq (.seq (.reg [] [⟨some 62, some (.move (.tmp 9)), none⟩])
  (.cond (.tmp 62) (.seq (.reg [] [⟨some 63, some (.move (.tmp 5)), none⟩,
 ⟨some 4, some (.assign (.tmp 63)), none⟩])
  .ret)
  .skip))
  (.seq (.reg [] [⟨some 64, some (.move (.tmp 6)), none⟩,
 ⟨some 4, some (.assign (.tmp 64)), none⟩])
  .ret))
  (.seq (.reg [] [⟨some 66, some (.binOp .eql Zd (.tmp 54) (.const (.int .i64 7)) Zd), none⟩,
 ⟨some 65, some (.assign (.tmp 66)), none⟩])
  (.cond (.tmp 65) (.seq (.seq (.reg [] [⟨some 67, some (.move (.tmp 9)), none⟩])
  (.cond (.tmp 67) (.seq (.reg [] [⟨some 68, some (.move (.tmp 6)), none⟩,
 ⟨some 4, some (.assign (.tmp 68)), none⟩])
  .ret)
  .skip))
  (.seq (.reg [] [⟨some 69, some (.move (.tmp 0)), none⟩,
 ⟨some 70, some (.call ⟨(.value (.func Zds)), #[(.const (.bool true))], #[Zbg]⟩), none⟩,
 ⟨some 71, some (.call ⟨(.value (.func Zg)), #[.tmp 69, .tmp 70], #[Zh, Zb]⟩), none⟩,
 ⟨some 4, some (.assign (.tmp 71)), none⟩])
  .ret))
  (.seq (.reg [] [⟨some 73, some (.binOp .eql Zd (.tmp 54) (.const (.int .i64 6)) Zd), none⟩,
 ⟨some 72, some (.assign (.tmp 73)), none⟩])
  (.cond (.tmp 72) (.reg [] [⟨some 74, some (.move (.tmp 9)), none⟩,
 ⟨some 75, some (.unOp .not Zbg (.tmp 74)), none⟩,
 ⟨some 9, some (.assign (.tmp 75)), none⟩])
  .skip))))))))))
  (.seq (.seq (.reg [] [⟨some 76, some (.move (.tmp 9)), none⟩])
  (.cond (.tmp 76) (.seq (.reg [] [⟨some 77, some (.move (.tmp 6)), none⟩,
 ⟨some 4, some (.assign (.tmp 77)), none⟩])
  .ret)
  .skip))
  (.seq (.reg [] [⟨some 78, some (.move (.tmp 0)), none⟩,
 ⟨some 79, some (.move (.tmp 6)), none⟩,
 ⟨some 80, some (.build Zc #[(0, (.const (.int .i64 3))), (2, (.tmp 79))]), none⟩,
 ⟨some 81, some (.call ⟨(.value (.func Zj)), #[.tmp 78, .tmp 80], #[Zh, Zc]⟩), none⟩,
 ⟨some 4, some (.assign (.tmp 81)), none⟩])
  .ret))))))))))
theorem Ze7 {a0 a1 : AV} {H : AHeap} : R Zbj [a0, a1] H = fnK Try.prog [] H [(.tmp 4)] (evalL Try.prog KT R Zi (Env.args [a0, a1] 0) H) :=
  runs_body (D := DT) (f := Zbj) Try.func50 (by kernel_rfl) (by kernel_rfl) (by kernel_rfl) (by kernel_rfl) (by kernel_rfl) (Nat.le_of_ble_eq_true rfl)
def Zk : LCode := (.seq (.reg [] [⟨some 4, some (.box Zc (.tmp 1)), none⟩,
 ⟨some 6, some (.assign (.const (.int .i64 0))), none⟩])
  (.seq (.block 0 (.seq (.seq (.reg [] [⟨some 10, some (.move (.tmp 2)), none⟩,
 ⟨some 11, some (.binOp .and Zd (.tmp 10) (.const (.int .i64 8)) Zd), none⟩,
 ⟨some 12, some (.binOp .neq Zd (.tmp 11) (.const (.int .i64 0)) Zd), none⟩,
 ⟨some 13, some (.move (.tmp 12)), none⟩,
 ⟨some 14, some (.move (.tmp 0)), some (some 13, true)⟩,
 ⟨some 15, some (.fieldAddr Zc (.tmp 4) 2), some (some 13, true)⟩,
 ⟨some 16, some (.load Zd (.tmp 15)), some (some 13, true)⟩,
 ⟨some 17, some (.call ⟨(.value (.func Z2)), #[(.tmp 14), (.tmp 16), (.const (.int .u64 0))], #[Zh, Zd, Ze]⟩), some (some 13, true)⟩,
 ⟨some 18, some (.move (.tmp 17)), some (some 13, true)⟩,
 ⟨some 19, some (.move (.tmp 0)), some (some 18, false)⟩,
 ⟨some 20, some (.fieldAddr Zc (.tmp 4) 3), some (some 18, false)⟩,
 ⟨some 21, some (.load Zd (.tmp 20)), some (some 18, false)⟩,
 ⟨some 22, some (.call ⟨(.value (.func Z2)), #[(.tmp 19), (.tmp 21), (.const (.int .u64 0))], #[Zh, Zd, Ze]⟩), some (some 18, false)⟩,
 ⟨some 23, some (.pick (.tmp 18) (.const (.bool true)) (.tmp 22)), some (some 13, true)⟩,
 ⟨some 24, some (.pick (.tmp 13) (.tmp 23) (.const (.bool false))), none⟩,
 ⟨some 9, some (.assign (.tmp 24)), none⟩])
  (.cond (.tmp 9) .skip
  (.reg [] [⟨some 25, some (.move (.tmp 2)), none⟩,
 ⟨some 26, some (.binOp .and Zd (.tmp 25) (.const (.int .i64 64)) Zd), none⟩,
 ⟨some 27, some (.binOp .neq Zd (.tmp 26) (.const (.int .i64 0)) Zd), none⟩,
 ⟨some 28, some (.move (.tmp 27)), none⟩,
 ⟨some 29, some (.move (.tmp 0)), some (some 28, true)⟩,
 ⟨some 30, some (.fieldAddr Zc (.tmp 4) 2), some (some 28, true)⟩,
 ⟨some 31, some (.load Zd (.tmp 30)), some (some 28, true)⟩,
 ⟨some 32, some (.call ⟨(.value (.func Z2)), #[(.tmp 29), (.tmp 31), (.const (.int .u64 0))], #[Zh, Zd, Ze]⟩), some (some 28, true)⟩,
 ⟨some 33, some (.pick (.tmp 28) (.tmp 32) (.const (.bool false))), none⟩,
 ⟨some 9, some (.assign (.tmp 33)), none⟩])))
  (.cond (.tmp 9) (.seq (.reg [10] [⟨some 35, some (.move (.tmp 0)), none⟩,
 ⟨some 36, some (.nilCheck (.tmp 35)), none⟩,
 ⟨some 37, some (.fieldAddr Zq (.tmp 36) 0), none⟩,
 ⟨some 38, some (.load Zl (.tmp 37)), none⟩,
 ⟨some 39, some (.fieldAddr Zc (.tmp 4) 2), none⟩,
 ⟨some 40, some (.load Zd (.tmp 39)), none⟩,
 ⟨some 41, some (.call ⟨(.value (.func Zo)), #[.tmp 38, .tmp 40], #[Zl, Zd]⟩), none⟩,
 ⟨some 34, some (.move (.tmp 41)), none⟩,
 ⟨some 42, some (.extract (.tmp 34) 0), none⟩,
 ⟨some 43, some (.extract (.tmp 34) 1), none⟩,
 ⟨some 7, some (.alloc Zc), none⟩,
 ⟨none, some (.store Zc (.tmp 7) (.tmp 42)), none⟩,
 ⟨some 8, some (.assign (.tmp 43)), none⟩])
  (.seq (.reg [] [⟨some 44, some (.move (.tmp 0)), none⟩,
 ⟨some 45, some (.fieldAddr Zc (.tmp 7) 1), none⟩,
 ⟨some 46, some (.load Zd (.tmp 45)), none⟩,
 ⟨some 47, some (.build Zb #[(0, (.tmp 46))]), none⟩,
 ⟨some 48, some (.call ⟨(.value (.func Zg)), #[.tmp 44, .tmp 47], #[Zh, Zb]⟩), none⟩,
 ⟨some 6, some (.assign (.tmp 48)), none⟩])
  .ret))
  (.seq (.seq (.reg [] [⟨some 50, some (.move (.tmp 2)), none⟩,
 ⟨some 51, some (.binOp .and Zd (.tmp 50) (.const (.int .i64 48)) Zd), none⟩,
 ⟨some 52, some (.binOp .neq Zd (.tmp 51) (.const (.int .i64 0)) Zd), none⟩,
 ⟨some 53, some (.move (.tmp 52)), none⟩,
 ⟨some 54, some (.move (.tmp 0)), some (some 53, true)⟩,
 ⟨some 55, some (.fieldAddr Zc (.tmp 4) 3), some (some 53, true)⟩,
 ⟨some 56, some (.load Zd (.tmp 55)), some (some 53, true)⟩,
 ⟨some 57, some (.call ⟨(.value (.func Z2)), #[(.tmp 54), (.tmp 56), (.const (.int .u64 0))], #[Zh, Zd, Ze]⟩), some (some 53, true)⟩,
 ⟨some 58, some (.pick (.tmp 53) (.tmp 57) (.const (.bool false))), none⟩,
 ⟨some 49, some (.assign (.tmp 58)), none⟩])
  (.cond (.tmp 49) .skip
  (.reg [] [⟨some 59, some (.move (.tmp 2)), none⟩,
 ⟨some 60, some (.binOp .and Zd (.tmp 59) (.const (.int .i64 256)) Zd), none⟩,
 ⟨some 61, some (.binOp .neq Zd (.tmp 60) (.const (.int .i64 0)) Zd), none⟩,
 ⟨some 62, some (.move (.tmp 61)), none⟩,
 ⟨some 63, some (.move (.tmp 0)), some (some 62, true)⟩,
 ⟨some 64, some (.fieldAddr Zc (.tmp 4) 3), some (some 62, true)⟩,
 ⟨some 65, some (.load Zd (.tmp 64)), some (some 62, true)⟩,
 ⟨some 66, some (.call ⟨(.value (.func Z2)), #[(.tmp 63), (.tmp 65), (.const (.int .u64 1))], #[Zh, Zd, Ze]⟩), some (some 62, true)⟩,
 ⟨some 67, some (.pick (.tmp 62) (.tmp 66) (.const (.bool false))), none⟩,
 ⟨some 49, some (.assign (.tmp 67)), none⟩])))
  (.cond (.tmp 49) (.seq (.reg [] [⟨some 68, some (.fieldAddr Zc (.tmp 4) 2), none⟩,
 ⟨some 69, some (.load Zd (.tmp 68)), none⟩,
 ⟨some 6, some (.assign (.tmp 69)), none⟩])
  .ret)
  (.seq (.seq (.reg [] [⟨some 71, some (.move (.tmp 2)), none⟩,
 ⟨some 72, some (.binOp .and Zd (.tmp 71) (.const (.int .i64 16)) Zd), none⟩,
 ⟨some 73, some (.binOp .neq Zd (.tmp 72) (.const (.int .i64 0)) Zd), none⟩,
 ⟨some 74, some (.move (.tmp 73)), none⟩,
 ⟨some 75, some (.move (.tmp 0)), some (some 74, true)⟩,
 ⟨some 76, some (.fieldAddr Zc (.tmp 4) 2), some (some 74, true)⟩,
 ⟨some 77, some (.load Zd (.tmp 76)), some (some 74, true)⟩,
 ⟨some 78, some (.call ⟨(.value (.func Z2)), #[(.tmp 75), (.tmp 77), (.const (.int .u64 0))], #[Zh, Zd, Ze]⟩), some (some 74, true)⟩,
 ⟨some 79, some (.pick (.tmp 74) (.tmp 78) (.const (.bool false))), none⟩,
 ⟨some 70, some (.assign (.tmp 79)), none⟩])
  (.cond (.tmp 70) .skip
  (.reg [] [⟨some 80, some (.fieldAddr Zc (.tmp 4) 0), none⟩,
 ⟨some 81, some (.load Zd (.tmp 80)), none⟩,
 ⟨some 82, some (.binOp .eql Zd (.tmp 81) (.const (.int .i64 20)) Zd), none⟩,
 ⟨some 83, some (.move (.tmp 82)), none⟩,
 ⟨some 84, some (.move (.tmp 0)), some (some 83, true)⟩,
 ⟨some 85, some (.fieldAddr Zc (.tmp 4) 2), some (some 83, true)⟩,
 ⟨some 86, some (.load Zd (.tmp 85)), some (some 83, true)⟩,
 ⟨some 87, some (.call ⟨(.value (.func Z2)), #[(.tmp 84), (.tmp 86), (.const (.int .u64 1))], #[Zh, Zd, Ze]⟩), some (some 83, true)⟩,
 ⟨some 88, some (.pick (.tmp 83) (.tmp 87) (.const (.bool false))), none⟩,
 ⟨some 70, some (.assign (.tmp 88)), none⟩])))
  (.cond (.tmp 70) (.seq (.reg [] [⟨some 89, some (.fieldAddr Zc (.tmp 4) 3), none⟩,
 ⟨some 90, some (.load Zd (.tmp 89)), none⟩,
 ⟨some 6, some (.assign (.tmp 90)), none⟩])
  .ret)
  .skip)))))))
  (.seq (.seq (.reg [] [⟨some 91, some (.fieldAddr Zc (.tmp 4) 0), none⟩,
 ⟨some 92, some (.load Zd (.tmp 91)), none⟩,
 ⟨some 93, some (.binOp .eql Zd (.tmp 92) (.const (.int .i64 20)) Zd), none⟩])
  (.cond (.tmp 93) (.seq (.reg [] [⟨some 94, some (.move (.tmp 0)), none⟩,
 ⟨some 95, some (.load Zc (.tmp 4)), none⟩,
 ⟨some 96, some (.call ⟨(.value (.func Z1)), #[.tmp 94, .tmp 95], #[Zh, Zc]⟩), none⟩,
 ⟨some 6, some (.assign (.tmp 96)), none⟩])
  .ret)
  .skip))
  (.seq (.reg [] [⟨some 97, some (.move (.tmp 0)), none⟩,
 ⟨some 98, some (.load Zc (.tmp 4)), none⟩,
 ⟨some 99, some (.call ⟨(.value (.func Zf)), #[.tmp 97, .tmp 98], #[Zh, Zc]⟩), none⟩,
 ⟨some 6, some (.assign (.tmp 99)), none⟩])
  .ret))))
theorem Zdf {a0 a1 a2 : AV} {H : AHeap} : R Zx [a0, a1, a2] H = fnK Try.prog [] H [(.tmp 6)] (evalL Try.prog KT R Zk (Env.args [a0, a1, a2] 0) H) :=
  runs_body (D := DT) (f := Zx) Try.func51 (by kernel_rfl) (by kernel_rfl) (by kernel_rfl) (by kernel_rfl) (by kernel_rfl) (Nat.le_of_ble_eq_true rfl)
def Zim : LCode := (.seq (.reg [] [⟨some 3, some (.box Za (.tmp 1)), none⟩,
 ⟨some 4, some (.alloc Zb), none⟩])
  (.seq (.reg [] [⟨some 6, some (.move (.tmp 0)), none⟩,
 ⟨some 7, some (.call ⟨(.value (.func Zee)), #[.tmp 6], #[Zd]⟩), none⟩,
 ⟨some 5, some (.alloc Za), none⟩,
 ⟨none, some (.store Za (.tmp 5) (.tmp 7)), none⟩])
  (.seq (.reg [] [⟨some 8, some (.move (.tmp 0)), none⟩,
 ⟨some 9, some (.fieldAddr Za (.tmp 3) 0), none⟩,
 ⟨some 10, some (.load Ze (.tmp 9)), none⟩,
 ⟨some 11, some (.fieldAddr Za (.tmp 5) 0), none⟩,
 ⟨some 12, some (.load Ze (.tmp 11)), none⟩,
 ⟨some 13, some (.binOp .and Ze (.tmp 10) (.tmp 12) Ze), none⟩,
 ⟨some 14, some (.fieldAddr Za (.tmp 3) 1), none⟩,
 ⟨some 15, some (.load Ze (.tmp 14)), none⟩,
 ⟨some 16, some (.fieldAddr Za (.tmp 5) 1), none⟩,
 ⟨some 17, some (.load Ze (.tmp 16)), none⟩,
 ⟨some 18, some (.binOp .and Ze (.tmp 15) (.tmp 17) Ze), none⟩,
 ⟨some 19, some (.build Zb #[(0, (.tmp 8)), (1, (.tmp 13)), (2, (.tmp 18))]), none⟩,
 ⟨none, some (.store Zb (.tmp 4) (.tmp 19)), none⟩])
  .ret)))
theorem Ziy {a0 a1 : AV} {H : AHeap} : R Zcm [a0, a1] H = fnK Try.prog [] H [(.cell 4 Zb)] (evalL Try.prog KT R Zim (Env.args [a0, a1] 0) H) :=
  runs_body (D := DT) (f := Zcm) Try.func52 (by kernel_rfl) (by kernel_rfl) (by kernel_rfl) (by kernel_rfl) (by kernel_rfl) (Nat.le_of_ble_eq_true rfl)
def Zis : LCode := (.seq (.reg [] [⟨some 1, some (.box Zb (.tmp 0)), none⟩,
 ⟨some 2, some (.alloc Za), none⟩])
  (.seq (.reg [] [⟨some 3, some (.fieldAddr Zb (.tmp 1) 1), none⟩,
 ⟨some 4, some (.load Ze (.tmp 3)), none⟩,
 ⟨some 5, some (.fieldAddr Zb (.tmp 1) 2), none⟩,
 ⟨some 6, some (.load Ze (.tmp 5)), none⟩,
 ⟨some 7, some (.build Za #[(0, (.tmp 4)), (1, (.tmp 6))]), none⟩,
 ⟨none, some (.store Za (.tmp 2) (.tmp 7)), none⟩])
  .ret))
theorem Zi3 {a0 : AV} {H : AHeap} : R Zce [a0] H = fnK Try.prog [] H [(.cell 2 Za)] (evalL Try.prog KT R Zis (Env.args [a0] 0) H) :=
  runs_body (D := DT) (f := Zce) Try.func53 (by kernel_rfl) (by kernel_rfl) (by kernel_rfl) (by kernel_rfl) (by kernel_rfl) (Nat.le_of_ble_eq_true rfl)
def Zdg : LCode := (.seq (.reg [] [⟨some 4, some (.assign (.const (.bool false))), none⟩])
  (.seq (.reg [] [⟨some 5, some (.move (.tmp 0)), none⟩,
 ⟨some 6, some (.move (.tmp 1)), none⟩,
 ⟨some 7, some (.call ⟨(.value (.func Zcd)), #[.tmp 5, .tmp 6], #[Z7, Zi4]⟩), none⟩,
 ⟨some 8, some (.binOp .geq Zd (.tmp 7) (.const (.int .i64 0)) Zd), none⟩,
 ⟨some 4, some (.assign (.tmp 8)), none⟩])
  .ret))
theorem Ze2 {a0 a1 : AV} {H : AHeap} : R Zb5 [a0, a1] H = fnK Try.prog [] H [(.tmp 4)] (evalL Try.prog KT R Zdg (Env.args [a0, a1] 0) H) :=
  runs_body (D := DT) (f := Zb5) Try.func54 (by kernel_rfl) (by kernel_rfl) (by kernel_rfl) (by kernel_rfl) (by kernel_rfl) (Nat.le_of_ble_eq_true rfl)
def Zgo : LCode := (.seq (.reg [] [⟨some 2, some (.assign (.const (.bool false))), none⟩])
  (.seq (.reg [] [⟨some 3, some (.move (.tmp 0)), none⟩,
 ⟨some 4, some (.call ⟨(.value (.func Ze9)), #[.tmp 3], #[Zd]⟩), none⟩,
 ⟨some 5, some (.unOp .not Zbg (.tmp 4)), none⟩,
 ⟨some 2, some (.assign (.tmp 5)), none⟩])
  .ret))
theorem Zhw {a0 : AV} {H : AHeap} : R Zc8 [a0] H = fnK Try.prog [] H [(.tmp 2)] (evalL Try.prog KT R Zgo (Env.args [a0] 0) H) :=
  runs_body (D := DT) (f := Zc8) Try.func55 (by kernel_rfl) (by kernel_rfl) (by kernel_rfl) (by kernel_rfl) (by kernel_rfl) (Nat.le_of_ble_eq_true rfl)
def Zu : LCode := (.seq (.reg [] [⟨some 8, some (.assign (.const (.int .i64 0))), none⟩,
 ⟨some 9, some (.assign (.const (.bool false))), none⟩])
  (.seq (.reg [] [⟨some 15, some (.move (.tmp 1)), none⟩,
 ⟨some 16, some (.binOp .eql Zd (.tmp 15) (.const (.int .i64 0)) Zd), none⟩,
 ⟨some 17, some (.move (.tmp 16)), none⟩,
 ⟨some 18, some (.move (.tmp 2)), some (some 17, true)⟩,
 ⟨some 19, some (.binOp .eql Zd (.tmp 18) (.const (.int .i64 0)) Zd), some (some 17, true)⟩,
 ⟨some 20, some (.pick (.tmp 17) (.tmp 19) (.const (.bool false))), none⟩,
 ⟨some 10, some (.assign (.tmp 20)), none⟩])
  (.seq (.reg [] [⟨some 21, some (.move (.tmp 3)), none⟩,
 ⟨some 22, some (.indexAddr Z7 (.tmp 21) (.const (.int .i64 0))), none⟩,
 ⟨some 23, some (.load Zd (.tmp 22)), none⟩,
 ⟨some 24, some (.move (.tmp 3)), none⟩,
 ⟨some 25, some (.move (.tmp 3)), none⟩,
 ⟨some 26, some (.call ⟨(.builtin .len), #[.tmp 25], #[Z7]⟩), none⟩,
 ⟨some 27, some (.binOp .sub Zd (.tmp 26) (.const (.int .i64 1)) Zd), none⟩,
 ⟨some 28, some (.indexAddr Z7 (.tmp 24) (.tmp 27)), none⟩,
 ⟨some 29, some (.load Zd (.tmp 28)), none⟩,
 ⟨some 11, some (.assign (.tmp 23)), none⟩,
 ⟨some 12, some (.assign (.tmp 29)), none⟩])
  (.seq (.block 0 (.seq (.reg [] [⟨some 31, some (.move (.tmp 0)), none⟩,
 ⟨some 32, some (.binOp .leq Zd (.tmp 31) (.const (.int .i64 7)) Zd), none⟩,
 ⟨some 30, some (.assign (.tmp 32)), none⟩])
  (.cond (.tmp 30) (.seq (.reg [] [⟨some 33, some (.move (.tmp 10)), none⟩,
 ⟨some 34, some (.move (.tmp 33)), none⟩,
 ⟨some 35, some (.move (.tmp 11)), some (some 34, true)⟩,
 ⟨some 36, some (.binOp .eql Zd (.tmp 35) (.const (.int .i64 0)) Zd), some (some 34, true)⟩,
 ⟨some 37, some (.pick (.tmp 34) (.tmp 36) (.const (.bool false))), none⟩,
 ⟨some 38, some (.move (.tmp 37)), none⟩,
 ⟨some 39, some (.move (.tmp 12)), some (some 38, true)⟩,
 ⟨some 40, some (.binOp .eql Zd (.tmp 39) (.const (.int .i64 0)) Zd), some (some 38, true)⟩,
 ⟨some 41, some (.pick (.tmp 38) (.tmp 40) (.const (.bool false))), none⟩,
 ⟨some 8, some (.assign (.const (.int .i64 0))), none⟩,
 ⟨some 9, some (.assign (.tmp 41)), none⟩])
  .ret)
  (.seq (.reg [] [⟨some 43, some (.move (.tmp 0)), none⟩,
 ⟨some 44, some (.binOp .eql Zd (.tmp 43) (.const (.int .i64 8)) Zd), none⟩,
 ⟨some 42, some (.assign (.tmp 44)), none⟩])
  (.cond (.tmp 42) (.seq (.reg [] [⟨some 45, some (.move (.tmp 10)), none⟩,
 ⟨some 46, some (.move (.tmp 45)), none⟩,
 ⟨some 47, some (.move (.tmp 11)), some (some 46, true)⟩,
 ⟨some 48, some (.move (.tmp 12)), some (some 46, true)⟩,
 ⟨some 49, some (.binOp .eql Zd (.tmp 47) (.tmp 48) Zd), some (some 46, true)⟩,
 ⟨some 50, some (.pick (.tmp 46) (.tmp 49) (.const (.bool false))), none⟩,
 ⟨some 8, some (.assign (.const (.int .i64 0))), none⟩,
 ⟨some 9, some (.assign (.tmp 50)), none⟩])
  .ret)
  (.seq (.reg [] [⟨some 52, some (.move (.tmp 0)), none⟩,
 ⟨some 53, some (.binOp .eql Zd (.tmp 52) (.const (.int .i64 9)) Zd), none⟩,
 ⟨some 51, some (.assign (.tmp 53)), none⟩])
  (.cond (.tmp 51) (.seq (.reg [] [⟨some 54, some (.move (.tmp 12)), none⟩,
 ⟨some 55, some (.move (.tmp 10)), none⟩,
 ⟨some 56, some (.move (.tmp 55)), none⟩,
 ⟨some 57, some (.move (.tmp 11)), some (some 56, true)⟩,
 ⟨some 58, some (.binOp .eql Zd (.tmp 57) (.const (.int .i64 0)) Zd), some (some 56, true)⟩,
 ⟨some 59, some (.pick (.tmp 56) (.tmp 58) (.const (.bool false))), none⟩,
 ⟨some 60, some (.move (.tmp 59)), none⟩,
 ⟨some 61, some (.move (.tmp 3)), some (some 60, true)⟩,
 ⟨some 62, some (.indexAddr Z7 (.tmp 61) (.const (.int .i64 1))), some (some 60, true)⟩,
 ⟨some 63, some (.load Zd (.tmp 62)), some (some 60, true)⟩,
 ⟨some 64, some (.move (.tmp 12)), some (some 60, true)⟩,
 ⟨some 65, some (.binOp .eql Zd (.tmp 63) (.tmp 64) Zd), some (some 60, true)⟩,
 ⟨some 66, some (.pick (.tmp 60) (.tmp 65) (.const (.bool false))), none⟩,
 ⟨some 8, some (.assign (.tmp 54)), none⟩,
 ⟨some 9, some (.assign (.tmp 66)), none⟩])
  .ret)
  (.seq (.reg [] [⟨some 68, some (.move (.tmp 0)), none⟩,
 ⟨some 69, some (.binOp .eql Zd (.tmp 68) (.const (.int .i64 38)) Zd), none⟩,
 ⟨some 67, some (.assign (.tmp 69)), none⟩])
  (.cond (.tmp 67) (.seq (.reg [] [⟨some 70, some (.move (.tmp 11)), none⟩,
 ⟨some 71, some (.move (.tmp 12)), none⟩,
 ⟨some 72, some (.binOp .add Zd (.tmp 70) (.tmp 71) Zd), none⟩,
 ⟨some 73, some (.move (.tmp 10)), none⟩,
 ⟨some 74, some (.move (.tmp 73)), none⟩,
 ⟨some 75, some (.move (.tmp 11)), some (some 74, true)⟩,
 ⟨some 76, some (.binOp .gtr Zd (.tmp 75) (.const (.int .i64 0)) Zd), some (some 74, true)⟩,
 ⟨some 77, some (.pick (.tmp 74) (.tmp 76) (.const (.bool false))), none⟩,
 ⟨some 78, some (.move (.tmp 77)), none⟩,
 ⟨some 79, some (.move (.tmp 12)), some (some 78, true)⟩,
 ⟨some 80, some (.binOp .gtr Zd (.tmp 79) (.const (.int .i64 0)) Zd), some (some 78, true)⟩,
 ⟨some 81, some (.pick (.tmp 78) (.tmp 80) (.const (.bool false))), none⟩,
 ⟨some 8, some (.assign (.tmp 72)), none⟩,
 ⟨some 9, some (.assign (.tmp 81)), none⟩])
  .ret)
  (.seq (.reg [] [⟨some 83, some (.move (.tmp 0)), none⟩,
 ⟨some 84, some (.binOp .geq Zd (.tmp 83) (.const (.int .i64 39)) Zd), none⟩,
 ⟨some 82, some (.assign (.tmp 84)), none⟩])
  (.cond (.tmp 82) (.seq (.reg [] [⟨some 86, some (.move (.tmp 0)), none⟩,
 ⟨some 87, some (.move (.tmp 1)), none⟩,
 ⟨some 88, some (.move (.tmp 2)), none⟩,
 ⟨some 89, some (.move (.tmp 11)), none⟩,
 ⟨some 90, some (.call ⟨(.value (.func Zef)), #[.tmp 86, .tmp 87, .tmp 88, .tmp 89], #[Zd, Zd, Zd, Zd]⟩), none⟩,
 ⟨some 85, some (.move (.tmp 90)), none⟩,
 ⟨some 91, some (.extract (.tmp 85) 0), none⟩,
 ⟨some 92, some (.extract (.tmp 85) 1), none⟩,
 ⟨some 13, some (.assign (.tmp 91)), none⟩,
 ⟨some 14, some (.assign (.tmp 92)), none⟩])
  (.seq (.reg [] [⟨some 93, some (.move (.tmp 13)), none⟩,
 ⟨some 94, some (.move (.tmp 14)), none⟩,
 ⟨some 95, some (.move (.tmp 94)), none⟩,
 ⟨some 96, some (.move (.tmp 11)), some (some 95, true)⟩,
 ⟨some 97, some (.binOp .gtr Zd (.tmp 96) (.const (.int .i64 0)) Zd), some (some 95, true)⟩,
 ⟨some 98, some (.pick (.tmp 95) (.tmp 97) (.const (.bool false))), none⟩,
 ⟨some 8, some (.assign (.tmp 93)), none⟩,
 ⟨some 9, some (.assign (.tmp 98)), none⟩])
  .ret))
  (.seq (.reg [] [⟨some 100, some (.move (.tmp 0)), none⟩,
 ⟨some 101, some (.binOp .eql Zd (.tmp 100) (.const (.int .i64 37)) Zd), none⟩,
 ⟨some 99, some (.assign (.tmp 101)), none⟩])
  (.cond (.tmp 99) (.seq (.reg [] [⟨some 102, some (.move (.tmp 10)), none⟩,
 ⟨some 103, some (.move (.tmp 102)), none⟩,
 ⟨some 104, some (.move (.tmp 11)), some (some 103, true)⟩,
 ⟨some 105, some (.move (.tmp 12)), some (some 103, true)⟩,
 ⟨some 106, some (.binOp .eql Zd (.tmp 104) (.tmp 105) Zd), some (some 103, true)⟩,
 ⟨some 107, some (.pick (.tmp 103) (.tmp 106) (.const (.bool false))), none⟩,
 ⟨some 108, some (.move (.tmp 107)), none⟩,
 ⟨some 109, some (.move (.tmp 11)), some (some 108, true)⟩,
 ⟨some 110, some (.binOp .gtr Zd (.tmp 109) (.const (.int .i64 0)) Zd), some (some 108, true)⟩,
 ⟨some 111, some (.pick (.tmp 108) (.tmp 110) (.const (.bool false))), none⟩,
 ⟨some 8, some (.assign (.const (.int .i64 1))), none⟩,
 ⟨some 9, some (.assign (.tmp 111)), none⟩])
  .ret)
  (.seq (.reg [] [⟨some 113, some (.move (.tmp 0)), none⟩,
 ⟨some 114, some (.binOp .geq Zd (.tmp 113) (.const (.int .i64 29)) Zd), none⟩,
 ⟨some 112, some (.assign (.tmp 114)), none⟩])
  (.cond (.tmp 112) (.seq (.reg [] [⟨some 115, some (.move (.tmp 10)), none⟩,
 ⟨some 116, some (.move (.tmp 115)), none⟩,
 ⟨some 117, some (.move (.tmp 11)), some (some 116, true)⟩,
 ⟨some 118, some (.move (.tmp 12)), some (some 116, true)⟩,
 ⟨some 119, some (.binOp .eql Zd (.tmp 117) (.tmp 118) Zd), some (some 116, true)⟩,
 ⟨some 120, some (.pick (.tmp 116) (.tmp 119) (.const (.bool false))), none⟩,
 ⟨some 121, some (.move (.tmp 120)), none⟩,
 ⟨some 122, some (.move (.tmp 11)), some (some 121, true)⟩,
 ⟨some 123, some (.binOp .gtr Zd (.tmp 122) (.const (.int .i64 0)) Zd), some (some 121, true)⟩,
 ⟨some 124, some (.pick (.tmp 121) (.tmp 123) (.const (.bool false))), none⟩,
 ⟨some 8, some (.assign (.const (.int .i64 0))), none⟩,
 ⟨some 9, some (.assign (.tmp 124)), none⟩])
  .ret)
  .skip)))))))))))))))
  (.seq (.reg [] [⟨some 125, some (.move (.tmp 11)), none⟩,
 ⟨some 126, some (.move (.tmp 10)), none⟩,
 ⟨some 127, some (.move (.tmp 126)), none⟩,
 ⟨some 128, some (.move (.tmp 11)), some (some 127, true)⟩,
 ⟨some 129, some (.move (.tmp 12)), some (some 127, true)⟩,
 ⟨some 130, some (.binOp .eql Zd (.tmp 128) (.tmp 129) Zd), some (some 127, true)⟩,
 ⟨some 131, some (.pick (.tmp 127) (.tmp 130) (.const (.bool false))), none⟩,
 ⟨some 132, some (.move (.tmp 131)), none⟩,
 ⟨some 133, some (.move (.tmp 11)), some (some 132, true)⟩,
 ⟨some 134, some (.binOp .gtr Zd (.tmp 133) (.const (.int .i64 0)) Zd), some (some 132, true)⟩,
 ⟨some 135, some (.pick (.tmp 132) (.tmp 134) (.const (.bool false))), none⟩,
 ⟨some 8, some (.assign (.tmp 125)), none⟩,
 ⟨some 9, some (.assign (.tmp 135)), none⟩])
  .ret)))))
theorem Zii {a0 a1 a2 a3 : AV} {H : AHeap} : R Zfp [a0, a1, a2, a3] H = fnK Try.prog [] H [(.tmp 8), (.tmp 9)] (evalL Try.prog KT R Zu (Env.args [a0, a1, a2, a3] 0) H) :=
  runs_body (D := DT) (f := Zfp) Try.func56 (by kernel_rfl) (by kernel_rfl) (by kernel_rfl) (by kernel_rfl) (by kernel_rfl) (Nat.le_of_ble_eq_true rfl)
def Zc2 : LCode := (.seq (.reg [] [⟨some 2, some (.alloc Zt), none⟩,
 ⟨some 3, some (.assign (.const (.bool false))), none⟩])
  (.seq (.seq (.reg [] [⟨some 4, some (.move (.tmp 0)), none⟩])
  (.block 0 (.seq (.reg [] [⟨some 6, some (.binOp .eql Zd (.tmp 4) (.const (.int .i64 3)) Zd), none⟩,
 ⟨some 5, some (.assign (.tmp 6)), none⟩])
  (.cond (.tmp 5) (.seq (.reg [] [⟨some 7, some (.call ⟨(.value (.func Zcs)), #[(.func Zdh)], #[Zgm]⟩), none⟩,
 ⟨none, some (.store Zt (.tmp 2) (.tmp 7)), none⟩,
 ⟨some 3, some (.assign (.const (.bool true))), none⟩])
  .ret)
  (.seq (.reg [] [⟨some 9, some (.binOp .eql Zd (.tmp 4) (.const (.int .i64 4)) Zd), none⟩,
 ⟨some 8, some (.assign (.tmp 9)), none⟩])
  (.cond (.tmp 8) (.seq (.reg [] [⟨some 10, some (.call ⟨(.value (.func Zcs)), #[(.func Zdi)], #[Zgm]⟩), none⟩,
 ⟨none, some (.store Zt (.tmp 2) (.tmp 10)), none⟩,
 ⟨some 3, some (.assign (.const (.bool true))), none⟩])
  .ret)
  (.seq (.reg [] [⟨some 12, some (.binOp .eql Zd (.tmp 4) (.const (.int .i64 5)) Zd), none⟩,
 ⟨some 11, some (.assign (.tmp 12)), none⟩])
  (.cond (.tmp 11) (.seq (.reg [] [⟨some 13, some (.call ⟨(.value (.func Zcs)), #[(.func Zdj)], #[Zgm]⟩), none⟩,
 ⟨none, some (.store Zt (.tmp 2) (.tmp 13)), none⟩,
 ⟨some 3, some (.assign (.const (.bool true))), none⟩])
  .ret)
  (.seq (.reg [] [⟨some 15, some (.binOp .eql Zd (.tmp 4) (.const (.int .i64 6)) Zd), none⟩,
 ⟨some 14, some (.assign (.tmp 15)), none⟩])
  (.cond (.tmp 14) (.seq (.reg [] [⟨some 16, some (.call ⟨(.value (.func Zcs)), #[(.func Zc3)], #[Zgm]⟩), none⟩,
 ⟨none, some (.store Zt (.tmp 2) (.tmp 16)), none⟩,
 ⟨some 3, some (.assign (.const (.bool true))), none⟩])
  .ret)
  (.seq (.reg [] [⟨some 18, some (.binOp .eql Zd (.tmp 4) (.const (.int .i64 7)) Zd), none⟩,
 ⟨some 17, some (.assign (.tmp 18)), none⟩])
  (.cond (.tmp 17) (.seq (.reg [] [⟨some 19, some (.call ⟨(.value (.func Zcs)), #[(.func Zdk)], #[Zgm]⟩), none⟩,
 ⟨none, some (.store Zt (.tmp 2) (.tmp 19)), none⟩,
 ⟨some 3, some (.assign (.const (.bool true))), none⟩])
  .ret)
  (.seq (.reg [] [⟨some 21, some (.binOp .eql Zd (.tmp 4) (.const (.int .i64 8)) Zd), none⟩,
 ⟨some 20, some (.assign (.tmp 21)), none⟩])
  (.cond (.tmp 20) (.seq (.reg [] [⟨some 22, some (.call ⟨(.value (.func Zcs)), #[(.func Zdl)], #[Zgm]⟩), none⟩,
 ⟨none, some (.store Zt (.tmp 2) (.tmp 22)), none⟩,
 ⟨some 3, some (.assign (.const (.bool true))), none⟩])
  .ret)
  (.seq (.reg [] [⟨some 24, some (.binOp .eql Zd (.tmp 4) (.const (.int .i64 9)) Zd), none⟩,
 ⟨some 23, some (.assign (.tmp 24)), none⟩])
  (.cond (.tmp 23) (.seq (.reg [] [⟨some 25, some (.build Zt #[(0, (.func Zdm))]), none⟩,
 ⟨none, some (.store Zt (.tmp 2) (.tmp 25)), none⟩,
 ⟨some 3, some (.assign (.const (.bool true))), none⟩])
  .ret)
  .skip))))))))))))))))
  (.seq (.reg [] [⟨some 26, some (.build Zt #[]), none⟩,
 ⟨none, some (.store Zt (.tmp 2) (.tmp 26)), none⟩,
 ⟨some 3, some (.assign (.const (.bool false))), none⟩])
  .ret)))
theorem Zh5 {a0 : AV} {H : AHeap} : R Zea [a0] H = fnK Try.prog [] H [(.cell 2 Zt), (.tmp 3)] (evalL Try.prog KT R Zc2 (Env.args [a0] 0) H) :=
  runs_body (D := DT) (f := Zea) Try.func57 (by kernel_rfl) (by kernel_rfl) (by kernel_rfl) (by kernel_rfl) (by kernel_rfl) (Nat.le_of_ble_eq_true rfl)
def Zgw : LCode := (.seq (.reg [] [⟨some 1, some (.box Zd (.tmp 0)), none⟩,
 ⟨some 2, some (.alloc Zt), none⟩])
  (.seq (.reg [] [⟨some 3, some (.makeFunc (.func Zbq) #[] #[.tmp 1]), none⟩,
 ⟨some 4, some (.build Zt #[(0, (.tmp 3))]), none⟩,
 ⟨none, some (.store Zt (.tmp 2) (.tmp 4)), none⟩])
  .ret))
theorem Zh6 {a0 : AV} {H : AHeap} : R Zfh [a0] H = fnK Try.prog [] H [(.cell 2 Zt)] (evalL Try.prog KT R Zgw (Env.args [a0] 0) H) :=
  runs_body (D := DT) (f := Zfh) Try.func58 (by kernel_rfl) (by kernel_rfl) (by kernel_rfl) (by kernel_rfl) (by kernel_rfl) (Nat.le_of_ble_eq_true rfl)
def Zb4 : LCode := (.seq (.reg [] [⟨some 6, some (.assign (.const (.bool false))), none⟩])
  (.seq (.reg [] [⟨some 10, some (.move (.tmp 0)), none⟩,
 ⟨some 11, some (.move (.tmp 1)), none⟩,
 ⟨some 12, some (.call ⟨(.value (.func Zy)), #[.tmp 10, .tmp 11], #[Zh, Zd]⟩), none⟩,
 ⟨some 9, some (.move (.tmp 12)), none⟩,
 ⟨some 13, some (.extract (.tmp 9) 0), none⟩,
 ⟨some 14, some (.extract (.tmp 9) 1), none⟩,
 ⟨some 7, some (.alloc Zb), none⟩,
 ⟨none, some (.store Zb (.tmp 7) (.tmp 13)), none⟩,
 ⟨some 8, some (.assign (.tmp 14)), none⟩])
  (.seq (.reg [] [⟨some 15, some (.move (.tmp 8)), none⟩,
 ⟨some 16, some (.move (.tmp 15)), none⟩,
 ⟨some 17, some (.fieldAddr Zb (.tmp 7) 0), some (some 16, true)⟩,
 ⟨some 18, some (.load Zd (.tmp 17)), some (some 16, true)⟩,
 ⟨some 19, some (.binOp .gtr Zd (.tmp 18) (.const (.int .i64 0)) Zd), some (some 16, true)⟩,
 ⟨some 20, some (.pick (.tmp 16) (.tmp 19) (.const (.bool false))), none⟩,
 ⟨some 21, some (.move (.tmp 20)), none⟩,
 ⟨some 22, some (.fieldAddr Zb (.tmp 7) 1), some (some 21, true)⟩,
 ⟨some 23, some (.load Ze (.tmp 22)), some (some 21, true)⟩,
 ⟨some 24, some (.move (.tmp 2)), some (some 21, true)⟩,
 ⟨some 25, some (.binOp .eql Ze (.tmp 23) (.tmp 24) Ze), some (some 21, true)⟩,
 ⟨some 26, some (.pick (.tmp 21) (.tmp 25) (.const (.bool false))), none⟩,
 ⟨some 27, some (.move (.tmp 26)), none⟩,
 ⟨some 28, some (.fieldAddr Zb (.tmp 7) 2), some (some 27, true)⟩,
 ⟨some 29, some (.load Ze (.tmp 28)), some (some 27, true)⟩,
 ⟨some 30, some (.binOp .eql Ze (.tmp 29) (.const (.int .u64 0)) Ze), some (some 27, true)⟩,
 ⟨some 31, some (.pick (.tmp 27) (.tmp 30) (.const (.bool false))), none⟩,
 ⟨some 6, some (.assign (.tmp 31)), none⟩])
  .ret)))
theorem Zfl {a0 a1 a2 : AV} {H : AHeap} : R Z2 [a0, a1, a2] H = fnK Try.prog [] H [(.tmp 6)] (evalL Try.prog KT R Zb4 (Env.args [a0, a1, a2] 0) H) :=
  runs_body (D := DT) (f := Z2) Try.func59 (by kernel_rfl) (by kernel_rfl) (by kernel_rfl) (by kernel_rfl) (by kernel_rfl) (Nat.le_of_ble_eq_true rfl)
def Zbk : LCode := (.seq (.reg [] [⟨some 40, some (.binOp .lss Zd (.tmp 39) (.tmp 38) Zd), none⟩])
  (.seq (.cond (.tmp 40) .skip
  (.exit 2))
  (.seq (.block 3 (.seq (.reg [] [⟨some 41, some (.move (.tmp 39)), none⟩,
 ⟨some 9, some (.assign (.tmp 41)), none⟩])
  (.seq (.reg [] [⟨some 43, some (.fieldAddr Zb (.tmp 7) 0), none⟩,
 ⟨some 44, some (.load Zd (.tmp 43)), none⟩,
 ⟨some 45, some (.call ⟨(.value (.func Zga)), #[(.tmp 44), (.const (.int .u64 1)), (.const (.int .u64 0))], #[Zd, Ze, Ze]⟩), none⟩,
 ⟨some 42, some (.move (.tmp 45)), none⟩,
 ⟨some 46, some (.extract (.tmp 42) 0), none⟩,
 ⟨some 47, some (.extract (.tmp 42) 1), none⟩,
 ⟨some 10, some (.alloc Zb), none⟩,
 ⟨none, some (.store Zb (.tmp 10) (.tmp 46)), none⟩,
 ⟨some 11, some (.assign (.tmp 47)), none⟩])
  (.seq (.reg [3] [⟨some 48, some (.load Zb (.tmp 7)), none⟩,
 ⟨some 49, some (.load Zb (.tmp 10)), none⟩,
 ⟨some 50, some (.move (.tmp 9)), none⟩,
 ⟨some 51, some (.call ⟨(.value (.func Ze4)), #[.tmp 49, .tmp 50], #[Zb, Zd]⟩), none⟩,
 ⟨some 52, some (.binOp .eql Zb (.tmp 48) (.tmp 51) Zb), none⟩])
  (.cond (.tmp 52) (.seq (.reg [] [⟨some 54, some (.fieldAddr Zb (.tmp 7) 0), none⟩,
 ⟨some 55, some (.load Zd (.tmp 54)), none⟩,
 ⟨some 56, some (.move (.tmp 9)), none⟩,
 ⟨some 57, some (.convert Zd Ze (.tmp 56)), none⟩,
 ⟨some 58, some (.call ⟨(.value (.func Zga)), #[(.tmp 55), (.tmp 57), (.const (.int .u64 0))], #[Zd, Ze, Ze]⟩), none⟩,
 ⟨some 53, some (.move (.tmp 58)), none⟩,
 ⟨some 59, some (.extract (.tmp 53) 0), none⟩,
 ⟨some 60, some (.extract (.tmp 53) 1), none⟩,
 ⟨some 12, some (.alloc Zb), none⟩,
 ⟨none, some (.store Zb (.tmp 12) (.tmp 59)), none⟩,
 ⟨some 13, some (.assign (.tmp 60)), none⟩])
  (.seq (.reg [2, 5, 997, 1006] [⟨some 61, some (.move (.tmp 0)), none⟩,
 ⟨some 62, some (.indexAddr Zdx (.tmp 6) (.const (.int .i64 0))), none⟩,
 ⟨some 63, some (.load Zd (.tmp 62)), none⟩,
 ⟨some 64, some (.move (.tmp 0)), none⟩,
 ⟨some 65, some (.load Zb (.tmp 12)), none⟩,
 ⟨some 66, some (.call ⟨(.value (.func Zg)), #[.tmp 64, .tmp 65], #[Zh, Zb]⟩), none⟩,
 ⟨some 67, some (.build Zc #[(0, (.const (.int .i64 26))), (2, (.tmp 63)), (3, (.tmp 66))]), none⟩,
 ⟨some 68, some (.call ⟨(.value (.func Zj)), #[.tmp 61, .tmp 67], #[Zh, Zc]⟩), none⟩,
 ⟨some 4, some (.assign (.tmp 68)), none⟩])
  .ret))
  .skip)))))
  (.reg [] [⟨some 69, some (.binOp .add Zd (.tmp 39) (.const (.int .i64 1)) Zd), none⟩,
 ⟨some 39, some (.move (.tmp 69)), none⟩]))))
def Zbl : LCode := (.seq (.reg [] [⟨some 26, some (.binOp .lss Zd (.tmp 25) (.const (.int .i64 2)) Zd), none⟩])
  (.seq (.cond (.tmp 26) .skip
  (.exit 0))
  (.seq (.block 1 (.seq (.reg [] [⟨some 27, some (.index Zdq (.tmp 24) (.tmp 25)), none⟩,
 ⟨some 6, some (.alloc Zdx), none⟩,
 ⟨none, some (.store Zdx (.tmp 6) (.tmp 27)), none⟩])
  (.seq (.reg [] [⟨some 29, some (.move (.tmp 0)), none⟩,
 ⟨some 30, some (.indexAddr Zdx (.tmp 6) (.const (.int .i64 1))), none⟩,
 ⟨some 31, some (.load Zd (.tmp 30)), none⟩,
 ⟨some 32, some (.call ⟨(.value (.func Zy)), #[.tmp 29, .tmp 31], #[Zh, Zd]⟩), none⟩,
 ⟨some 28, some (.move (.tmp 32)), none⟩,
 ⟨some 33, some (.extract (.tmp 28) 0), none⟩,
 ⟨some 34, some (.extract (.tmp 28) 1), none⟩,
 ⟨some 7, some (.alloc Zb), none⟩,
 ⟨none, some (.store Zb (.tmp 7) (.tmp 33)), none⟩,
 ⟨some 8, some (.assign (.tmp 34)), none⟩])
  (.seq (.seq (.reg [] [⟨some 35, some (.move (.tmp 8)), none⟩,
 ⟨some 36, some (.unOp .not Zbg (.tmp 35)), none⟩])
  (.cond (.tmp 36) (.exit 1)
  .skip))
  (.seq (.reg [] [⟨some 37, some (.fieldAddr Zb (.tmp 7) 0), none⟩,
 ⟨some 38, some (.load Zd (.tmp 37)), none⟩,
 ⟨some 39, some (.move (.const (.int .i64 0))), none⟩])
  (.block 2 (.loop Zbk)))))))
  (.reg [] [⟨some 70, some (.binOp .add Zd (.tmp 25) (.const (.int .i64 1)) Zd), none⟩,
 ⟨some 25, some (.move (.tmp 70)), none⟩]))))
@[simp] theorem Zgk : defs Zbk = [40, 41, 9, 43, 44, 45, 42, 46, 47, 10, 11, 48, 49, 50, 51, 52, 54, 55, 56, 57, 58, 53, 59, 60, 12, 13, 61, 62, 63, 64, 65, 66, 67, 68, 4, 69, 39] := by rfl
@[simp] theorem Zgl : defs Zbl = [26, 27, 6, 29, 30, 31, 32, 28, 33, 34, 7, 8, 35, 36, 37, 38, 39, 40, 41, 9, 43, 44, 45, 42, 46, 47, 10, 11, 48, 49, 50, 51, 52, 54, 55, 56, 57, 58, 53, 59, 60, 12, 13, 61, 62, 63, 64, 65, 66, 67, 68, 4, 69, 39, 70, 25] := by rfl
def Zc7 : LCode := (.seq (.reg [] [⟨some 3, some (.box Zc (.tmp 1)), none⟩,
 ⟨some 4, some (.assign (.const (.int .i64 0))), none⟩])
  (.seq (.seq (.reg [] [⟨some 14, some (.fieldAddr Zc (.tmp 3) 2), none⟩,
 ⟨some 15, some (.load Zd (.tmp 14)), none⟩,
 ⟨some 16, some (.fieldAddr Zc (.tmp 3) 3), none⟩,
 ⟨some 17, some (.load Zd (.tmp 16)), none⟩,
 ⟨some 18, some (.build Zdx #[(0, (.tmp 15)), (1, (.tmp 17))]), none⟩,
 ⟨some 19, some (.fieldAddr Zc (.tmp 3) 3), none⟩,
 ⟨some 20, some (.load Zd (.tmp 19)), none⟩,
 ⟨some 21, some (.fieldAddr Zc (.tmp 3) 2), none⟩,
 ⟨some 22, some (.load Zd (.tmp 21)), none⟩,
 ⟨some 23, some (.build Zdx #[(0, (.tmp 20)), (1, (.tmp 22))]), none⟩,
 ⟨some 24, some (.build Zdq #[(0, (.tmp 18)), (1, (.tmp 23))]), none⟩,
 ⟨some 25, some (.move (.const (.int .i64 0))), none⟩])
  (.block 0 (.loop Zbl)))
  (.seq (.reg [] [⟨some 71, some (.move (.tmp 0)), none⟩,
 ⟨some 72, some (.load Zc (.tmp 3)), none⟩,
 ⟨some 73, some (.call ⟨(.value (.func Zf)), #[.tmp 71, .tmp 72], #[Zh, Zc]⟩), none⟩,
 ⟨some 4, some (.assign (.tmp 73)), none⟩])
  .ret)))
theorem Zeq {a0 a1 : AV} {H : AHeap} : R Z1 [a0, a1] H = fnK Try.prog [] H [(.tmp 4)] (evalL Try.prog KT R Zc7 (Env.args [a0, a1] 0) H) :=
  runs_body (D := DT) (f := Z1) Try.func60 (by kernel_rfl) (by kernel_rfl) (by kernel_rfl) (by kernel_rfl) (by kernel_rfl) (Nat.le_of_ble_eq_true rfl)
def Zh7 : LCode := (.seq (.reg [] [⟨some 2, some (.alloc Za), none⟩])
  (.seq (.reg [] [⟨some 3, some (.build Za #[]), none⟩,
 ⟨some 4, some (.call ⟨(.value (.func Z8)), #[.tmp 3], #[Za]⟩), none⟩,
 ⟨some 5, some (.move (.tmp 0)), none⟩,
 ⟨some 6, some (.binOp .sub Zd (.const (.int .i64 128)) (.tmp 5) Zd), none⟩,
 ⟨some 7, some (.call ⟨(.value (.func Z3)), #[.tmp 4, .tmp 6], #[Za, Zd]⟩), none⟩,
 ⟨none, some (.store Za (.tmp 2) (.tmp 7)), none⟩])
  .ret))
theorem Zit {a0 : AV} {H : AHeap} : R Zee [a0] H = fnK Try.prog [] H [(.cell 2 Za)] (evalL Try.prog KT R Zh7 (Env.args [a0] 0) H) :=
  runs_body (D := DT) (f := Zee) Try.func61 (by kernel_rfl) (by kernel_rfl) (by kernel_rfl) (by kernel_rfl) (by kernel_rfl) (Nat.le_of_ble_eq_true rfl)
def Zbs : LCode := (.seq (.reg [] [⟨some 9, some (.binOp .lss Zd (.tmp 8) (.tmp 7) Zd), none⟩])
  (.seq (.cond (.tmp 9) .skip
  (.exit 0))
  (.seq (.block 1 (.seq (.reg [] [⟨some 10, some (.move (.tmp 8)), none⟩,
 ⟨some 5, some (.assign (.tmp 10)), none⟩])
  (.seq (.reg [] [⟨some 11, some (.move (.tmp 1)), none⟩,
 ⟨some 12, some (.move (.tmp 0)), none⟩,
 ⟨some 13, some (.move (.tmp 5)), none⟩,
 ⟨some 14, some (.indexAddr Z7 (.tmp 12) (.tmp 13)), none⟩,
 ⟨some 15, some (.load Zd (.tmp 14)), none⟩,
 ⟨some 16, some (.call ⟨(.value (.tmp 11)), #[.tmp 15], #[Zd]⟩), none⟩])
  (.cond (.tmp 16) (.seq (.reg [] [⟨some 17, some (.move (.tmp 5)), none⟩,
 ⟨some 4, some (.assign (.tmp 17)), none⟩])
  .ret)
  .skip))))
  (.reg [] [⟨some 18, some (.binOp .add Zd (.tmp 8) (.const (.int .i64 1)) Zd), none⟩,
 ⟨some 8, some (.move (.tmp 18)), none⟩]))))
@[simp] theorem Zgx : defs Zbs = [9, 10, 5, 11, 12, 13, 14, 15, 16, 17, 4, 18, 8] := by rfl
def Zd4 : LCode := (.seq (.reg [] [⟨some 4, some (.assign (.const (.int .i64 0))), none⟩])
  (.seq (.seq (.reg [] [⟨some 6, some (.move (.tmp 0)), none⟩,
 ⟨some 7, some (.call ⟨(.builtin .len), #[.tmp 6], #[Z7]⟩), none⟩,
 ⟨some 8, some (.move (.const (.int .i64 0))), none⟩])
  (.block 0 (.loop Zbs)))
  (.seq (.reg [] [⟨some 4, some (.assign (.const (.int .i64 (-1)))), none⟩])
  .ret)))
theorem Zff {a0 a1 : AV} {H : AHeap} : R Zcd [a0, a1] H = fnK Try.prog [] H [(.tmp 4)] (evalL Try.prog KT R Zd4 (Env.args [a0, a1] 0) H) :=
  runs_body (D := DT) (f := Zcd) Try.func62 (by kernel_rfl) (by kernel_rfl) (by kernel_rfl) (by kernel_rfl) (by kernel_rfl) (Nat.le_of_ble_eq_true rfl)
def Zbw : LCode := (.seq (.reg [] [⟨some 8, some (.assign (.const (.int .i64 0))), none⟩,
 ⟨some 9, some (.assign (.const (.bool false))), none⟩])
  (.seq (.seq (.reg [] [⟨some 10, some (.move (.tmp 0)), none⟩])
  (.block 0 (.seq (.reg [] [⟨some 12, some (.binOp .eql Zd (.tmp 10) (.const (.int .i64 39)) Zd), none⟩,
 ⟨some 11, some (.assign (.tmp 12)), none⟩])
  (.cond (.tmp 11) (.seq (.reg [] [⟨some 13, some (.move (.tmp 1)), none⟩,
 ⟨some 14, some (.move (.tmp 2)), none⟩,
 ⟨some 15, some (.binOp .sub Zd (.tmp 13) (.tmp 14) Zd), none⟩,
 ⟨some 16, some (.binOp .add Zd (.tmp 15) (.const (.int .i64 1)) Zd), none⟩,
 ⟨some 17, some (.move (.tmp 2)), none⟩,
 ⟨some 18, some (.binOp .geq Zd (.tmp 17) (.const (.int .i64 0)) Zd), none⟩,
 ⟨some 19, some (.move (.tmp 18)), none⟩,
 ⟨some 20, some (.move (.tmp 1)), some (some 19, true)⟩,
 ⟨some 21, some (.move (.tmp 2)), some (some 19, true)⟩,
 ⟨some 22, some (.binOp .geq Zd (.tmp 20) (.tmp 21) Zd), some (some 19, true)⟩,
 ⟨some 23, some (.pick (.tmp 19) (.tmp 22) (.const (.bool false))), none⟩,
 ⟨some 24, some (.move (.tmp 23)), none⟩,
 ⟨some 25, some (.move (.tmp 1)), some (some 24, true)⟩,
 ⟨some 26, some (.move (.tmp 3)), some (some 24, true)⟩,
 ⟨some 27, some (.binOp .lss Zd (.tmp 25) (.tmp 26) Zd), some (some 24, true)⟩,
 ⟨some 28, some (.pick (.tmp 24) (.tmp 27) (.const (.bool false))), none⟩,
 ⟨some 8, some (.assign (.tmp 16)), none⟩,
 ⟨some 9, some (.assign (.tmp 28)), none⟩])
  .ret)
  (.seq (.seq (.reg [] [⟨some 30, some (.binOp .eql Zd (.tmp 10) (.const (.int .i64 42)) Zd), none⟩,
 ⟨some 29, some (.assign (.tmp 30)), none⟩])
  (.cond (.tmp 29) .skip
  (.reg [] [⟨some 31, some (.binOp .eql Zd (.tmp 10) (.const (.int .i64 43)) Zd), none⟩,
 ⟨some 29, some (.assign (.tmp 31)), none⟩])))
  (.cond (.tmp 29) (.seq (.reg [] [⟨some 32, some (.move (.tmp 3)), none⟩,
 ⟨some 33, some (.move (.tmp 1)), none⟩,
 ⟨some 34, some (.binOp .geq Zd (.tmp 33) (.const (.int .i64 0)) Zd), none⟩,
 ⟨some 35, some (.move (.tmp 34)), none⟩,
 ⟨some 36, some (.move (.tmp 2)), some (some 35, true)⟩,
 ⟨some 37, some (.binOp .eql Zd (.tmp 36) (.const (.int .i64 0)) Zd), some (some 35, true)⟩,
 ⟨some 38, some (.pick (.tmp 35) (.tmp 37) (.const (.bool false))), none⟩,
 ⟨some 8, some (.assign (.tmp 32)), none⟩,
 ⟨some 9, some (.assign (.tmp 38)), none⟩])
  .ret)
  (.seq (.reg [] [⟨some 40, some (.binOp .eql Zd (.tmp 10) (.const (.int .i64 44)) Zd), none⟩,
 ⟨some 39, some (.assign (.tmp 40)), none⟩])
  (.cond (.tmp 39) (.seq (.reg [] [⟨some 41, some (.move (.tmp 3)), none⟩,
 ⟨some 42, some (.move (.tmp 1)), none⟩,
 ⟨some 43, some (.call ⟨(.builtin .min), #[(.tmp 42), (.const (.int .i64 129))], #[Zd, Zd]⟩), none⟩,
 ⟨some 44, some (.binOp .mul Zd (.tmp 41) (.tmp 43) Zd), none⟩,
 ⟨some 45, some (.move (.tmp 1)), none⟩,
 ⟨some 46, some (.binOp .geq Zd (.tmp 45) (.const (.int .i64 1)) Zd), none⟩,
 ⟨some 47, some (.move (.tmp 46)), none⟩,
 ⟨some 48, some (.move (.tmp 2)), some (some 47, true)⟩,
 ⟨some 49, some (.binOp .eql Zd (.tmp 48) (.const (.int .i64 0)) Zd), some (some 47, true)⟩,
 ⟨some 50, some (.pick (.tmp 47) (.tmp 49) (.const (.bool false))), none⟩,
 ⟨some 8, some (.assign (.tmp 44)), none⟩,
 ⟨some 9, some (.assign (.tmp 50)), none⟩])
  .ret)
  .skip))))))))
  (.seq (.reg [] [⟨some 51, some (.move (.tmp 3)), none⟩,
 ⟨some 52, some (.move (.tmp 1)), none⟩,
 ⟨some 53, some (.call ⟨(.builtin .max), #[(.tmp 52), (.const (.int .i64 0))], #[Zd, Zd]⟩), none⟩,
 ⟨some 54, some (.call ⟨(.builtin .min), #[(.tmp 53), (.const (.int .i64 128))], #[Zd, Zd]⟩), none⟩,
 ⟨some 55, some (.binOp .add Zd (.tmp 51) (.tmp 54) Zd), none⟩,
 ⟨some 56, some (.move (.tmp 1)), none⟩,
 ⟨some 57, some (.binOp .geq Zd (.tmp 56) (.const (.int .i64 0)) Zd), none⟩,
 ⟨some 58, some (.move (.tmp 57)), none⟩,
 ⟨some 59, some (.move (.tmp 2)), some (some 58, true)⟩,
 ⟨some 60, some (.binOp .eql Zd (.tmp 59) (.const (.int .i64 0)) Zd), some (some 58, true)⟩,
 ⟨some 61, some (.pick (.tmp 58) (.tmp 60) (.const (.bool false))), none⟩,
 ⟨some 8, some (.assign (.tmp 55)), none⟩,
 ⟨some 9, some (.assign (.tmp 61)), none⟩])
  .ret)))
theorem Zhc {a0 a1 a2 a3 : AV} {H : AHeap} : R Zef [a0, a1, a2, a3] H = fnK Try.prog [] H [(.tmp 8), (.tmp 9)] (evalL Try.prog KT R Zbw (Env.args [a0, a1, a2, a3] 0) H) :=
  runs_body (D := DT) (f := Zef) Try.func63 (by kernel_rfl) (by kernel_rfl) (by kernel_rfl) (by kernel_rfl) (by kernel_rfl) (Nat.le_of_ble_eq_true rfl)
def Zgy : LCode := (.seq (.reg [] [⟨some 1, some (.box Zgm (.tmp 0)), none⟩,
 ⟨some 2, some (.alloc Zt), none⟩])
  (.seq (.reg [] [⟨some 3, some (.makeFunc (.func Zbz) #[] #[.tmp 1]), none⟩,
 ⟨some 4, some (.build Zt #[(0, (.tmp 3))]), none⟩,
 ⟨none, some (.store Zt (.tmp 2) (.tmp 4)), none⟩])
  .ret))
theorem Zh8 {a0 : AV} {H : AHeap} : R Zcs [a0] H = fnK Try.prog [] H [(.cell 2 Zt)] (evalL Try.prog KT R Zgy (Env.args [a0] 0) H) :=
  runs_body (D := DT) (f := Zcs) Try.func64 (by kernel_rfl) (by kernel_rfl) (by kernel_rfl) (by kernel_rfl) (by kernel_rfl) (Nat.le_of_ble_eq_true rfl)
def Zgb : LCode := (.seq (.reg [] [⟨some 2, some (.assign (.const (.bool false))), none⟩])
  (.seq (.reg [] [⟨some 3, some (.move (.tmp 0)), none⟩,
 ⟨some 4, some (.indexAddr Zm (.tmp 3) (.const (.int .i64 0))), none⟩,
 ⟨some 5, some (.load Zb (.tmp 4)), none⟩,
 ⟨some 6, some (.call ⟨(.value (.func Zcw)), #[.tmp 5], #[Zb]⟩), none⟩,
 ⟨some 7, some (.unOp .not Zbg (.tmp 6)), none⟩,
 ⟨some 2, some (.assign (.tmp 7)), none⟩])
  .ret))
theorem Zhj {a0 : AV} {H : AHeap} : R Zdh [a0] H = fnK Try.prog [] H [(.tmp 2)] (evalL Try.prog KT R Zgb (Env.args [a0] 0) H) :=
  runs_body (D := DT) (f := Zdh) Try.func65 (by kernel_rfl) (by kernel_rfl) (by kernel_rfl) (by kernel_rfl) (by kernel_rfl) (Nat.le_of_ble_eq_true rfl)
def Zhu : LCode := (.seq (.reg [] [⟨some 1, some (.box Zb (.tmp 0)), none⟩,
 ⟨some 2, some (.assign (.const (.bool false))), none⟩])
  (.seq (.reg [] [⟨some 3, some (.fieldAddr Zb (.tmp 1) 1), none⟩,
 ⟨some 4, some (.load Ze (.tmp 3)), none⟩,
 ⟨some 5, some (.binOp .eql Ze (.tmp 4) (.const (.int .u64 1)) Ze), none⟩,
 ⟨some 2, some (.assign (.tmp 5)), none⟩])
  .ret))
theorem Zip {a0 : AV} {H : AHeap} : R Zcw [a0] H = fnK Try.prog [] H [(.tmp 2)] (evalL Try.prog KT R Zhu (Env.args [a0] 0) H) :=
  runs_body (D := DT) (f := Zcw) Try.func66 (by kernel_rfl) (by kernel_rfl) (by kernel_rfl) (by kernel_rfl) (by kernel_rfl) (Nat.le_of_ble_eq_true rfl)
def Zgc : LCode := (.seq (.reg [] [⟨some 2, some (.assign (.const (.bool false))), none⟩])
  (.seq (.reg [] [⟨some 3, some (.move (.tmp 0)), none⟩,
 ⟨some 4, some (.indexAddr Zm (.tmp 3) (.const (.int .i64 0))), none⟩,
 ⟨some 5, some (.load Zb (.tmp 4)), none⟩,
 ⟨some 6, some (.call ⟨(.value (.func Zcw)), #[.tmp 5], #[Zb]⟩), none⟩,
 ⟨some 7, some (.move (.tmp 6)), none⟩,
 ⟨some 8, some (.move (.tmp 0)), some (some 7, true)⟩,
 ⟨some 9, some (.indexAddr Zm (.tmp 8) (.const (.int .i64 1))), some (some 7, true)⟩,
 ⟨some 10, some (.load Zb (.tmp 9)), some (some 7, true)⟩,
 ⟨some 11, some (.call ⟨(.value (.func Zcw)), #[.tmp 10], #[Zb]⟩), some (some 7, true)⟩,
 ⟨some 12, some (.pick (.tmp 7) (.tmp 11) (.const (.bool false))), none⟩,
 ⟨some 2, some (.assign (.tmp 12)), none⟩])
  .ret))
theorem Zhk {a0 : AV} {H : AHeap} : R Zdi [a0] H = fnK Try.prog [] H [(.tmp 2)] (evalL Try.prog KT R Zgc (Env.args [a0] 0) H) :=
  runs_body (D := DT) (f := Zdi) Try.func67 (by kernel_rfl) (by kernel_rfl) (by kernel_rfl) (by kernel_rfl) (by kernel_rfl) (Nat.le_of_ble_eq_true rfl)
def Zgd : LCode := (.seq (.reg [] [⟨some 2, some (.assign (.const (.bool false))), none⟩])
  (.seq (.reg [] [⟨some 3, some (.move (.tmp 0)), none⟩,
 ⟨some 4, some (.indexAddr Zm (.tmp 3) (.const (.int .i64 0))), none⟩,
 ⟨some 5, some (.load Zb (.tmp 4)), none⟩,
 ⟨some 6, some (.call ⟨(.value (.func Zcw)), #[.tmp 5], #[Zb]⟩), none⟩,
 ⟨some 7, some (.move (.tmp 6)), none⟩,
 ⟨some 8, some (.move (.tmp 0)), some (some 7, false)⟩,
 ⟨some 9, some (.indexAddr Zm (.tmp 8) (.const (.int .i64 1))), some (some 7, false)⟩,
 ⟨some 10, some (.load Zb (.tmp 9)), some (some 7, false)⟩,
 ⟨some 11, some (.call ⟨(.value (.func Zcw)), #[.tmp 10], #[Zb]⟩), some (some 7, false)⟩,
 ⟨some 12, some (.pick (.tmp 7) (.const (.bool true)) (.tmp 11)), none⟩,
 ⟨some 2, some (.assign (.tmp 12)), none⟩])
  .ret))
theorem Zhl {a0 : AV} {H : AHeap} : R Zdj [a0] H = fnK Try.prog [] H [(.tmp 2)] (evalL Try.prog KT R Zgd (Env.args [a0] 0) H) :=
  runs_body (D := DT) (f := Zdj) Try.func68 (by kernel_rfl) (by kernel_rfl) (by kernel_rfl) (by kernel_rfl) (by kernel_rfl) (Nat.le_of_ble_eq_true rfl)
def Zge : LCode := (.seq (.reg [] [⟨some 2, some (.assign (.const (.bool false))), none⟩])
  (.seq (.reg [3] [⟨some 3, some (.move (.tmp 0)), none⟩,
 ⟨some 4, some (.indexAddr Zm (.tmp 3) (.const (.int .i64 0))), none⟩,
 ⟨some 5, some (.load Zb (.tmp 4)), none⟩,
 ⟨some 6, some (.call ⟨(.value (.func Zcw)), #[.tmp 5], #[Zb]⟩), none⟩,
 ⟨some 7, some (.move (.tmp 0)), none⟩,
 ⟨some 8, some (.indexAddr Zm (.tmp 7) (.const (.int .i64 1))), none⟩,
 ⟨some 9, some (.load Zb (.tmp 8)), none⟩,
 ⟨some 10, some (.call ⟨(.value (.func Zcw)), #[.tmp 9], #[Zb]⟩), none⟩,
 ⟨some 11, some (.binOp .neq Zbg (.tmp 6) (.tmp 10) Zbg), none⟩,
 ⟨some 2, some (.assign (.tmp 11)), none⟩])
  .ret))
theorem Zhm {a0 : AV} {H : AHeap} : R Zc3 [a0] H = fnK Try.prog [] H [(.tmp 2)] (evalL Try.prog KT R Zge (Env.args [a0] 0) H) :=
  runs_body (D := DT) (f := Zc3) Try.func69 (by kernel_rfl) (by kernel_rfl) (by kernel_rfl) (by kernel_rfl) (by kernel_rfl) (Nat.le_of_ble_eq_true rfl)
def Zgf : LCode := (.seq (.reg [] [⟨some 2, some (.assign (.const (.bool false))), none⟩])
  (.seq (.reg [] [⟨some 3, some (.move (.tmp 0)), none⟩,
 ⟨some 4, some (.indexAddr Zm (.tmp 3) (.const (.int .i64 0))), none⟩,
 ⟨some 5, some (.load Zb (.tmp 4)), none⟩,
 ⟨some 6, some (.call ⟨(.value (.func Zcw)), #[.tmp 5], #[Zb]⟩), none⟩,
 ⟨some 7, some (.unOp .not Zbg (.tmp 6)), none⟩,
 ⟨some 8, some (.move (.tmp 7)), none⟩,
 ⟨some 9, some (.move (.tmp 0)), some (some 8, false)⟩,
 ⟨some 10, some (.indexAddr Zm (.tmp 9) (.const (.int .i64 1))), some (some 8, false)⟩,
 ⟨some 11, some (.load Zb (.tmp 10)), some (some 8, false)⟩,
 ⟨some 12, some (.call ⟨(.value (.func Zcw)), #[.tmp 11], #[Zb]⟩), some (some 8, false)⟩,
 ⟨some 13, some (.pick (.tmp 8) (.const (.bool true)) (.tmp 12)), none⟩,
 ⟨some 2, some (.assign (.tmp 13)), none⟩])
  .ret))
theorem Zhn {a0 : AV} {H : AHeap} : R Zdk [a0] H = fnK Try.prog [] H [(.tmp 2)] (evalL Try.prog KT R Zgf (Env.args [a0] 0) H) :=
  runs_body (D := DT) (f := Zdk) Try.func70 (by kernel_rfl) (by kernel_rfl) (by kernel_rfl) (by kernel_rfl) (by kernel_rfl) (Nat.le_of_ble_eq_true rfl)
def Zgg : LCode := (.seq (.reg [] [⟨some 2, some (.assign (.const (.bool false))), none⟩])
  (.seq (.reg [] [⟨some 3, some (.move (.tmp 0)), none⟩,
 ⟨some 4, some (.indexAddr Zm (.tmp 3) (.const (.int .i64 0))), none⟩,
 ⟨some 5, some (.load Zb (.tmp 4)), none⟩,
 ⟨some 6, some (.move (.tmp 0)), none⟩,
 ⟨some 7, some (.indexAddr Zm (.tmp 6) (.const (.int .i64 1))), none⟩,
 ⟨some 8, some (.load Zb (.tmp 7)), none⟩,
 ⟨some 9, some (.binOp .eql Zb (.tmp 5) (.tmp 8) Zb), none⟩,
 ⟨some 2, some (.assign (.tmp 9)), none⟩])
  .ret))
theorem Zho {a0 : AV} {H : AHeap} : R Zdl [a0] H = fnK Try.prog [] H [(.tmp 2)] (evalL Try.prog KT R Zgg (Env.args [a0] 0) H) :=
  runs_body (D := DT) (f := Zdl) Try.func71 (by kernel_rfl) (by kernel_rfl) (by kernel_rfl) (by kernel_rfl) (by kernel_rfl) (Nat.le_of_ble_eq_true rfl)
def Zgh : LCode := (.seq (.reg [] [⟨some 6, some (.alloc Zb), none⟩,
 ⟨some 7, some (.assign (.const (.int .i64 0))), none⟩])
  (.seq (.seq (.reg [] [⟨some 8, some (.move (.tmp 2)), none⟩,
 ⟨some 9, some (.indexAddr Zm (.tmp 8) (.const (.int .i64 0))), none⟩,
 ⟨some 10, some (.load Zb (.tmp 9)), none⟩,
 ⟨some 11, some (.call ⟨(.value (.func Zcw)), #[.tmp 10], #[Zb]⟩), none⟩])
  (.cond (.tmp 11) (.seq (.reg [] [⟨some 12, some (.move (.tmp 2)), none⟩,
 ⟨some 13, some (.indexAddr Zm (.tmp 12) (.const (.int .i64 1))), none⟩,
 ⟨some 14, some (.load Zb (.tmp 13)), none⟩,
 ⟨none, some (.store Zb (.tmp 6) (.tmp 14)), none⟩,
 ⟨some 7, some (.assign (.const (.int .i64 0))), none⟩])
  .ret)
  .skip))
  (.seq (.reg [] [⟨some 15, some (.move (.tmp 2)), none⟩,
 ⟨some 16, some (.indexAddr Zm (.tmp 15) (.const (.int .i64 2))), none⟩,
 ⟨some 17, some (.load Zb (.tmp 16)), none⟩,
 ⟨none, some (.store Zb (.tmp 6) (.tmp 17)), none⟩,
 ⟨some 7, some (.assign (.const (.int .i64 0))), none⟩])
  .ret)))
theorem Zhp {a0 a1 a2 : AV} {H : AHeap} : R Zdm [a0, a1, a2] H = fnK Try.prog [] H [(.cell 6 Zb), (.tmp 7)] (evalL Try.prog KT R Zgh (Env.args [a0, a1, a2] 0) H) :=
  runs_body (D := DT) (f := Zdm) Try.func72 (by kernel_rfl) (by kernel_rfl) (by kernel_rfl) (by kernel_rfl) (by kernel_rfl) (Nat.le_of_ble_eq_true rfl)
def Zcu : LCode := (.seq (.reg [] [⟨some 7, some (.alloc Zb), none⟩,
 ⟨some 8, some (.assign (.const (.int .i64 0))), none⟩])
  (.seq (.seq (.reg [] [⟨some 9, some (.load Zd (.tmp 3)), none⟩])
  (.block 0 (.seq (.seq (.reg [] [⟨some 11, some (.binOp .eql Zd (.tmp 9) (.const (.int .i64 10)) Zd), none⟩,
 ⟨some 10, some (.assign (.tmp 11)), none⟩])
  (.cond (.tmp 10) .skip
  (.reg [] [⟨some 12, some (.binOp .eql Zd (.tmp 9) (.const (.int .i64 11)) Zd), none⟩,
 ⟨some 10, some (.assign (.tmp 12)), none⟩])))
  (.cond (.tmp 10) (.seq (.reg [] [⟨some 13, some (.load Zd (.tmp 3)), none⟩,
 ⟨some 14, some (.move (.tmp 2)), none⟩,
 ⟨some 15, some (.indexAddr Zm (.tmp 14) (.const (.int .i64 0))), none⟩,
 ⟨some 16, some (.load Zb (.tmp 15)), none⟩,
 ⟨some 17, some (.call ⟨(.value (.func Zf9)), #[.tmp 13, .tmp 16], #[Zd, Zb]⟩), none⟩,
 ⟨some 18, some (.extract (.tmp 17) 0), none⟩,
 ⟨some 19, some (.extract (.tmp 17) 1), none⟩,
 ⟨none, some (.store Zb (.tmp 7) (.tmp 18)), none⟩,
 ⟨some 8, some (.assign (.tmp 19)), none⟩])
  .ret)
  (.seq (.reg [] [⟨some 21, some (.binOp .eql Zd (.tmp 9) (.const (.int .i64 38)) Zd), none⟩,
 ⟨some 20, some (.assign (.tmp 21)), none⟩])
  (.cond (.tmp 20) (.seq (.reg [] [⟨some 22, some (.move (.tmp 2)), none⟩,
 ⟨some 23, some (.indexAddr Zm (.tmp 22) (.const (.int .i64 0))), none⟩,
 ⟨some 24, some (.load Zb (.tmp 23)), none⟩,
 ⟨some 25, some (.move (.tmp 2)), none⟩,
 ⟨some 26, some (.indexAddr Zm (.tmp 25) (.const (.int .i64 1))), none⟩,
 ⟨some 27, some (.load Zb (.tmp 26)), none⟩,
 ⟨some 28, some (.call ⟨(.value (.func Zdt)), #[.tmp 24, .tmp 27], #[Zb, Zb]⟩), none⟩,
 ⟨some 29, some (.extract (.tmp 28) 0), none⟩,
 ⟨some 30, some (.extract (.tmp 28) 1), none⟩,
 ⟨none, some (.store Zb (.tmp 7) (.tmp 29)), none⟩,
 ⟨some 8, some (.assign (.tmp 30)), none⟩])
  .ret)
  (.seq (.reg [] [⟨some 32, some (.binOp .eql Zd (.tmp 9) (.const (.int .i64 39)) Zd), none⟩,
 ⟨some 31, some (.assign (.tmp 32)), none⟩])
  (.cond (.tmp 31) (.seq (.reg [] [⟨some 33, some (.move (.tmp 2)), none⟩,
 ⟨some 34, some (.indexAddr Zm (.tmp 33) (.const (.int .i64 0))), none⟩,
 ⟨some 35, some (.load Zb (.tmp 34)), none⟩,
 ⟨some 36, some (.move (.tmp 0)), none⟩,
 ⟨some 37, some (.move (.tmp 1)), none⟩,
 ⟨some 38, some (.call ⟨(.value (.func Zep)), #[.tmp 35, .tmp 36, .tmp 37], #[Zb, Zd, Zd]⟩), none⟩,
 ⟨some 39, some (.extract (.tmp 38) 0), none⟩,
 ⟨some 40, some (.extract (.tmp 38) 1), none⟩,
 ⟨none, some (.store Zb (.tmp 7) (.tmp 39)), none⟩,
 ⟨some 8, some (.assign (.tmp 40)), none⟩])
  .ret)
  (.seq (.seq (.reg [] [⟨some 42, some (.binOp .eql Zd (.tmp 9) (.const (.int .i64 40)) Zd), none⟩,
 ⟨some 41, some (.assign (.tmp 42)), none⟩])
  (.cond (.tmp 41) .skip
  (.reg [] [⟨some 43, some (.binOp .eql Zd (.tmp 9) (.const (.int .i64 41)) Zd), none⟩,
 ⟨some 41, some (.assign (.tmp 43)), none⟩])))
  (.cond (.tmp 41) (.seq (.reg [] [⟨some 44, some (.move (.tmp 2)), none⟩,
 ⟨some 45, some (.indexAddr Zm (.tmp 44) (.const (.int .i64 0))), none⟩,
 ⟨some 46, some (.load Zb (.tmp 45)), none⟩,
 ⟨some 47, some (.move (.tmp 0)), none⟩,
 ⟨some 48, some (.load Zd (.tmp 3)), none⟩,
 ⟨some 49, some (.binOp .eql Zd (.tmp 48) (.const (.int .i64 41)) Zd), none⟩,
 ⟨some 50, some (.call ⟨(.value (.func Zfa)), #[.tmp 46, .tmp 47, .tmp 49], #[Zb, Zd, Zbg]⟩), none⟩,
 ⟨some 51, some (.extract (.tmp 50) 0), none⟩,
 ⟨some 52, some (.extract (.tmp 50) 1), none⟩,
 ⟨none, some (.store Zb (.tmp 7) (.tmp 51)), none⟩,
 ⟨some 8, some (.assign (.tmp 52)), none⟩])
  .ret)
  (.seq (.seq (.reg [] [⟨some 54, some (.binOp .eql Zd (.tmp 9) (.const (.int .i64 42)) Zd), none⟩,
 ⟨some 53, some (.assign (.tmp 54)), none⟩])
  (.cond (.tmp 53) .skip
  (.reg [] [⟨some 55, some (.binOp .eql Zd (.tmp 9) (.const (.int .i64 43)) Zd), none⟩,
 ⟨some 53, some (.assign (.tmp 55)), none⟩])))
  (.cond (.tmp 53) (.seq (.reg [] [⟨some 56, some (.move (.tmp 2)), none⟩,
 ⟨some 57, some (.indexAddr Zm (.tmp 56) (.const (.int .i64 0))), none⟩,
 ⟨some 58, some (.load Zb (.tmp 57)), none⟩,
 ⟨some 59, some (.move (.tmp 0)), none⟩,
 ⟨some 60, some (.load Zd (.tmp 3)), none⟩,
 ⟨some 61, some (.binOp .eql Zd (.tmp 60) (.const (.int .i64 42)) Zd), none⟩,
 ⟨some 62, some (.call ⟨(.value (.func Zd9)), #[.tmp 58, .tmp 59, .tmp 61], #[Zb, Zd, Zbg]⟩), none⟩,
 ⟨some 63, some (.extract (.tmp 62) 0), none⟩,
 ⟨some 64, some (.extract (.tmp 62) 1), none⟩,
 ⟨none, some (.store Zb (.tmp 7) (.tmp 63)), none⟩,
 ⟨some 8, some (.assign (.tmp 64)), none⟩])
  .ret)
  (.seq (.reg [] [⟨some 66, some (.binOp .eql Zd (.tmp 9) (.const (.int .i64 44)) Zd), none⟩,
 ⟨some 65, some (.assign (.tmp 66)), none⟩])
  (.cond (.tmp 65) (.seq (.reg [] [⟨some 67, some (.move (.tmp 2)), none⟩,
 ⟨some 68, some (.indexAddr Zm (.tmp 67) (.const (.int .i64 0))), none⟩,
 ⟨some 69, some (.load Zb (.tmp 68)), none⟩,
 ⟨some 70, some (.move (.tmp 0)), none⟩,
 ⟨some 71, some (.call ⟨(.value (.func Zfb)), #[.tmp 69, .tmp 70], #[Zb, Zd]⟩), none⟩,
 ⟨some 72, some (.extract (.tmp 71) 0), none⟩,
 ⟨some 73, some (.extract (.tmp 71) 1), none⟩,
 ⟨none, some (.store Zb (.tmp 7) (.tmp 72)), none⟩,
 ⟨some 8, some (.assign (.tmp 73)), none⟩])
  .ret)
  .skip))))))))))))))
  (.seq (.reg [] [⟨some 74, some (.load Zd (.tmp 3)), none⟩,
 ⟨some 75, some (.move (.tmp 2)), none⟩,
 ⟨some 76, some (.indexAddr Zm (.tmp 75) (.const (.int .i64 0))), none⟩,
 ⟨some 77, some (.load Zb (.tmp 76)), none⟩,
 ⟨some 78, some (.move (.tmp 2)), none⟩,
 ⟨some 79, some (.indexAddr Zm (.tmp 78) (.const (.int .i64 1))), none⟩,
 ⟨some 80, some (.load Zb (.tmp 79)), none⟩,
 ⟨some 81, some (.call ⟨(.value (.func Zfq)), #[.tmp 74, .tmp 77, .tmp 80], #[Zd, Zb, Zb]⟩), none⟩,
 ⟨some 82, some (.extract (.tmp 81) 0), none⟩,
 ⟨some 83, some (.extract (.tmp 81) 1), none⟩,
 ⟨none, some (.store Zb (.tmp 7) (.tmp 82)), none⟩,
 ⟨some 8, some (.assign (.tmp 83)), none⟩])
  .ret)))
theorem Zc4 {a0 a1 a2 a3 : AV} {H : AHeap} : R Zbq [a0, a1, a2, a3] H = fnK Try.prog [] H [(.cell 7 Zb), (.tmp 8)] (evalL Try.prog KT R Zcu (Env.args [a0, a1, a2, a3] 0) H) :=
  runs_body (D := DT) (f := Zbq) Try.func73 (by kernel_rfl) (by kernel_rfl) (by kernel_rfl) (by kernel_rfl) (by kernel_rfl) (Nat.le_of_ble_eq_true rfl)
def Zg5 : LCode := (.seq (.reg [] [⟨some 3, some (.box Zb (.tmp 1)), none⟩,
 ⟨some 4, some (.alloc Zb), none⟩,
 ⟨some 5, some (.assign (.const (.int .i64 0))), none⟩])
  (.seq (.block 0 (.seq (.reg [] [⟨some 7, some (.load Zb (.tmp 3)), none⟩,
 ⟨some 8, some (.call ⟨(.value (.func Zcz)), #[.tmp 7], #[Zb]⟩), none⟩,
 ⟨some 9, some (.unOp .not Zbg (.tmp 8)), none⟩,
 ⟨some 6, some (.assign (.tmp 9)), none⟩])
  (.cond (.tmp 6) (.seq (.reg [] [⟨some 10, some (.build Zb #[]), none⟩,
 ⟨none, some (.store Zb (.tmp 4) (.tmp 10)), none⟩,
 ⟨some 5, some (.assign (.const (.int .i64 10))), none⟩])
  .ret)
  (.seq (.reg [] [⟨some 12, some (.move (.tmp 0)), none⟩,
 ⟨some 13, some (.binOp .eql Zd (.tmp 12) (.const (.int .i64 10)) Zd), none⟩,
 ⟨some 11, some (.assign (.tmp 13)), none⟩])
  (.cond (.tmp 11) (.seq (.reg [3, 4] [⟨some 14, some (.fieldAddr Zb (.tmp 3) 0), none⟩,
 ⟨some 15, some (.load Zd (.tmp 14)), none⟩,
 ⟨some 16, some (.load Zb (.tmp 3)), none⟩,
 ⟨some 17, some (.call ⟨(.value (.func Zce)), #[.tmp 16], #[Zb]⟩), none⟩,
 ⟨some 18, some (.call ⟨(.value (.func Z8)), #[.tmp 17], #[Za]⟩), none⟩,
 ⟨some 19, some (.call ⟨(.value (.func Zcm)), #[.tmp 15, .tmp 18], #[Zd, Za]⟩), none⟩,
 ⟨none, some (.store Zb (.tmp 4) (.tmp 19)), none⟩,
 ⟨some 5, some (.assign (.const (.int .i64 0))), none⟩])
  .ret)
  (.seq (.reg [] [⟨some 21, some (.move (.tmp 0)), none⟩,
 ⟨some 22, some (.binOp .eql Zd (.tmp 21) (.const (.int .i64 11)) Zd), none⟩,
 ⟨some 20, some (.assign (.tmp 22)), none⟩])
  (.cond (.tmp 20) (.seq (.reg [3, 4] [⟨some 23, some (.fieldAddr Zb (.tmp 3) 0), none⟩,
 ⟨some 24, some (.load Zd (.tmp 23)), none⟩,
 ⟨some 25, some (.load Zb (.tmp 3)), none⟩,
 ⟨some 26, some (.call ⟨(.value (.func Zce)), #[.tmp 25], #[Zb]⟩), none⟩,
 ⟨some 27, some (.call ⟨(.value (.func Zbc)), #[.tmp 26], #[Za]⟩), none⟩,
 ⟨some 28, some (.call ⟨(.value (.func Zcm)), #[.tmp 24, .tmp 27], #[Zd, Za]⟩), none⟩,
 ⟨none, some (.store Zb (.tmp 4) (.tmp 28)), none⟩,
 ⟨some 5, some (.assign (.const (.int .i64 0))), none⟩])
  .ret)
  .skip)))))))
  (.seq (.reg [] [⟨some 29, some (.build Zb #[]), none⟩,
 ⟨none, some (.store Zb (.tmp 4) (.tmp 29)), none⟩,
 ⟨some 5, some (.assign (.const (.int .i64 11))), none⟩])
  .ret)))
theorem Ziz {a0 a1 : AV} {H : AHeap} : R Zf9 [a0, a1] H = fnK Try.prog [] H [(.cell 4 Zb), (.tmp 5)] (evalL Try.prog KT R Zg5 (Env.args [a0, a1] 0) H) :=
  runs_body (D := DT) (f := Zf9) Try.func74 (by kernel_rfl) (by kernel_rfl) (by kernel_rfl) (by kernel_rfl) (by kernel_rfl) (Nat.le_of_ble_eq_true rfl)
def Zhd : LCode := (.seq (.reg [] [⟨some 2, some (.box Zb (.tmp 0)), none⟩,
 ⟨some 3, some (.box Zb (.tmp 1)), none⟩,
 ⟨some 4, some (.alloc Zb), none⟩,
 ⟨some 5, some (.assign (.const (.int .i64 0))), none⟩])
  (.seq (.seq (.reg [] [⟨some 7, some (.load Zb (.tmp 2)), none⟩,
 ⟨some 8, some (.call ⟨(.value (.func Zcz)), #[.tmp 7], #[Zb]⟩), none⟩,
 ⟨some 9, some (.unOp .not Zbg (.tmp 8)), none⟩,
 ⟨some 10, some (.move (.tmp 9)), none⟩,
 ⟨some 11, some (.load Zb (.tmp 3)), some (some 10, false)⟩,
 ⟨some 12, some (.call ⟨(.value (.func Zcz)), #[.tmp 11], #[Zb]⟩), some (some 10, false)⟩,
 ⟨some 13, some (.unOp .not Zbg (.tmp 12)), some (some 10, false)⟩,
 ⟨some 14, some (.pick (.tmp 10) (.const (.bool true)) (.tmp 13)), none⟩,
 ⟨some 15, some (.move (.tmp 14)), none⟩,
 ⟨some 16, some (.fieldAddr Zb (.tmp 2) 0), some (some 15, false)⟩,
 ⟨some 17, some (.load Zd (.tmp 16)), some (some 15, false)⟩,
 ⟨some 18, some (.fieldAddr Zb (.tmp 3) 0), some (some 15, false)⟩,
 ⟨some 19, some (.load Zd (.tmp 18)), some (some 15, false)⟩,
 ⟨some 20, some (.binOp .add Zd (.tmp 17) (.tmp 19) Zd), some (some 15, false)⟩,
 ⟨some 21, some (.binOp .gtr Zd (.tmp 20) (.const (.int .i64 128)) Zd), some (some 15, false)⟩,
 ⟨some 22, some (.pick (.tmp 15) (.const (.bool true)) (.tmp 21)), none⟩])
  (.cond (.tmp 22) (.seq (.reg [] [⟨some 23, some (.build Zb #[]), none⟩,
 ⟨none, some (.store Zb (.tmp 4) (.tmp 23)), none⟩,
 ⟨some 5, some (.assign (.const (.int .i64 10))), none⟩])
  .ret)
  .skip))
  (.seq (.reg [1, 5] [⟨some 24, some (.load Zb (.tmp 2)), none⟩,
 ⟨some 25, some (.call ⟨(.value (.func Zce)), #[.tmp 24], #[Zb]⟩), none⟩,
 ⟨some 26, some (.fieldAddr Zb (.tmp 3) 0), none⟩,
 ⟨some 27, some (.load Zd (.tmp 26)), none⟩,
 ⟨some 28, some (.call ⟨(.value (.func Z4)), #[.tmp 25, .tmp 27], #[Za, Zd]⟩), none⟩,
 ⟨some 6, some (.alloc Za), none⟩,
 ⟨none, some (.store Za (.tmp 6) (.tmp 28)), none⟩])
  (.seq (.reg [] [⟨some 29, some (.fieldAddr Zb (.tmp 2) 0), none⟩,
 ⟨some 30, some (.load Zd (.tmp 29)), none⟩,
 ⟨some 31, some (.fieldAddr Zb (.tmp 3) 0), none⟩,
 ⟨some 32, some (.load Zd (.tmp 31)), none⟩,
 ⟨some 33, some (.binOp .add Zd (.tmp 30) (.tmp 32) Zd), none⟩,
 ⟨some 34, some (.fieldAddr Za (.tmp 6) 0), none⟩,
 ⟨some 35, some (.load Ze (.tmp 34)), none⟩,
 ⟨some 36, some (.fieldAddr Zb (.tmp 3) 1), none⟩,
 ⟨some 37, some (.load Ze (.tmp 36)), none⟩,
 ⟨some 38, some (.binOp .or Ze (.tmp 35) (.tmp 37) Ze), none⟩,
 ⟨some 39, some (.fieldAddr Za (.tmp 6) 1), none⟩,
 ⟨some 40, some (.load Ze (.tmp 39)), none⟩,
 ⟨some 41, some (.fieldAddr Zb (.tmp 3) 2), none⟩,
 ⟨some 42, some (.load Ze (.tmp 41)), none⟩,
 ⟨some 43, some (.binOp .or Ze (.tmp 40) (.tmp 42) Ze), none⟩,
 ⟨some 44, some (.build Za #[(0, (.tmp 38)), (1, (.tmp 43))]), none⟩,
 ⟨some 45, some (.call ⟨(.value (.func Zcm)), #[.tmp 33, .tmp 44], #[Zd, Za]⟩), none⟩,
 ⟨none, some (.store Zb (.tmp 4) (.tmp 45)), none⟩,
 ⟨some 5, some (.assign (.const (.int .i64 0))), none⟩])
  .ret))))
theorem Zij {a0 a1 : AV} {H : AHeap} : R Zdt [a0, a1] H = fnK Try.prog [] H [(.cell 4 Zb), (.tmp 5)] (evalL Try.prog KT R Zhd (Env.args [a0, a1] 0) H) :=
  runs_body (D := DT) (f := Zdt) Try.func75 (by kernel_rfl) (by kernel_rfl) (by kernel_rfl) (by kernel_rfl) (by kernel_rfl) (Nat.le_of_ble_eq_true rfl)
def Zgz : LCode := (.seq (.reg [] [⟨some 3, some (.box Zb (.tmp 0)), none⟩,
 ⟨some 6, some (.alloc Zb), none⟩,
 ⟨some 7, some (.assign (.const (.int .i64 0))), none⟩])
  (.seq (.block 0 (.seq (.reg [] [⟨some 9, some (.load Zb (.tmp 3)), none⟩,
 ⟨some 10, some (.call ⟨(.value (.func Zcz)), #[.tmp 9], #[Zb]⟩), none⟩,
 ⟨some 11, some (.unOp .not Zbg (.tmp 10)), none⟩,
 ⟨some 8, some (.assign (.tmp 11)), none⟩])
  (.cond (.tmp 8) (.seq (.reg [] [⟨some 12, some (.build Zb #[]), none⟩,
 ⟨none, some (.store Zb (.tmp 6) (.tmp 12)), none⟩,
 ⟨some 7, some (.assign (.const (.int .i64 10))), none⟩])
  .ret)
  (.seq (.reg [] [⟨some 14, some (.move (.tmp 2)), none⟩,
 ⟨some 15, some (.binOp .lss Zd (.tmp 14) (.const (.int .i64 0)) Zd), none⟩,
 ⟨some 16, some (.move (.tmp 15)), none⟩,
 ⟨some 17, some (.move (.tmp 1)), some (some 16, false)⟩,
 ⟨some 18, some (.move (.tmp 2)), some (some 16, false)⟩,
 ⟨some 19, some (.binOp .lss Zd (.tmp 17) (.tmp 18) Zd), some (some 16, false)⟩,
 ⟨some 20, some (.pick (.tmp 16) (.const (.bool true)) (.tmp 19)), none⟩,
 ⟨some 21, some (.move (.tmp 20)), none⟩,
 ⟨some 22, some (.move (.tmp 1)), some (some 21, false)⟩,
 ⟨some 23, some (.fieldAddr Zb (.tmp 3) 0), some (some 21, false)⟩,
 ⟨some 24, some (.load Zd (.tmp 23)), some (some 21, false)⟩,
 ⟨some 25, some (.binOp .geq Zd (.tmp 22) (.tmp 24) Zd), some (some 21, false)⟩,
 ⟨some 26, some (.pick (.tmp 21) (.const (.bool true)) (.tmp 25)), none⟩,
 ⟨some 13, some (.assign (.tmp 26)), none⟩])
  (.cond (.tmp 13) (.seq (.reg [] [⟨some 27, some (.build Zb #[]), none⟩,
 ⟨none, some (.store Zb (.tmp 6) (.tmp 27)), none⟩,
 ⟨some 7, some (.assign (.const (.int .i64 12))), none⟩])
  .ret)
  .skip)))))
  (.seq (.reg [] [⟨some 28, some (.move (.tmp 1)), none⟩,
 ⟨some 29, some (.move (.tmp 2)), none⟩,
 ⟨some 30, some (.binOp .sub Zd (.tmp 28) (.tmp 29) Zd), none⟩,
 ⟨some 31, some (.binOp .add Zd (.tmp 30) (.const (.int .i64 1)) Zd), none⟩,
 ⟨some 32, some (.load Zb (.tmp 3)), none⟩,
 ⟨some 33, some (.call ⟨(.value (.func Zce)), #[.tmp 32], #[Zb]⟩), none⟩,
 ⟨some 34, some (.move (.tmp 2)), none⟩,
 ⟨some 35, some (.call ⟨(.value (.func Z3)), #[.tmp 33, .tmp 34], #[Za, Zd]⟩), none⟩,
 ⟨some 36, some (.call ⟨(.value (.func Zcm)), #[.tmp 31, .tmp 35], #[Zd, Za]⟩), none⟩,
 ⟨none, some (.store Zb (.tmp 6) (.tmp 36)), none⟩,
 ⟨some 7, some (.assign (.const (.int .i64 0))), none⟩])
  .ret)))
theorem Zh9 {a0 a1 a2 : AV} {H : AHeap} : R Zep [a0, a1, a2] H = fnK Try.prog [] H [(.cell 6 Zb), (.tmp 7)] (evalL Try.prog KT R Zgz (Env.args [a0, a1, a2] 0) H) :=
  runs_body (D := DT) (f := Zep) Try.func76 (by kernel_rfl) (by kernel_rfl) (by kernel_rfl) (by kernel_rfl) (by kernel_rfl) (Nat.le_of_ble_eq_true rfl)
def Zhe : LCode := (.seq (.reg [] [⟨some 3, some (.box Zb (.tmp 0)), none⟩,
 ⟨some 6, some (.alloc Zb), none⟩,
 ⟨some 7, some (.assign (.const (.int .i64 0))), none⟩])
  (.seq (.block 0 (.seq (.reg [] [⟨some 11, some (.load Zb (.tmp 3)), none⟩,
 ⟨some 12, some (.call ⟨(.value (.func Zcz)), #[.tmp 11], #[Zb]⟩), none⟩,
 ⟨some 13, some (.unOp .not Zbg (.tmp 12)), none⟩,
 ⟨some 10, some (.assign (.tmp 13)), none⟩])
  (.cond (.tmp 10) (.seq (.reg [] [⟨some 14, some (.build Zb #[]), none⟩,
 ⟨none, some (.store Zb (.tmp 6) (.tmp 14)), none⟩,
 ⟨some 7, some (.assign (.const (.int .i64 10))), none⟩])
  .ret)
  (.seq (.reg [] [⟨some 16, some (.move (.tmp 1)), none⟩,
 ⟨some 17, some (.binOp .lss Zd (.tmp 16) (.const (.int .i64 0)) Zd), none⟩,
 ⟨some 15, some (.assign (.tmp 17)), none⟩])
  (.cond (.tmp 15) (.seq (.reg [] [⟨some 18, some (.build Zb #[]), none⟩,
 ⟨none, some (.store Zb (.tmp 6) (.tmp 18)), none⟩,
 ⟨some 7, some (.assign (.const (.int .i64 12))), none⟩])
  .ret)
  (.seq (.reg [] [⟨some 20, some (.move (.tmp 1)), none⟩,
 ⟨some 21, some (.fieldAddr Zb (.tmp 3) 0), none⟩,
 ⟨some 22, some (.load Zd (.tmp 21)), none⟩,
 ⟨some 23, some (.binOp .sub Zd (.const (.int .i64 128)) (.tmp 22) Zd), none⟩,
 ⟨some 24, some (.binOp .gtr Zd (.tmp 20) (.tmp 23) Zd), none⟩,
 ⟨some 19, some (.assign (.tmp 24)), none⟩])
  (.cond (.tmp 19) (.seq (.reg [] [⟨some 25, some (.build Zb #[]), none⟩,
 ⟨none, some (.store Zb (.tmp 6) (.tmp 25)), none⟩,
 ⟨some 7, some (.assign (.const (.int .i64 10))), none⟩])
  .ret)
  .skip)))))))
  (.seq (.reg [] [⟨some 26, some (.load Zb (.tmp 3)), none⟩,
 ⟨some 27, some (.call ⟨(.value (.func Zce)), #[.tmp 26], #[Zb]⟩), none⟩,
 ⟨some 8, some (.alloc Za), none⟩,
 ⟨none, some (.store Za (.tmp 8) (.tmp 27)), none⟩])
  (.seq (.seq (.reg [] [⟨some 28, some (.move (.tmp 2)), none⟩,
 ⟨some 29, some (.move (.tmp 28)), none⟩,
 ⟨some 30, some (.load Zb (.tmp 3)), some (some 29, true)⟩,
 ⟨some 31, some (.call ⟨(.value (.func Zcb)), #[.tmp 30], #[Zb]⟩), some (some 29, true)⟩,
 ⟨some 32, some (.pick (.tmp 29) (.tmp 31) (.const (.bool false))), none⟩])
  (.cond (.tmp 32) (.seq (.reg [] [⟨some 33, some (.fieldAddr Zb (.tmp 3) 0), none⟩,
 ⟨some 34, some (.load Zd (.tmp 33)), none⟩,
 ⟨some 35, some (.call ⟨(.value (.func Zee)), #[.tmp 34], #[Zd]⟩), none⟩,
 ⟨some 36, some (.call ⟨(.value (.func Z8)), #[.tmp 35], #[Za]⟩), none⟩,
 ⟨some 9, some (.alloc Za), none⟩,
 ⟨none, some (.store Za (.tmp 9) (.tmp 36)), none⟩])
  (.reg [] [⟨some 37, some (.fieldAddr Za (.tmp 8) 0), none⟩,
 ⟨some 38, some (.load Ze (.tmp 37)), none⟩,
 ⟨some 39, some (.fieldAddr Za (.tmp 9) 0), none⟩,
 ⟨some 40, some (.load Ze (.tmp 39)), none⟩,
 ⟨some 41, some (.binOp .or Ze (.tmp 38) (.tmp 40) Ze), none⟩,
 ⟨some 42, some (.fieldAddr Za (.tmp 8) 1), none⟩,
 ⟨some 43, some (.load Ze (.tmp 42)), none⟩,
 ⟨some 44, some (.fieldAddr Za (.tmp 9) 1), none⟩,
 ⟨some 45, some (.load Ze (.tmp 44)), none⟩,
 ⟨some 46, some (.binOp .or Ze (.tmp 43) (.tmp 45) Ze), none⟩,
 ⟨some 47, some (.build Za #[(0, (.tmp 41)), (1, (.tmp 46))]), none⟩,
 ⟨none, some (.store Za (.tmp 8) (.tmp 47)), none⟩]))
  .skip))
  (.seq (.reg [] [⟨some 48, some (.fieldAddr Zb (.tmp 3) 0), none⟩,
 ⟨some 49, some (.load Zd (.tmp 48)), none⟩,
 ⟨some 50, some (.move (.tmp 1)), none⟩,
 ⟨some 51, some (.binOp .add Zd (.tmp 49) (.tmp 50) Zd), none⟩,
 ⟨some 52, some (.load Za (.tmp 8)), none⟩,
 ⟨some 53, some (.call ⟨(.value (.func Zcm)), #[.tmp 51, .tmp 52], #[Zd, Za]⟩), none⟩,
 ⟨none, some (.store Zb (.tmp 6) (.tmp 53)), none⟩,
 ⟨some 7, some (.assign (.const (.int .i64 0))), none⟩])
  .ret)))))
theorem Zik {a0 a1 a2 : AV} {H : AHeap} : R Zfa [a0, a1, a2] H = fnK Try.prog [] H [(.cell 6 Zb), (.tmp 7)] (evalL Try.prog KT R Zhe (Env.args [a0, a1, a2] 0) H) :=
  runs_body (D := DT) (f := Zfa) Try.func77 (by kernel_rfl) (by kernel_rfl) (by kernel_rfl) (by kernel_rfl) (by kernel_rfl) (Nat.le_of_ble_eq_true rfl)
def Zgj : LCode := (.seq (.reg [] [⟨some 3, some (.box Zb (.tmp 0)), none⟩,
 ⟨some 6, some (.alloc Zb), none⟩,
 ⟨some 7, some (.assign (.const (.int .i64 0))), none⟩])
  (.seq (.block 0 (.seq (.reg [] [⟨some 11, some (.load Zb (.tmp 3)), none⟩,
 ⟨some 12, some (.call ⟨(.value (.func Zcz)), #[.tmp 11], #[Zb]⟩), none⟩,
 ⟨some 13, some (.unOp .not Zbg (.tmp 12)), none⟩,
 ⟨some 10, some (.assign (.tmp 13)), none⟩])
  (.cond (.tmp 10) (.seq (.reg [] [⟨some 14, some (.build Zb #[]), none⟩,
 ⟨none, some (.store Zb (.tmp 6) (.tmp 14)), none⟩,
 ⟨some 7, some (.assign (.const (.int .i64 10))), none⟩])
  .ret)
  (.seq (.reg [] [⟨some 16, some (.move (.tmp 1)), none⟩,
 ⟨some 17, some (.binOp .lss Zd (.tmp 16) (.const (.int .i64 0)) Zd), none⟩,
 ⟨some 15, some (.assign (.tmp 17)), none⟩])
  (.cond (.tmp 15) (.seq (.reg [] [⟨some 18, some (.build Zb #[]), none⟩,
 ⟨none, some (.store Zb (.tmp 6) (.tmp 18)), none⟩,
 ⟨some 7, some (.assign (.const (.int .i64 12))), none⟩])
  .ret)
  .skip)))))
  (.seq (.reg [] [⟨some 19, some (.move (.tmp 1)), none⟩,
 ⟨some 20, some (.fieldAddr Zb (.tmp 3) 0), none⟩,
 ⟨some 21, some (.load Zd (.tmp 20)), none⟩,
 ⟨some 22, some (.binOp .rem Zd (.tmp 19) (.tmp 21) Zd), none⟩,
 ⟨some 1, some (.assign (.tmp 22)), none⟩])
  (.seq (.seq (.reg [] [⟨some 23, some (.move (.tmp 2)), none⟩,
 ⟨some 24, some (.unOp .not Zbg (.tmp 23)), none⟩])
  (.cond (.tmp 24) (.reg [] [⟨some 25, some (.fieldAddr Zb (.tmp 3) 0), none⟩,
 ⟨some 26, some (.load Zd (.tmp 25)), none⟩,
 ⟨some 27, some (.move (.tmp 1)), none⟩,
 ⟨some 28, some (.binOp .sub Zd (.tmp 26) (.tmp 27) Zd), none⟩,
 ⟨some 29, some (.fieldAddr Zb (.tmp 3) 0), none⟩,
 ⟨some 30, some (.load Zd (.tmp 29)), none⟩,
 ⟨some 31, some (.binOp .rem Zd (.tmp 28) (.tmp 30) Zd), none⟩,
 ⟨some 1, some (.assign (.tmp 31)), none⟩])
  .skip))
  (.seq (.reg [1, 3, 5, 11, 12] [⟨some 32, some (.load Zb (.tmp 3)), none⟩,
 ⟨some 33, some (.call ⟨(.value (.func Zce)), #[.tmp 32], #[Zb]⟩), none⟩,
 ⟨some 34, some (.move (.tmp 1)), none⟩,
 ⟨some 35, some (.call ⟨(.value (.func Z4)), #[.tmp 33, .tmp 34], #[Za, Zd]⟩), none⟩,
 ⟨some 36, some (.load Zb (.tmp 3)), none⟩,
 ⟨some 37, some (.call ⟨(.value (.func Zce)), #[.tmp 36], #[Zb]⟩), none⟩,
 ⟨some 38, some (.fieldAddr Zb (.tmp 3) 0), none⟩,
 ⟨some 39, some (.load Zd (.tmp 38)), none⟩,
 ⟨some 40, some (.move (.tmp 1)), none⟩,
 ⟨some 41, some (.binOp .sub Zd (.tmp 39) (.tmp 40) Zd), none⟩,
 ⟨some 42, some (.call ⟨(.value (.func Z3)), #[.tmp 37, .tmp 41], #[Za, Zd]⟩), none⟩,
 ⟨some 8, some (.alloc Za), none⟩,
 ⟨some 9, some (.alloc Za), none⟩,
 ⟨none, some (.store Za (.tmp 8) (.tmp 35)), none⟩,
 ⟨none, some (.store Za (.tmp 9) (.tmp 42)), none⟩])
  (.seq (.reg [] [⟨some 43, some (.fieldAddr Zb (.tmp 3) 0), none⟩,
 ⟨some 44, some (.load Zd (.tmp 43)), none⟩,
 ⟨some 45, some (.fieldAddr Za (.tmp 8) 0), none⟩,
 ⟨some 46, some (.load Ze (.tmp 45)), none⟩,
 ⟨some 47, some (.fieldAddr Za (.tmp 9) 0), none⟩,
 ⟨some 48, some (.load Ze (.tmp 47)), none⟩,
 ⟨some 49, some (.binOp .or Ze (.tmp 46) (.tmp 48) Ze), none⟩,
 ⟨some 50, some (.fieldAddr Za (.tmp 8) 1), none⟩,
 ⟨some 51, some (.load Ze (.tmp 50)), none⟩,
 ⟨some 52, some (.fieldAddr Za (.tmp 9) 1), none⟩,
 ⟨some 53, some (.load Ze (.tmp 52)), none⟩,
 ⟨some 54, some (.binOp .or Ze (.tmp 51) (.tmp 53) Ze), none⟩,
 ⟨some 55, some (.build Za #[(0, (.tmp 49)), (1, (.tmp 54))]), none⟩,
 ⟨some 56, some (.call ⟨(.value (.func Zcm)), #[.tmp 44, .tmp 55], #[Zd, Za]⟩), none⟩,
 ⟨none, some (.store Zb (.tmp 6) (.tmp 56)), none⟩,
 ⟨some 7, some (.assign (.const (.int .i64 0))), none⟩])
  .ret))))))
theorem Zhf {a0 a1 a2 : AV} {H : AHeap} : R Zd9 [a0, a1, a2] H = fnK Try.prog [] H [(.cell 6 Zb), (.tmp 7)] (evalL Try.prog KT R Zgj (Env.args [a0, a1, a2] 0) H) :=
  runs_body (D := DT) (f := Zd9) Try.func78 (by kernel_rfl) (by kernel_rfl) (by kernel_rfl) (by kernel_rfl) (by kernel_rfl) (Nat.le_of_ble_eq_true rfl)
end Go.Proofs.Ytiobohfiaapgeaa
end
