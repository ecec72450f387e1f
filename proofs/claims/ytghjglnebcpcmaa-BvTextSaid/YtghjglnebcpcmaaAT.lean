/- What this seat's program looks like to the rules: names, types, bodies in the short form. Written by seat.py. -/
import Derived.Test.YtghjglnebcpcmaaALC
import Derived.Test.YtghjglnebcpcmaaChecked
namespace Go.Proofs.Ytghjglnebcpcmaa
open Go.RowKit

def T_int : TypeId := 3
def T_bool : TypeId := 4
def T_uint8 : TypeId := 5
def T_string : TypeId := 9
def T_uint64 : TypeId := 22
def T_api_Bits : TypeId := 24
def T_s_bool : TypeId := 38
def T_s_uint8 : TypeId := 41
def T_bv_number : TypeId := 43
def T_uint : TypeId := 57
def f_plaitlaw1_BvText : FuncId := 3
def f_plaitlaw1_known : FuncId := 4
def f_bv_Parse : FuncId := 5
def f_plaitref1_Parse : FuncId := 6
def f_bv_Text : FuncId := 7
def f_plaitref1_Text : FuncId := 8
def f_bv_Right : FuncId := 9
def f_plaitlaw1_examples : FuncId := 10
def f_bv_Bool : FuncId := 11
def f_strings_HasPrefix : FuncId := 12
def f_bv_digits : FuncId := 13
def f_plaitref1_Bool : FuncId := 14
def f_plaitref1_digit : FuncId := 15
def f_plaitref1_Word : FuncId := 16
def f_bv_of : FuncId := 17
def f_plait_bv_number_right : FuncId := 18
def f_plaitref1_Right : FuncId := 19
def f_plaitref1_Bits : FuncId := 20
def f_bv_cut : FuncId := 21
def f_plaitlaw1_two : FuncId := 22
def f_bv_Rotate : FuncId := 23
def f_plaitlaw1_four : FuncId := 24
def f_bv_Concat : FuncId := 25
def f_bv_Extract : FuncId := 26
def f_bv_Extend : FuncId := 27
def f_bv_One : FuncId := 28
def f_bv_Repeat : FuncId := 29
def f_bv_New : FuncId := 30
def f_internal_stringslite_HasPrefix : FuncId := 31
def f_strings_IndexByte : FuncId := 32
def f_plait_bv_number_left : FuncId := 33
def f_bv_mask : FuncId := 34
def f_bv_Two : FuncId := 35
def f_bv_word : FuncId := 36
def f_bv_below : FuncId := 37
def f_plait_bv_number_not : FuncId := 38
def f_plait_bv_number_neg : FuncId := 39
def f_internal_stringslite_IndexByte : FuncId := 40
def f_bv_bitwise : FuncId := 41
def f_bv_reckoned : FuncId := 42
def f_bv_shifted : FuncId := 43
def f_bv_compared : FuncId := 44
def f_plait_bv_number_bit : FuncId := 45
def f_plait_bv_number_add : FuncId := 46
def f_internal_bytealg_IndexByteString : FuncId := 47
def f_plait_bv_number_sub : FuncId := 48
def f_plait_bv_number_mul : FuncId := 49
def f_bv_divided : FuncId := 50
def f_bv_size : FuncId := 51
def f_bv_turnedIf : FuncId := 52
def f_bv_smod : FuncId := 53
def f_plait_bv_number_less : FuncId := 54
def f_math_bits_Add64 : FuncId := 55
def f_math_bits_Mul64 : FuncId := 56
def f_plait_bv_number_quo : FuncId := 57
def KT : TypeId → Option (List Sc) := fun t => if t = T_api_Bits then some [(.i .i64), (.i .u64), (.i .u64)] else if t = T_bv_number then some [(.i .u64), (.i .u64)] else none
def DT : Quiets := fun f r => if f = f_plaitlaw1_BvText then (if r = 7 then [1] else []) else if f = f_bv_Text then (if r = 3 then [1] else []) else if f = f_bv_Right then (if r = 3 then [12, 13] else []) else if f = f_plaitlaw1_examples then (if r = 11 then [55] else []) else if f = f_plaitref1_Right then (if r = 5 then [1, 2] else []) else if f = f_bv_Rotate then (if r = 8 then [1, 3, 5, 11, 12] else []) else if f = f_bv_Concat then (if r = 3 then [1, 5] else []) else if f = f_bv_One then (if r = 4 then [3, 4] else if r = 6 then [3, 4] else []) else if f = f_bv_Two then (if r = 4 then [4, 6, 7] else if r = 6 then [5] else if r = 8 then [5] else []) else if f = f_bv_below then (if r = 1 then [1] else []) else if f = f_bv_reckoned then (if r = 1 then [1, 4, 5] else if r = 16 then [3, 5, 10, 11] else if r = 17 then [1, 3] else if r = 19 then [3, 5, 10, 11] else if r = 20 then [1] else []) else if f = f_bv_compared then (if r = 1 then [1, 4, 5] else []) else if f = f_plait_bv_number_sub then (if r = 1 then [2] else []) else if f = f_bv_divided then (if r = 2 then [1, 2, 3, 1006] else []) else if f = f_bv_size then (if r = 2 then [3, 4] else []) else if f = f_bv_smod then (if r = 1 then [3, 5, 10, 11] else if r = 5 then [1] else if r = 7 then [2] else []) else if f = f_plait_bv_number_quo then (if r = 10 then [3] else if r = 11 then [1, 2, 999, 1005] else []) else []
noncomputable def R : Calling := runs Go.Proofs.Try.prog KT DT
theorem good : Good Go.Proofs.Try.prog KT := by
  refine ⟨fun t sh h => ?_, Go.Proofs.Try.checked.mixed⟩
  unfold KT at h
  split at h
  · rename_i ht; subst ht; cases h; exact keyOK_of (d := 8) (by kernel_rfl) (by omega) (by kernel_rfl) (by kernel_rfl)
  split at h
  · rename_i ht; subst ht; cases h; exact keyOK_of (d := 8) (by kernel_rfl) (by omega) (by kernel_rfl) (by kernel_rfl)
  cases h

@[simp] theorem ty0 : lnS Go.Proofs.Try.prog T_string = .str := by kernel_rfl
@[simp] theorem ty1 : tZ Go.Proofs.Try.prog T_api_Bits = some [(.int .i64 0), (u 0#64), (u 0#64)] := by kernel_rfl
@[simp] theorem ty2 : tS Go.Proofs.Try.prog T_api_Bits = some 3 := by kernel_rfl
@[simp] theorem ty3 : ldS Go.Proofs.Try.prog T_api_Bits = some (some 3) := by kernel_rfl
@[simp] theorem ty4 : KT T_api_Bits = some [(.i .i64), (.i .u64), (.i .u64)] := by kernel_rfl
@[simp] theorem ty5 : blS Go.Proofs.Try.prog T_api_Bits = some true := by kernel_rfl
@[simp] theorem ty6 : plS Go.Proofs.Try.prog T_api_Bits 0 = some (0, 1) := by kernel_rfl
@[simp] theorem ty7 : plS Go.Proofs.Try.prog T_api_Bits 1 = some (1, 1) := by kernel_rfl
@[simp] theorem ty8 : faS Go.Proofs.Try.prog T_api_Bits 0 = some 0 := by kernel_rfl
@[simp] theorem ty9 : ldS Go.Proofs.Try.prog T_int = some none := by kernel_rfl
@[simp] theorem ty10 : bsS Go.Proofs.Try.prog T_s_uint8 = some (1, [(.int .u8 0)]) := by kernel_rfl
@[simp] theorem ty11 : cvS Go.Proofs.Try.prog T_s_uint8 T_s_uint8 = .mark := by kernel_rfl
@[simp] theorem ty12 : fdS Go.Proofs.Try.prog T_bv_number 0 = some (0, none) := by kernel_rfl
@[simp] theorem ty13 : cvS Go.Proofs.Try.prog T_uint64 T_uint8 = .int .u8 := by kernel_rfl
@[simp] theorem ty14 : mkS Go.Proofs.Try.prog T_s_uint8 = some (1, 1, [(.int .u8 0)]) := by kernel_rfl
@[simp] theorem ty15 : cvS Go.Proofs.Try.prog T_s_uint8 T_string = .bytes := by kernel_rfl
@[simp] theorem ty16 : faS Go.Proofs.Try.prog T_api_Bits 1 = some 1 := by kernel_rfl
@[simp] theorem ty17 : ldS Go.Proofs.Try.prog T_uint64 = some none := by kernel_rfl
@[simp] theorem ty18 : faS Go.Proofs.Try.prog T_api_Bits 2 = some 2 := by kernel_rfl
@[simp] theorem ty19 : tZ Go.Proofs.Try.prog T_bv_number = some [(u 0#64), (u 0#64)] := by kernel_rfl
@[simp] theorem ty20 : blS Go.Proofs.Try.prog T_bv_number = some true := by kernel_rfl
@[simp] theorem ty21 : plS Go.Proofs.Try.prog T_bv_number 0 = some (0, 1) := by kernel_rfl
@[simp] theorem ty22 : plS Go.Proofs.Try.prog T_bv_number 1 = some (1, 1) := by kernel_rfl
@[simp] theorem ty23 : tS Go.Proofs.Try.prog T_bv_number = some 2 := by kernel_rfl
@[simp] theorem ty24 : ldS Go.Proofs.Try.prog T_bv_number = some (some 2) := by kernel_rfl
@[simp] theorem ty25 : faS Go.Proofs.Try.prog T_bv_number 0 = some 0 := by kernel_rfl
@[simp] theorem ty26 : faS Go.Proofs.Try.prog T_bv_number 1 = some 1 := by kernel_rfl
@[simp] theorem ty27 : plS Go.Proofs.Try.prog T_api_Bits 2 = some (2, 1) := by kernel_rfl
@[simp] theorem ty28 : cvS Go.Proofs.Try.prog T_int T_uint = .int .u64 := by kernel_rfl
@[simp] theorem ty29 : cvS Go.Proofs.Try.prog T_uint8 T_int = .int .i64 := by kernel_rfl
@[simp] theorem ty30 : cvS Go.Proofs.Try.prog T_int T_uint64 = .int .u64 := by kernel_rfl
@[simp] theorem ty31 : tS Go.Proofs.Try.prog T_uint64 = some 1 := by kernel_rfl
@[simp] theorem ty32 : fdS Go.Proofs.Try.prog T_api_Bits 1 = some (1, none) := by kernel_rfl
@[simp] theorem ty33 : eqS Go.Proofs.Try.prog T_bool = .bool := by kernel_rfl
@[simp] theorem ty34 : KT T_bv_number = some [(.i .u64), (.i .u64)] := by kernel_rfl
@[simp] theorem ty35 : cvS Go.Proofs.Try.prog T_uint64 T_int = .int .i64 := by kernel_rfl
@[simp] theorem ty36 : bsS Go.Proofs.Try.prog T_s_bool = some (1, [(.bool false)]) := by kernel_rfl
@[simp] theorem ty37 : mkS Go.Proofs.Try.prog T_s_bool = some (1, 1, [(.bool false)]) := by kernel_rfl
@[simp] theorem ty38 : lnS Go.Proofs.Try.prog T_s_bool = .slice := by kernel_rfl
@[simp] theorem ty39 : eszS Go.Proofs.Try.prog T_s_bool = some 1 := by kernel_rfl
@[simp] theorem ty40 : ldS Go.Proofs.Try.prog T_bool = some none := by kernel_rfl
@[simp] theorem ty41 : tS Go.Proofs.Try.prog T_bool = some 1 := by kernel_rfl

def c_plaitlaw1_BvText : LCode := (.seq (.reg [] [⟨some 2, some (.box T_api_Bits (.tmp 0)), none⟩,
    ⟨some 4, some (.assign (.const (.bool false))), none⟩])
  (.seq (.seq (.reg [] [⟨some 11, some (.call ⟨(.value (.func f_plaitlaw1_known)), #[], #[]⟩), none⟩,
    ⟨some 12, some (.unOp .not T_bool (.tmp 11)), none⟩])
  (.cond (.tmp 12) (.seq (.reg [] [⟨some 4, some (.assign (.const (.bool false))), none⟩])
  .ret)
  .skip))
  (.seq (.seq (.reg [] [⟨some 13, some (.move (.tmp 1)), none⟩,
    ⟨some 14, some (.call ⟨(.builtin .len), #[(.tmp 13)], #[T_string]⟩), none⟩,
    ⟨some 15, some (.binOp .gtr T_int (.tmp 14) (.const (.int .i64 400)) T_int), none⟩])
  (.cond (.tmp 15) (.seq (.reg [] [⟨some 4, some (.assign (.const (.bool true))), none⟩])
  .ret)
  .skip))
  (.seq (.reg [] [⟨some 17, some (.move (.tmp 1)), none⟩,
    ⟨some 18, some (.call ⟨(.value (.func f_bv_Parse)), #[(.tmp 17)], #[T_string]⟩), none⟩,
    ⟨some 16, some (.move (.tmp 18)), none⟩,
    ⟨some 19, some (.extract (.tmp 16) 0), none⟩,
    ⟨some 20, some (.extract (.tmp 16) 1), none⟩,
    ⟨some 5, some (.alloc T_api_Bits), none⟩,
    ⟨none, some (.store T_api_Bits (.tmp 5) (.tmp 19)), none⟩,
    ⟨some 6, some (.assign (.tmp 20)), none⟩])
  (.seq (.reg [] [⟨some 22, some (.move (.tmp 1)), none⟩,
    ⟨some 23, some (.call ⟨(.value (.func f_plaitref1_Parse)), #[(.tmp 22)], #[T_string]⟩), none⟩,
    ⟨some 21, some (.move (.tmp 23)), none⟩,
    ⟨some 24, some (.extract (.tmp 21) 0), none⟩,
    ⟨some 25, some (.extract (.tmp 21) 1), none⟩,
    ⟨some 7, some (.alloc T_api_Bits), none⟩,
    ⟨none, some (.store T_api_Bits (.tmp 7) (.tmp 24)), none⟩,
    ⟨some 8, some (.assign (.tmp 25)), none⟩])
  (.seq (.seq (.reg [1] [⟨some 26, some (.load T_api_Bits (.tmp 2)), none⟩,
    ⟨some 27, some (.call ⟨(.value (.func f_bv_Text)), #[(.tmp 26)], #[T_api_Bits]⟩), none⟩,
    ⟨some 28, some (.load T_api_Bits (.tmp 2)), none⟩,
    ⟨some 29, some (.call ⟨(.value (.func f_plaitref1_Text)), #[(.tmp 28)], #[T_api_Bits]⟩), none⟩,
    ⟨some 30, some (.binOp .neq T_string (.tmp 27) (.tmp 29) T_string), none⟩,
    ⟨some 31, some (.move (.tmp 30)), none⟩,
    ⟨some 32, some (.load T_api_Bits (.tmp 5)), some (some 31, false)⟩,
    ⟨some 33, some (.load T_api_Bits (.tmp 7)), some (some 31, false)⟩,
    ⟨some 34, some (.binOp .neq T_api_Bits (.tmp 32) (.tmp 33) T_api_Bits), some (some 31, false)⟩,
    ⟨some 35, some (.pick (.tmp 31) (.const (.bool true)) (.tmp 34)), none⟩,
    ⟨some 36, some (.move (.tmp 35)), none⟩,
    ⟨some 37, some (.move (.tmp 6)), some (some 36, false)⟩,
    ⟨some 38, some (.move (.tmp 8)), some (some 36, false)⟩,
    ⟨some 39, some (.binOp .neq T_int (.tmp 37) (.tmp 38) T_int), some (some 36, false)⟩,
    ⟨some 40, some (.pick (.tmp 36) (.const (.bool true)) (.tmp 39)), none⟩])
  (.cond (.tmp 40) (.seq (.reg [] [⟨some 4, some (.assign (.const (.bool false))), none⟩])
  .ret)
  .skip))
  (.seq (.seq (.reg [] [⟨some 41, some (.load T_api_Bits (.tmp 2)), none⟩,
    ⟨some 42, some (.call ⟨(.value (.func f_bv_Right)), #[(.tmp 41)], #[T_api_Bits]⟩), none⟩,
    ⟨some 43, some (.unOp .not T_bool (.tmp 42)), none⟩])
  (.cond (.tmp 43) (.seq (.reg [] [⟨some 44, some (.load T_api_Bits (.tmp 2)), none⟩,
    ⟨some 45, some (.call ⟨(.value (.func f_bv_Text)), #[(.tmp 44)], #[T_api_Bits]⟩), none⟩,
    ⟨some 46, some (.binOp .eql T_string (.tmp 45) (.const (.string { data := #[] })) T_string), none⟩,
    ⟨some 4, some (.assign (.tmp 46)), none⟩])
  .ret)
  .skip))
  (.seq (.reg [] [⟨some 48, some (.load T_api_Bits (.tmp 2)), none⟩,
    ⟨some 49, some (.call ⟨(.value (.func f_bv_Text)), #[(.tmp 48)], #[T_api_Bits]⟩), none⟩,
    ⟨some 50, some (.call ⟨(.value (.func f_bv_Parse)), #[(.tmp 49)], #[T_string]⟩), none⟩,
    ⟨some 47, some (.move (.tmp 50)), none⟩,
    ⟨some 51, some (.extract (.tmp 47) 0), none⟩,
    ⟨some 52, some (.extract (.tmp 47) 1), none⟩,
    ⟨some 9, some (.alloc T_api_Bits), none⟩,
    ⟨none, some (.store T_api_Bits (.tmp 9) (.tmp 51)), none⟩,
    ⟨some 10, some (.assign (.tmp 52)), none⟩])
  (.seq (.reg [] [⟨some 53, some (.move (.tmp 10)), none⟩,
    ⟨some 54, some (.binOp .eql T_int (.tmp 53) (.const (.int .i64 0)) T_int), none⟩,
    ⟨some 55, some (.move (.tmp 54)), none⟩,
    ⟨some 56, some (.load T_api_Bits (.tmp 9)), some (some 55, true)⟩,
    ⟨some 57, some (.load T_api_Bits (.tmp 2)), some (some 55, true)⟩,
    ⟨some 58, some (.binOp .eql T_api_Bits (.tmp 56) (.tmp 57) T_api_Bits), some (some 55, true)⟩,
    ⟨some 59, some (.pick (.tmp 55) (.tmp 58) (.const (.bool false))), none⟩,
    ⟨some 4, some (.assign (.tmp 59)), none⟩])
  .ret)))))))))
theorem e_plaitlaw1_BvText {a0 a1 : AV} {H : AHeap} : R f_plaitlaw1_BvText [a0, a1] H = fnK Go.Proofs.Try.prog [] H [(.tmp 4)] (evalL Go.Proofs.Try.prog KT R c_plaitlaw1_BvText (Env.args [a0, a1] 0) H) :=
  runs_body (D := DT) (f := f_plaitlaw1_BvText) Go.Proofs.Try.func3 (by kernel_rfl) (by kernel_rfl) (by kernel_rfl) (by kernel_rfl) (by kernel_rfl) (Nat.le_of_ble_eq_true rfl)

def c_plaitlaw1_known : LCode := (.seq (.reg [] [⟨some 0, some (.assign (.const (.bool false))), none⟩])
  (.seq (.reg [] [⟨some 1, some (.call ⟨(.value (.func f_plaitlaw1_examples)), #[], #[]⟩), none⟩,
    ⟨some 2, some (.move (.tmp 1)), none⟩,
    ⟨some 3, some (.call ⟨(.value (.func f_bv_Bool)), #[(.const (.bool true))], #[T_bool]⟩), some (some 2, true)⟩,
    ⟨some 4, some (.call ⟨(.value (.func f_bv_Text)), #[(.tmp 3)], #[T_api_Bits]⟩), some (some 2, true)⟩,
    ⟨some 5, some (.binOp .eql T_string (.tmp 4) (.const (.string { data := #[116, 114, 117, 101] })) T_string), some (some 2, true)⟩,
    ⟨some 6, some (.pick (.tmp 2) (.tmp 5) (.const (.bool false))), none⟩,
    ⟨some 7, some (.move (.tmp 6)), none⟩,
    ⟨some 8, some (.build T_api_Bits #[(0, (.const (.int .i64 4))), (1, (.const (.int .u64 15)))]), some (some 7, true)⟩,
    ⟨some 9, some (.call ⟨(.value (.func f_bv_Right)), #[(.tmp 8)], #[T_api_Bits]⟩), some (some 7, true)⟩,
    ⟨some 10, some (.pick (.tmp 7) (.tmp 9) (.const (.bool false))), none⟩,
    ⟨some 11, some (.move (.tmp 10)), none⟩,
    ⟨some 12, some (.build T_api_Bits #[(0, (.const (.int .i64 4))), (1, (.const (.int .u64 16)))]), some (some 11, true)⟩,
    ⟨some 13, some (.call ⟨(.value (.func f_bv_Right)), #[(.tmp 12)], #[T_api_Bits]⟩), some (some 11, true)⟩,
    ⟨some 14, some (.unOp .not T_bool (.tmp 13)), some (some 11, true)⟩,
    ⟨some 15, some (.pick (.tmp 11) (.tmp 14) (.const (.bool false))), none⟩,
    ⟨some 0, some (.assign (.tmp 15)), none⟩])
  .ret))
theorem e_plaitlaw1_known {H : AHeap} : R f_plaitlaw1_known [] H = fnK Go.Proofs.Try.prog [] H [(.tmp 0)] (evalL Go.Proofs.Try.prog KT R c_plaitlaw1_known (Env.args [] 0) H) :=
  runs_body (D := DT) (f := f_plaitlaw1_known) Go.Proofs.Try.func4 (by kernel_rfl) (by kernel_rfl) (by kernel_rfl) (by kernel_rfl) (by kernel_rfl) (Nat.le_of_ble_eq_true rfl)

def c_bv_Parse : LCode := (.seq (.reg [] [⟨some 2, some (.alloc T_api_Bits), none⟩,
    ⟨some 3, some (.assign (.const (.int .i64 0))), none⟩])
  (.seq (.seq (.reg [] [⟨some 6, some (.move (.tmp 0)), none⟩])
  (.block 0 (.seq (.reg [] [⟨some 8, some (.binOp .eql T_string (.tmp 6) (.const (.string { data := #[116, 114, 117, 101] })) T_string), none⟩,
    ⟨some 7, some (.assign (.tmp 8)), none⟩])
  (.cond (.tmp 7) (.seq (.reg [] [⟨some 9, some (.call ⟨(.value (.func f_bv_Bool)), #[(.const (.bool true))], #[T_bool]⟩), none⟩,
    ⟨none, some (.store T_api_Bits (.tmp 2) (.tmp 9)), none⟩,
    ⟨some 3, some (.assign (.const (.int .i64 0))), none⟩])
  .ret)
  (.seq (.reg [] [⟨some 11, some (.binOp .eql T_string (.tmp 6) (.const (.string { data := #[102, 97, 108, 115, 101] })) T_string), none⟩,
    ⟨some 10, some (.assign (.tmp 11)), none⟩])
  (.cond (.tmp 10) (.seq (.reg [] [⟨some 12, some (.call ⟨(.value (.func f_bv_Bool)), #[(.const (.bool false))], #[T_bool]⟩), none⟩,
    ⟨none, some (.store T_api_Bits (.tmp 2) (.tmp 12)), none⟩,
    ⟨some 3, some (.assign (.const (.int .i64 0))), none⟩])
  .ret)
  .skip))))))
  (.seq (.reg [] [⟨some 4, some (.alloc T_api_Bits), none⟩])
  (.seq (.reg [] [⟨some 5, some (.assign (.const (.bool false))), none⟩])
  (.seq (.seq (.reg [] [⟨some 13, some (.move (.tmp 0)), none⟩,
    ⟨some 14, some (.call ⟨(.value (.func f_strings_HasPrefix)), #[(.tmp 13), (.const (.string { data := #[35, 98] }))], #[T_string, T_string]⟩), none⟩])
  (.cond (.tmp 14) (.reg [] [⟨some 16, some (.move (.tmp 0)), none⟩,
    ⟨some 17, some (.slice T_string (.tmp 16) (some (.const (.int .i64 2))) none none), none⟩,
    ⟨some 18, some (.call ⟨(.value (.func f_bv_digits)), #[(.tmp 17), (.const (.int .i64 1))], #[T_string, T_int]⟩), none⟩,
    ⟨some 15, some (.move (.tmp 18)), none⟩,
    ⟨some 19, some (.extract (.tmp 15) 0), none⟩,
    ⟨some 20, some (.extract (.tmp 15) 1), none⟩,
    ⟨none, some (.store T_api_Bits (.tmp 4) (.tmp 19)), none⟩,
    ⟨some 5, some (.assign (.tmp 20)), none⟩])
  (.seq (.reg [] [⟨some 21, some (.move (.tmp 0)), none⟩,
    ⟨some 22, some (.call ⟨(.value (.func f_strings_HasPrefix)), #[(.tmp 21), (.const (.string { data := #[35, 120] }))], #[T_string, T_string]⟩), none⟩])
  (.cond (.tmp 22) (.reg [] [⟨some 24, some (.move (.tmp 0)), none⟩,
    ⟨some 25, some (.slice T_string (.tmp 24) (some (.const (.int .i64 2))) none none), none⟩,
    ⟨some 26, some (.call ⟨(.value (.func f_bv_digits)), #[(.tmp 25), (.const (.int .i64 4))], #[T_string, T_int]⟩), none⟩,
    ⟨some 23, some (.move (.tmp 26)), none⟩,
    ⟨some 27, some (.extract (.tmp 23) 0), none⟩,
    ⟨some 28, some (.extract (.tmp 23) 1), none⟩,
    ⟨none, some (.store T_api_Bits (.tmp 4) (.tmp 27)), none⟩,
    ⟨some 5, some (.assign (.tmp 28)), none⟩])
  .skip))))
  (.seq (.seq (.reg [] [⟨some 29, some (.move (.tmp 5)), none⟩,
    ⟨some 30, some (.unOp .not T_bool (.tmp 29)), none⟩])
  (.cond (.tmp 30) (.seq (.reg [] [⟨some 31, some (.build T_api_Bits #[]), none⟩,
    ⟨none, some (.store T_api_Bits (.tmp 2) (.tmp 31)), none⟩,
    ⟨some 3, some (.assign (.const (.int .i64 13))), none⟩])
  .ret)
  .skip))
  (.seq (.reg [] [⟨some 32, some (.load T_api_Bits (.tmp 4)), none⟩,
    ⟨none, some (.store T_api_Bits (.tmp 2) (.tmp 32)), none⟩,
    ⟨some 3, some (.assign (.const (.int .i64 0))), none⟩])
  .ret)))))))
theorem e_bv_Parse {a0 : AV} {H : AHeap} : R f_bv_Parse [a0] H = fnK Go.Proofs.Try.prog [] H [(.cell 2 T_api_Bits), (.tmp 3)] (evalL Go.Proofs.Try.prog KT R c_bv_Parse (Env.args [a0] 0) H) :=
  runs_body (D := DT) (f := f_bv_Parse) Go.Proofs.Try.func5 (by kernel_rfl) (by kernel_rfl) (by kernel_rfl) (by kernel_rfl) (by kernel_rfl) (Nat.le_of_ble_eq_true rfl)

def l_plaitref1_Parse_1 : LCode := (.seq (.seq (.reg [] [⟨some 63, some (.move (.tmp 9)), none⟩,
    ⟨some 64, some (.move (.tmp 5)), none⟩,
    ⟨some 65, some (.binOp .lss T_int (.tmp 63) (.tmp 64) T_int), none⟩])
  (.cond (.tmp 65) .skip
  (.exit 2)))
  (.seq (.block 3 (.reg [] [⟨some 68, some (.move (.tmp 6)), none⟩,
    ⟨some 69, some (.move (.tmp 8)), none⟩,
    ⟨some 70, some (.move (.tmp 9)), none⟩,
    ⟨some 71, some (.binOp .shr T_int (.tmp 69) (.tmp 70) T_int), none⟩,
    ⟨some 72, some (.binOp .and T_int (.tmp 71) (.const (.int .i64 1)) T_int), none⟩,
    ⟨some 73, some (.binOp .eql T_int (.tmp 72) (.const (.int .i64 1)) T_int), none⟩,
    ⟨some 74, some (.buildSlice T_s_bool 1 #[(0, (.tmp 73))]), none⟩,
    ⟨some 75, some (.call ⟨(.builtin .append), #[(.tmp 68), (.tmp 74)], #[T_s_bool, T_s_bool]⟩), none⟩,
    ⟨some 6, some (.assign (.tmp 75)), none⟩]))
  (.reg [] [⟨some 66, some (.move (.tmp 9)), none⟩,
    ⟨some 67, some (.binOp .add T_int (.tmp 66) (.const (.int .i64 1)) T_int), none⟩,
    ⟨some 9, some (.assign (.tmp 67)), none⟩])))
def l_plaitref1_Parse_0 : LCode := (.seq (.seq (.reg [] [⟨some 51, some (.move (.tmp 7)), none⟩,
    ⟨some 52, some (.binOp .geq T_int (.tmp 51) (.const (.int .i64 2)) T_int), none⟩])
  (.cond (.tmp 52) .skip
  (.exit 0)))
  (.seq (.block 1 (.seq (.reg [] [⟨some 55, some (.move (.tmp 0)), none⟩,
    ⟨some 56, some (.move (.tmp 7)), none⟩,
    ⟨some 57, some (.index T_string (.tmp 55) (.tmp 56)), none⟩,
    ⟨some 58, some (.call ⟨(.value (.func f_plaitref1_digit)), #[(.tmp 57)], #[T_uint8]⟩), none⟩,
    ⟨some 8, some (.assign (.tmp 58)), none⟩])
  (.seq (.seq (.reg [] [⟨some 59, some (.move (.tmp 8)), none⟩,
    ⟨some 60, some (.move (.tmp 4)), none⟩,
    ⟨some 61, some (.binOp .geq T_int (.tmp 59) (.tmp 60) T_int), none⟩])
  (.cond (.tmp 61) (.seq (.reg [] [⟨some 62, some (.build T_api_Bits #[]), none⟩,
    ⟨none, some (.store T_api_Bits (.tmp 2) (.tmp 62)), none⟩,
    ⟨some 3, some (.assign (.const (.int .i64 13))), none⟩])
  .ret)
  .skip))
  (.seq (.reg [] [⟨some 9, some (.assign (.const (.int .i64 0))), none⟩])
  (.block 2 (.loop l_plaitref1_Parse_1))))))
  (.reg [] [⟨some 53, some (.move (.tmp 7)), none⟩,
    ⟨some 54, some (.binOp .sub T_int (.tmp 53) (.const (.int .i64 1)) T_int), none⟩,
    ⟨some 7, some (.assign (.tmp 54)), none⟩])))
@[simp] theorem d_l_plaitref1_Parse_1 : defs l_plaitref1_Parse_1 = [63, 64, 65, 68, 69, 70, 71, 72, 73, 74, 75, 6, 66, 67, 9] := by rfl
@[simp] theorem d_l_plaitref1_Parse_0 : defs l_plaitref1_Parse_0 = [51, 52, 55, 56, 57, 58, 8, 59, 60, 61, 62, 3, 9, 63, 64, 65, 68, 69, 70, 71, 72, 73, 74, 75, 6, 66, 67, 9, 53, 54, 7] := by rfl
def c_plaitref1_Parse : LCode := (.seq (.reg [] [⟨some 2, some (.alloc T_api_Bits), none⟩,
    ⟨some 3, some (.assign (.const (.int .i64 0))), none⟩])
  (.seq (.seq (.reg [] [⟨some 10, some (.move (.tmp 0)), none⟩,
    ⟨some 11, some (.binOp .eql T_string (.tmp 10) (.const (.string { data := #[116, 114, 117, 101] })) T_string), none⟩,
    ⟨some 12, some (.move (.tmp 11)), none⟩,
    ⟨some 13, some (.move (.tmp 0)), some (some 12, false)⟩,
    ⟨some 14, some (.binOp .eql T_string (.tmp 13) (.const (.string { data := #[102, 97, 108, 115, 101] })) T_string), some (some 12, false)⟩,
    ⟨some 15, some (.pick (.tmp 12) (.const (.bool true)) (.tmp 14)), none⟩])
  (.cond (.tmp 15) (.seq (.reg [] [⟨some 16, some (.move (.tmp 0)), none⟩,
    ⟨some 17, some (.binOp .eql T_string (.tmp 16) (.const (.string { data := #[116, 114, 117, 101] })) T_string), none⟩,
    ⟨some 18, some (.call ⟨(.value (.func f_plaitref1_Bool)), #[(.tmp 17)], #[T_bool]⟩), none⟩,
    ⟨none, some (.store T_api_Bits (.tmp 2) (.tmp 18)), none⟩,
    ⟨some 3, some (.assign (.const (.int .i64 0))), none⟩])
  .ret)
  .skip))
  (.seq (.seq (.reg [] [⟨some 19, some (.move (.tmp 0)), none⟩,
    ⟨some 20, some (.call ⟨(.builtin .len), #[(.tmp 19)], #[T_string]⟩), none⟩,
    ⟨some 21, some (.binOp .lss T_int (.tmp 20) (.const (.int .i64 3)) T_int), none⟩,
    ⟨some 22, some (.move (.tmp 21)), none⟩,
    ⟨some 23, some (.move (.tmp 0)), some (some 22, false)⟩,
    ⟨some 24, some (.index T_string (.tmp 23) (.const (.int .i64 0))), some (some 22, false)⟩,
    ⟨some 25, some (.binOp .neq T_uint8 (.tmp 24) (.const (.int .u8 35)) T_uint8), some (some 22, false)⟩,
    ⟨some 26, some (.pick (.tmp 22) (.const (.bool true)) (.tmp 25)), none⟩,
    ⟨some 27, some (.move (.tmp 26)), none⟩,
    ⟨some 28, some (.move (.tmp 0)), some (some 27, false)⟩,
    ⟨some 29, some (.index T_string (.tmp 28) (.const (.int .i64 1))), some (some 27, false)⟩,
    ⟨some 30, some (.binOp .neq T_uint8 (.tmp 29) (.const (.int .u8 98)) T_uint8), some (some 27, false)⟩,
    ⟨some 31, some (.move (.tmp 30)), some (some 27, false)⟩,
    ⟨some 32, some (.move (.tmp 0)), some (some 31, true)⟩,
    ⟨some 33, some (.index T_string (.tmp 32) (.const (.int .i64 1))), some (some 31, true)⟩,
    ⟨some 34, some (.binOp .neq T_uint8 (.tmp 33) (.const (.int .u8 120)) T_uint8), some (some 31, true)⟩,
    ⟨some 35, some (.pick (.tmp 31) (.tmp 34) (.const (.bool false))), some (some 27, false)⟩,
    ⟨some 36, some (.pick (.tmp 27) (.const (.bool true)) (.tmp 35)), none⟩])
  (.cond (.tmp 36) (.seq (.reg [] [⟨some 37, some (.build T_api_Bits #[]), none⟩,
    ⟨none, some (.store T_api_Bits (.tmp 2) (.tmp 37)), none⟩,
    ⟨some 3, some (.assign (.const (.int .i64 13))), none⟩])
  .ret)
  .skip))
  (.seq (.reg [] [⟨some 4, some (.assign (.const (.int .i64 2))), none⟩,
    ⟨some 5, some (.assign (.const (.int .i64 1))), none⟩])
  (.seq (.seq (.reg [] [⟨some 38, some (.move (.tmp 0)), none⟩,
    ⟨some 39, some (.index T_string (.tmp 38) (.const (.int .i64 1))), none⟩,
    ⟨some 40, some (.binOp .eql T_uint8 (.tmp 39) (.const (.int .u8 120)) T_uint8), none⟩])
  (.cond (.tmp 40) (.reg [] [⟨some 4, some (.assign (.const (.int .i64 16))), none⟩,
    ⟨some 5, some (.assign (.const (.int .i64 4))), none⟩])
  .skip))
  (.seq (.seq (.reg [] [⟨some 41, some (.move (.tmp 0)), none⟩,
    ⟨some 42, some (.call ⟨(.builtin .len), #[(.tmp 41)], #[T_string]⟩), none⟩,
    ⟨some 43, some (.binOp .sub T_int (.tmp 42) (.const (.int .i64 2)) T_int), none⟩,
    ⟨some 44, some (.move (.tmp 5)), none⟩,
    ⟨some 45, some (.binOp .mul T_int (.tmp 43) (.tmp 44) T_int), none⟩,
    ⟨some 46, some (.binOp .gtr T_int (.tmp 45) (.const (.int .i64 128)) T_int), none⟩])
  (.cond (.tmp 46) (.seq (.reg [] [⟨some 47, some (.build T_api_Bits #[]), none⟩,
    ⟨none, some (.store T_api_Bits (.tmp 2) (.tmp 47)), none⟩,
    ⟨some 3, some (.assign (.const (.int .i64 13))), none⟩])
  .ret)
  .skip))
  (.seq (.reg [] [⟨some 6, some (.assign (.const (.slice none 0 0))), none⟩])
  (.seq (.seq (.reg [] [⟨some 48, some (.move (.tmp 0)), none⟩,
    ⟨some 49, some (.call ⟨(.builtin .len), #[(.tmp 48)], #[T_string]⟩), none⟩,
    ⟨some 50, some (.binOp .sub T_int (.tmp 49) (.const (.int .i64 1)) T_int), none⟩,
    ⟨some 7, some (.assign (.tmp 50)), none⟩])
  (.block 0 (.loop l_plaitref1_Parse_0)))
  (.seq (.reg [] [⟨some 76, some (.move (.tmp 6)), none⟩,
    ⟨some 77, some (.call ⟨(.value (.func f_plaitref1_Word)), #[(.tmp 76)], #[T_s_bool]⟩), none⟩,
    ⟨none, some (.store T_api_Bits (.tmp 2) (.tmp 77)), none⟩,
    ⟨some 3, some (.assign (.const (.int .i64 0))), none⟩])
  .ret)))))))))
theorem e_plaitref1_Parse {a0 : AV} {H : AHeap} : R f_plaitref1_Parse [a0] H = fnK Go.Proofs.Try.prog [] H [(.cell 2 T_api_Bits), (.tmp 3)] (evalL Go.Proofs.Try.prog KT R c_plaitref1_Parse (Env.args [a0] 0) H) :=
  runs_body (D := DT) (f := f_plaitref1_Parse) Go.Proofs.Try.func6 (by kernel_rfl) (by kernel_rfl) (by kernel_rfl) (by kernel_rfl) (by kernel_rfl) (Nat.le_of_ble_eq_true rfl)

def l_bv_Text_0 : LCode := (.seq (.seq (.reg [] [⟨some 22, some (.move (.tmp 4)), none⟩,
    ⟨some 23, some (.binOp .geq T_int (.tmp 22) (.const (.int .i64 0)) T_int), none⟩])
  (.cond (.tmp 23) .skip
  (.exit 1)))
  (.seq (.block 2 (.reg [] [⟨some 26, some (.move (.tmp 3)), none⟩,
    ⟨some 27, some (.load T_api_Bits (.tmp 1)), none⟩,
    ⟨some 28, some (.call ⟨(.value (.func f_bv_of)), #[(.tmp 27)], #[T_api_Bits]⟩), none⟩,
    ⟨some 29, some (.move (.tmp 4)), none⟩,
    ⟨some 30, some (.call ⟨(.value (.func f_plait_bv_number_right)), #[(.tmp 28), (.tmp 29)], #[T_bv_number, T_int]⟩), none⟩,
    ⟨some 31, some (.field T_bv_number (.tmp 30) 0), none⟩,
    ⟨some 32, some (.binOp .and T_uint64 (.tmp 31) (.const (.int .u64 1)) T_uint64), none⟩,
    ⟨some 33, some (.convert T_uint64 T_uint8 (.tmp 32)), none⟩,
    ⟨some 34, some (.binOp .add T_uint8 (.const (.int .u8 48)) (.tmp 33) T_uint8), none⟩,
    ⟨some 35, some (.buildSlice T_s_uint8 1 #[(0, (.tmp 34))]), none⟩,
    ⟨some 36, some (.call ⟨(.builtin .append), #[(.tmp 26), (.tmp 35)], #[T_s_uint8, T_s_uint8]⟩), none⟩,
    ⟨some 3, some (.assign (.tmp 36)), none⟩]))
  (.reg [] [⟨some 24, some (.move (.tmp 4)), none⟩,
    ⟨some 25, some (.binOp .sub T_int (.tmp 24) (.const (.int .i64 1)) T_int), none⟩,
    ⟨some 4, some (.assign (.tmp 25)), none⟩])))
@[simp] theorem d_l_bv_Text_0 : defs l_bv_Text_0 = [22, 23, 26, 27, 28, 29, 30, 31, 32, 33, 34, 35, 36, 3, 24, 25, 4] := by rfl
def c_bv_Text : LCode := (.seq (.reg [] [⟨some 1, some (.box T_api_Bits (.tmp 0)), none⟩,
    ⟨some 2, some (.assign (.const (.string { data := #[] }))), none⟩])
  (.seq (.block 0 (.seq (.reg [] [⟨some 6, some (.load T_api_Bits (.tmp 1)), none⟩,
    ⟨some 7, some (.call ⟨(.value (.func f_bv_Right)), #[(.tmp 6)], #[T_api_Bits]⟩), none⟩,
    ⟨some 8, some (.unOp .not T_bool (.tmp 7)), none⟩,
    ⟨some 5, some (.assign (.tmp 8)), none⟩])
  (.cond (.tmp 5) (.seq (.reg [] [⟨some 2, some (.assign (.const (.string { data := #[] }))), none⟩])
  .ret)
  (.seq (.reg [1] [⟨some 10, some (.load T_api_Bits (.tmp 1)), none⟩,
    ⟨some 11, some (.call ⟨(.value (.func f_bv_Bool)), #[(.const (.bool true))], #[T_bool]⟩), none⟩,
    ⟨some 12, some (.binOp .eql T_api_Bits (.tmp 10) (.tmp 11) T_api_Bits), none⟩,
    ⟨some 9, some (.assign (.tmp 12)), none⟩])
  (.cond (.tmp 9) (.seq (.reg [] [⟨some 2, some (.assign (.const (.string { data := #[116, 114, 117, 101] }))), none⟩])
  .ret)
  (.seq (.reg [] [⟨some 14, some (.fieldAddr T_api_Bits (.tmp 1) 0), none⟩,
    ⟨some 15, some (.load T_int (.tmp 14)), none⟩,
    ⟨some 16, some (.binOp .eql T_int (.tmp 15) (.const (.int .i64 0)) T_int), none⟩,
    ⟨some 13, some (.assign (.tmp 16)), none⟩])
  (.cond (.tmp 13) (.seq (.reg [] [⟨some 2, some (.assign (.const (.string { data := #[102, 97, 108, 115, 101] }))), none⟩])
  .ret)
  .skip)))))))
  (.seq (.reg [] [⟨some 17, some (.buildSlice T_s_uint8 2 #[(0, (.const (.int .u8 35))), (1, (.const (.int .u8 98)))]), none⟩,
    ⟨some 18, some (.convert T_s_uint8 T_s_uint8 (.tmp 17)), none⟩,
    ⟨some 3, some (.assign (.tmp 18)), none⟩])
  (.seq (.seq (.reg [] [⟨some 19, some (.fieldAddr T_api_Bits (.tmp 1) 0), none⟩,
    ⟨some 20, some (.load T_int (.tmp 19)), none⟩,
    ⟨some 21, some (.binOp .sub T_int (.tmp 20) (.const (.int .i64 1)) T_int), none⟩,
    ⟨some 4, some (.assign (.tmp 21)), none⟩])
  (.block 1 (.loop l_bv_Text_0)))
  (.seq (.reg [] [⟨some 37, some (.move (.tmp 3)), none⟩,
    ⟨some 38, some (.convert T_s_uint8 T_string (.tmp 37)), none⟩,
    ⟨some 2, some (.assign (.tmp 38)), none⟩])
  .ret)))))
theorem e_bv_Text {a0 : AV} {H : AHeap} : R f_bv_Text [a0] H = fnK Go.Proofs.Try.prog [] H [(.tmp 2)] (evalL Go.Proofs.Try.prog KT R c_bv_Text (Env.args [a0] 0) H) :=
  runs_body (D := DT) (f := f_bv_Text) Go.Proofs.Try.func7 (by kernel_rfl) (by kernel_rfl) (by kernel_rfl) (by kernel_rfl) (by kernel_rfl) (Nat.le_of_ble_eq_true rfl)

def l_plaitref1_Text_0 : LCode := (.seq (.seq (.reg [] [⟨some 20, some (.move (.tmp 5)), none⟩,
    ⟨some 21, some (.binOp .geq T_int (.tmp 20) (.const (.int .i64 0)) T_int), none⟩])
  (.cond (.tmp 21) .skip
  (.exit 0)))
  (.seq (.block 1 (.seq (.reg [] [⟨some 24, some (.move (.tmp 4)), none⟩,
    ⟨some 25, some (.move (.tmp 5)), none⟩,
    ⟨some 26, some (.indexAddr T_s_bool (.tmp 24) (.tmp 25)), none⟩,
    ⟨some 27, some (.load T_bool (.tmp 26)), none⟩])
  (.cond (.tmp 27) (.reg [] [⟨some 28, some (.move (.tmp 3)), none⟩,
    ⟨some 29, some (.binOp .add T_string (.tmp 28) (.const (.string { data := #[49] })) T_string), none⟩,
    ⟨some 3, some (.assign (.tmp 29)), none⟩])
  (.reg [] [⟨some 30, some (.move (.tmp 3)), none⟩,
    ⟨some 31, some (.binOp .add T_string (.tmp 30) (.const (.string { data := #[48] })) T_string), none⟩,
    ⟨some 3, some (.assign (.tmp 31)), none⟩]))))
  (.reg [] [⟨some 22, some (.move (.tmp 5)), none⟩,
    ⟨some 23, some (.binOp .sub T_int (.tmp 22) (.const (.int .i64 1)) T_int), none⟩,
    ⟨some 5, some (.assign (.tmp 23)), none⟩])))
@[simp] theorem d_l_plaitref1_Text_0 : defs l_plaitref1_Text_0 = [20, 21, 24, 25, 26, 27, 28, 29, 3, 30, 31, 3, 22, 23, 5] := by rfl
def c_plaitref1_Text : LCode := (.seq (.reg [] [⟨some 1, some (.box T_api_Bits (.tmp 0)), none⟩,
    ⟨some 2, some (.assign (.const (.string { data := #[] }))), none⟩])
  (.seq (.seq (.reg [] [⟨some 6, some (.load T_api_Bits (.tmp 1)), none⟩,
    ⟨some 7, some (.call ⟨(.value (.func f_plaitref1_Right)), #[(.tmp 6)], #[T_api_Bits]⟩), none⟩,
    ⟨some 8, some (.unOp .not T_bool (.tmp 7)), none⟩])
  (.cond (.tmp 8) (.seq (.reg [] [⟨some 2, some (.assign (.const (.string { data := #[] }))), none⟩])
  .ret)
  .skip))
  (.seq (.seq (.reg [] [⟨some 9, some (.fieldAddr T_api_Bits (.tmp 1) 0), none⟩,
    ⟨some 10, some (.load T_int (.tmp 9)), none⟩,
    ⟨some 11, some (.binOp .eql T_int (.tmp 10) (.const (.int .i64 0)) T_int), none⟩])
  (.cond (.tmp 11) (.seq (.seq (.reg [] [⟨some 12, some (.fieldAddr T_api_Bits (.tmp 1) 1), none⟩,
    ⟨some 13, some (.load T_uint64 (.tmp 12)), none⟩,
    ⟨some 14, some (.binOp .eql T_uint64 (.tmp 13) (.const (.int .u64 1)) T_uint64), none⟩])
  (.cond (.tmp 14) (.seq (.reg [] [⟨some 2, some (.assign (.const (.string { data := #[116, 114, 117, 101] }))), none⟩])
  .ret)
  .skip))
  (.seq (.reg [] [⟨some 2, some (.assign (.const (.string { data := #[102, 97, 108, 115, 101] }))), none⟩])
  .ret))
  .skip))
  (.seq (.reg [] [⟨some 3, some (.assign (.const (.string { data := #[35, 98] }))), none⟩])
  (.seq (.reg [] [⟨some 15, some (.load T_api_Bits (.tmp 1)), none⟩,
    ⟨some 16, some (.call ⟨(.value (.func f_plaitref1_Bits)), #[(.tmp 15)], #[T_api_Bits]⟩), none⟩,
    ⟨some 4, some (.assign (.tmp 16)), none⟩])
  (.seq (.seq (.reg [] [⟨some 17, some (.move (.tmp 4)), none⟩,
    ⟨some 18, some (.call ⟨(.builtin .len), #[(.tmp 17)], #[T_s_bool]⟩), none⟩,
    ⟨some 19, some (.binOp .sub T_int (.tmp 18) (.const (.int .i64 1)) T_int), none⟩,
    ⟨some 5, some (.assign (.tmp 19)), none⟩])
  (.block 0 (.loop l_plaitref1_Text_0)))
  (.seq (.reg [] [⟨some 32, some (.move (.tmp 3)), none⟩,
    ⟨some 2, some (.assign (.tmp 32)), none⟩])
  .ret)))))))
theorem e_plaitref1_Text {a0 : AV} {H : AHeap} : R f_plaitref1_Text [a0] H = fnK Go.Proofs.Try.prog [] H [(.tmp 2)] (evalL Go.Proofs.Try.prog KT R c_plaitref1_Text (Env.args [a0] 0) H) :=
  runs_body (D := DT) (f := f_plaitref1_Text) Go.Proofs.Try.func8 (by kernel_rfl) (by kernel_rfl) (by kernel_rfl) (by kernel_rfl) (by kernel_rfl) (Nat.le_of_ble_eq_true rfl)

def c_bv_Right : LCode := (.seq (.reg [] [⟨some 1, some (.box T_api_Bits (.tmp 0)), none⟩,
    ⟨some 2, some (.assign (.const (.bool false))), none⟩])
  (.seq (.seq (.reg [] [⟨some 3, some (.fieldAddr T_api_Bits (.tmp 1) 0), none⟩,
    ⟨some 4, some (.load T_int (.tmp 3)), none⟩,
    ⟨some 5, some (.binOp .eql T_int (.tmp 4) (.const (.int .i64 0)) T_int), none⟩])
  (.cond (.tmp 5) (.seq (.reg [] [⟨some 6, some (.fieldAddr T_api_Bits (.tmp 1) 1), none⟩,
    ⟨some 7, some (.load T_uint64 (.tmp 6)), none⟩,
    ⟨some 8, some (.binOp .leq T_uint64 (.tmp 7) (.const (.int .u64 1)) T_uint64), none⟩,
    ⟨some 9, some (.move (.tmp 8)), none⟩,
    ⟨some 10, some (.fieldAddr T_api_Bits (.tmp 1) 2), some (some 9, true)⟩,
    ⟨some 11, some (.load T_uint64 (.tmp 10)), some (some 9, true)⟩,
    ⟨some 12, some (.binOp .eql T_uint64 (.tmp 11) (.const (.int .u64 0)) T_uint64), some (some 9, true)⟩,
    ⟨some 13, some (.pick (.tmp 9) (.tmp 12) (.const (.bool false))), none⟩,
    ⟨some 2, some (.assign (.tmp 13)), none⟩])
  .ret)
  .skip))
  (.seq (.reg [12, 13] [⟨some 14, some (.fieldAddr T_api_Bits (.tmp 1) 0), none⟩,
    ⟨some 15, some (.load T_int (.tmp 14)), none⟩,
    ⟨some 16, some (.binOp .gtr T_int (.tmp 15) (.const (.int .i64 0)) T_int), none⟩,
    ⟨some 17, some (.move (.tmp 16)), none⟩,
    ⟨some 18, some (.fieldAddr T_api_Bits (.tmp 1) 0), some (some 17, true)⟩,
    ⟨some 19, some (.load T_int (.tmp 18)), some (some 17, true)⟩,
    ⟨some 20, some (.binOp .leq T_int (.tmp 19) (.const (.int .i64 128)) T_int), some (some 17, true)⟩,
    ⟨some 21, some (.pick (.tmp 17) (.tmp 20) (.const (.bool false))), none⟩,
    ⟨some 22, some (.move (.tmp 21)), none⟩,
    ⟨some 23, some (.fieldAddr T_api_Bits (.tmp 1) 0), some (some 22, true)⟩,
    ⟨some 24, some (.load T_int (.tmp 23)), some (some 22, true)⟩,
    ⟨some 25, some (.load T_api_Bits (.tmp 1)), some (some 22, true)⟩,
    ⟨some 26, some (.call ⟨(.value (.func f_bv_of)), #[(.tmp 25)], #[T_api_Bits]⟩), some (some 22, true)⟩,
    ⟨some 27, some (.call ⟨(.value (.func f_bv_cut)), #[(.tmp 24), (.tmp 26)], #[T_int, T_bv_number]⟩), some (some 22, true)⟩,
    ⟨some 28, some (.load T_api_Bits (.tmp 1)), some (some 22, true)⟩,
    ⟨some 29, some (.binOp .eql T_api_Bits (.tmp 27) (.tmp 28) T_api_Bits), some (some 22, true)⟩,
    ⟨some 30, some (.pick (.tmp 22) (.tmp 29) (.const (.bool false))), none⟩,
    ⟨some 2, some (.assign (.tmp 30)), none⟩])
  .ret)))
theorem e_bv_Right {a0 : AV} {H : AHeap} : R f_bv_Right [a0] H = fnK Go.Proofs.Try.prog [] H [(.tmp 2)] (evalL Go.Proofs.Try.prog KT R c_bv_Right (Env.args [a0] 0) H) :=
  runs_body (D := DT) (f := f_bv_Right) Go.Proofs.Try.func9 (by kernel_rfl) (by kernel_rfl) (by kernel_rfl) (by kernel_rfl) (by kernel_rfl) (Nat.le_of_ble_eq_true rfl)

def c_plaitlaw1_examples : LCode := (.seq (.reg [] [⟨some 0, some (.assign (.const (.bool false))), none⟩])
  (.seq (.seq (.reg [] [⟨some 17, some (.call ⟨(.value (.func f_plaitlaw1_two)), #[(.const (.int .i64 21)), (.const (.int .u64 7)), (.const (.int .u64 0))], #[T_int, T_uint64, T_uint64]⟩), none⟩,
    ⟨some 18, some (.binOp .neq T_uint64 (.tmp 17) (.const (.int .u64 15)) T_uint64), none⟩,
    ⟨some 19, some (.move (.tmp 18)), none⟩,
    ⟨some 20, some (.call ⟨(.value (.func f_plaitlaw1_two)), #[(.const (.int .i64 22)), (.const (.int .u64 7)), (.const (.int .u64 0))], #[T_int, T_uint64, T_uint64]⟩), some (some 19, false)⟩,
    ⟨some 21, some (.binOp .neq T_uint64 (.tmp 20) (.const (.int .u64 7)) T_uint64), some (some 19, false)⟩,
    ⟨some 22, some (.pick (.tmp 19) (.const (.bool true)) (.tmp 21)), none⟩,
    ⟨some 23, some (.move (.tmp 22)), none⟩,
    ⟨some 24, some (.call ⟨(.value (.func f_plaitlaw1_two)), #[(.const (.int .i64 23)), (.const (.int .u64 8)), (.const (.int .u64 15))], #[T_int, T_uint64, T_uint64]⟩), some (some 23, false)⟩,
    ⟨some 25, some (.binOp .neq T_uint64 (.tmp 24) (.const (.int .u64 8)) T_uint64), some (some 23, false)⟩,
    ⟨some 26, some (.pick (.tmp 23) (.const (.bool true)) (.tmp 25)), none⟩,
    ⟨some 27, some (.move (.tmp 26)), none⟩,
    ⟨some 28, some (.call ⟨(.value (.func f_plaitlaw1_two)), #[(.const (.int .i64 23)), (.const (.int .u64 9)), (.const (.int .u64 2))], #[T_int, T_uint64, T_uint64]⟩), some (some 27, false)⟩,
    ⟨some 29, some (.binOp .neq T_uint64 (.tmp 28) (.const (.int .u64 13)) T_uint64), some (some 27, false)⟩,
    ⟨some 30, some (.pick (.tmp 27) (.const (.bool true)) (.tmp 29)), none⟩,
    ⟨some 31, some (.move (.tmp 30)), none⟩,
    ⟨some 32, some (.call ⟨(.value (.func f_plaitlaw1_two)), #[(.const (.int .i64 24)), (.const (.int .u64 9)), (.const (.int .u64 2))], #[T_int, T_uint64, T_uint64]⟩), some (some 31, false)⟩,
    ⟨some 33, some (.binOp .neq T_uint64 (.tmp 32) (.const (.int .u64 15)) T_uint64), some (some 31, false)⟩,
    ⟨some 34, some (.pick (.tmp 31) (.const (.bool true)) (.tmp 33)), none⟩,
    ⟨some 35, some (.move (.tmp 34)), none⟩,
    ⟨some 36, some (.call ⟨(.value (.func f_plaitlaw1_two)), #[(.const (.int .i64 25)), (.const (.int .u64 9)), (.const (.int .u64 2))], #[T_int, T_uint64, T_uint64]⟩), some (some 35, false)⟩,
    ⟨some 37, some (.binOp .neq T_uint64 (.tmp 36) (.const (.int .u64 1)) T_uint64), some (some 35, false)⟩,
    ⟨some 38, some (.pick (.tmp 35) (.const (.bool true)) (.tmp 37)), none⟩,
    ⟨some 39, some (.move (.tmp 38)), none⟩,
    ⟨some 40, some (.call ⟨(.value (.func f_plaitlaw1_two)), #[(.const (.int .i64 25)), (.const (.int .u64 7)), (.const (.int .u64 14))], #[T_int, T_uint64, T_uint64]⟩), some (some 39, false)⟩,
    ⟨some 41, some (.binOp .neq T_uint64 (.tmp 40) (.const (.int .u64 15)) T_uint64), some (some 39, false)⟩,
    ⟨some 42, some (.pick (.tmp 39) (.const (.bool true)) (.tmp 41)), none⟩,
    ⟨some 43, some (.move (.tmp 42)), none⟩,
    ⟨some 44, some (.call ⟨(.value (.func f_plaitlaw1_two)), #[(.const (.int .i64 23)), (.const (.int .u64 7)), (.const (.int .u64 0))], #[T_int, T_uint64, T_uint64]⟩), some (some 43, false)⟩,
    ⟨some 45, some (.binOp .neq T_uint64 (.tmp 44) (.const (.int .u64 15)) T_uint64), some (some 43, false)⟩,
    ⟨some 46, some (.pick (.tmp 43) (.const (.bool true)) (.tmp 45)), none⟩,
    ⟨some 47, some (.move (.tmp 46)), none⟩,
    ⟨some 48, some (.call ⟨(.value (.func f_plaitlaw1_two)), #[(.const (.int .i64 23)), (.const (.int .u64 9)), (.const (.int .u64 0))], #[T_int, T_uint64, T_uint64]⟩), some (some 47, false)⟩,
    ⟨some 49, some (.binOp .neq T_uint64 (.tmp 48) (.const (.int .u64 1)) T_uint64), some (some 47, false)⟩,
    ⟨some 50, some (.pick (.tmp 47) (.const (.bool true)) (.tmp 49)), none⟩,
    ⟨some 51, some (.move (.tmp 50)), none⟩,
    ⟨some 52, some (.call ⟨(.value (.func f_plaitlaw1_two)), #[(.const (.int .i64 28)), (.const (.int .u64 8)), (.const (.int .u64 9))], #[T_int, T_uint64, T_uint64]⟩), some (some 51, false)⟩,
    ⟨some 53, some (.binOp .neq T_uint64 (.tmp 52) (.const (.int .u64 15)) T_uint64), some (some 51, false)⟩,
    ⟨some 54, some (.pick (.tmp 51) (.const (.bool true)) (.tmp 53)), none⟩,
    ⟨some 55, some (.move (.tmp 54)), none⟩,
    ⟨some 56, some (.call ⟨(.value (.func f_plaitlaw1_two)), #[(.const (.int .i64 20)), (.const (.int .u64 5)), (.const (.int .u64 5))], #[T_int, T_uint64, T_uint64]⟩), some (some 55, false)⟩,
    ⟨some 57, some (.binOp .neq T_uint64 (.tmp 56) (.const (.int .u64 9)) T_uint64), some (some 55, false)⟩,
    ⟨some 58, some (.pick (.tmp 55) (.const (.bool true)) (.tmp 57)), none⟩])
  (.cond (.tmp 58) (.seq (.reg [] [⟨some 0, some (.assign (.const (.bool false))), none⟩])
  .ret)
  .skip))
  (.seq (.reg [] [⟨some 60, some (.call ⟨(.value (.func f_plaitlaw1_four)), #[(.const (.int .u64 12))], #[T_uint64]⟩), none⟩,
    ⟨some 61, some (.call ⟨(.value (.func f_bv_Rotate)), #[(.tmp 60), (.const (.int .i64 1)), (.const (.bool true))], #[T_api_Bits, T_int, T_bool]⟩), none⟩,
    ⟨some 59, some (.move (.tmp 61)), none⟩,
    ⟨some 62, some (.extract (.tmp 59) 0), none⟩,
    ⟨some 63, some (.extract (.tmp 59) 1), none⟩,
    ⟨some 1, some (.alloc T_api_Bits), none⟩,
    ⟨none, some (.store T_api_Bits (.tmp 1) (.tmp 62)), none⟩,
    ⟨some 2, some (.assign (.tmp 63)), none⟩])
  (.seq (.reg [] [⟨some 65, some (.build T_api_Bits #[(0, (.const (.int .i64 1))), (1, (.const (.int .u64 1)))]), none⟩,
    ⟨some 66, some (.build T_api_Bits #[(0, (.const (.int .i64 1)))]), none⟩,
    ⟨some 67, some (.call ⟨(.value (.func f_bv_Concat)), #[(.tmp 65), (.tmp 66)], #[T_api_Bits, T_api_Bits]⟩), none⟩,
    ⟨some 64, some (.move (.tmp 67)), none⟩,
    ⟨some 68, some (.extract (.tmp 64) 0), none⟩,
    ⟨some 69, some (.extract (.tmp 64) 1), none⟩,
    ⟨some 3, some (.alloc T_api_Bits), none⟩,
    ⟨none, some (.store T_api_Bits (.tmp 3) (.tmp 68)), none⟩,
    ⟨some 4, some (.assign (.tmp 69)), none⟩])
  (.seq (.reg [] [⟨some 71, some (.call ⟨(.value (.func f_bv_Parse)), #[(.const (.string { data := #[35, 120, 102, 70] }))], #[T_string]⟩), none⟩,
    ⟨some 70, some (.move (.tmp 71)), none⟩,
    ⟨some 72, some (.extract (.tmp 70) 0), none⟩,
    ⟨some 73, some (.extract (.tmp 70) 1), none⟩,
    ⟨some 5, some (.alloc T_api_Bits), none⟩,
    ⟨none, some (.store T_api_Bits (.tmp 5) (.tmp 72)), none⟩,
    ⟨some 6, some (.assign (.tmp 73)), none⟩])
  (.seq (.reg [] [⟨some 75, some (.call ⟨(.value (.func f_plaitlaw1_four)), #[(.const (.int .u64 12))], #[T_uint64]⟩), none⟩,
    ⟨some 76, some (.call ⟨(.value (.func f_bv_Extract)), #[(.tmp 75), (.const (.int .i64 3)), (.const (.int .i64 2))], #[T_api_Bits, T_int, T_int]⟩), none⟩,
    ⟨some 74, some (.move (.tmp 76)), none⟩,
    ⟨some 77, some (.extract (.tmp 74) 0), none⟩,
    ⟨some 78, some (.extract (.tmp 74) 1), none⟩,
    ⟨some 7, some (.alloc T_api_Bits), none⟩,
    ⟨none, some (.store T_api_Bits (.tmp 7) (.tmp 77)), none⟩,
    ⟨some 8, some (.assign (.tmp 78)), none⟩])
  (.seq (.reg [] [⟨some 80, some (.call ⟨(.value (.func f_plaitlaw1_four)), #[(.const (.int .u64 8))], #[T_uint64]⟩), none⟩,
    ⟨some 81, some (.call ⟨(.value (.func f_bv_Extend)), #[(.tmp 80), (.const (.int .i64 2)), (.const (.bool true))], #[T_api_Bits, T_int, T_bool]⟩), none⟩,
    ⟨some 79, some (.move (.tmp 81)), none⟩,
    ⟨some 82, some (.extract (.tmp 79) 0), none⟩,
    ⟨some 83, some (.extract (.tmp 79) 1), none⟩,
    ⟨some 9, some (.alloc T_api_Bits), none⟩,
    ⟨none, some (.store T_api_Bits (.tmp 9) (.tmp 82)), none⟩,
    ⟨some 10, some (.assign (.tmp 83)), none⟩])
  (.seq (.reg [] [⟨some 85, some (.call ⟨(.value (.func f_plaitlaw1_four)), #[(.const (.int .u64 1))], #[T_uint64]⟩), none⟩,
    ⟨some 86, some (.call ⟨(.value (.func f_bv_One)), #[(.const (.int .i64 11)), (.tmp 85)], #[T_int, T_api_Bits]⟩), none⟩,
    ⟨some 84, some (.move (.tmp 86)), none⟩,
    ⟨some 87, some (.extract (.tmp 84) 0), none⟩,
    ⟨some 88, some (.extract (.tmp 84) 1), none⟩,
    ⟨some 11, some (.alloc T_api_Bits), none⟩,
    ⟨none, some (.store T_api_Bits (.tmp 11) (.tmp 87)), none⟩,
    ⟨some 12, some (.assign (.tmp 88)), none⟩])
  (.seq (.reg [] [⟨some 90, some (.build T_api_Bits #[(0, (.const (.int .i64 2))), (1, (.const (.int .u64 2)))]), none⟩,
    ⟨some 91, some (.call ⟨(.value (.func f_bv_Repeat)), #[(.tmp 90), (.const (.int .i64 2))], #[T_api_Bits, T_int]⟩), none⟩,
    ⟨some 89, some (.move (.tmp 91)), none⟩,
    ⟨some 92, some (.extract (.tmp 89) 0), none⟩,
    ⟨some 93, some (.extract (.tmp 89) 1), none⟩,
    ⟨some 13, some (.alloc T_api_Bits), none⟩,
    ⟨none, some (.store T_api_Bits (.tmp 13) (.tmp 92)), none⟩,
    ⟨some 14, some (.assign (.tmp 93)), none⟩])
  (.seq (.reg [] [⟨some 95, some (.call ⟨(.value (.func f_bv_New)), #[(.const (.int .i64 129)), (.const (.int .u64 0)), (.const (.int .u64 0))], #[T_int, T_uint64, T_uint64]⟩), none⟩,
    ⟨some 94, some (.move (.tmp 95)), none⟩,
    ⟨some 96, some (.extract (.tmp 94) 0), none⟩,
    ⟨some 97, some (.extract (.tmp 94) 1), none⟩,
    ⟨some 15, some (.alloc T_api_Bits), none⟩,
    ⟨none, some (.store T_api_Bits (.tmp 15) (.tmp 96)), none⟩,
    ⟨some 16, some (.assign (.tmp 97)), none⟩])
  (.seq (.reg [55] [⟨some 98, some (.move (.tmp 2)), none⟩,
    ⟨some 99, some (.move (.tmp 4)), none⟩,
    ⟨some 100, some (.binOp .add T_int (.tmp 98) (.tmp 99) T_int), none⟩,
    ⟨some 101, some (.move (.tmp 6)), none⟩,
    ⟨some 102, some (.binOp .add T_int (.tmp 100) (.tmp 101) T_int), none⟩,
    ⟨some 103, some (.move (.tmp 8)), none⟩,
    ⟨some 104, some (.binOp .add T_int (.tmp 102) (.tmp 103) T_int), none⟩,
    ⟨some 105, some (.move (.tmp 10)), none⟩,
    ⟨some 106, some (.binOp .add T_int (.tmp 104) (.tmp 105) T_int), none⟩,
    ⟨some 107, some (.move (.tmp 12)), none⟩,
    ⟨some 108, some (.binOp .add T_int (.tmp 106) (.tmp 107) T_int), none⟩,
    ⟨some 109, some (.move (.tmp 14)), none⟩,
    ⟨some 110, some (.binOp .add T_int (.tmp 108) (.tmp 109) T_int), none⟩,
    ⟨some 111, some (.binOp .eql T_int (.tmp 110) (.const (.int .i64 0)) T_int), none⟩,
    ⟨some 112, some (.move (.tmp 111)), none⟩,
    ⟨some 113, some (.move (.tmp 16)), some (some 112, true)⟩,
    ⟨some 114, some (.binOp .eql T_int (.tmp 113) (.const (.int .i64 10)) T_int), some (some 112, true)⟩,
    ⟨some 115, some (.pick (.tmp 112) (.tmp 114) (.const (.bool false))), none⟩,
    ⟨some 116, some (.move (.tmp 115)), none⟩,
    ⟨some 117, some (.fieldAddr T_api_Bits (.tmp 1) 1), some (some 116, true)⟩,
    ⟨some 118, some (.load T_uint64 (.tmp 117)), some (some 116, true)⟩,
    ⟨some 119, some (.binOp .eql T_uint64 (.tmp 118) (.const (.int .u64 9)) T_uint64), some (some 116, true)⟩,
    ⟨some 120, some (.pick (.tmp 116) (.tmp 119) (.const (.bool false))), none⟩,
    ⟨some 121, some (.move (.tmp 120)), none⟩,
    ⟨some 122, some (.fieldAddr T_api_Bits (.tmp 3) 1), some (some 121, true)⟩,
    ⟨some 123, some (.load T_uint64 (.tmp 122)), some (some 121, true)⟩,
    ⟨some 124, some (.binOp .eql T_uint64 (.tmp 123) (.const (.int .u64 2)) T_uint64), some (some 121, true)⟩,
    ⟨some 125, some (.pick (.tmp 121) (.tmp 124) (.const (.bool false))), none⟩,
    ⟨some 126, some (.move (.tmp 125)), none⟩,
    ⟨some 127, some (.fieldAddr T_api_Bits (.tmp 3) 0), some (some 126, true)⟩,
    ⟨some 128, some (.load T_int (.tmp 127)), some (some 126, true)⟩,
    ⟨some 129, some (.binOp .eql T_int (.tmp 128) (.const (.int .i64 2)) T_int), some (some 126, true)⟩,
    ⟨some 130, some (.pick (.tmp 126) (.tmp 129) (.const (.bool false))), none⟩,
    ⟨some 131, some (.move (.tmp 130)), none⟩,
    ⟨some 132, some (.load T_api_Bits (.tmp 5)), some (some 131, true)⟩,
    ⟨some 133, some (.build T_api_Bits #[(0, (.const (.int .i64 8))), (1, (.const (.int .u64 255)))]), some (some 131, true)⟩,
    ⟨some 134, some (.binOp .eql T_api_Bits (.tmp 132) (.tmp 133) T_api_Bits), some (some 131, true)⟩,
    ⟨some 135, some (.pick (.tmp 131) (.tmp 134) (.const (.bool false))), none⟩,
    ⟨some 136, some (.move (.tmp 135)), none⟩,
    ⟨some 137, some (.fieldAddr T_api_Bits (.tmp 7) 1), some (some 136, true)⟩,
    ⟨some 138, some (.load T_uint64 (.tmp 137)), some (some 136, true)⟩,
    ⟨some 139, some (.binOp .eql T_uint64 (.tmp 138) (.const (.int .u64 3)) T_uint64), some (some 136, true)⟩,
    ⟨some 140, some (.pick (.tmp 136) (.tmp 139) (.const (.bool false))), none⟩,
    ⟨some 141, some (.move (.tmp 140)), none⟩,
    ⟨some 142, some (.fieldAddr T_api_Bits (.tmp 9) 1), some (some 141, true)⟩,
    ⟨some 143, some (.load T_uint64 (.tmp 142)), some (some 141, true)⟩,
    ⟨some 144, some (.binOp .eql T_uint64 (.tmp 143) (.const (.int .u64 56)) T_uint64), some (some 141, true)⟩,
    ⟨some 145, some (.pick (.tmp 141) (.tmp 144) (.const (.bool false))), none⟩,
    ⟨some 146, some (.move (.tmp 145)), none⟩,
    ⟨some 147, some (.fieldAddr T_api_Bits (.tmp 11) 1), some (some 146, true)⟩,
    ⟨some 148, some (.load T_uint64 (.tmp 147)), some (some 146, true)⟩,
    ⟨some 149, some (.binOp .eql T_uint64 (.tmp 148) (.const (.int .u64 15)) T_uint64), some (some 146, true)⟩,
    ⟨some 150, some (.pick (.tmp 146) (.tmp 149) (.const (.bool false))), none⟩,
    ⟨some 151, some (.move (.tmp 150)), none⟩,
    ⟨some 152, some (.load T_api_Bits (.tmp 13)), some (some 151, true)⟩,
    ⟨some 153, some (.call ⟨(.value (.func f_plaitlaw1_four)), #[(.const (.int .u64 10))], #[T_uint64]⟩), some (some 151, true)⟩,
    ⟨some 154, some (.binOp .eql T_api_Bits (.tmp 152) (.tmp 153) T_api_Bits), some (some 151, true)⟩,
    ⟨some 155, some (.pick (.tmp 151) (.tmp 154) (.const (.bool false))), none⟩,
    ⟨some 0, some (.assign (.tmp 155)), none⟩])
  .ret)))))))))))
theorem e_plaitlaw1_examples {H : AHeap} : R f_plaitlaw1_examples [] H = fnK Go.Proofs.Try.prog [] H [(.tmp 0)] (evalL Go.Proofs.Try.prog KT R c_plaitlaw1_examples (Env.args [] 0) H) :=
  runs_body (D := DT) (f := f_plaitlaw1_examples) Go.Proofs.Try.func10 (by kernel_rfl) (by kernel_rfl) (by kernel_rfl) (by kernel_rfl) (by kernel_rfl) (Nat.le_of_ble_eq_true rfl)

def c_bv_Bool : LCode := (.seq (.reg [] [⟨some 2, some (.alloc T_api_Bits), none⟩])
  (.seq (.seq (.reg [] [⟨some 3, some (.move (.tmp 0)), none⟩])
  (.cond (.tmp 3) (.seq (.reg [] [⟨some 4, some (.build T_api_Bits #[(1, (.const (.int .u64 1)))]), none⟩,
    ⟨none, some (.store T_api_Bits (.tmp 2) (.tmp 4)), none⟩])
  .ret)
  .skip))
  (.seq (.reg [] [⟨some 5, some (.build T_api_Bits #[]), none⟩,
    ⟨none, some (.store T_api_Bits (.tmp 2) (.tmp 5)), none⟩])
  .ret)))
theorem e_bv_Bool {a0 : AV} {H : AHeap} : R f_bv_Bool [a0] H = fnK Go.Proofs.Try.prog [] H [(.cell 2 T_api_Bits)] (evalL Go.Proofs.Try.prog KT R c_bv_Bool (Env.args [a0] 0) H) :=
  runs_body (D := DT) (f := f_bv_Bool) Go.Proofs.Try.func11 (by kernel_rfl) (by kernel_rfl) (by kernel_rfl) (by kernel_rfl) (by kernel_rfl) (Nat.le_of_ble_eq_true rfl)

def c_strings_HasPrefix : LCode := (.seq (.reg [] [⟨some 4, some (.assign (.const (.bool false))), none⟩])
  (.seq (.reg [] [⟨some 5, some (.move (.tmp 0)), none⟩,
    ⟨some 6, some (.move (.tmp 1)), none⟩,
    ⟨some 7, some (.call ⟨(.value (.func f_internal_stringslite_HasPrefix)), #[(.tmp 5), (.tmp 6)], #[T_string, T_string]⟩), none⟩,
    ⟨some 4, some (.assign (.tmp 7)), none⟩])
  .ret))
theorem e_strings_HasPrefix {a0 a1 : AV} {H : AHeap} : R f_strings_HasPrefix [a0, a1] H = fnK Go.Proofs.Try.prog [] H [(.tmp 4)] (evalL Go.Proofs.Try.prog KT R c_strings_HasPrefix (Env.args [a0, a1] 0) H) :=
  runs_body (D := DT) (f := f_strings_HasPrefix) Go.Proofs.Try.func12 (by kernel_rfl) (by kernel_rfl) (by kernel_rfl) (by kernel_rfl) (by kernel_rfl) (Nat.le_of_ble_eq_true rfl)

def l_bv_digits_0 : LCode := (.seq (.reg [] [⟨some 22, some (.binOp .lss T_int (.tmp 21) (.tmp 20) T_int), none⟩])
  (.seq (.cond (.tmp 22) .skip
  (.exit 0))
  (.seq (.block 1 (.seq (.reg [] [⟨some 23, some (.move (.tmp 21)), none⟩,
    ⟨some 7, some (.assign (.tmp 23)), none⟩])
  (.seq (.reg [] [⟨some 24, some (.move (.tmp 0)), none⟩,
    ⟨some 25, some (.move (.tmp 7)), none⟩,
    ⟨some 26, some (.index T_string (.tmp 24) (.tmp 25)), none⟩,
    ⟨some 27, some (.call ⟨(.value (.func f_strings_IndexByte)), #[(.const (.string { data := #[48, 49, 50, 51, 52, 53, 54, 55, 56, 57, 97, 98, 99, 100, 101, 102] })), (.tmp 26)], #[T_string, T_uint8]⟩), none⟩,
    ⟨some 8, some (.assign (.tmp 27)), none⟩])
  (.seq (.seq (.reg [] [⟨some 28, some (.move (.tmp 0)), none⟩,
    ⟨some 29, some (.move (.tmp 7)), none⟩,
    ⟨some 30, some (.index T_string (.tmp 28) (.tmp 29)), none⟩,
    ⟨some 31, some (.binOp .geq T_uint8 (.tmp 30) (.const (.int .u8 65)) T_uint8), none⟩,
    ⟨some 32, some (.move (.tmp 31)), none⟩,
    ⟨some 33, some (.move (.tmp 0)), some (some 32, true)⟩,
    ⟨some 34, some (.move (.tmp 7)), some (some 32, true)⟩,
    ⟨some 35, some (.index T_string (.tmp 33) (.tmp 34)), some (some 32, true)⟩,
    ⟨some 36, some (.binOp .leq T_uint8 (.tmp 35) (.const (.int .u8 70)) T_uint8), some (some 32, true)⟩,
    ⟨some 37, some (.pick (.tmp 32) (.tmp 36) (.const (.bool false))), none⟩])
  (.cond (.tmp 37) (.reg [] [⟨some 38, some (.move (.tmp 0)), none⟩,
    ⟨some 39, some (.move (.tmp 7)), none⟩,
    ⟨some 40, some (.index T_string (.tmp 38) (.tmp 39)), none⟩,
    ⟨some 41, some (.binOp .sub T_uint8 (.tmp 40) (.const (.int .u8 65)) T_uint8), none⟩,
    ⟨some 42, some (.convert T_uint8 T_int (.tmp 41)), none⟩,
    ⟨some 43, some (.binOp .add T_int (.tmp 42) (.const (.int .i64 10)) T_int), none⟩,
    ⟨some 8, some (.assign (.tmp 43)), none⟩])
  .skip))
  (.seq (.seq (.reg [] [⟨some 44, some (.move (.tmp 8)), none⟩,
    ⟨some 45, some (.binOp .lss T_int (.tmp 44) (.const (.int .i64 0)) T_int), none⟩,
    ⟨some 46, some (.move (.tmp 45)), none⟩,
    ⟨some 47, some (.move (.tmp 8)), some (some 46, false)⟩,
    ⟨some 48, some (.move (.tmp 1)), some (some 46, false)⟩,
    ⟨some 49, some (.convert T_int T_uint (.tmp 48)), some (some 46, false)⟩,
    ⟨some 50, some (.binOp .shl T_int (.const (.int .i64 1)) (.tmp 49) T_uint), some (some 46, false)⟩,
    ⟨some 51, some (.binOp .geq T_int (.tmp 47) (.tmp 50) T_int), some (some 46, false)⟩,
    ⟨some 52, some (.pick (.tmp 46) (.const (.bool true)) (.tmp 51)), none⟩])
  (.cond (.tmp 52) (.seq (.reg [] [⟨some 53, some (.build T_api_Bits #[]), none⟩,
    ⟨none, some (.store T_api_Bits (.tmp 4) (.tmp 53)), none⟩,
    ⟨some 5, some (.assign (.const (.bool false))), none⟩])
  .ret)
  .skip))
  (.seq (.reg [] [⟨some 54, some (.load T_bv_number (.tmp 6)), none⟩,
    ⟨some 55, some (.move (.tmp 1)), none⟩,
    ⟨some 56, some (.call ⟨(.value (.func f_plait_bv_number_left)), #[(.tmp 54), (.tmp 55)], #[T_bv_number, T_int]⟩), none⟩,
    ⟨none, some (.store T_bv_number (.tmp 6) (.tmp 56)), none⟩])
  (.reg [] [⟨some 57, some (.fieldAddr T_bv_number (.tmp 6) 0), none⟩,
    ⟨some 58, some (.load T_uint64 (.tmp 57)), none⟩,
    ⟨some 59, some (.move (.tmp 8)), none⟩,
    ⟨some 60, some (.convert T_int T_uint64 (.tmp 59)), none⟩,
    ⟨some 61, some (.binOp .or T_uint64 (.tmp 58) (.tmp 60) T_uint64), none⟩,
    ⟨some 62, some (.fieldAddr T_bv_number (.tmp 6) 0), none⟩,
    ⟨none, some (.store T_uint64 (.tmp 62) (.tmp 61)), none⟩])))))))
  (.reg [] [⟨some 63, some (.binOp .add T_int (.tmp 21) (.const (.int .i64 1)) T_int), none⟩,
    ⟨some 21, some (.move (.tmp 63)), none⟩]))))
@[simp] theorem d_l_bv_digits_0 : defs l_bv_digits_0 = [22, 23, 7, 24, 25, 26, 27, 8, 28, 29, 30, 31, 32, 33, 34, 35, 36, 37, 38, 39, 40, 41, 42, 43, 8, 44, 45, 46, 47, 48, 49, 50, 51, 52, 53, 5, 54, 55, 56, 57, 58, 59, 60, 61, 62, 63, 21] := by rfl
def c_bv_digits : LCode := (.seq (.reg [] [⟨some 4, some (.alloc T_api_Bits), none⟩,
    ⟨some 5, some (.assign (.const (.bool false))), none⟩])
  (.seq (.seq (.reg [] [⟨some 9, some (.move (.tmp 0)), none⟩,
    ⟨some 10, some (.binOp .eql T_string (.tmp 9) (.const (.string { data := #[] })) T_string), none⟩,
    ⟨some 11, some (.move (.tmp 10)), none⟩,
    ⟨some 12, some (.move (.tmp 0)), some (some 11, false)⟩,
    ⟨some 13, some (.call ⟨(.builtin .len), #[(.tmp 12)], #[T_string]⟩), some (some 11, false)⟩,
    ⟨some 14, some (.move (.tmp 1)), some (some 11, false)⟩,
    ⟨some 15, some (.binOp .quo T_int (.const (.int .i64 128)) (.tmp 14) T_int), some (some 11, false)⟩,
    ⟨some 16, some (.binOp .gtr T_int (.tmp 13) (.tmp 15) T_int), some (some 11, false)⟩,
    ⟨some 17, some (.pick (.tmp 11) (.const (.bool true)) (.tmp 16)), none⟩])
  (.cond (.tmp 17) (.seq (.reg [] [⟨some 18, some (.build T_api_Bits #[]), none⟩,
    ⟨none, some (.store T_api_Bits (.tmp 4) (.tmp 18)), none⟩,
    ⟨some 5, some (.assign (.const (.bool false))), none⟩])
  .ret)
  .skip))
  (.seq (.reg [] [⟨some 6, some (.alloc T_bv_number), none⟩])
  (.seq (.seq (.reg [] [⟨some 19, some (.move (.tmp 0)), none⟩,
    ⟨some 20, some (.call ⟨(.builtin .len), #[(.tmp 19)], #[T_string]⟩), none⟩,
    ⟨some 21, some (.move (.const (.int .i64 0))), none⟩])
  (.block 0 (.loop l_bv_digits_0)))
  (.seq (.reg [] [⟨some 64, some (.move (.tmp 1)), none⟩,
    ⟨some 65, some (.move (.tmp 0)), none⟩,
    ⟨some 66, some (.call ⟨(.builtin .len), #[(.tmp 65)], #[T_string]⟩), none⟩,
    ⟨some 67, some (.binOp .mul T_int (.tmp 64) (.tmp 66) T_int), none⟩,
    ⟨some 68, some (.load T_bv_number (.tmp 6)), none⟩,
    ⟨some 69, some (.call ⟨(.value (.func f_bv_cut)), #[(.tmp 67), (.tmp 68)], #[T_int, T_bv_number]⟩), none⟩,
    ⟨none, some (.store T_api_Bits (.tmp 4) (.tmp 69)), none⟩,
    ⟨some 5, some (.assign (.const (.bool true))), none⟩])
  .ret)))))
theorem e_bv_digits {a0 a1 : AV} {H : AHeap} : R f_bv_digits [a0, a1] H = fnK Go.Proofs.Try.prog [] H [(.cell 4 T_api_Bits), (.tmp 5)] (evalL Go.Proofs.Try.prog KT R c_bv_digits (Env.args [a0, a1] 0) H) :=
  runs_body (D := DT) (f := f_bv_digits) Go.Proofs.Try.func13 (by kernel_rfl) (by kernel_rfl) (by kernel_rfl) (by kernel_rfl) (by kernel_rfl) (Nat.le_of_ble_eq_true rfl)

def c_plaitref1_Bool : LCode := (.seq (.reg [] [⟨some 2, some (.alloc T_api_Bits), none⟩])
  (.seq (.seq (.reg [] [⟨some 3, some (.move (.tmp 0)), none⟩])
  (.cond (.tmp 3) (.seq (.reg [] [⟨some 4, some (.build T_api_Bits #[(1, (.const (.int .u64 1)))]), none⟩,
    ⟨none, some (.store T_api_Bits (.tmp 2) (.tmp 4)), none⟩])
  .ret)
  .skip))
  (.seq (.reg [] [⟨some 5, some (.build T_api_Bits #[]), none⟩,
    ⟨none, some (.store T_api_Bits (.tmp 2) (.tmp 5)), none⟩])
  .ret)))
theorem e_plaitref1_Bool {a0 : AV} {H : AHeap} : R f_plaitref1_Bool [a0] H = fnK Go.Proofs.Try.prog [] H [(.cell 2 T_api_Bits)] (evalL Go.Proofs.Try.prog KT R c_plaitref1_Bool (Env.args [a0] 0) H) :=
  runs_body (D := DT) (f := f_plaitref1_Bool) Go.Proofs.Try.func14 (by kernel_rfl) (by kernel_rfl) (by kernel_rfl) (by kernel_rfl) (by kernel_rfl) (Nat.le_of_ble_eq_true rfl)

def c_plaitref1_digit : LCode := (.seq (.reg [] [⟨some 2, some (.assign (.const (.int .i64 0))), none⟩])
  (.seq (.block 0 (.seq (.reg [] [⟨some 4, some (.move (.tmp 0)), none⟩,
    ⟨some 5, some (.binOp .geq T_uint8 (.tmp 4) (.const (.int .u8 48)) T_uint8), none⟩,
    ⟨some 6, some (.move (.tmp 5)), none⟩,
    ⟨some 7, some (.move (.tmp 0)), some (some 6, true)⟩,
    ⟨some 8, some (.binOp .leq T_uint8 (.tmp 7) (.const (.int .u8 57)) T_uint8), some (some 6, true)⟩,
    ⟨some 9, some (.pick (.tmp 6) (.tmp 8) (.const (.bool false))), none⟩,
    ⟨some 3, some (.assign (.tmp 9)), none⟩])
  (.cond (.tmp 3) (.seq (.reg [] [⟨some 10, some (.move (.tmp 0)), none⟩,
    ⟨some 11, some (.binOp .sub T_uint8 (.tmp 10) (.const (.int .u8 48)) T_uint8), none⟩,
    ⟨some 12, some (.convert T_uint8 T_int (.tmp 11)), none⟩,
    ⟨some 2, some (.assign (.tmp 12)), none⟩])
  .ret)
  (.seq (.reg [] [⟨some 14, some (.move (.tmp 0)), none⟩,
    ⟨some 15, some (.binOp .geq T_uint8 (.tmp 14) (.const (.int .u8 97)) T_uint8), none⟩,
    ⟨some 16, some (.move (.tmp 15)), none⟩,
    ⟨some 17, some (.move (.tmp 0)), some (some 16, true)⟩,
    ⟨some 18, some (.binOp .leq T_uint8 (.tmp 17) (.const (.int .u8 102)) T_uint8), some (some 16, true)⟩,
    ⟨some 19, some (.pick (.tmp 16) (.tmp 18) (.const (.bool false))), none⟩,
    ⟨some 13, some (.assign (.tmp 19)), none⟩])
  (.cond (.tmp 13) (.seq (.reg [] [⟨some 20, some (.move (.tmp 0)), none⟩,
    ⟨some 21, some (.binOp .sub T_uint8 (.tmp 20) (.const (.int .u8 97)) T_uint8), none⟩,
    ⟨some 22, some (.convert T_uint8 T_int (.tmp 21)), none⟩,
    ⟨some 23, some (.binOp .add T_int (.tmp 22) (.const (.int .i64 10)) T_int), none⟩,
    ⟨some 2, some (.assign (.tmp 23)), none⟩])
  .ret)
  (.seq (.reg [] [⟨some 25, some (.move (.tmp 0)), none⟩,
    ⟨some 26, some (.binOp .geq T_uint8 (.tmp 25) (.const (.int .u8 65)) T_uint8), none⟩,
    ⟨some 27, some (.move (.tmp 26)), none⟩,
    ⟨some 28, some (.move (.tmp 0)), some (some 27, true)⟩,
    ⟨some 29, some (.binOp .leq T_uint8 (.tmp 28) (.const (.int .u8 70)) T_uint8), some (some 27, true)⟩,
    ⟨some 30, some (.pick (.tmp 27) (.tmp 29) (.const (.bool false))), none⟩,
    ⟨some 24, some (.assign (.tmp 30)), none⟩])
  (.cond (.tmp 24) (.seq (.reg [] [⟨some 31, some (.move (.tmp 0)), none⟩,
    ⟨some 32, some (.binOp .sub T_uint8 (.tmp 31) (.const (.int .u8 65)) T_uint8), none⟩,
    ⟨some 33, some (.convert T_uint8 T_int (.tmp 32)), none⟩,
    ⟨some 34, some (.binOp .add T_int (.tmp 33) (.const (.int .i64 10)) T_int), none⟩,
    ⟨some 2, some (.assign (.tmp 34)), none⟩])
  .ret)
  .skip)))))))
  (.seq (.reg [] [⟨some 2, some (.assign (.const (.int .i64 16))), none⟩])
  .ret)))
theorem e_plaitref1_digit {a0 : AV} {H : AHeap} : R f_plaitref1_digit [a0] H = fnK Go.Proofs.Try.prog [] H [(.tmp 2)] (evalL Go.Proofs.Try.prog KT R c_plaitref1_digit (Env.args [a0] 0) H) :=
  runs_body (D := DT) (f := f_plaitref1_digit) Go.Proofs.Try.func15 (by kernel_rfl) (by kernel_rfl) (by kernel_rfl) (by kernel_rfl) (by kernel_rfl) (Nat.le_of_ble_eq_true rfl)

def l_plaitref1_Word_0 : LCode := (.seq (.seq (.reg [] [⟨some 8, some (.move (.tmp 4)), none⟩,
    ⟨some 9, some (.move (.tmp 0)), none⟩,
    ⟨some 10, some (.call ⟨(.builtin .len), #[(.tmp 9)], #[T_s_bool]⟩), none⟩,
    ⟨some 11, some (.binOp .lss T_int (.tmp 8) (.tmp 10) T_int), none⟩])
  (.cond (.tmp 11) .skip
  (.exit 0)))
  (.seq (.block 1 (.seq (.seq (.reg [] [⟨some 14, some (.move (.tmp 0)), none⟩,
    ⟨some 15, some (.move (.tmp 4)), none⟩,
    ⟨some 16, some (.indexAddr T_s_bool (.tmp 14) (.tmp 15)), none⟩,
    ⟨some 17, some (.load T_bool (.tmp 16)), none⟩,
    ⟨some 18, some (.move (.tmp 17)), none⟩,
    ⟨some 19, some (.move (.tmp 4)), some (some 18, true)⟩,
    ⟨some 20, some (.binOp .lss T_int (.tmp 19) (.const (.int .i64 64)) T_int), some (some 18, true)⟩,
    ⟨some 21, some (.pick (.tmp 18) (.tmp 20) (.const (.bool false))), none⟩])
  (.cond (.tmp 21) (.reg [] [⟨some 22, some (.fieldAddr T_api_Bits (.tmp 3) 1), none⟩,
    ⟨some 23, some (.load T_uint64 (.tmp 22)), none⟩,
    ⟨some 24, some (.move (.tmp 4)), none⟩,
    ⟨some 25, some (.binOp .shl T_uint64 (.const (.int .u64 1)) (.tmp 24) T_int), none⟩,
    ⟨some 26, some (.binOp .or T_uint64 (.tmp 23) (.tmp 25) T_uint64), none⟩,
    ⟨some 27, some (.fieldAddr T_api_Bits (.tmp 3) 1), none⟩,
    ⟨none, some (.store T_uint64 (.tmp 27) (.tmp 26)), none⟩])
  .skip))
  (.seq (.reg [] [⟨some 28, some (.move (.tmp 0)), none⟩,
    ⟨some 29, some (.move (.tmp 4)), none⟩,
    ⟨some 30, some (.indexAddr T_s_bool (.tmp 28) (.tmp 29)), none⟩,
    ⟨some 31, some (.load T_bool (.tmp 30)), none⟩,
    ⟨some 32, some (.move (.tmp 31)), none⟩,
    ⟨some 33, some (.move (.tmp 4)), some (some 32, true)⟩,
    ⟨some 34, some (.binOp .geq T_int (.tmp 33) (.const (.int .i64 64)) T_int), some (some 32, true)⟩,
    ⟨some 35, some (.pick (.tmp 32) (.tmp 34) (.const (.bool false))), none⟩])
  (.cond (.tmp 35) (.reg [] [⟨some 36, some (.fieldAddr T_api_Bits (.tmp 3) 2), none⟩,
    ⟨some 37, some (.load T_uint64 (.tmp 36)), none⟩,
    ⟨some 38, some (.move (.tmp 4)), none⟩,
    ⟨some 39, some (.binOp .sub T_int (.tmp 38) (.const (.int .i64 64)) T_int), none⟩,
    ⟨some 40, some (.binOp .shl T_uint64 (.const (.int .u64 1)) (.tmp 39) T_int), none⟩,
    ⟨some 41, some (.binOp .or T_uint64 (.tmp 37) (.tmp 40) T_uint64), none⟩,
    ⟨some 42, some (.fieldAddr T_api_Bits (.tmp 3) 2), none⟩,
    ⟨none, some (.store T_uint64 (.tmp 42) (.tmp 41)), none⟩])
  .skip))))
  (.reg [] [⟨some 12, some (.move (.tmp 4)), none⟩,
    ⟨some 13, some (.binOp .add T_int (.tmp 12) (.const (.int .i64 1)) T_int), none⟩,
    ⟨some 4, some (.assign (.tmp 13)), none⟩])))
@[simp] theorem d_l_plaitref1_Word_0 : defs l_plaitref1_Word_0 = [8, 9, 10, 11, 14, 15, 16, 17, 18, 19, 20, 21, 22, 23, 24, 25, 26, 27, 28, 29, 30, 31, 32, 33, 34, 35, 36, 37, 38, 39, 40, 41, 42, 12, 13, 4] := by rfl
def c_plaitref1_Word : LCode := (.seq (.reg [] [⟨some 2, some (.alloc T_api_Bits), none⟩])
  (.seq (.reg [] [⟨some 5, some (.move (.tmp 0)), none⟩,
    ⟨some 6, some (.call ⟨(.builtin .len), #[(.tmp 5)], #[T_s_bool]⟩), none⟩,
    ⟨some 7, some (.build T_api_Bits #[(0, (.tmp 6))]), none⟩,
    ⟨some 3, some (.alloc T_api_Bits), none⟩,
    ⟨none, some (.store T_api_Bits (.tmp 3) (.tmp 7)), none⟩])
  (.seq (.seq (.reg [] [⟨some 4, some (.assign (.const (.int .i64 0))), none⟩])
  (.block 0 (.loop l_plaitref1_Word_0)))
  (.seq (.reg [] [⟨some 43, some (.load T_api_Bits (.tmp 3)), none⟩,
    ⟨none, some (.store T_api_Bits (.tmp 2) (.tmp 43)), none⟩])
  .ret))))
theorem e_plaitref1_Word {a0 : AV} {H : AHeap} : R f_plaitref1_Word [a0] H = fnK Go.Proofs.Try.prog [] H [(.cell 2 T_api_Bits)] (evalL Go.Proofs.Try.prog KT R c_plaitref1_Word (Env.args [a0] 0) H) :=
  runs_body (D := DT) (f := f_plaitref1_Word) Go.Proofs.Try.func16 (by kernel_rfl) (by kernel_rfl) (by kernel_rfl) (by kernel_rfl) (by kernel_rfl) (Nat.le_of_ble_eq_true rfl)

def c_bv_of : LCode := (.seq (.reg [] [⟨some 1, some (.box T_api_Bits (.tmp 0)), none⟩,
    ⟨some 2, some (.alloc T_bv_number), none⟩])
  (.seq (.reg [] [⟨some 3, some (.fieldAddr T_api_Bits (.tmp 1) 1), none⟩,
    ⟨some 4, some (.load T_uint64 (.tmp 3)), none⟩,
    ⟨some 5, some (.fieldAddr T_api_Bits (.tmp 1) 2), none⟩,
    ⟨some 6, some (.load T_uint64 (.tmp 5)), none⟩,
    ⟨some 7, some (.build T_bv_number #[(0, (.tmp 4)), (1, (.tmp 6))]), none⟩,
    ⟨none, some (.store T_bv_number (.tmp 2) (.tmp 7)), none⟩])
  .ret))
theorem e_bv_of {a0 : AV} {H : AHeap} : R f_bv_of [a0] H = fnK Go.Proofs.Try.prog [] H [(.cell 2 T_bv_number)] (evalL Go.Proofs.Try.prog KT R c_bv_of (Env.args [a0] 0) H) :=
  runs_body (D := DT) (f := f_bv_of) Go.Proofs.Try.func17 (by kernel_rfl) (by kernel_rfl) (by kernel_rfl) (by kernel_rfl) (by kernel_rfl) (Nat.le_of_ble_eq_true rfl)

def c_plait_bv_number_right : LCode := (.seq (.reg [] [⟨some 2, some (.box T_bv_number (.tmp 0)), none⟩,
    ⟨some 4, some (.alloc T_bv_number), none⟩])
  (.seq (.seq (.reg [] [⟨some 5, some (.move (.tmp 1)), none⟩,
    ⟨some 6, some (.binOp .geq T_int (.tmp 5) (.const (.int .i64 64)) T_int), none⟩])
  (.cond (.tmp 6) (.seq (.reg [] [⟨some 7, some (.fieldAddr T_bv_number (.tmp 2) 1), none⟩,
    ⟨some 8, some (.load T_uint64 (.tmp 7)), none⟩,
    ⟨some 9, some (.move (.tmp 1)), none⟩,
    ⟨some 10, some (.binOp .sub T_int (.tmp 9) (.const (.int .i64 64)) T_int), none⟩,
    ⟨some 11, some (.convert T_int T_uint (.tmp 10)), none⟩,
    ⟨some 12, some (.binOp .shr T_uint64 (.tmp 8) (.tmp 11) T_uint), none⟩,
    ⟨some 13, some (.build T_bv_number #[(0, (.tmp 12)), (1, (.const (.int .u64 0)))]), none⟩,
    ⟨none, some (.store T_bv_number (.tmp 4) (.tmp 13)), none⟩])
  .ret)
  .skip))
  (.seq (.reg [] [⟨some 14, some (.fieldAddr T_bv_number (.tmp 2) 0), none⟩,
    ⟨some 15, some (.load T_uint64 (.tmp 14)), none⟩,
    ⟨some 16, some (.move (.tmp 1)), none⟩,
    ⟨some 17, some (.convert T_int T_uint (.tmp 16)), none⟩,
    ⟨some 18, some (.binOp .shr T_uint64 (.tmp 15) (.tmp 17) T_uint), none⟩,
    ⟨some 19, some (.fieldAddr T_bv_number (.tmp 2) 1), none⟩,
    ⟨some 20, some (.load T_uint64 (.tmp 19)), none⟩,
    ⟨some 21, some (.move (.tmp 1)), none⟩,
    ⟨some 22, some (.binOp .sub T_int (.const (.int .i64 64)) (.tmp 21) T_int), none⟩,
    ⟨some 23, some (.convert T_int T_uint (.tmp 22)), none⟩,
    ⟨some 24, some (.binOp .shl T_uint64 (.tmp 20) (.tmp 23) T_uint), none⟩,
    ⟨some 25, some (.binOp .or T_uint64 (.tmp 18) (.tmp 24) T_uint64), none⟩,
    ⟨some 26, some (.fieldAddr T_bv_number (.tmp 2) 1), none⟩,
    ⟨some 27, some (.load T_uint64 (.tmp 26)), none⟩,
    ⟨some 28, some (.move (.tmp 1)), none⟩,
    ⟨some 29, some (.convert T_int T_uint (.tmp 28)), none⟩,
    ⟨some 30, some (.binOp .shr T_uint64 (.tmp 27) (.tmp 29) T_uint), none⟩,
    ⟨some 31, some (.build T_bv_number #[(0, (.tmp 25)), (1, (.tmp 30))]), none⟩,
    ⟨none, some (.store T_bv_number (.tmp 4) (.tmp 31)), none⟩])
  .ret)))
theorem e_plait_bv_number_right {a0 a1 : AV} {H : AHeap} : R f_plait_bv_number_right [a0, a1] H = fnK Go.Proofs.Try.prog [] H [(.cell 4 T_bv_number)] (evalL Go.Proofs.Try.prog KT R c_plait_bv_number_right (Env.args [a0, a1] 0) H) :=
  runs_body (D := DT) (f := f_plait_bv_number_right) Go.Proofs.Try.func18 (by kernel_rfl) (by kernel_rfl) (by kernel_rfl) (by kernel_rfl) (by kernel_rfl) (Nat.le_of_ble_eq_true rfl)

def c_plaitref1_Right : LCode := (.seq (.reg [] [⟨some 1, some (.box T_api_Bits (.tmp 0)), none⟩,
    ⟨some 2, some (.assign (.const (.bool false))), none⟩])
  (.seq (.seq (.reg [] [⟨some 3, some (.fieldAddr T_api_Bits (.tmp 1) 0), none⟩,
    ⟨some 4, some (.load T_int (.tmp 3)), none⟩,
    ⟨some 5, some (.binOp .lss T_int (.tmp 4) (.const (.int .i64 0)) T_int), none⟩,
    ⟨some 6, some (.move (.tmp 5)), none⟩,
    ⟨some 7, some (.fieldAddr T_api_Bits (.tmp 1) 0), some (some 6, false)⟩,
    ⟨some 8, some (.load T_int (.tmp 7)), some (some 6, false)⟩,
    ⟨some 9, some (.binOp .gtr T_int (.tmp 8) (.const (.int .i64 128)) T_int), some (some 6, false)⟩,
    ⟨some 10, some (.pick (.tmp 6) (.const (.bool true)) (.tmp 9)), none⟩])
  (.cond (.tmp 10) (.seq (.reg [] [⟨some 2, some (.assign (.const (.bool false))), none⟩])
  .ret)
  .skip))
  (.seq (.seq (.reg [] [⟨some 11, some (.fieldAddr T_api_Bits (.tmp 1) 0), none⟩,
    ⟨some 12, some (.load T_int (.tmp 11)), none⟩,
    ⟨some 13, some (.binOp .eql T_int (.tmp 12) (.const (.int .i64 0)) T_int), none⟩])
  (.cond (.tmp 13) (.seq (.reg [] [⟨some 14, some (.fieldAddr T_api_Bits (.tmp 1) 1), none⟩,
    ⟨some 15, some (.load T_uint64 (.tmp 14)), none⟩,
    ⟨some 16, some (.binOp .leq T_uint64 (.tmp 15) (.const (.int .u64 1)) T_uint64), none⟩,
    ⟨some 17, some (.move (.tmp 16)), none⟩,
    ⟨some 18, some (.fieldAddr T_api_Bits (.tmp 1) 2), some (some 17, true)⟩,
    ⟨some 19, some (.load T_uint64 (.tmp 18)), some (some 17, true)⟩,
    ⟨some 20, some (.binOp .eql T_uint64 (.tmp 19) (.const (.int .u64 0)) T_uint64), some (some 17, true)⟩,
    ⟨some 21, some (.pick (.tmp 17) (.tmp 20) (.const (.bool false))), none⟩,
    ⟨some 2, some (.assign (.tmp 21)), none⟩])
  .ret)
  .skip))
  (.seq (.reg [1, 2] [⟨some 22, some (.load T_api_Bits (.tmp 1)), none⟩,
    ⟨some 23, some (.call ⟨(.value (.func f_plaitref1_Bits)), #[(.tmp 22)], #[T_api_Bits]⟩), none⟩,
    ⟨some 24, some (.call ⟨(.value (.func f_plaitref1_Word)), #[(.tmp 23)], #[T_s_bool]⟩), none⟩,
    ⟨some 25, some (.load T_api_Bits (.tmp 1)), none⟩,
    ⟨some 26, some (.binOp .eql T_api_Bits (.tmp 24) (.tmp 25) T_api_Bits), none⟩,
    ⟨some 2, some (.assign (.tmp 26)), none⟩])
  .ret))))
theorem e_plaitref1_Right {a0 : AV} {H : AHeap} : R f_plaitref1_Right [a0] H = fnK Go.Proofs.Try.prog [] H [(.tmp 2)] (evalL Go.Proofs.Try.prog KT R c_plaitref1_Right (Env.args [a0] 0) H) :=
  runs_body (D := DT) (f := f_plaitref1_Right) Go.Proofs.Try.func19 (by kernel_rfl) (by kernel_rfl) (by kernel_rfl) (by kernel_rfl) (by kernel_rfl) (Nat.le_of_ble_eq_true rfl)

def l_plaitref1_Bits_0 : LCode := (.seq (.seq (.reg [] [⟨some 8, some (.move (.tmp 4)), none⟩,
    ⟨some 9, some (.fieldAddr T_api_Bits (.tmp 1) 0), none⟩,
    ⟨some 10, some (.load T_int (.tmp 9)), none⟩,
    ⟨some 11, some (.binOp .lss T_int (.tmp 8) (.tmp 10) T_int), none⟩])
  (.cond (.tmp 11) .skip
  (.exit 0)))
  (.seq (.block 1 (.seq (.reg [] [⟨some 14, some (.move (.tmp 4)), none⟩,
    ⟨some 15, some (.binOp .lss T_int (.tmp 14) (.const (.int .i64 64)) T_int), none⟩])
  (.cond (.tmp 15) (.reg [] [⟨some 16, some (.move (.tmp 3)), none⟩,
    ⟨some 17, some (.move (.tmp 4)), none⟩,
    ⟨some 18, some (.fieldAddr T_api_Bits (.tmp 1) 1), none⟩,
    ⟨some 19, some (.load T_uint64 (.tmp 18)), none⟩,
    ⟨some 20, some (.move (.tmp 4)), none⟩,
    ⟨some 21, some (.binOp .shr T_uint64 (.tmp 19) (.tmp 20) T_int), none⟩,
    ⟨some 22, some (.binOp .and T_uint64 (.tmp 21) (.const (.int .u64 1)) T_uint64), none⟩,
    ⟨some 23, some (.binOp .eql T_uint64 (.tmp 22) (.const (.int .u64 1)) T_uint64), none⟩,
    ⟨some 24, some (.indexAddr T_s_bool (.tmp 16) (.tmp 17)), none⟩,
    ⟨none, some (.store T_bool (.tmp 24) (.tmp 23)), none⟩])
  (.reg [] [⟨some 25, some (.move (.tmp 3)), none⟩,
    ⟨some 26, some (.move (.tmp 4)), none⟩,
    ⟨some 27, some (.fieldAddr T_api_Bits (.tmp 1) 2), none⟩,
    ⟨some 28, some (.load T_uint64 (.tmp 27)), none⟩,
    ⟨some 29, some (.move (.tmp 4)), none⟩,
    ⟨some 30, some (.binOp .sub T_int (.tmp 29) (.const (.int .i64 64)) T_int), none⟩,
    ⟨some 31, some (.binOp .shr T_uint64 (.tmp 28) (.tmp 30) T_int), none⟩,
    ⟨some 32, some (.binOp .and T_uint64 (.tmp 31) (.const (.int .u64 1)) T_uint64), none⟩,
    ⟨some 33, some (.binOp .eql T_uint64 (.tmp 32) (.const (.int .u64 1)) T_uint64), none⟩,
    ⟨some 34, some (.indexAddr T_s_bool (.tmp 25) (.tmp 26)), none⟩,
    ⟨none, some (.store T_bool (.tmp 34) (.tmp 33)), none⟩]))))
  (.reg [] [⟨some 12, some (.move (.tmp 4)), none⟩,
    ⟨some 13, some (.binOp .add T_int (.tmp 12) (.const (.int .i64 1)) T_int), none⟩,
    ⟨some 4, some (.assign (.tmp 13)), none⟩])))
@[simp] theorem d_l_plaitref1_Bits_0 : defs l_plaitref1_Bits_0 = [8, 9, 10, 11, 14, 15, 16, 17, 18, 19, 20, 21, 22, 23, 24, 25, 26, 27, 28, 29, 30, 31, 32, 33, 34, 12, 13, 4] := by rfl
def c_plaitref1_Bits : LCode := (.seq (.reg [] [⟨some 1, some (.box T_api_Bits (.tmp 0)), none⟩,
    ⟨some 2, some (.assign (.const (.slice none 0 0))), none⟩])
  (.seq (.reg [] [⟨some 5, some (.fieldAddr T_api_Bits (.tmp 1) 0), none⟩,
    ⟨some 6, some (.load T_int (.tmp 5)), none⟩,
    ⟨some 7, some (.makeSlice T_s_bool (.tmp 6) (.tmp 6)), none⟩,
    ⟨some 3, some (.assign (.tmp 7)), none⟩])
  (.seq (.seq (.reg [] [⟨some 4, some (.assign (.const (.int .i64 0))), none⟩])
  (.block 0 (.loop l_plaitref1_Bits_0)))
  (.seq (.reg [] [⟨some 35, some (.move (.tmp 3)), none⟩,
    ⟨some 2, some (.assign (.tmp 35)), none⟩])
  .ret))))
theorem e_plaitref1_Bits {a0 : AV} {H : AHeap} : R f_plaitref1_Bits [a0] H = fnK Go.Proofs.Try.prog [] H [(.tmp 2)] (evalL Go.Proofs.Try.prog KT R c_plaitref1_Bits (Env.args [a0] 0) H) :=
  runs_body (D := DT) (f := f_plaitref1_Bits) Go.Proofs.Try.func20 (by kernel_rfl) (by kernel_rfl) (by kernel_rfl) (by kernel_rfl) (by kernel_rfl) (Nat.le_of_ble_eq_true rfl)

def c_bv_cut : LCode := (.seq (.reg [] [⟨some 3, some (.box T_bv_number (.tmp 1)), none⟩,
    ⟨some 4, some (.alloc T_api_Bits), none⟩])
  (.seq (.reg [] [⟨some 6, some (.move (.tmp 0)), none⟩,
    ⟨some 7, some (.call ⟨(.value (.func f_bv_mask)), #[(.tmp 6)], #[T_int]⟩), none⟩,
    ⟨some 5, some (.alloc T_bv_number), none⟩,
    ⟨none, some (.store T_bv_number (.tmp 5) (.tmp 7)), none⟩])
  (.seq (.reg [] [⟨some 8, some (.move (.tmp 0)), none⟩,
    ⟨some 9, some (.fieldAddr T_bv_number (.tmp 3) 0), none⟩,
    ⟨some 10, some (.load T_uint64 (.tmp 9)), none⟩,
    ⟨some 11, some (.fieldAddr T_bv_number (.tmp 5) 0), none⟩,
    ⟨some 12, some (.load T_uint64 (.tmp 11)), none⟩,
    ⟨some 13, some (.binOp .and T_uint64 (.tmp 10) (.tmp 12) T_uint64), none⟩,
    ⟨some 14, some (.fieldAddr T_bv_number (.tmp 3) 1), none⟩,
    ⟨some 15, some (.load T_uint64 (.tmp 14)), none⟩,
    ⟨some 16, some (.fieldAddr T_bv_number (.tmp 5) 1), none⟩,
    ⟨some 17, some (.load T_uint64 (.tmp 16)), none⟩,
    ⟨some 18, some (.binOp .and T_uint64 (.tmp 15) (.tmp 17) T_uint64), none⟩,
    ⟨some 19, some (.build T_api_Bits #[(0, (.tmp 8)), (1, (.tmp 13)), (2, (.tmp 18))]), none⟩,
    ⟨none, some (.store T_api_Bits (.tmp 4) (.tmp 19)), none⟩])
  .ret)))
theorem e_bv_cut {a0 a1 : AV} {H : AHeap} : R f_bv_cut [a0, a1] H = fnK Go.Proofs.Try.prog [] H [(.cell 4 T_api_Bits)] (evalL Go.Proofs.Try.prog KT R c_bv_cut (Env.args [a0, a1] 0) H) :=
  runs_body (D := DT) (f := f_bv_cut) Go.Proofs.Try.func21 (by kernel_rfl) (by kernel_rfl) (by kernel_rfl) (by kernel_rfl) (by kernel_rfl) (Nat.le_of_ble_eq_true rfl)

def c_plaitlaw1_two : LCode := (.seq (.reg [] [⟨some 6, some (.assign (.const (.int .u64 0))), none⟩])
  (.seq (.reg [] [⟨some 10, some (.move (.tmp 0)), none⟩,
    ⟨some 11, some (.move (.tmp 1)), none⟩,
    ⟨some 12, some (.call ⟨(.value (.func f_plaitlaw1_four)), #[(.tmp 11)], #[T_uint64]⟩), none⟩,
    ⟨some 13, some (.move (.tmp 2)), none⟩,
    ⟨some 14, some (.call ⟨(.value (.func f_plaitlaw1_four)), #[(.tmp 13)], #[T_uint64]⟩), none⟩,
    ⟨some 15, some (.call ⟨(.value (.func f_bv_Two)), #[(.tmp 10), (.tmp 12), (.tmp 14)], #[T_int, T_api_Bits, T_api_Bits]⟩), none⟩,
    ⟨some 9, some (.move (.tmp 15)), none⟩,
    ⟨some 16, some (.extract (.tmp 9) 0), none⟩,
    ⟨some 17, some (.extract (.tmp 9) 1), none⟩,
    ⟨some 7, some (.alloc T_api_Bits), none⟩,
    ⟨none, some (.store T_api_Bits (.tmp 7) (.tmp 16)), none⟩,
    ⟨some 8, some (.assign (.tmp 17)), none⟩])
  (.seq (.seq (.reg [] [⟨some 18, some (.move (.tmp 8)), none⟩,
    ⟨some 19, some (.binOp .neq T_int (.tmp 18) (.const (.int .i64 0)) T_int), none⟩])
  (.cond (.tmp 19) (.seq (.reg [] [⟨some 6, some (.assign (.const (.int .u64 99))), none⟩])
  .ret)
  .skip))
  (.seq (.reg [] [⟨some 20, some (.fieldAddr T_api_Bits (.tmp 7) 1), none⟩,
    ⟨some 21, some (.load T_uint64 (.tmp 20)), none⟩,
    ⟨some 6, some (.assign (.tmp 21)), none⟩])
  .ret))))
theorem e_plaitlaw1_two {a0 a1 a2 : AV} {H : AHeap} : R f_plaitlaw1_two [a0, a1, a2] H = fnK Go.Proofs.Try.prog [] H [(.tmp 6)] (evalL Go.Proofs.Try.prog KT R c_plaitlaw1_two (Env.args [a0, a1, a2] 0) H) :=
  runs_body (D := DT) (f := f_plaitlaw1_two) Go.Proofs.Try.func22 (by kernel_rfl) (by kernel_rfl) (by kernel_rfl) (by kernel_rfl) (by kernel_rfl) (Nat.le_of_ble_eq_true rfl)

def c_bv_Rotate : LCode := (.seq (.reg [] [⟨some 3, some (.box T_api_Bits (.tmp 0)), none⟩,
    ⟨some 6, some (.alloc T_api_Bits), none⟩,
    ⟨some 7, some (.assign (.const (.int .i64 0))), none⟩])
  (.seq (.block 0 (.seq (.reg [] [⟨some 11, some (.load T_api_Bits (.tmp 3)), none⟩,
    ⟨some 12, some (.call ⟨(.value (.func f_bv_word)), #[(.tmp 11)], #[T_api_Bits]⟩), none⟩,
    ⟨some 13, some (.unOp .not T_bool (.tmp 12)), none⟩,
    ⟨some 10, some (.assign (.tmp 13)), none⟩])
  (.cond (.tmp 10) (.seq (.reg [] [⟨some 14, some (.build T_api_Bits #[]), none⟩,
    ⟨none, some (.store T_api_Bits (.tmp 6) (.tmp 14)), none⟩,
    ⟨some 7, some (.assign (.const (.int .i64 10))), none⟩])
  .ret)
  (.seq (.reg [] [⟨some 16, some (.move (.tmp 1)), none⟩,
    ⟨some 17, some (.binOp .lss T_int (.tmp 16) (.const (.int .i64 0)) T_int), none⟩,
    ⟨some 15, some (.assign (.tmp 17)), none⟩])
  (.cond (.tmp 15) (.seq (.reg [] [⟨some 18, some (.build T_api_Bits #[]), none⟩,
    ⟨none, some (.store T_api_Bits (.tmp 6) (.tmp 18)), none⟩,
    ⟨some 7, some (.assign (.const (.int .i64 12))), none⟩])
  .ret)
  .skip)))))
  (.seq (.reg [] [⟨some 19, some (.move (.tmp 1)), none⟩,
    ⟨some 20, some (.fieldAddr T_api_Bits (.tmp 3) 0), none⟩,
    ⟨some 21, some (.load T_int (.tmp 20)), none⟩,
    ⟨some 22, some (.binOp .rem T_int (.tmp 19) (.tmp 21) T_int), none⟩,
    ⟨some 1, some (.assign (.tmp 22)), none⟩])
  (.seq (.seq (.reg [] [⟨some 23, some (.move (.tmp 2)), none⟩,
    ⟨some 24, some (.unOp .not T_bool (.tmp 23)), none⟩])
  (.cond (.tmp 24) (.reg [] [⟨some 25, some (.fieldAddr T_api_Bits (.tmp 3) 0), none⟩,
    ⟨some 26, some (.load T_int (.tmp 25)), none⟩,
    ⟨some 27, some (.move (.tmp 1)), none⟩,
    ⟨some 28, some (.binOp .sub T_int (.tmp 26) (.tmp 27) T_int), none⟩,
    ⟨some 29, some (.fieldAddr T_api_Bits (.tmp 3) 0), none⟩,
    ⟨some 30, some (.load T_int (.tmp 29)), none⟩,
    ⟨some 31, some (.binOp .rem T_int (.tmp 28) (.tmp 30) T_int), none⟩,
    ⟨some 1, some (.assign (.tmp 31)), none⟩])
  .skip))
  (.seq (.reg [1, 3, 5, 11, 12] [⟨some 32, some (.load T_api_Bits (.tmp 3)), none⟩,
    ⟨some 33, some (.call ⟨(.value (.func f_bv_of)), #[(.tmp 32)], #[T_api_Bits]⟩), none⟩,
    ⟨some 34, some (.move (.tmp 1)), none⟩,
    ⟨some 35, some (.call ⟨(.value (.func f_plait_bv_number_left)), #[(.tmp 33), (.tmp 34)], #[T_bv_number, T_int]⟩), none⟩,
    ⟨some 36, some (.load T_api_Bits (.tmp 3)), none⟩,
    ⟨some 37, some (.call ⟨(.value (.func f_bv_of)), #[(.tmp 36)], #[T_api_Bits]⟩), none⟩,
    ⟨some 38, some (.fieldAddr T_api_Bits (.tmp 3) 0), none⟩,
    ⟨some 39, some (.load T_int (.tmp 38)), none⟩,
    ⟨some 40, some (.move (.tmp 1)), none⟩,
    ⟨some 41, some (.binOp .sub T_int (.tmp 39) (.tmp 40) T_int), none⟩,
    ⟨some 42, some (.call ⟨(.value (.func f_plait_bv_number_right)), #[(.tmp 37), (.tmp 41)], #[T_bv_number, T_int]⟩), none⟩,
    ⟨some 8, some (.alloc T_bv_number), none⟩,
    ⟨some 9, some (.alloc T_bv_number), none⟩,
    ⟨none, some (.store T_bv_number (.tmp 8) (.tmp 35)), none⟩,
    ⟨none, some (.store T_bv_number (.tmp 9) (.tmp 42)), none⟩])
  (.seq (.reg [] [⟨some 43, some (.fieldAddr T_api_Bits (.tmp 3) 0), none⟩,
    ⟨some 44, some (.load T_int (.tmp 43)), none⟩,
    ⟨some 45, some (.fieldAddr T_bv_number (.tmp 8) 0), none⟩,
    ⟨some 46, some (.load T_uint64 (.tmp 45)), none⟩,
    ⟨some 47, some (.fieldAddr T_bv_number (.tmp 9) 0), none⟩,
    ⟨some 48, some (.load T_uint64 (.tmp 47)), none⟩,
    ⟨some 49, some (.binOp .or T_uint64 (.tmp 46) (.tmp 48) T_uint64), none⟩,
    ⟨some 50, some (.fieldAddr T_bv_number (.tmp 8) 1), none⟩,
    ⟨some 51, some (.load T_uint64 (.tmp 50)), none⟩,
    ⟨some 52, some (.fieldAddr T_bv_number (.tmp 9) 1), none⟩,
    ⟨some 53, some (.load T_uint64 (.tmp 52)), none⟩,
    ⟨some 54, some (.binOp .or T_uint64 (.tmp 51) (.tmp 53) T_uint64), none⟩,
    ⟨some 55, some (.build T_bv_number #[(0, (.tmp 49)), (1, (.tmp 54))]), none⟩,
    ⟨some 56, some (.call ⟨(.value (.func f_bv_cut)), #[(.tmp 44), (.tmp 55)], #[T_int, T_bv_number]⟩), none⟩,
    ⟨none, some (.store T_api_Bits (.tmp 6) (.tmp 56)), none⟩,
    ⟨some 7, some (.assign (.const (.int .i64 0))), none⟩])
  .ret))))))
theorem e_bv_Rotate {a0 a1 a2 : AV} {H : AHeap} : R f_bv_Rotate [a0, a1, a2] H = fnK Go.Proofs.Try.prog [] H [(.cell 6 T_api_Bits), (.tmp 7)] (evalL Go.Proofs.Try.prog KT R c_bv_Rotate (Env.args [a0, a1, a2] 0) H) :=
  runs_body (D := DT) (f := f_bv_Rotate) Go.Proofs.Try.func23 (by kernel_rfl) (by kernel_rfl) (by kernel_rfl) (by kernel_rfl) (by kernel_rfl) (Nat.le_of_ble_eq_true rfl)

def c_plaitlaw1_four : LCode := (.seq (.reg [] [⟨some 2, some (.alloc T_api_Bits), none⟩])
  (.seq (.reg [] [⟨some 3, some (.move (.tmp 0)), none⟩,
    ⟨some 4, some (.build T_api_Bits #[(0, (.const (.int .i64 4))), (1, (.tmp 3))]), none⟩,
    ⟨none, some (.store T_api_Bits (.tmp 2) (.tmp 4)), none⟩])
  .ret))
theorem e_plaitlaw1_four {a0 : AV} {H : AHeap} : R f_plaitlaw1_four [a0] H = fnK Go.Proofs.Try.prog [] H [(.cell 2 T_api_Bits)] (evalL Go.Proofs.Try.prog KT R c_plaitlaw1_four (Env.args [a0] 0) H) :=
  runs_body (D := DT) (f := f_plaitlaw1_four) Go.Proofs.Try.func24 (by kernel_rfl) (by kernel_rfl) (by kernel_rfl) (by kernel_rfl) (by kernel_rfl) (Nat.le_of_ble_eq_true rfl)

def c_bv_Concat : LCode := (.seq (.reg [] [⟨some 2, some (.box T_api_Bits (.tmp 0)), none⟩,
    ⟨some 3, some (.box T_api_Bits (.tmp 1)), none⟩,
    ⟨some 4, some (.alloc T_api_Bits), none⟩,
    ⟨some 5, some (.assign (.const (.int .i64 0))), none⟩])
  (.seq (.seq (.reg [] [⟨some 7, some (.load T_api_Bits (.tmp 2)), none⟩,
    ⟨some 8, some (.call ⟨(.value (.func f_bv_word)), #[(.tmp 7)], #[T_api_Bits]⟩), none⟩,
    ⟨some 9, some (.unOp .not T_bool (.tmp 8)), none⟩,
    ⟨some 10, some (.move (.tmp 9)), none⟩,
    ⟨some 11, some (.load T_api_Bits (.tmp 3)), some (some 10, false)⟩,
    ⟨some 12, some (.call ⟨(.value (.func f_bv_word)), #[(.tmp 11)], #[T_api_Bits]⟩), some (some 10, false)⟩,
    ⟨some 13, some (.unOp .not T_bool (.tmp 12)), some (some 10, false)⟩,
    ⟨some 14, some (.pick (.tmp 10) (.const (.bool true)) (.tmp 13)), none⟩,
    ⟨some 15, some (.move (.tmp 14)), none⟩,
    ⟨some 16, some (.fieldAddr T_api_Bits (.tmp 2) 0), some (some 15, false)⟩,
    ⟨some 17, some (.load T_int (.tmp 16)), some (some 15, false)⟩,
    ⟨some 18, some (.fieldAddr T_api_Bits (.tmp 3) 0), some (some 15, false)⟩,
    ⟨some 19, some (.load T_int (.tmp 18)), some (some 15, false)⟩,
    ⟨some 20, some (.binOp .add T_int (.tmp 17) (.tmp 19) T_int), some (some 15, false)⟩,
    ⟨some 21, some (.binOp .gtr T_int (.tmp 20) (.const (.int .i64 128)) T_int), some (some 15, false)⟩,
    ⟨some 22, some (.pick (.tmp 15) (.const (.bool true)) (.tmp 21)), none⟩])
  (.cond (.tmp 22) (.seq (.reg [] [⟨some 23, some (.build T_api_Bits #[]), none⟩,
    ⟨none, some (.store T_api_Bits (.tmp 4) (.tmp 23)), none⟩,
    ⟨some 5, some (.assign (.const (.int .i64 10))), none⟩])
  .ret)
  .skip))
  (.seq (.reg [1, 5] [⟨some 24, some (.load T_api_Bits (.tmp 2)), none⟩,
    ⟨some 25, some (.call ⟨(.value (.func f_bv_of)), #[(.tmp 24)], #[T_api_Bits]⟩), none⟩,
    ⟨some 26, some (.fieldAddr T_api_Bits (.tmp 3) 0), none⟩,
    ⟨some 27, some (.load T_int (.tmp 26)), none⟩,
    ⟨some 28, some (.call ⟨(.value (.func f_plait_bv_number_left)), #[(.tmp 25), (.tmp 27)], #[T_bv_number, T_int]⟩), none⟩,
    ⟨some 6, some (.alloc T_bv_number), none⟩,
    ⟨none, some (.store T_bv_number (.tmp 6) (.tmp 28)), none⟩])
  (.seq (.reg [] [⟨some 29, some (.fieldAddr T_api_Bits (.tmp 2) 0), none⟩,
    ⟨some 30, some (.load T_int (.tmp 29)), none⟩,
    ⟨some 31, some (.fieldAddr T_api_Bits (.tmp 3) 0), none⟩,
    ⟨some 32, some (.load T_int (.tmp 31)), none⟩,
    ⟨some 33, some (.binOp .add T_int (.tmp 30) (.tmp 32) T_int), none⟩,
    ⟨some 34, some (.fieldAddr T_bv_number (.tmp 6) 0), none⟩,
    ⟨some 35, some (.load T_uint64 (.tmp 34)), none⟩,
    ⟨some 36, some (.fieldAddr T_api_Bits (.tmp 3) 1), none⟩,
    ⟨some 37, some (.load T_uint64 (.tmp 36)), none⟩,
    ⟨some 38, some (.binOp .or T_uint64 (.tmp 35) (.tmp 37) T_uint64), none⟩,
    ⟨some 39, some (.fieldAddr T_bv_number (.tmp 6) 1), none⟩,
    ⟨some 40, some (.load T_uint64 (.tmp 39)), none⟩,
    ⟨some 41, some (.fieldAddr T_api_Bits (.tmp 3) 2), none⟩,
    ⟨some 42, some (.load T_uint64 (.tmp 41)), none⟩,
    ⟨some 43, some (.binOp .or T_uint64 (.tmp 40) (.tmp 42) T_uint64), none⟩,
    ⟨some 44, some (.build T_bv_number #[(0, (.tmp 38)), (1, (.tmp 43))]), none⟩,
    ⟨some 45, some (.call ⟨(.value (.func f_bv_cut)), #[(.tmp 33), (.tmp 44)], #[T_int, T_bv_number]⟩), none⟩,
    ⟨none, some (.store T_api_Bits (.tmp 4) (.tmp 45)), none⟩,
    ⟨some 5, some (.assign (.const (.int .i64 0))), none⟩])
  .ret))))
theorem e_bv_Concat {a0 a1 : AV} {H : AHeap} : R f_bv_Concat [a0, a1] H = fnK Go.Proofs.Try.prog [] H [(.cell 4 T_api_Bits), (.tmp 5)] (evalL Go.Proofs.Try.prog KT R c_bv_Concat (Env.args [a0, a1] 0) H) :=
  runs_body (D := DT) (f := f_bv_Concat) Go.Proofs.Try.func25 (by kernel_rfl) (by kernel_rfl) (by kernel_rfl) (by kernel_rfl) (by kernel_rfl) (Nat.le_of_ble_eq_true rfl)

def c_bv_Extract : LCode := (.seq (.reg [] [⟨some 3, some (.box T_api_Bits (.tmp 0)), none⟩,
    ⟨some 6, some (.alloc T_api_Bits), none⟩,
    ⟨some 7, some (.assign (.const (.int .i64 0))), none⟩])
  (.seq (.block 0 (.seq (.reg [] [⟨some 9, some (.load T_api_Bits (.tmp 3)), none⟩,
    ⟨some 10, some (.call ⟨(.value (.func f_bv_word)), #[(.tmp 9)], #[T_api_Bits]⟩), none⟩,
    ⟨some 11, some (.unOp .not T_bool (.tmp 10)), none⟩,
    ⟨some 8, some (.assign (.tmp 11)), none⟩])
  (.cond (.tmp 8) (.seq (.reg [] [⟨some 12, some (.build T_api_Bits #[]), none⟩,
    ⟨none, some (.store T_api_Bits (.tmp 6) (.tmp 12)), none⟩,
    ⟨some 7, some (.assign (.const (.int .i64 10))), none⟩])
  .ret)
  (.seq (.reg [] [⟨some 14, some (.move (.tmp 2)), none⟩,
    ⟨some 15, some (.binOp .lss T_int (.tmp 14) (.const (.int .i64 0)) T_int), none⟩,
    ⟨some 16, some (.move (.tmp 15)), none⟩,
    ⟨some 17, some (.move (.tmp 1)), some (some 16, false)⟩,
    ⟨some 18, some (.move (.tmp 2)), some (some 16, false)⟩,
    ⟨some 19, some (.binOp .lss T_int (.tmp 17) (.tmp 18) T_int), some (some 16, false)⟩,
    ⟨some 20, some (.pick (.tmp 16) (.const (.bool true)) (.tmp 19)), none⟩,
    ⟨some 21, some (.move (.tmp 20)), none⟩,
    ⟨some 22, some (.move (.tmp 1)), some (some 21, false)⟩,
    ⟨some 23, some (.fieldAddr T_api_Bits (.tmp 3) 0), some (some 21, false)⟩,
    ⟨some 24, some (.load T_int (.tmp 23)), some (some 21, false)⟩,
    ⟨some 25, some (.binOp .geq T_int (.tmp 22) (.tmp 24) T_int), some (some 21, false)⟩,
    ⟨some 26, some (.pick (.tmp 21) (.const (.bool true)) (.tmp 25)), none⟩,
    ⟨some 13, some (.assign (.tmp 26)), none⟩])
  (.cond (.tmp 13) (.seq (.reg [] [⟨some 27, some (.build T_api_Bits #[]), none⟩,
    ⟨none, some (.store T_api_Bits (.tmp 6) (.tmp 27)), none⟩,
    ⟨some 7, some (.assign (.const (.int .i64 12))), none⟩])
  .ret)
  .skip)))))
  (.seq (.reg [] [⟨some 28, some (.move (.tmp 1)), none⟩,
    ⟨some 29, some (.move (.tmp 2)), none⟩,
    ⟨some 30, some (.binOp .sub T_int (.tmp 28) (.tmp 29) T_int), none⟩,
    ⟨some 31, some (.binOp .add T_int (.tmp 30) (.const (.int .i64 1)) T_int), none⟩,
    ⟨some 32, some (.load T_api_Bits (.tmp 3)), none⟩,
    ⟨some 33, some (.call ⟨(.value (.func f_bv_of)), #[(.tmp 32)], #[T_api_Bits]⟩), none⟩,
    ⟨some 34, some (.move (.tmp 2)), none⟩,
    ⟨some 35, some (.call ⟨(.value (.func f_plait_bv_number_right)), #[(.tmp 33), (.tmp 34)], #[T_bv_number, T_int]⟩), none⟩,
    ⟨some 36, some (.call ⟨(.value (.func f_bv_cut)), #[(.tmp 31), (.tmp 35)], #[T_int, T_bv_number]⟩), none⟩,
    ⟨none, some (.store T_api_Bits (.tmp 6) (.tmp 36)), none⟩,
    ⟨some 7, some (.assign (.const (.int .i64 0))), none⟩])
  .ret)))
theorem e_bv_Extract {a0 a1 a2 : AV} {H : AHeap} : R f_bv_Extract [a0, a1, a2] H = fnK Go.Proofs.Try.prog [] H [(.cell 6 T_api_Bits), (.tmp 7)] (evalL Go.Proofs.Try.prog KT R c_bv_Extract (Env.args [a0, a1, a2] 0) H) :=
  runs_body (D := DT) (f := f_bv_Extract) Go.Proofs.Try.func26 (by kernel_rfl) (by kernel_rfl) (by kernel_rfl) (by kernel_rfl) (by kernel_rfl) (Nat.le_of_ble_eq_true rfl)

def c_bv_Extend : LCode := (.seq (.reg [] [⟨some 3, some (.box T_api_Bits (.tmp 0)), none⟩,
    ⟨some 6, some (.alloc T_api_Bits), none⟩,
    ⟨some 7, some (.assign (.const (.int .i64 0))), none⟩])
  (.seq (.block 0 (.seq (.reg [] [⟨some 11, some (.load T_api_Bits (.tmp 3)), none⟩,
    ⟨some 12, some (.call ⟨(.value (.func f_bv_word)), #[(.tmp 11)], #[T_api_Bits]⟩), none⟩,
    ⟨some 13, some (.unOp .not T_bool (.tmp 12)), none⟩,
    ⟨some 10, some (.assign (.tmp 13)), none⟩])
  (.cond (.tmp 10) (.seq (.reg [] [⟨some 14, some (.build T_api_Bits #[]), none⟩,
    ⟨none, some (.store T_api_Bits (.tmp 6) (.tmp 14)), none⟩,
    ⟨some 7, some (.assign (.const (.int .i64 10))), none⟩])
  .ret)
  (.seq (.reg [] [⟨some 16, some (.move (.tmp 1)), none⟩,
    ⟨some 17, some (.binOp .lss T_int (.tmp 16) (.const (.int .i64 0)) T_int), none⟩,
    ⟨some 15, some (.assign (.tmp 17)), none⟩])
  (.cond (.tmp 15) (.seq (.reg [] [⟨some 18, some (.build T_api_Bits #[]), none⟩,
    ⟨none, some (.store T_api_Bits (.tmp 6) (.tmp 18)), none⟩,
    ⟨some 7, some (.assign (.const (.int .i64 12))), none⟩])
  .ret)
  (.seq (.reg [] [⟨some 20, some (.move (.tmp 1)), none⟩,
    ⟨some 21, some (.fieldAddr T_api_Bits (.tmp 3) 0), none⟩,
    ⟨some 22, some (.load T_int (.tmp 21)), none⟩,
    ⟨some 23, some (.binOp .sub T_int (.const (.int .i64 128)) (.tmp 22) T_int), none⟩,
    ⟨some 24, some (.binOp .gtr T_int (.tmp 20) (.tmp 23) T_int), none⟩,
    ⟨some 19, some (.assign (.tmp 24)), none⟩])
  (.cond (.tmp 19) (.seq (.reg [] [⟨some 25, some (.build T_api_Bits #[]), none⟩,
    ⟨none, some (.store T_api_Bits (.tmp 6) (.tmp 25)), none⟩,
    ⟨some 7, some (.assign (.const (.int .i64 10))), none⟩])
  .ret)
  .skip)))))))
  (.seq (.reg [] [⟨some 26, some (.load T_api_Bits (.tmp 3)), none⟩,
    ⟨some 27, some (.call ⟨(.value (.func f_bv_of)), #[(.tmp 26)], #[T_api_Bits]⟩), none⟩,
    ⟨some 8, some (.alloc T_bv_number), none⟩,
    ⟨none, some (.store T_bv_number (.tmp 8) (.tmp 27)), none⟩])
  (.seq (.seq (.reg [] [⟨some 28, some (.move (.tmp 2)), none⟩,
    ⟨some 29, some (.move (.tmp 28)), none⟩,
    ⟨some 30, some (.load T_api_Bits (.tmp 3)), some (some 29, true)⟩,
    ⟨some 31, some (.call ⟨(.value (.func f_bv_below)), #[(.tmp 30)], #[T_api_Bits]⟩), some (some 29, true)⟩,
    ⟨some 32, some (.pick (.tmp 29) (.tmp 31) (.const (.bool false))), none⟩])
  (.cond (.tmp 32) (.seq (.reg [] [⟨some 33, some (.fieldAddr T_api_Bits (.tmp 3) 0), none⟩,
    ⟨some 34, some (.load T_int (.tmp 33)), none⟩,
    ⟨some 35, some (.call ⟨(.value (.func f_bv_mask)), #[(.tmp 34)], #[T_int]⟩), none⟩,
    ⟨some 36, some (.call ⟨(.value (.func f_plait_bv_number_not)), #[(.tmp 35)], #[T_bv_number]⟩), none⟩,
    ⟨some 9, some (.alloc T_bv_number), none⟩,
    ⟨none, some (.store T_bv_number (.tmp 9) (.tmp 36)), none⟩])
  (.reg [] [⟨some 37, some (.fieldAddr T_bv_number (.tmp 8) 0), none⟩,
    ⟨some 38, some (.load T_uint64 (.tmp 37)), none⟩,
    ⟨some 39, some (.fieldAddr T_bv_number (.tmp 9) 0), none⟩,
    ⟨some 40, some (.load T_uint64 (.tmp 39)), none⟩,
    ⟨some 41, some (.binOp .or T_uint64 (.tmp 38) (.tmp 40) T_uint64), none⟩,
    ⟨some 42, some (.fieldAddr T_bv_number (.tmp 8) 1), none⟩,
    ⟨some 43, some (.load T_uint64 (.tmp 42)), none⟩,
    ⟨some 44, some (.fieldAddr T_bv_number (.tmp 9) 1), none⟩,
    ⟨some 45, some (.load T_uint64 (.tmp 44)), none⟩,
    ⟨some 46, some (.binOp .or T_uint64 (.tmp 43) (.tmp 45) T_uint64), none⟩,
    ⟨some 47, some (.build T_bv_number #[(0, (.tmp 41)), (1, (.tmp 46))]), none⟩,
    ⟨none, some (.store T_bv_number (.tmp 8) (.tmp 47)), none⟩]))
  .skip))
  (.seq (.reg [] [⟨some 48, some (.fieldAddr T_api_Bits (.tmp 3) 0), none⟩,
    ⟨some 49, some (.load T_int (.tmp 48)), none⟩,
    ⟨some 50, some (.move (.tmp 1)), none⟩,
    ⟨some 51, some (.binOp .add T_int (.tmp 49) (.tmp 50) T_int), none⟩,
    ⟨some 52, some (.load T_bv_number (.tmp 8)), none⟩,
    ⟨some 53, some (.call ⟨(.value (.func f_bv_cut)), #[(.tmp 51), (.tmp 52)], #[T_int, T_bv_number]⟩), none⟩,
    ⟨none, some (.store T_api_Bits (.tmp 6) (.tmp 53)), none⟩,
    ⟨some 7, some (.assign (.const (.int .i64 0))), none⟩])
  .ret)))))
theorem e_bv_Extend {a0 a1 a2 : AV} {H : AHeap} : R f_bv_Extend [a0, a1, a2] H = fnK Go.Proofs.Try.prog [] H [(.cell 6 T_api_Bits), (.tmp 7)] (evalL Go.Proofs.Try.prog KT R c_bv_Extend (Env.args [a0, a1, a2] 0) H) :=
  runs_body (D := DT) (f := f_bv_Extend) Go.Proofs.Try.func27 (by kernel_rfl) (by kernel_rfl) (by kernel_rfl) (by kernel_rfl) (by kernel_rfl) (Nat.le_of_ble_eq_true rfl)

def c_bv_One : LCode := (.seq (.reg [] [⟨some 3, some (.box T_api_Bits (.tmp 1)), none⟩,
    ⟨some 4, some (.alloc T_api_Bits), none⟩,
    ⟨some 5, some (.assign (.const (.int .i64 0))), none⟩])
  (.seq (.block 0 (.seq (.reg [] [⟨some 7, some (.load T_api_Bits (.tmp 3)), none⟩,
    ⟨some 8, some (.call ⟨(.value (.func f_bv_word)), #[(.tmp 7)], #[T_api_Bits]⟩), none⟩,
    ⟨some 9, some (.unOp .not T_bool (.tmp 8)), none⟩,
    ⟨some 6, some (.assign (.tmp 9)), none⟩])
  (.cond (.tmp 6) (.seq (.reg [] [⟨some 10, some (.build T_api_Bits #[]), none⟩,
    ⟨none, some (.store T_api_Bits (.tmp 4) (.tmp 10)), none⟩,
    ⟨some 5, some (.assign (.const (.int .i64 10))), none⟩])
  .ret)
  (.seq (.reg [] [⟨some 12, some (.move (.tmp 0)), none⟩,
    ⟨some 13, some (.binOp .eql T_int (.tmp 12) (.const (.int .i64 10)) T_int), none⟩,
    ⟨some 11, some (.assign (.tmp 13)), none⟩])
  (.cond (.tmp 11) (.seq (.reg [3, 4] [⟨some 14, some (.fieldAddr T_api_Bits (.tmp 3) 0), none⟩,
    ⟨some 15, some (.load T_int (.tmp 14)), none⟩,
    ⟨some 16, some (.load T_api_Bits (.tmp 3)), none⟩,
    ⟨some 17, some (.call ⟨(.value (.func f_bv_of)), #[(.tmp 16)], #[T_api_Bits]⟩), none⟩,
    ⟨some 18, some (.call ⟨(.value (.func f_plait_bv_number_not)), #[(.tmp 17)], #[T_bv_number]⟩), none⟩,
    ⟨some 19, some (.call ⟨(.value (.func f_bv_cut)), #[(.tmp 15), (.tmp 18)], #[T_int, T_bv_number]⟩), none⟩,
    ⟨none, some (.store T_api_Bits (.tmp 4) (.tmp 19)), none⟩,
    ⟨some 5, some (.assign (.const (.int .i64 0))), none⟩])
  .ret)
  (.seq (.reg [] [⟨some 21, some (.move (.tmp 0)), none⟩,
    ⟨some 22, some (.binOp .eql T_int (.tmp 21) (.const (.int .i64 11)) T_int), none⟩,
    ⟨some 20, some (.assign (.tmp 22)), none⟩])
  (.cond (.tmp 20) (.seq (.reg [3, 4] [⟨some 23, some (.fieldAddr T_api_Bits (.tmp 3) 0), none⟩,
    ⟨some 24, some (.load T_int (.tmp 23)), none⟩,
    ⟨some 25, some (.load T_api_Bits (.tmp 3)), none⟩,
    ⟨some 26, some (.call ⟨(.value (.func f_bv_of)), #[(.tmp 25)], #[T_api_Bits]⟩), none⟩,
    ⟨some 27, some (.call ⟨(.value (.func f_plait_bv_number_neg)), #[(.tmp 26)], #[T_bv_number]⟩), none⟩,
    ⟨some 28, some (.call ⟨(.value (.func f_bv_cut)), #[(.tmp 24), (.tmp 27)], #[T_int, T_bv_number]⟩), none⟩,
    ⟨none, some (.store T_api_Bits (.tmp 4) (.tmp 28)), none⟩,
    ⟨some 5, some (.assign (.const (.int .i64 0))), none⟩])
  .ret)
  .skip)))))))
  (.seq (.reg [] [⟨some 29, some (.build T_api_Bits #[]), none⟩,
    ⟨none, some (.store T_api_Bits (.tmp 4) (.tmp 29)), none⟩,
    ⟨some 5, some (.assign (.const (.int .i64 11))), none⟩])
  .ret)))
theorem e_bv_One {a0 a1 : AV} {H : AHeap} : R f_bv_One [a0, a1] H = fnK Go.Proofs.Try.prog [] H [(.cell 4 T_api_Bits), (.tmp 5)] (evalL Go.Proofs.Try.prog KT R c_bv_One (Env.args [a0, a1] 0) H) :=
  runs_body (D := DT) (f := f_bv_One) Go.Proofs.Try.func28 (by kernel_rfl) (by kernel_rfl) (by kernel_rfl) (by kernel_rfl) (by kernel_rfl) (Nat.le_of_ble_eq_true rfl)

def l_bv_Repeat_0 : LCode := (.seq (.reg [] [⟨some 27, some (.binOp .lss T_int (.tmp 26) (.tmp 25) T_int), none⟩])
  (.seq (.cond (.tmp 27) .skip
  (.exit 1))
  (.seq (.block 2 (.reg [] [⟨some 29, some (.load T_api_Bits (.tmp 6)), none⟩,
    ⟨some 30, some (.load T_api_Bits (.tmp 2)), none⟩,
    ⟨some 31, some (.call ⟨(.value (.func f_bv_Concat)), #[(.tmp 29), (.tmp 30)], #[T_api_Bits, T_api_Bits]⟩), none⟩,
    ⟨some 28, some (.move (.tmp 31)), none⟩,
    ⟨some 32, some (.extract (.tmp 28) 0), none⟩,
    ⟨some 33, some (.extract (.tmp 28) 1), none⟩,
    ⟨none, some (.store T_api_Bits (.tmp 6) (.tmp 32)), none⟩]))
  (.reg [] [⟨some 34, some (.binOp .add T_int (.tmp 26) (.const (.int .i64 1)) T_int), none⟩,
    ⟨some 26, some (.move (.tmp 34)), none⟩]))))
@[simp] theorem d_l_bv_Repeat_0 : defs l_bv_Repeat_0 = [27, 29, 30, 31, 28, 32, 33, 34, 26] := by rfl
def c_bv_Repeat : LCode := (.seq (.reg [] [⟨some 2, some (.box T_api_Bits (.tmp 0)), none⟩,
    ⟨some 4, some (.alloc T_api_Bits), none⟩,
    ⟨some 5, some (.assign (.const (.int .i64 0))), none⟩])
  (.seq (.block 0 (.seq (.reg [] [⟨some 8, some (.load T_api_Bits (.tmp 2)), none⟩,
    ⟨some 9, some (.call ⟨(.value (.func f_bv_word)), #[(.tmp 8)], #[T_api_Bits]⟩), none⟩,
    ⟨some 10, some (.unOp .not T_bool (.tmp 9)), none⟩,
    ⟨some 7, some (.assign (.tmp 10)), none⟩])
  (.cond (.tmp 7) (.seq (.reg [] [⟨some 11, some (.build T_api_Bits #[]), none⟩,
    ⟨none, some (.store T_api_Bits (.tmp 4) (.tmp 11)), none⟩,
    ⟨some 5, some (.assign (.const (.int .i64 10))), none⟩])
  .ret)
  (.seq (.reg [] [⟨some 13, some (.move (.tmp 1)), none⟩,
    ⟨some 14, some (.binOp .lss T_int (.tmp 13) (.const (.int .i64 1)) T_int), none⟩,
    ⟨some 12, some (.assign (.tmp 14)), none⟩])
  (.cond (.tmp 12) (.seq (.reg [] [⟨some 15, some (.build T_api_Bits #[]), none⟩,
    ⟨none, some (.store T_api_Bits (.tmp 4) (.tmp 15)), none⟩,
    ⟨some 5, some (.assign (.const (.int .i64 12))), none⟩])
  .ret)
  (.seq (.reg [] [⟨some 17, some (.move (.tmp 1)), none⟩,
    ⟨some 18, some (.fieldAddr T_api_Bits (.tmp 2) 0), none⟩,
    ⟨some 19, some (.load T_int (.tmp 18)), none⟩,
    ⟨some 20, some (.binOp .quo T_int (.const (.int .i64 128)) (.tmp 19) T_int), none⟩,
    ⟨some 21, some (.binOp .gtr T_int (.tmp 17) (.tmp 20) T_int), none⟩,
    ⟨some 16, some (.assign (.tmp 21)), none⟩])
  (.cond (.tmp 16) (.seq (.reg [] [⟨some 22, some (.build T_api_Bits #[]), none⟩,
    ⟨none, some (.store T_api_Bits (.tmp 4) (.tmp 22)), none⟩,
    ⟨some 5, some (.assign (.const (.int .i64 10))), none⟩])
  .ret)
  .skip)))))))
  (.seq (.reg [] [⟨some 23, some (.load T_api_Bits (.tmp 2)), none⟩,
    ⟨some 6, some (.alloc T_api_Bits), none⟩,
    ⟨none, some (.store T_api_Bits (.tmp 6) (.tmp 23)), none⟩])
  (.seq (.seq (.reg [] [⟨some 24, some (.move (.tmp 1)), none⟩,
    ⟨some 25, some (.binOp .sub T_int (.tmp 24) (.const (.int .i64 1)) T_int), none⟩,
    ⟨some 26, some (.move (.const (.int .i64 0))), none⟩])
  (.block 1 (.loop l_bv_Repeat_0)))
  (.seq (.reg [] [⟨some 35, some (.load T_api_Bits (.tmp 6)), none⟩,
    ⟨none, some (.store T_api_Bits (.tmp 4) (.tmp 35)), none⟩,
    ⟨some 5, some (.assign (.const (.int .i64 0))), none⟩])
  .ret)))))
theorem e_bv_Repeat {a0 a1 : AV} {H : AHeap} : R f_bv_Repeat [a0, a1] H = fnK Go.Proofs.Try.prog [] H [(.cell 4 T_api_Bits), (.tmp 5)] (evalL Go.Proofs.Try.prog KT R c_bv_Repeat (Env.args [a0, a1] 0) H) :=
  runs_body (D := DT) (f := f_bv_Repeat) Go.Proofs.Try.func29 (by kernel_rfl) (by kernel_rfl) (by kernel_rfl) (by kernel_rfl) (by kernel_rfl) (Nat.le_of_ble_eq_true rfl)

def c_bv_New : LCode := (.seq (.reg [] [⟨some 6, some (.alloc T_api_Bits), none⟩,
    ⟨some 7, some (.assign (.const (.int .i64 0))), none⟩])
  (.seq (.seq (.reg [] [⟨some 8, some (.move (.tmp 0)), none⟩,
    ⟨some 9, some (.binOp .lss T_int (.tmp 8) (.const (.int .i64 1)) T_int), none⟩,
    ⟨some 10, some (.move (.tmp 9)), none⟩,
    ⟨some 11, some (.move (.tmp 0)), some (some 10, false)⟩,
    ⟨some 12, some (.binOp .gtr T_int (.tmp 11) (.const (.int .i64 128)) T_int), some (some 10, false)⟩,
    ⟨some 13, some (.pick (.tmp 10) (.const (.bool true)) (.tmp 12)), none⟩])
  (.cond (.tmp 13) (.seq (.reg [] [⟨some 14, some (.build T_api_Bits #[]), none⟩,
    ⟨none, some (.store T_api_Bits (.tmp 6) (.tmp 14)), none⟩,
    ⟨some 7, some (.assign (.const (.int .i64 10))), none⟩])
  .ret)
  .skip))
  (.seq (.reg [] [⟨some 15, some (.move (.tmp 0)), none⟩,
    ⟨some 16, some (.move (.tmp 1)), none⟩,
    ⟨some 17, some (.move (.tmp 2)), none⟩,
    ⟨some 18, some (.build T_bv_number #[(0, (.tmp 16)), (1, (.tmp 17))]), none⟩,
    ⟨some 19, some (.call ⟨(.value (.func f_bv_cut)), #[(.tmp 15), (.tmp 18)], #[T_int, T_bv_number]⟩), none⟩,
    ⟨none, some (.store T_api_Bits (.tmp 6) (.tmp 19)), none⟩,
    ⟨some 7, some (.assign (.const (.int .i64 0))), none⟩])
  .ret)))
theorem e_bv_New {a0 a1 a2 : AV} {H : AHeap} : R f_bv_New [a0, a1, a2] H = fnK Go.Proofs.Try.prog [] H [(.cell 6 T_api_Bits), (.tmp 7)] (evalL Go.Proofs.Try.prog KT R c_bv_New (Env.args [a0, a1, a2] 0) H) :=
  runs_body (D := DT) (f := f_bv_New) Go.Proofs.Try.func30 (by kernel_rfl) (by kernel_rfl) (by kernel_rfl) (by kernel_rfl) (by kernel_rfl) (Nat.le_of_ble_eq_true rfl)

def c_internal_stringslite_HasPrefix : LCode := (.seq (.reg [] [⟨some 4, some (.assign (.const (.bool false))), none⟩])
  (.seq (.reg [] [⟨some 5, some (.move (.tmp 0)), none⟩,
    ⟨some 6, some (.call ⟨(.builtin .len), #[(.tmp 5)], #[T_string]⟩), none⟩,
    ⟨some 7, some (.move (.tmp 1)), none⟩,
    ⟨some 8, some (.call ⟨(.builtin .len), #[(.tmp 7)], #[T_string]⟩), none⟩,
    ⟨some 9, some (.binOp .geq T_int (.tmp 6) (.tmp 8) T_int), none⟩,
    ⟨some 10, some (.move (.tmp 9)), none⟩,
    ⟨some 11, some (.move (.tmp 0)), some (some 10, true)⟩,
    ⟨some 12, some (.move (.tmp 1)), some (some 10, true)⟩,
    ⟨some 13, some (.call ⟨(.builtin .len), #[(.tmp 12)], #[T_string]⟩), some (some 10, true)⟩,
    ⟨some 14, some (.slice T_string (.tmp 11) none (some (.tmp 13)) none), some (some 10, true)⟩,
    ⟨some 15, some (.move (.tmp 1)), some (some 10, true)⟩,
    ⟨some 16, some (.binOp .eql T_string (.tmp 14) (.tmp 15) T_string), some (some 10, true)⟩,
    ⟨some 17, some (.pick (.tmp 10) (.tmp 16) (.const (.bool false))), none⟩,
    ⟨some 4, some (.assign (.tmp 17)), none⟩])
  .ret))
theorem e_internal_stringslite_HasPrefix {a0 a1 : AV} {H : AHeap} : R f_internal_stringslite_HasPrefix [a0, a1] H = fnK Go.Proofs.Try.prog [] H [(.tmp 4)] (evalL Go.Proofs.Try.prog KT R c_internal_stringslite_HasPrefix (Env.args [a0, a1] 0) H) :=
  runs_body (D := DT) (f := f_internal_stringslite_HasPrefix) Go.Proofs.Try.func31 (by kernel_rfl) (by kernel_rfl) (by kernel_rfl) (by kernel_rfl) (by kernel_rfl) (Nat.le_of_ble_eq_true rfl)

def c_strings_IndexByte : LCode := (.seq (.reg [] [⟨some 4, some (.assign (.const (.int .i64 0))), none⟩])
  (.seq (.reg [] [⟨some 5, some (.move (.tmp 0)), none⟩,
    ⟨some 6, some (.move (.tmp 1)), none⟩,
    ⟨some 7, some (.call ⟨(.value (.func f_internal_stringslite_IndexByte)), #[(.tmp 5), (.tmp 6)], #[T_string, T_uint8]⟩), none⟩,
    ⟨some 4, some (.assign (.tmp 7)), none⟩])
  .ret))
theorem e_strings_IndexByte {a0 a1 : AV} {H : AHeap} : R f_strings_IndexByte [a0, a1] H = fnK Go.Proofs.Try.prog [] H [(.tmp 4)] (evalL Go.Proofs.Try.prog KT R c_strings_IndexByte (Env.args [a0, a1] 0) H) :=
  runs_body (D := DT) (f := f_strings_IndexByte) Go.Proofs.Try.func32 (by kernel_rfl) (by kernel_rfl) (by kernel_rfl) (by kernel_rfl) (by kernel_rfl) (Nat.le_of_ble_eq_true rfl)

def c_plait_bv_number_left : LCode := (.seq (.reg [] [⟨some 2, some (.box T_bv_number (.tmp 0)), none⟩,
    ⟨some 4, some (.alloc T_bv_number), none⟩])
  (.seq (.seq (.reg [] [⟨some 5, some (.move (.tmp 1)), none⟩,
    ⟨some 6, some (.binOp .geq T_int (.tmp 5) (.const (.int .i64 64)) T_int), none⟩])
  (.cond (.tmp 6) (.seq (.reg [] [⟨some 7, some (.fieldAddr T_bv_number (.tmp 2) 0), none⟩,
    ⟨some 8, some (.load T_uint64 (.tmp 7)), none⟩,
    ⟨some 9, some (.move (.tmp 1)), none⟩,
    ⟨some 10, some (.binOp .sub T_int (.tmp 9) (.const (.int .i64 64)) T_int), none⟩,
    ⟨some 11, some (.convert T_int T_uint (.tmp 10)), none⟩,
    ⟨some 12, some (.binOp .shl T_uint64 (.tmp 8) (.tmp 11) T_uint), none⟩,
    ⟨some 13, some (.build T_bv_number #[(0, (.const (.int .u64 0))), (1, (.tmp 12))]), none⟩,
    ⟨none, some (.store T_bv_number (.tmp 4) (.tmp 13)), none⟩])
  .ret)
  .skip))
  (.seq (.reg [] [⟨some 14, some (.fieldAddr T_bv_number (.tmp 2) 0), none⟩,
    ⟨some 15, some (.load T_uint64 (.tmp 14)), none⟩,
    ⟨some 16, some (.move (.tmp 1)), none⟩,
    ⟨some 17, some (.convert T_int T_uint (.tmp 16)), none⟩,
    ⟨some 18, some (.binOp .shl T_uint64 (.tmp 15) (.tmp 17) T_uint), none⟩,
    ⟨some 19, some (.fieldAddr T_bv_number (.tmp 2) 1), none⟩,
    ⟨some 20, some (.load T_uint64 (.tmp 19)), none⟩,
    ⟨some 21, some (.move (.tmp 1)), none⟩,
    ⟨some 22, some (.convert T_int T_uint (.tmp 21)), none⟩,
    ⟨some 23, some (.binOp .shl T_uint64 (.tmp 20) (.tmp 22) T_uint), none⟩,
    ⟨some 24, some (.fieldAddr T_bv_number (.tmp 2) 0), none⟩,
    ⟨some 25, some (.load T_uint64 (.tmp 24)), none⟩,
    ⟨some 26, some (.move (.tmp 1)), none⟩,
    ⟨some 27, some (.binOp .sub T_int (.const (.int .i64 64)) (.tmp 26) T_int), none⟩,
    ⟨some 28, some (.convert T_int T_uint (.tmp 27)), none⟩,
    ⟨some 29, some (.binOp .shr T_uint64 (.tmp 25) (.tmp 28) T_uint), none⟩,
    ⟨some 30, some (.binOp .or T_uint64 (.tmp 23) (.tmp 29) T_uint64), none⟩,
    ⟨some 31, some (.build T_bv_number #[(0, (.tmp 18)), (1, (.tmp 30))]), none⟩,
    ⟨none, some (.store T_bv_number (.tmp 4) (.tmp 31)), none⟩])
  .ret)))
theorem e_plait_bv_number_left {a0 a1 : AV} {H : AHeap} : R f_plait_bv_number_left [a0, a1] H = fnK Go.Proofs.Try.prog [] H [(.cell 4 T_bv_number)] (evalL Go.Proofs.Try.prog KT R c_plait_bv_number_left (Env.args [a0, a1] 0) H) :=
  runs_body (D := DT) (f := f_plait_bv_number_left) Go.Proofs.Try.func33 (by kernel_rfl) (by kernel_rfl) (by kernel_rfl) (by kernel_rfl) (by kernel_rfl) (Nat.le_of_ble_eq_true rfl)

def c_bv_mask : LCode := (.seq (.reg [] [⟨some 2, some (.alloc T_bv_number), none⟩])
  (.seq (.reg [] [⟨some 3, some (.build T_bv_number #[]), none⟩,
    ⟨some 4, some (.call ⟨(.value (.func f_plait_bv_number_not)), #[(.tmp 3)], #[T_bv_number]⟩), none⟩,
    ⟨some 5, some (.move (.tmp 0)), none⟩,
    ⟨some 6, some (.binOp .sub T_int (.const (.int .i64 128)) (.tmp 5) T_int), none⟩,
    ⟨some 7, some (.call ⟨(.value (.func f_plait_bv_number_right)), #[(.tmp 4), (.tmp 6)], #[T_bv_number, T_int]⟩), none⟩,
    ⟨none, some (.store T_bv_number (.tmp 2) (.tmp 7)), none⟩])
  .ret))
theorem e_bv_mask {a0 : AV} {H : AHeap} : R f_bv_mask [a0] H = fnK Go.Proofs.Try.prog [] H [(.cell 2 T_bv_number)] (evalL Go.Proofs.Try.prog KT R c_bv_mask (Env.args [a0] 0) H) :=
  runs_body (D := DT) (f := f_bv_mask) Go.Proofs.Try.func34 (by kernel_rfl) (by kernel_rfl) (by kernel_rfl) (by kernel_rfl) (by kernel_rfl) (Nat.le_of_ble_eq_true rfl)

def c_bv_Two : LCode := (.seq (.reg [] [⟨some 4, some (.box T_api_Bits (.tmp 1)), none⟩,
    ⟨some 5, some (.box T_api_Bits (.tmp 2)), none⟩,
    ⟨some 6, some (.alloc T_api_Bits), none⟩,
    ⟨some 7, some (.assign (.const (.int .i64 0))), none⟩])
  (.seq (.block 0 (.seq (.reg [] [⟨some 9, some (.load T_api_Bits (.tmp 4)), none⟩,
    ⟨some 10, some (.call ⟨(.value (.func f_bv_word)), #[(.tmp 9)], #[T_api_Bits]⟩), none⟩,
    ⟨some 11, some (.unOp .not T_bool (.tmp 10)), none⟩,
    ⟨some 12, some (.move (.tmp 11)), none⟩,
    ⟨some 13, some (.load T_api_Bits (.tmp 5)), some (some 12, false)⟩,
    ⟨some 14, some (.call ⟨(.value (.func f_bv_word)), #[(.tmp 13)], #[T_api_Bits]⟩), some (some 12, false)⟩,
    ⟨some 15, some (.unOp .not T_bool (.tmp 14)), some (some 12, false)⟩,
    ⟨some 16, some (.pick (.tmp 12) (.const (.bool true)) (.tmp 15)), none⟩,
    ⟨some 17, some (.move (.tmp 16)), none⟩,
    ⟨some 18, some (.fieldAddr T_api_Bits (.tmp 4) 0), some (some 17, false)⟩,
    ⟨some 19, some (.load T_int (.tmp 18)), some (some 17, false)⟩,
    ⟨some 20, some (.fieldAddr T_api_Bits (.tmp 5) 0), some (some 17, false)⟩,
    ⟨some 21, some (.load T_int (.tmp 20)), some (some 17, false)⟩,
    ⟨some 22, some (.binOp .neq T_int (.tmp 19) (.tmp 21) T_int), some (some 17, false)⟩,
    ⟨some 23, some (.pick (.tmp 17) (.const (.bool true)) (.tmp 22)), none⟩,
    ⟨some 8, some (.assign (.tmp 23)), none⟩])
  (.cond (.tmp 8) (.seq (.reg [] [⟨some 24, some (.build T_api_Bits #[]), none⟩,
    ⟨none, some (.store T_api_Bits (.tmp 6) (.tmp 24)), none⟩,
    ⟨some 7, some (.assign (.const (.int .i64 10))), none⟩])
  .ret)
  (.seq (.reg [] [⟨some 26, some (.move (.tmp 0)), none⟩,
    ⟨some 27, some (.binOp .geq T_int (.tmp 26) (.const (.int .i64 12)) T_int), none⟩,
    ⟨some 28, some (.move (.tmp 27)), none⟩,
    ⟨some 29, some (.move (.tmp 0)), some (some 28, true)⟩,
    ⟨some 30, some (.binOp .leq T_int (.tmp 29) (.const (.int .i64 17)) T_int), some (some 28, true)⟩,
    ⟨some 31, some (.pick (.tmp 28) (.tmp 30) (.const (.bool false))), none⟩,
    ⟨some 25, some (.assign (.tmp 31)), none⟩])
  (.cond (.tmp 25) (.seq (.reg [4, 6, 7] [⟨some 32, some (.fieldAddr T_api_Bits (.tmp 4) 0), none⟩,
    ⟨some 33, some (.load T_int (.tmp 32)), none⟩,
    ⟨some 34, some (.move (.tmp 0)), none⟩,
    ⟨some 35, some (.load T_api_Bits (.tmp 4)), none⟩,
    ⟨some 36, some (.call ⟨(.value (.func f_bv_of)), #[(.tmp 35)], #[T_api_Bits]⟩), none⟩,
    ⟨some 37, some (.load T_api_Bits (.tmp 5)), none⟩,
    ⟨some 38, some (.call ⟨(.value (.func f_bv_of)), #[(.tmp 37)], #[T_api_Bits]⟩), none⟩,
    ⟨some 39, some (.call ⟨(.value (.func f_bv_bitwise)), #[(.tmp 34), (.tmp 36), (.tmp 38)], #[T_int, T_bv_number, T_bv_number]⟩), none⟩,
    ⟨some 40, some (.call ⟨(.value (.func f_bv_cut)), #[(.tmp 33), (.tmp 39)], #[T_int, T_bv_number]⟩), none⟩,
    ⟨none, some (.store T_api_Bits (.tmp 6) (.tmp 40)), none⟩,
    ⟨some 7, some (.assign (.const (.int .i64 0))), none⟩])
  .ret)
  (.seq (.reg [] [⟨some 42, some (.move (.tmp 0)), none⟩,
    ⟨some 43, some (.binOp .geq T_int (.tmp 42) (.const (.int .i64 18)) T_int), none⟩,
    ⟨some 44, some (.move (.tmp 43)), none⟩,
    ⟨some 45, some (.move (.tmp 0)), some (some 44, true)⟩,
    ⟨some 46, some (.binOp .leq T_int (.tmp 45) (.const (.int .i64 25)) T_int), some (some 44, true)⟩,
    ⟨some 47, some (.pick (.tmp 44) (.tmp 46) (.const (.bool false))), none⟩,
    ⟨some 41, some (.assign (.tmp 47)), none⟩])
  (.cond (.tmp 41) (.seq (.reg [5] [⟨some 48, some (.fieldAddr T_api_Bits (.tmp 4) 0), none⟩,
    ⟨some 49, some (.load T_int (.tmp 48)), none⟩,
    ⟨some 50, some (.move (.tmp 0)), none⟩,
    ⟨some 51, some (.load T_api_Bits (.tmp 4)), none⟩,
    ⟨some 52, some (.load T_api_Bits (.tmp 5)), none⟩,
    ⟨some 53, some (.call ⟨(.value (.func f_bv_reckoned)), #[(.tmp 50), (.tmp 51), (.tmp 52)], #[T_int, T_api_Bits, T_api_Bits]⟩), none⟩,
    ⟨some 54, some (.call ⟨(.value (.func f_bv_cut)), #[(.tmp 49), (.tmp 53)], #[T_int, T_bv_number]⟩), none⟩,
    ⟨none, some (.store T_api_Bits (.tmp 6) (.tmp 54)), none⟩,
    ⟨some 7, some (.assign (.const (.int .i64 0))), none⟩])
  .ret)
  (.seq (.reg [] [⟨some 56, some (.move (.tmp 0)), none⟩,
    ⟨some 57, some (.binOp .geq T_int (.tmp 56) (.const (.int .i64 26)) T_int), none⟩,
    ⟨some 58, some (.move (.tmp 57)), none⟩,
    ⟨some 59, some (.move (.tmp 0)), some (some 58, true)⟩,
    ⟨some 60, some (.binOp .leq T_int (.tmp 59) (.const (.int .i64 28)) T_int), some (some 58, true)⟩,
    ⟨some 61, some (.pick (.tmp 58) (.tmp 60) (.const (.bool false))), none⟩,
    ⟨some 55, some (.assign (.tmp 61)), none⟩])
  (.cond (.tmp 55) (.seq (.reg [5] [⟨some 62, some (.fieldAddr T_api_Bits (.tmp 4) 0), none⟩,
    ⟨some 63, some (.load T_int (.tmp 62)), none⟩,
    ⟨some 64, some (.move (.tmp 0)), none⟩,
    ⟨some 65, some (.load T_api_Bits (.tmp 4)), none⟩,
    ⟨some 66, some (.load T_api_Bits (.tmp 5)), none⟩,
    ⟨some 67, some (.call ⟨(.value (.func f_bv_shifted)), #[(.tmp 64), (.tmp 65), (.tmp 66)], #[T_int, T_api_Bits, T_api_Bits]⟩), none⟩,
    ⟨some 68, some (.call ⟨(.value (.func f_bv_cut)), #[(.tmp 63), (.tmp 67)], #[T_int, T_bv_number]⟩), none⟩,
    ⟨none, some (.store T_api_Bits (.tmp 6) (.tmp 68)), none⟩,
    ⟨some 7, some (.assign (.const (.int .i64 0))), none⟩])
  .ret)
  (.seq (.reg [] [⟨some 70, some (.move (.tmp 0)), none⟩,
    ⟨some 71, some (.binOp .geq T_int (.tmp 70) (.const (.int .i64 29)) T_int), none⟩,
    ⟨some 72, some (.move (.tmp 71)), none⟩,
    ⟨some 73, some (.move (.tmp 0)), some (some 72, true)⟩,
    ⟨some 74, some (.binOp .leq T_int (.tmp 73) (.const (.int .i64 36)) T_int), some (some 72, true)⟩,
    ⟨some 75, some (.pick (.tmp 72) (.tmp 74) (.const (.bool false))), none⟩,
    ⟨some 69, some (.assign (.tmp 75)), none⟩])
  (.cond (.tmp 69) (.seq (.reg [] [⟨some 76, some (.move (.tmp 0)), none⟩,
    ⟨some 77, some (.load T_api_Bits (.tmp 4)), none⟩,
    ⟨some 78, some (.load T_api_Bits (.tmp 5)), none⟩,
    ⟨some 79, some (.call ⟨(.value (.func f_bv_compared)), #[(.tmp 76), (.tmp 77), (.tmp 78)], #[T_int, T_api_Bits, T_api_Bits]⟩), none⟩,
    ⟨some 80, some (.call ⟨(.value (.func f_bv_Bool)), #[(.tmp 79)], #[T_bool]⟩), none⟩,
    ⟨none, some (.store T_api_Bits (.tmp 6) (.tmp 80)), none⟩,
    ⟨some 7, some (.assign (.const (.int .i64 0))), none⟩])
  .ret)
  (.seq (.reg [] [⟨some 82, some (.move (.tmp 0)), none⟩,
    ⟨some 83, some (.binOp .eql T_int (.tmp 82) (.const (.int .i64 8)) T_int), none⟩,
    ⟨some 81, some (.assign (.tmp 83)), none⟩])
  (.cond (.tmp 81) (.seq (.reg [] [⟨some 84, some (.load T_api_Bits (.tmp 4)), none⟩,
    ⟨some 85, some (.load T_api_Bits (.tmp 5)), none⟩,
    ⟨some 86, some (.binOp .eql T_api_Bits (.tmp 84) (.tmp 85) T_api_Bits), none⟩,
    ⟨some 87, some (.call ⟨(.value (.func f_bv_Bool)), #[(.tmp 86)], #[T_bool]⟩), none⟩,
    ⟨none, some (.store T_api_Bits (.tmp 6) (.tmp 87)), none⟩,
    ⟨some 7, some (.assign (.const (.int .i64 0))), none⟩])
  .ret)
  (.seq (.reg [] [⟨some 89, some (.move (.tmp 0)), none⟩,
    ⟨some 90, some (.binOp .eql T_int (.tmp 89) (.const (.int .i64 37)) T_int), none⟩,
    ⟨some 88, some (.assign (.tmp 90)), none⟩])
  (.cond (.tmp 88) (.seq (.reg [] [⟨some 91, some (.load T_api_Bits (.tmp 4)), none⟩,
    ⟨some 92, some (.load T_api_Bits (.tmp 5)), none⟩,
    ⟨some 93, some (.binOp .eql T_api_Bits (.tmp 91) (.tmp 92) T_api_Bits), none⟩,
    ⟨some 94, some (.call ⟨(.value (.func f_bv_Bool)), #[(.tmp 93)], #[T_bool]⟩), none⟩,
    ⟨some 95, some (.field T_api_Bits (.tmp 94) 1), none⟩,
    ⟨some 96, some (.build T_bv_number #[(0, (.tmp 95))]), none⟩,
    ⟨some 97, some (.call ⟨(.value (.func f_bv_cut)), #[(.const (.int .i64 1)), (.tmp 96)], #[T_int, T_bv_number]⟩), none⟩,
    ⟨none, some (.store T_api_Bits (.tmp 6) (.tmp 97)), none⟩,
    ⟨some 7, some (.assign (.const (.int .i64 0))), none⟩])
  .ret)
  .skip)))))))))))))))
  (.seq (.reg [] [⟨some 98, some (.build T_api_Bits #[]), none⟩,
    ⟨none, some (.store T_api_Bits (.tmp 6) (.tmp 98)), none⟩,
    ⟨some 7, some (.assign (.const (.int .i64 11))), none⟩])
  .ret)))
theorem e_bv_Two {a0 a1 a2 : AV} {H : AHeap} : R f_bv_Two [a0, a1, a2] H = fnK Go.Proofs.Try.prog [] H [(.cell 6 T_api_Bits), (.tmp 7)] (evalL Go.Proofs.Try.prog KT R c_bv_Two (Env.args [a0, a1, a2] 0) H) :=
  runs_body (D := DT) (f := f_bv_Two) Go.Proofs.Try.func35 (by kernel_rfl) (by kernel_rfl) (by kernel_rfl) (by kernel_rfl) (by kernel_rfl) (Nat.le_of_ble_eq_true rfl)

def c_bv_word : LCode := (.seq (.reg [] [⟨some 1, some (.box T_api_Bits (.tmp 0)), none⟩,
    ⟨some 2, some (.assign (.const (.bool false))), none⟩])
  (.seq (.reg [] [⟨some 3, some (.fieldAddr T_api_Bits (.tmp 1) 0), none⟩,
    ⟨some 4, some (.load T_int (.tmp 3)), none⟩,
    ⟨some 5, some (.binOp .neq T_int (.tmp 4) (.const (.int .i64 0)) T_int), none⟩,
    ⟨some 6, some (.move (.tmp 5)), none⟩,
    ⟨some 7, some (.load T_api_Bits (.tmp 1)), some (some 6, true)⟩,
    ⟨some 8, some (.call ⟨(.value (.func f_bv_Right)), #[(.tmp 7)], #[T_api_Bits]⟩), some (some 6, true)⟩,
    ⟨some 9, some (.pick (.tmp 6) (.tmp 8) (.const (.bool false))), none⟩,
    ⟨some 2, some (.assign (.tmp 9)), none⟩])
  .ret))
theorem e_bv_word {a0 : AV} {H : AHeap} : R f_bv_word [a0] H = fnK Go.Proofs.Try.prog [] H [(.tmp 2)] (evalL Go.Proofs.Try.prog KT R c_bv_word (Env.args [a0] 0) H) :=
  runs_body (D := DT) (f := f_bv_word) Go.Proofs.Try.func36 (by kernel_rfl) (by kernel_rfl) (by kernel_rfl) (by kernel_rfl) (by kernel_rfl) (Nat.le_of_ble_eq_true rfl)

def c_bv_below : LCode := (.seq (.reg [] [⟨some 1, some (.box T_api_Bits (.tmp 0)), none⟩,
    ⟨some 2, some (.assign (.const (.bool false))), none⟩])
  (.seq (.reg [1] [⟨some 3, some (.load T_api_Bits (.tmp 1)), none⟩,
    ⟨some 4, some (.call ⟨(.value (.func f_bv_of)), #[(.tmp 3)], #[T_api_Bits]⟩), none⟩,
    ⟨some 5, some (.fieldAddr T_api_Bits (.tmp 1) 0), none⟩,
    ⟨some 6, some (.load T_int (.tmp 5)), none⟩,
    ⟨some 7, some (.binOp .sub T_int (.tmp 6) (.const (.int .i64 1)) T_int), none⟩,
    ⟨some 8, some (.call ⟨(.value (.func f_plait_bv_number_bit)), #[(.tmp 4), (.tmp 7)], #[T_bv_number, T_int]⟩), none⟩,
    ⟨some 2, some (.assign (.tmp 8)), none⟩])
  .ret))
theorem e_bv_below {a0 : AV} {H : AHeap} : R f_bv_below [a0] H = fnK Go.Proofs.Try.prog [] H [(.tmp 2)] (evalL Go.Proofs.Try.prog KT R c_bv_below (Env.args [a0] 0) H) :=
  runs_body (D := DT) (f := f_bv_below) Go.Proofs.Try.func37 (by kernel_rfl) (by kernel_rfl) (by kernel_rfl) (by kernel_rfl) (by kernel_rfl) (Nat.le_of_ble_eq_true rfl)

def c_plait_bv_number_not : LCode := (.seq (.reg [] [⟨some 1, some (.box T_bv_number (.tmp 0)), none⟩,
    ⟨some 2, some (.alloc T_bv_number), none⟩])
  (.seq (.reg [] [⟨some 3, some (.fieldAddr T_bv_number (.tmp 1) 0), none⟩,
    ⟨some 4, some (.load T_uint64 (.tmp 3)), none⟩,
    ⟨some 5, some (.unOp .xor T_uint64 (.tmp 4)), none⟩,
    ⟨some 6, some (.fieldAddr T_bv_number (.tmp 1) 1), none⟩,
    ⟨some 7, some (.load T_uint64 (.tmp 6)), none⟩,
    ⟨some 8, some (.unOp .xor T_uint64 (.tmp 7)), none⟩,
    ⟨some 9, some (.build T_bv_number #[(0, (.tmp 5)), (1, (.tmp 8))]), none⟩,
    ⟨none, some (.store T_bv_number (.tmp 2) (.tmp 9)), none⟩])
  .ret))
theorem e_plait_bv_number_not {a0 : AV} {H : AHeap} : R f_plait_bv_number_not [a0] H = fnK Go.Proofs.Try.prog [] H [(.cell 2 T_bv_number)] (evalL Go.Proofs.Try.prog KT R c_plait_bv_number_not (Env.args [a0] 0) H) :=
  runs_body (D := DT) (f := f_plait_bv_number_not) Go.Proofs.Try.func38 (by kernel_rfl) (by kernel_rfl) (by kernel_rfl) (by kernel_rfl) (by kernel_rfl) (Nat.le_of_ble_eq_true rfl)

def c_plait_bv_number_neg : LCode := (.seq (.reg [] [⟨some 1, some (.box T_bv_number (.tmp 0)), none⟩,
    ⟨some 2, some (.alloc T_bv_number), none⟩])
  (.seq (.reg [] [⟨some 3, some (.load T_bv_number (.tmp 1)), none⟩,
    ⟨some 4, some (.call ⟨(.value (.func f_plait_bv_number_not)), #[(.tmp 3)], #[T_bv_number]⟩), none⟩,
    ⟨some 5, some (.build T_bv_number #[(0, (.const (.int .u64 1)))]), none⟩,
    ⟨some 6, some (.call ⟨(.value (.func f_plait_bv_number_add)), #[(.tmp 4), (.tmp 5)], #[T_bv_number, T_bv_number]⟩), none⟩,
    ⟨none, some (.store T_bv_number (.tmp 2) (.tmp 6)), none⟩])
  .ret))
theorem e_plait_bv_number_neg {a0 : AV} {H : AHeap} : R f_plait_bv_number_neg [a0] H = fnK Go.Proofs.Try.prog [] H [(.cell 2 T_bv_number)] (evalL Go.Proofs.Try.prog KT R c_plait_bv_number_neg (Env.args [a0] 0) H) :=
  runs_body (D := DT) (f := f_plait_bv_number_neg) Go.Proofs.Try.func39 (by kernel_rfl) (by kernel_rfl) (by kernel_rfl) (by kernel_rfl) (by kernel_rfl) (Nat.le_of_ble_eq_true rfl)

def c_internal_stringslite_IndexByte : LCode := (.seq (.reg [] [⟨some 4, some (.assign (.const (.int .i64 0))), none⟩])
  (.seq (.reg [] [⟨some 5, some (.move (.tmp 0)), none⟩,
    ⟨some 6, some (.move (.tmp 1)), none⟩,
    ⟨some 7, some (.call ⟨(.value (.func f_internal_bytealg_IndexByteString)), #[(.tmp 5), (.tmp 6)], #[T_string, T_uint8]⟩), none⟩,
    ⟨some 4, some (.assign (.tmp 7)), none⟩])
  .ret))
theorem e_internal_stringslite_IndexByte {a0 a1 : AV} {H : AHeap} : R f_internal_stringslite_IndexByte [a0, a1] H = fnK Go.Proofs.Try.prog [] H [(.tmp 4)] (evalL Go.Proofs.Try.prog KT R c_internal_stringslite_IndexByte (Env.args [a0, a1] 0) H) :=
  runs_body (D := DT) (f := f_internal_stringslite_IndexByte) Go.Proofs.Try.func40 (by kernel_rfl) (by kernel_rfl) (by kernel_rfl) (by kernel_rfl) (by kernel_rfl) (Nat.le_of_ble_eq_true rfl)

def c_bv_bitwise : LCode := (.seq (.reg [] [⟨some 4, some (.box T_bv_number (.tmp 1)), none⟩,
    ⟨some 5, some (.box T_bv_number (.tmp 2)), none⟩,
    ⟨some 6, some (.alloc T_bv_number), none⟩])
  (.seq (.reg [] [⟨some 7, some (.assign (.const (.bool false))), none⟩])
  (.seq (.reg [] [⟨some 8, some (.alloc T_bv_number), none⟩])
  (.seq (.seq (.reg [] [⟨some 9, some (.move (.tmp 0)), none⟩])
  (.block 0 (.seq (.block 6 (.seq (.block 5 (.seq (.block 4 (.seq (.block 3 (.seq (.block 2 (.seq (.block 1 (.seq (.seq (.seq (.reg [] [⟨some 11, some (.binOp .eql T_int (.tmp 9) (.const (.int .i64 15)) T_int), none⟩,
    ⟨some 10, some (.assign (.tmp 11)), none⟩])
  (.cond (.tmp 10) (.exit 1)
  .skip))
  (.seq (.seq (.reg [] [⟨some 13, some (.binOp .eql T_int (.tmp 9) (.const (.int .i64 12)) T_int), none⟩,
    ⟨some 12, some (.assign (.tmp 13)), none⟩])
  (.cond (.tmp 12) (.exit 2)
  .skip))
  (.seq (.seq (.reg [] [⟨some 15, some (.binOp .eql T_int (.tmp 9) (.const (.int .i64 16)) T_int), none⟩,
    ⟨some 14, some (.assign (.tmp 15)), none⟩])
  (.cond (.tmp 14) (.exit 3)
  .skip))
  (.seq (.seq (.reg [] [⟨some 17, some (.binOp .eql T_int (.tmp 9) (.const (.int .i64 13)) T_int), none⟩,
    ⟨some 16, some (.assign (.tmp 17)), none⟩])
  (.cond (.tmp 16) (.exit 4)
  .skip))
  (.seq (.reg [] [⟨some 19, some (.binOp .eql T_int (.tmp 9) (.const (.int .i64 17)) T_int), none⟩,
    ⟨some 18, some (.assign (.tmp 19)), none⟩])
  (.cond (.tmp 18) (.exit 5)
  .skip))))))
  (.exit 6)))
  (.reg [] [⟨some 7, some (.assign (.const (.bool true))), none⟩])))
  (.seq (.reg [] [⟨some 20, some (.fieldAddr T_bv_number (.tmp 4) 0), none⟩,
    ⟨some 21, some (.load T_uint64 (.tmp 20)), none⟩,
    ⟨some 22, some (.fieldAddr T_bv_number (.tmp 5) 0), none⟩,
    ⟨some 23, some (.load T_uint64 (.tmp 22)), none⟩,
    ⟨some 24, some (.binOp .and T_uint64 (.tmp 21) (.tmp 23) T_uint64), none⟩,
    ⟨some 25, some (.fieldAddr T_bv_number (.tmp 4) 1), none⟩,
    ⟨some 26, some (.load T_uint64 (.tmp 25)), none⟩,
    ⟨some 27, some (.fieldAddr T_bv_number (.tmp 5) 1), none⟩,
    ⟨some 28, some (.load T_uint64 (.tmp 27)), none⟩,
    ⟨some 29, some (.binOp .and T_uint64 (.tmp 26) (.tmp 28) T_uint64), none⟩,
    ⟨some 30, some (.build T_bv_number #[(0, (.tmp 24)), (1, (.tmp 29))]), none⟩,
    ⟨none, some (.store T_bv_number (.tmp 8) (.tmp 30)), none⟩])
  (.exit 0))))
  (.reg [] [⟨some 7, some (.assign (.const (.bool true))), none⟩])))
  (.seq (.reg [] [⟨some 31, some (.fieldAddr T_bv_number (.tmp 4) 0), none⟩,
    ⟨some 32, some (.load T_uint64 (.tmp 31)), none⟩,
    ⟨some 33, some (.fieldAddr T_bv_number (.tmp 5) 0), none⟩,
    ⟨some 34, some (.load T_uint64 (.tmp 33)), none⟩,
    ⟨some 35, some (.binOp .or T_uint64 (.tmp 32) (.tmp 34) T_uint64), none⟩,
    ⟨some 36, some (.fieldAddr T_bv_number (.tmp 4) 1), none⟩,
    ⟨some 37, some (.load T_uint64 (.tmp 36)), none⟩,
    ⟨some 38, some (.fieldAddr T_bv_number (.tmp 5) 1), none⟩,
    ⟨some 39, some (.load T_uint64 (.tmp 38)), none⟩,
    ⟨some 40, some (.binOp .or T_uint64 (.tmp 37) (.tmp 39) T_uint64), none⟩,
    ⟨some 41, some (.build T_bv_number #[(0, (.tmp 35)), (1, (.tmp 40))]), none⟩,
    ⟨none, some (.store T_bv_number (.tmp 8) (.tmp 41)), none⟩])
  (.exit 0))))
  (.reg [] [⟨some 7, some (.assign (.const (.bool true))), none⟩])))
  (.seq (.reg [] [⟨some 42, some (.fieldAddr T_bv_number (.tmp 4) 0), none⟩,
    ⟨some 43, some (.load T_uint64 (.tmp 42)), none⟩,
    ⟨some 44, some (.fieldAddr T_bv_number (.tmp 5) 0), none⟩,
    ⟨some 45, some (.load T_uint64 (.tmp 44)), none⟩,
    ⟨some 46, some (.binOp .xor T_uint64 (.tmp 43) (.tmp 45) T_uint64), none⟩,
    ⟨some 47, some (.fieldAddr T_bv_number (.tmp 4) 1), none⟩,
    ⟨some 48, some (.load T_uint64 (.tmp 47)), none⟩,
    ⟨some 49, some (.fieldAddr T_bv_number (.tmp 5) 1), none⟩,
    ⟨some 50, some (.load T_uint64 (.tmp 49)), none⟩,
    ⟨some 51, some (.binOp .xor T_uint64 (.tmp 48) (.tmp 50) T_uint64), none⟩,
    ⟨some 52, some (.build T_bv_number #[(0, (.tmp 46)), (1, (.tmp 51))]), none⟩,
    ⟨none, some (.store T_bv_number (.tmp 8) (.tmp 52)), none⟩])
  (.exit 0)))))
  (.seq (.seq (.reg [] [⟨some 53, some (.move (.tmp 7)), none⟩])
  (.cond (.tmp 53) (.seq (.reg [] [⟨some 54, some (.load T_bv_number (.tmp 8)), none⟩,
    ⟨some 55, some (.call ⟨(.value (.func f_plait_bv_number_not)), #[(.tmp 54)], #[T_bv_number]⟩), none⟩,
    ⟨none, some (.store T_bv_number (.tmp 6) (.tmp 55)), none⟩])
  .ret)
  .skip))
  (.seq (.reg [] [⟨some 56, some (.load T_bv_number (.tmp 8)), none⟩,
    ⟨none, some (.store T_bv_number (.tmp 6) (.tmp 56)), none⟩])
  .ret))))))
theorem e_bv_bitwise {a0 a1 a2 : AV} {H : AHeap} : R f_bv_bitwise [a0, a1, a2] H = fnK Go.Proofs.Try.prog [] H [(.cell 6 T_bv_number)] (evalL Go.Proofs.Try.prog KT R c_bv_bitwise (Env.args [a0, a1, a2] 0) H) :=
  runs_body (D := DT) (f := f_bv_bitwise) Go.Proofs.Try.func41 (by kernel_rfl) (by kernel_rfl) (by kernel_rfl) (by kernel_rfl) (by kernel_rfl) (Nat.le_of_ble_eq_true rfl)

def c_bv_reckoned : LCode := (.seq (.reg [] [⟨some 4, some (.box T_api_Bits (.tmp 1)), none⟩,
    ⟨some 5, some (.box T_api_Bits (.tmp 2)), none⟩,
    ⟨some 6, some (.alloc T_bv_number), none⟩])
  (.seq (.reg [1, 4, 5] [⟨some 17, some (.load T_api_Bits (.tmp 4)), none⟩,
    ⟨some 18, some (.call ⟨(.value (.func f_bv_of)), #[(.tmp 17)], #[T_api_Bits]⟩), none⟩,
    ⟨some 19, some (.load T_api_Bits (.tmp 5)), none⟩,
    ⟨some 20, some (.call ⟨(.value (.func f_bv_of)), #[(.tmp 19)], #[T_api_Bits]⟩), none⟩,
    ⟨some 7, some (.alloc T_bv_number), none⟩,
    ⟨some 8, some (.alloc T_bv_number), none⟩,
    ⟨none, some (.store T_bv_number (.tmp 7) (.tmp 18)), none⟩,
    ⟨none, some (.store T_bv_number (.tmp 8) (.tmp 20)), none⟩])
  (.seq (.seq (.reg [] [⟨some 21, some (.move (.tmp 0)), none⟩])
  (.block 0 (.seq (.reg [] [⟨some 23, some (.binOp .eql T_int (.tmp 21) (.const (.int .i64 18)) T_int), none⟩,
    ⟨some 22, some (.assign (.tmp 23)), none⟩])
  (.cond (.tmp 22) (.seq (.reg [] [⟨some 24, some (.load T_bv_number (.tmp 7)), none⟩,
    ⟨some 25, some (.load T_bv_number (.tmp 8)), none⟩,
    ⟨some 26, some (.call ⟨(.value (.func f_plait_bv_number_add)), #[(.tmp 24), (.tmp 25)], #[T_bv_number, T_bv_number]⟩), none⟩,
    ⟨none, some (.store T_bv_number (.tmp 6) (.tmp 26)), none⟩])
  .ret)
  (.seq (.reg [] [⟨some 28, some (.binOp .eql T_int (.tmp 21) (.const (.int .i64 19)) T_int), none⟩,
    ⟨some 27, some (.assign (.tmp 28)), none⟩])
  (.cond (.tmp 27) (.seq (.reg [] [⟨some 29, some (.load T_bv_number (.tmp 7)), none⟩,
    ⟨some 30, some (.load T_bv_number (.tmp 8)), none⟩,
    ⟨some 31, some (.call ⟨(.value (.func f_plait_bv_number_sub)), #[(.tmp 29), (.tmp 30)], #[T_bv_number, T_bv_number]⟩), none⟩,
    ⟨none, some (.store T_bv_number (.tmp 6) (.tmp 31)), none⟩])
  .ret)
  (.seq (.reg [] [⟨some 33, some (.binOp .eql T_int (.tmp 21) (.const (.int .i64 20)) T_int), none⟩,
    ⟨some 32, some (.assign (.tmp 33)), none⟩])
  (.cond (.tmp 32) (.seq (.reg [] [⟨some 34, some (.load T_bv_number (.tmp 7)), none⟩,
    ⟨some 35, some (.load T_bv_number (.tmp 8)), none⟩,
    ⟨some 36, some (.call ⟨(.value (.func f_plait_bv_number_mul)), #[(.tmp 34), (.tmp 35)], #[T_bv_number, T_bv_number]⟩), none⟩,
    ⟨none, some (.store T_bv_number (.tmp 6) (.tmp 36)), none⟩])
  .ret)
  (.seq (.reg [] [⟨some 38, some (.binOp .eql T_int (.tmp 21) (.const (.int .i64 21)) T_int), none⟩,
    ⟨some 37, some (.assign (.tmp 38)), none⟩])
  (.cond (.tmp 37) (.seq (.reg [] [⟨some 40, some (.fieldAddr T_api_Bits (.tmp 4) 0), none⟩,
    ⟨some 41, some (.load T_int (.tmp 40)), none⟩,
    ⟨some 42, some (.load T_bv_number (.tmp 7)), none⟩,
    ⟨some 43, some (.load T_bv_number (.tmp 8)), none⟩,
    ⟨some 44, some (.call ⟨(.value (.func f_bv_divided)), #[(.tmp 41), (.tmp 42), (.tmp 43)], #[T_int, T_bv_number, T_bv_number]⟩), none⟩,
    ⟨some 39, some (.move (.tmp 44)), none⟩,
    ⟨some 45, some (.extract (.tmp 39) 0), none⟩,
    ⟨some 46, some (.extract (.tmp 39) 1), none⟩,
    ⟨some 9, some (.alloc T_bv_number), none⟩,
    ⟨some 10, some (.alloc T_bv_number), none⟩,
    ⟨none, some (.store T_bv_number (.tmp 9) (.tmp 45)), none⟩,
    ⟨none, some (.store T_bv_number (.tmp 10) (.tmp 46)), none⟩])
  (.seq (.reg [] [⟨some 47, some (.load T_bv_number (.tmp 9)), none⟩,
    ⟨none, some (.store T_bv_number (.tmp 6) (.tmp 47)), none⟩])
  .ret))
  (.seq (.reg [] [⟨some 49, some (.binOp .eql T_int (.tmp 21) (.const (.int .i64 22)) T_int), none⟩,
    ⟨some 48, some (.assign (.tmp 49)), none⟩])
  (.cond (.tmp 48) (.seq (.reg [] [⟨some 51, some (.fieldAddr T_api_Bits (.tmp 4) 0), none⟩,
    ⟨some 52, some (.load T_int (.tmp 51)), none⟩,
    ⟨some 53, some (.load T_bv_number (.tmp 7)), none⟩,
    ⟨some 54, some (.load T_bv_number (.tmp 8)), none⟩,
    ⟨some 55, some (.call ⟨(.value (.func f_bv_divided)), #[(.tmp 52), (.tmp 53), (.tmp 54)], #[T_int, T_bv_number, T_bv_number]⟩), none⟩,
    ⟨some 50, some (.move (.tmp 55)), none⟩,
    ⟨some 56, some (.extract (.tmp 50) 0), none⟩,
    ⟨some 57, some (.extract (.tmp 50) 1), none⟩,
    ⟨some 11, some (.alloc T_bv_number), none⟩,
    ⟨some 12, some (.alloc T_bv_number), none⟩,
    ⟨none, some (.store T_bv_number (.tmp 11) (.tmp 56)), none⟩,
    ⟨none, some (.store T_bv_number (.tmp 12) (.tmp 57)), none⟩])
  (.seq (.reg [] [⟨some 58, some (.load T_bv_number (.tmp 12)), none⟩,
    ⟨none, some (.store T_bv_number (.tmp 6) (.tmp 58)), none⟩])
  .ret))
  (.seq (.reg [] [⟨some 60, some (.binOp .eql T_int (.tmp 21) (.const (.int .i64 23)) T_int), none⟩,
    ⟨some 59, some (.assign (.tmp 60)), none⟩])
  (.cond (.tmp 59) (.seq (.reg [3, 5, 10, 11] [⟨some 62, some (.fieldAddr T_api_Bits (.tmp 4) 0), none⟩,
    ⟨some 63, some (.load T_int (.tmp 62)), none⟩,
    ⟨some 64, some (.load T_api_Bits (.tmp 4)), none⟩,
    ⟨some 65, some (.call ⟨(.value (.func f_bv_size)), #[(.tmp 64)], #[T_api_Bits]⟩), none⟩,
    ⟨some 66, some (.load T_api_Bits (.tmp 5)), none⟩,
    ⟨some 67, some (.call ⟨(.value (.func f_bv_size)), #[(.tmp 66)], #[T_api_Bits]⟩), none⟩,
    ⟨some 68, some (.call ⟨(.value (.func f_bv_divided)), #[(.tmp 63), (.tmp 65), (.tmp 67)], #[T_int, T_bv_number, T_bv_number]⟩), none⟩,
    ⟨some 61, some (.move (.tmp 68)), none⟩,
    ⟨some 69, some (.extract (.tmp 61) 0), none⟩,
    ⟨some 70, some (.extract (.tmp 61) 1), none⟩,
    ⟨some 13, some (.alloc T_bv_number), none⟩,
    ⟨some 14, some (.alloc T_bv_number), none⟩,
    ⟨none, some (.store T_bv_number (.tmp 13) (.tmp 69)), none⟩,
    ⟨none, some (.store T_bv_number (.tmp 14) (.tmp 70)), none⟩])
  (.seq (.reg [1, 3] [⟨some 71, some (.load T_api_Bits (.tmp 4)), none⟩,
    ⟨some 72, some (.call ⟨(.value (.func f_bv_below)), #[(.tmp 71)], #[T_api_Bits]⟩), none⟩,
    ⟨some 73, some (.load T_api_Bits (.tmp 5)), none⟩,
    ⟨some 74, some (.call ⟨(.value (.func f_bv_below)), #[(.tmp 73)], #[T_api_Bits]⟩), none⟩,
    ⟨some 75, some (.binOp .neq T_bool (.tmp 72) (.tmp 74) T_bool), none⟩,
    ⟨some 76, some (.load T_bv_number (.tmp 13)), none⟩,
    ⟨some 77, some (.call ⟨(.value (.func f_bv_turnedIf)), #[(.tmp 75), (.tmp 76)], #[T_bool, T_bv_number]⟩), none⟩,
    ⟨none, some (.store T_bv_number (.tmp 6) (.tmp 77)), none⟩])
  .ret))
  (.seq (.reg [] [⟨some 79, some (.binOp .eql T_int (.tmp 21) (.const (.int .i64 24)) T_int), none⟩,
    ⟨some 78, some (.assign (.tmp 79)), none⟩])
  (.cond (.tmp 78) (.seq (.reg [3, 5, 10, 11] [⟨some 81, some (.fieldAddr T_api_Bits (.tmp 4) 0), none⟩,
    ⟨some 82, some (.load T_int (.tmp 81)), none⟩,
    ⟨some 83, some (.load T_api_Bits (.tmp 4)), none⟩,
    ⟨some 84, some (.call ⟨(.value (.func f_bv_size)), #[(.tmp 83)], #[T_api_Bits]⟩), none⟩,
    ⟨some 85, some (.load T_api_Bits (.tmp 5)), none⟩,
    ⟨some 86, some (.call ⟨(.value (.func f_bv_size)), #[(.tmp 85)], #[T_api_Bits]⟩), none⟩,
    ⟨some 87, some (.call ⟨(.value (.func f_bv_divided)), #[(.tmp 82), (.tmp 84), (.tmp 86)], #[T_int, T_bv_number, T_bv_number]⟩), none⟩,
    ⟨some 80, some (.move (.tmp 87)), none⟩,
    ⟨some 88, some (.extract (.tmp 80) 0), none⟩,
    ⟨some 89, some (.extract (.tmp 80) 1), none⟩,
    ⟨some 15, some (.alloc T_bv_number), none⟩,
    ⟨some 16, some (.alloc T_bv_number), none⟩,
    ⟨none, some (.store T_bv_number (.tmp 15) (.tmp 88)), none⟩,
    ⟨none, some (.store T_bv_number (.tmp 16) (.tmp 89)), none⟩])
  (.seq (.reg [1] [⟨some 90, some (.load T_api_Bits (.tmp 4)), none⟩,
    ⟨some 91, some (.call ⟨(.value (.func f_bv_below)), #[(.tmp 90)], #[T_api_Bits]⟩), none⟩,
    ⟨some 92, some (.load T_bv_number (.tmp 16)), none⟩,
    ⟨some 93, some (.call ⟨(.value (.func f_bv_turnedIf)), #[(.tmp 91), (.tmp 92)], #[T_bool, T_bv_number]⟩), none⟩,
    ⟨none, some (.store T_bv_number (.tmp 6) (.tmp 93)), none⟩])
  .ret))
  .skip))))))))))))))))
  (.seq (.reg [] [⟨some 94, some (.load T_api_Bits (.tmp 4)), none⟩,
    ⟨some 95, some (.load T_api_Bits (.tmp 5)), none⟩,
    ⟨some 96, some (.call ⟨(.value (.func f_bv_smod)), #[(.tmp 94), (.tmp 95)], #[T_api_Bits, T_api_Bits]⟩), none⟩,
    ⟨none, some (.store T_bv_number (.tmp 6) (.tmp 96)), none⟩])
  .ret))))
theorem e_bv_reckoned {a0 a1 a2 : AV} {H : AHeap} : R f_bv_reckoned [a0, a1, a2] H = fnK Go.Proofs.Try.prog [] H [(.cell 6 T_bv_number)] (evalL Go.Proofs.Try.prog KT R c_bv_reckoned (Env.args [a0, a1, a2] 0) H) :=
  runs_body (D := DT) (f := f_bv_reckoned) Go.Proofs.Try.func42 (by kernel_rfl) (by kernel_rfl) (by kernel_rfl) (by kernel_rfl) (by kernel_rfl) (Nat.le_of_ble_eq_true rfl)

def c_bv_shifted : LCode := (.seq (.reg [] [⟨some 4, some (.box T_api_Bits (.tmp 1)), none⟩,
    ⟨some 5, some (.box T_api_Bits (.tmp 2)), none⟩,
    ⟨some 6, some (.alloc T_bv_number), none⟩])
  (.seq (.reg [] [⟨some 10, some (.fieldAddr T_api_Bits (.tmp 4) 0), none⟩,
    ⟨some 11, some (.load T_int (.tmp 10)), none⟩,
    ⟨some 7, some (.assign (.tmp 11)), none⟩])
  (.seq (.seq (.reg [] [⟨some 12, some (.fieldAddr T_api_Bits (.tmp 5) 2), none⟩,
    ⟨some 13, some (.load T_uint64 (.tmp 12)), none⟩,
    ⟨some 14, some (.binOp .eql T_uint64 (.tmp 13) (.const (.int .u64 0)) T_uint64), none⟩,
    ⟨some 15, some (.move (.tmp 14)), none⟩,
    ⟨some 16, some (.fieldAddr T_api_Bits (.tmp 5) 1), some (some 15, true)⟩,
    ⟨some 17, some (.load T_uint64 (.tmp 16)), some (some 15, true)⟩,
    ⟨some 18, some (.fieldAddr T_api_Bits (.tmp 4) 0), some (some 15, true)⟩,
    ⟨some 19, some (.load T_int (.tmp 18)), some (some 15, true)⟩,
    ⟨some 20, some (.convert T_int T_uint64 (.tmp 19)), some (some 15, true)⟩,
    ⟨some 21, some (.binOp .lss T_uint64 (.tmp 17) (.tmp 20) T_uint64), some (some 15, true)⟩,
    ⟨some 22, some (.pick (.tmp 15) (.tmp 21) (.const (.bool false))), none⟩])
  (.cond (.tmp 22) (.reg [] [⟨some 23, some (.fieldAddr T_api_Bits (.tmp 5) 1), none⟩,
    ⟨some 24, some (.load T_uint64 (.tmp 23)), none⟩,
    ⟨some 25, some (.convert T_uint64 T_int (.tmp 24)), none⟩,
    ⟨some 7, some (.assign (.tmp 25)), none⟩])
  .skip))
  (.seq (.seq (.reg [] [⟨some 26, some (.move (.tmp 0)), none⟩,
    ⟨some 27, some (.binOp .eql T_int (.tmp 26) (.const (.int .i64 26)) T_int), none⟩])
  (.cond (.tmp 27) (.seq (.reg [] [⟨some 28, some (.load T_api_Bits (.tmp 4)), none⟩,
    ⟨some 29, some (.call ⟨(.value (.func f_bv_of)), #[(.tmp 28)], #[T_api_Bits]⟩), none⟩,
    ⟨some 30, some (.move (.tmp 7)), none⟩,
    ⟨some 31, some (.call ⟨(.value (.func f_plait_bv_number_left)), #[(.tmp 29), (.tmp 30)], #[T_bv_number, T_int]⟩), none⟩,
    ⟨none, some (.store T_bv_number (.tmp 6) (.tmp 31)), none⟩])
  .ret)
  .skip))
  (.seq (.reg [] [⟨some 32, some (.load T_api_Bits (.tmp 4)), none⟩,
    ⟨some 33, some (.call ⟨(.value (.func f_bv_of)), #[(.tmp 32)], #[T_api_Bits]⟩), none⟩,
    ⟨some 34, some (.move (.tmp 7)), none⟩,
    ⟨some 35, some (.call ⟨(.value (.func f_plait_bv_number_right)), #[(.tmp 33), (.tmp 34)], #[T_bv_number, T_int]⟩), none⟩,
    ⟨some 8, some (.alloc T_bv_number), none⟩,
    ⟨none, some (.store T_bv_number (.tmp 8) (.tmp 35)), none⟩])
  (.seq (.seq (.reg [] [⟨some 36, some (.move (.tmp 0)), none⟩,
    ⟨some 37, some (.binOp .eql T_int (.tmp 36) (.const (.int .i64 28)) T_int), none⟩,
    ⟨some 38, some (.move (.tmp 37)), none⟩,
    ⟨some 39, some (.load T_api_Bits (.tmp 4)), some (some 38, true)⟩,
    ⟨some 40, some (.call ⟨(.value (.func f_bv_below)), #[(.tmp 39)], #[T_api_Bits]⟩), some (some 38, true)⟩,
    ⟨some 41, some (.pick (.tmp 38) (.tmp 40) (.const (.bool false))), none⟩])
  (.cond (.tmp 41) (.seq (.reg [] [⟨some 42, some (.fieldAddr T_api_Bits (.tmp 4) 0), none⟩,
    ⟨some 43, some (.load T_int (.tmp 42)), none⟩,
    ⟨some 44, some (.call ⟨(.value (.func f_bv_mask)), #[(.tmp 43)], #[T_int]⟩), none⟩,
    ⟨some 45, some (.move (.tmp 7)), none⟩,
    ⟨some 46, some (.call ⟨(.value (.func f_plait_bv_number_right)), #[(.tmp 44), (.tmp 45)], #[T_bv_number, T_int]⟩), none⟩,
    ⟨some 47, some (.call ⟨(.value (.func f_plait_bv_number_not)), #[(.tmp 46)], #[T_bv_number]⟩), none⟩,
    ⟨some 9, some (.alloc T_bv_number), none⟩,
    ⟨none, some (.store T_bv_number (.tmp 9) (.tmp 47)), none⟩])
  (.reg [] [⟨some 48, some (.fieldAddr T_bv_number (.tmp 8) 0), none⟩,
    ⟨some 49, some (.load T_uint64 (.tmp 48)), none⟩,
    ⟨some 50, some (.fieldAddr T_bv_number (.tmp 9) 0), none⟩,
    ⟨some 51, some (.load T_uint64 (.tmp 50)), none⟩,
    ⟨some 52, some (.binOp .or T_uint64 (.tmp 49) (.tmp 51) T_uint64), none⟩,
    ⟨some 53, some (.fieldAddr T_bv_number (.tmp 8) 1), none⟩,
    ⟨some 54, some (.load T_uint64 (.tmp 53)), none⟩,
    ⟨some 55, some (.fieldAddr T_bv_number (.tmp 9) 1), none⟩,
    ⟨some 56, some (.load T_uint64 (.tmp 55)), none⟩,
    ⟨some 57, some (.binOp .or T_uint64 (.tmp 54) (.tmp 56) T_uint64), none⟩,
    ⟨some 58, some (.build T_bv_number #[(0, (.tmp 52)), (1, (.tmp 57))]), none⟩,
    ⟨none, some (.store T_bv_number (.tmp 8) (.tmp 58)), none⟩]))
  .skip))
  (.seq (.reg [] [⟨some 59, some (.load T_bv_number (.tmp 8)), none⟩,
    ⟨none, some (.store T_bv_number (.tmp 6) (.tmp 59)), none⟩])
  .ret)))))))
theorem e_bv_shifted {a0 a1 a2 : AV} {H : AHeap} : R f_bv_shifted [a0, a1, a2] H = fnK Go.Proofs.Try.prog [] H [(.cell 6 T_bv_number)] (evalL Go.Proofs.Try.prog KT R c_bv_shifted (Env.args [a0, a1, a2] 0) H) :=
  runs_body (D := DT) (f := f_bv_shifted) Go.Proofs.Try.func43 (by kernel_rfl) (by kernel_rfl) (by kernel_rfl) (by kernel_rfl) (by kernel_rfl) (Nat.le_of_ble_eq_true rfl)

def c_bv_compared : LCode := (.seq (.reg [] [⟨some 4, some (.box T_api_Bits (.tmp 1)), none⟩,
    ⟨some 5, some (.box T_api_Bits (.tmp 2)), none⟩,
    ⟨some 6, some (.assign (.const (.bool false))), none⟩])
  (.seq (.reg [1, 4, 5] [⟨some 10, some (.load T_api_Bits (.tmp 4)), none⟩,
    ⟨some 11, some (.call ⟨(.value (.func f_bv_of)), #[(.tmp 10)], #[T_api_Bits]⟩), none⟩,
    ⟨some 12, some (.load T_api_Bits (.tmp 5)), none⟩,
    ⟨some 13, some (.call ⟨(.value (.func f_bv_of)), #[(.tmp 12)], #[T_api_Bits]⟩), none⟩,
    ⟨some 7, some (.alloc T_bv_number), none⟩,
    ⟨some 8, some (.alloc T_bv_number), none⟩,
    ⟨none, some (.store T_bv_number (.tmp 7) (.tmp 11)), none⟩,
    ⟨none, some (.store T_bv_number (.tmp 8) (.tmp 13)), none⟩])
  (.seq (.seq (.reg [] [⟨some 14, some (.move (.tmp 0)), none⟩])
  (.block 0 (.seq (.seq (.reg [] [⟨some 16, some (.binOp .eql T_int (.tmp 14) (.const (.int .i64 33)) T_int), none⟩,
    ⟨some 15, some (.assign (.tmp 16)), none⟩])
  (.cond (.tmp 15) .skip
  (.seq (.reg [] [⟨some 17, some (.binOp .eql T_int (.tmp 14) (.const (.int .i64 34)) T_int), none⟩,
    ⟨some 15, some (.assign (.tmp 17)), none⟩])
  (.cond (.tmp 15) .skip
  (.seq (.reg [] [⟨some 18, some (.binOp .eql T_int (.tmp 14) (.const (.int .i64 35)) T_int), none⟩,
    ⟨some 15, some (.assign (.tmp 18)), none⟩])
  (.cond (.tmp 15) .skip
  (.reg [] [⟨some 19, some (.binOp .eql T_int (.tmp 14) (.const (.int .i64 36)) T_int), none⟩,
    ⟨some 15, some (.assign (.tmp 19)), none⟩])))))))
  (.cond (.tmp 15) (.seq (.reg [] [⟨some 20, some (.build T_bv_number #[(0, (.const (.int .u64 1)))]), none⟩,
    ⟨some 21, some (.fieldAddr T_api_Bits (.tmp 4) 0), none⟩,
    ⟨some 22, some (.load T_int (.tmp 21)), none⟩,
    ⟨some 23, some (.binOp .sub T_int (.tmp 22) (.const (.int .i64 1)) T_int), none⟩,
    ⟨some 24, some (.call ⟨(.value (.func f_plait_bv_number_left)), #[(.tmp 20), (.tmp 23)], #[T_bv_number, T_int]⟩), none⟩,
    ⟨some 9, some (.alloc T_bv_number), none⟩,
    ⟨none, some (.store T_bv_number (.tmp 9) (.tmp 24)), none⟩])
  (.seq (.reg [] [⟨some 25, some (.fieldAddr T_bv_number (.tmp 7) 0), none⟩,
    ⟨some 26, some (.load T_uint64 (.tmp 25)), none⟩,
    ⟨some 27, some (.fieldAddr T_bv_number (.tmp 9) 0), none⟩,
    ⟨some 28, some (.load T_uint64 (.tmp 27)), none⟩,
    ⟨some 29, some (.binOp .xor T_uint64 (.tmp 26) (.tmp 28) T_uint64), none⟩,
    ⟨some 30, some (.fieldAddr T_bv_number (.tmp 7) 1), none⟩,
    ⟨some 31, some (.load T_uint64 (.tmp 30)), none⟩,
    ⟨some 32, some (.fieldAddr T_bv_number (.tmp 9) 1), none⟩,
    ⟨some 33, some (.load T_uint64 (.tmp 32)), none⟩,
    ⟨some 34, some (.binOp .xor T_uint64 (.tmp 31) (.tmp 33) T_uint64), none⟩,
    ⟨some 35, some (.build T_bv_number #[(0, (.tmp 29)), (1, (.tmp 34))]), none⟩,
    ⟨none, some (.store T_bv_number (.tmp 7) (.tmp 35)), none⟩])
  (.reg [] [⟨some 36, some (.fieldAddr T_bv_number (.tmp 8) 0), none⟩,
    ⟨some 37, some (.load T_uint64 (.tmp 36)), none⟩,
    ⟨some 38, some (.fieldAddr T_bv_number (.tmp 9) 0), none⟩,
    ⟨some 39, some (.load T_uint64 (.tmp 38)), none⟩,
    ⟨some 40, some (.binOp .xor T_uint64 (.tmp 37) (.tmp 39) T_uint64), none⟩,
    ⟨some 41, some (.fieldAddr T_bv_number (.tmp 8) 1), none⟩,
    ⟨some 42, some (.load T_uint64 (.tmp 41)), none⟩,
    ⟨some 43, some (.fieldAddr T_bv_number (.tmp 9) 1), none⟩,
    ⟨some 44, some (.load T_uint64 (.tmp 43)), none⟩,
    ⟨some 45, some (.binOp .xor T_uint64 (.tmp 42) (.tmp 44) T_uint64), none⟩,
    ⟨some 46, some (.build T_bv_number #[(0, (.tmp 40)), (1, (.tmp 45))]), none⟩,
    ⟨none, some (.store T_bv_number (.tmp 8) (.tmp 46)), none⟩])))
  .skip))))
  (.seq (.seq (.reg [] [⟨some 47, some (.move (.tmp 0)), none⟩])
  (.block 1 (.seq (.seq (.reg [] [⟨some 49, some (.binOp .eql T_int (.tmp 47) (.const (.int .i64 29)) T_int), none⟩,
    ⟨some 48, some (.assign (.tmp 49)), none⟩])
  (.cond (.tmp 48) .skip
  (.reg [] [⟨some 50, some (.binOp .eql T_int (.tmp 47) (.const (.int .i64 33)) T_int), none⟩,
    ⟨some 48, some (.assign (.tmp 50)), none⟩])))
  (.cond (.tmp 48) (.seq (.reg [] [⟨some 51, some (.load T_bv_number (.tmp 7)), none⟩,
    ⟨some 52, some (.load T_bv_number (.tmp 8)), none⟩,
    ⟨some 53, some (.call ⟨(.value (.func f_plait_bv_number_less)), #[(.tmp 51), (.tmp 52)], #[T_bv_number, T_bv_number]⟩), none⟩,
    ⟨some 6, some (.assign (.tmp 53)), none⟩])
  .ret)
  (.seq (.seq (.reg [] [⟨some 55, some (.binOp .eql T_int (.tmp 47) (.const (.int .i64 30)) T_int), none⟩,
    ⟨some 54, some (.assign (.tmp 55)), none⟩])
  (.cond (.tmp 54) .skip
  (.reg [] [⟨some 56, some (.binOp .eql T_int (.tmp 47) (.const (.int .i64 34)) T_int), none⟩,
    ⟨some 54, some (.assign (.tmp 56)), none⟩])))
  (.cond (.tmp 54) (.seq (.reg [] [⟨some 57, some (.load T_bv_number (.tmp 8)), none⟩,
    ⟨some 58, some (.load T_bv_number (.tmp 7)), none⟩,
    ⟨some 59, some (.call ⟨(.value (.func f_plait_bv_number_less)), #[(.tmp 57), (.tmp 58)], #[T_bv_number, T_bv_number]⟩), none⟩,
    ⟨some 60, some (.unOp .not T_bool (.tmp 59)), none⟩,
    ⟨some 6, some (.assign (.tmp 60)), none⟩])
  .ret)
  (.seq (.seq (.reg [] [⟨some 62, some (.binOp .eql T_int (.tmp 47) (.const (.int .i64 31)) T_int), none⟩,
    ⟨some 61, some (.assign (.tmp 62)), none⟩])
  (.cond (.tmp 61) .skip
  (.reg [] [⟨some 63, some (.binOp .eql T_int (.tmp 47) (.const (.int .i64 35)) T_int), none⟩,
    ⟨some 61, some (.assign (.tmp 63)), none⟩])))
  (.cond (.tmp 61) (.seq (.reg [] [⟨some 64, some (.load T_bv_number (.tmp 8)), none⟩,
    ⟨some 65, some (.load T_bv_number (.tmp 7)), none⟩,
    ⟨some 66, some (.call ⟨(.value (.func f_plait_bv_number_less)), #[(.tmp 64), (.tmp 65)], #[T_bv_number, T_bv_number]⟩), none⟩,
    ⟨some 6, some (.assign (.tmp 66)), none⟩])
  .ret)
  .skip))))))))
  (.seq (.reg [] [⟨some 67, some (.load T_bv_number (.tmp 7)), none⟩,
    ⟨some 68, some (.load T_bv_number (.tmp 8)), none⟩,
    ⟨some 69, some (.call ⟨(.value (.func f_plait_bv_number_less)), #[(.tmp 67), (.tmp 68)], #[T_bv_number, T_bv_number]⟩), none⟩,
    ⟨some 70, some (.unOp .not T_bool (.tmp 69)), none⟩,
    ⟨some 6, some (.assign (.tmp 70)), none⟩])
  .ret)))))
theorem e_bv_compared {a0 a1 a2 : AV} {H : AHeap} : R f_bv_compared [a0, a1, a2] H = fnK Go.Proofs.Try.prog [] H [(.tmp 6)] (evalL Go.Proofs.Try.prog KT R c_bv_compared (Env.args [a0, a1, a2] 0) H) :=
  runs_body (D := DT) (f := f_bv_compared) Go.Proofs.Try.func44 (by kernel_rfl) (by kernel_rfl) (by kernel_rfl) (by kernel_rfl) (by kernel_rfl) (Nat.le_of_ble_eq_true rfl)

def c_plait_bv_number_bit : LCode := (.seq (.reg [] [⟨some 2, some (.box T_bv_number (.tmp 0)), none⟩,
    ⟨some 4, some (.assign (.const (.bool false))), none⟩])
  (.seq (.reg [] [⟨some 5, some (.load T_bv_number (.tmp 2)), none⟩,
    ⟨some 6, some (.move (.tmp 1)), none⟩,
    ⟨some 7, some (.call ⟨(.value (.func f_plait_bv_number_right)), #[(.tmp 5), (.tmp 6)], #[T_bv_number, T_int]⟩), none⟩,
    ⟨some 8, some (.field T_bv_number (.tmp 7) 0), none⟩,
    ⟨some 9, some (.binOp .and T_uint64 (.tmp 8) (.const (.int .u64 1)) T_uint64), none⟩,
    ⟨some 10, some (.binOp .eql T_uint64 (.tmp 9) (.const (.int .u64 1)) T_uint64), none⟩,
    ⟨some 4, some (.assign (.tmp 10)), none⟩])
  .ret))
theorem e_plait_bv_number_bit {a0 a1 : AV} {H : AHeap} : R f_plait_bv_number_bit [a0, a1] H = fnK Go.Proofs.Try.prog [] H [(.tmp 4)] (evalL Go.Proofs.Try.prog KT R c_plait_bv_number_bit (Env.args [a0, a1] 0) H) :=
  runs_body (D := DT) (f := f_plait_bv_number_bit) Go.Proofs.Try.func45 (by kernel_rfl) (by kernel_rfl) (by kernel_rfl) (by kernel_rfl) (by kernel_rfl) (Nat.le_of_ble_eq_true rfl)

def c_plait_bv_number_add : LCode := (.seq (.reg [] [⟨some 2, some (.box T_bv_number (.tmp 0)), none⟩,
    ⟨some 3, some (.box T_bv_number (.tmp 1)), none⟩,
    ⟨some 4, some (.alloc T_bv_number), none⟩])
  (.seq (.reg [] [⟨some 10, some (.fieldAddr T_bv_number (.tmp 2) 0), none⟩,
    ⟨some 11, some (.load T_uint64 (.tmp 10)), none⟩,
    ⟨some 12, some (.fieldAddr T_bv_number (.tmp 3) 0), none⟩,
    ⟨some 13, some (.load T_uint64 (.tmp 12)), none⟩,
    ⟨some 14, some (.call ⟨(.value (.func f_math_bits_Add64)), #[(.tmp 11), (.tmp 13), (.const (.int .u64 0))], #[T_uint64, T_uint64, T_uint64]⟩), none⟩,
    ⟨some 9, some (.move (.tmp 14)), none⟩,
    ⟨some 15, some (.extract (.tmp 9) 0), none⟩,
    ⟨some 16, some (.extract (.tmp 9) 1), none⟩,
    ⟨some 5, some (.assign (.tmp 15)), none⟩,
    ⟨some 6, some (.assign (.tmp 16)), none⟩])
  (.seq (.reg [] [⟨some 18, some (.fieldAddr T_bv_number (.tmp 2) 1), none⟩,
    ⟨some 19, some (.load T_uint64 (.tmp 18)), none⟩,
    ⟨some 20, some (.fieldAddr T_bv_number (.tmp 3) 1), none⟩,
    ⟨some 21, some (.load T_uint64 (.tmp 20)), none⟩,
    ⟨some 22, some (.move (.tmp 6)), none⟩,
    ⟨some 23, some (.call ⟨(.value (.func f_math_bits_Add64)), #[(.tmp 19), (.tmp 21), (.tmp 22)], #[T_uint64, T_uint64, T_uint64]⟩), none⟩,
    ⟨some 17, some (.move (.tmp 23)), none⟩,
    ⟨some 24, some (.extract (.tmp 17) 0), none⟩,
    ⟨some 25, some (.extract (.tmp 17) 1), none⟩,
    ⟨some 7, some (.assign (.tmp 24)), none⟩,
    ⟨some 8, some (.assign (.tmp 25)), none⟩])
  (.seq (.reg [] [⟨some 26, some (.move (.tmp 5)), none⟩,
    ⟨some 27, some (.move (.tmp 7)), none⟩,
    ⟨some 28, some (.build T_bv_number #[(0, (.tmp 26)), (1, (.tmp 27))]), none⟩,
    ⟨none, some (.store T_bv_number (.tmp 4) (.tmp 28)), none⟩])
  .ret))))
theorem e_plait_bv_number_add {a0 a1 : AV} {H : AHeap} : R f_plait_bv_number_add [a0, a1] H = fnK Go.Proofs.Try.prog [] H [(.cell 4 T_bv_number)] (evalL Go.Proofs.Try.prog KT R c_plait_bv_number_add (Env.args [a0, a1] 0) H) :=
  runs_body (D := DT) (f := f_plait_bv_number_add) Go.Proofs.Try.func46 (by kernel_rfl) (by kernel_rfl) (by kernel_rfl) (by kernel_rfl) (by kernel_rfl) (Nat.le_of_ble_eq_true rfl)
theorem e_internal_bytealg_IndexByteString {s : ByteArray} {c : Int} {H : AHeap} : R f_internal_bytealg_IndexByteString [.str s, .int .u8 c] H = some (.int .i64 (firstIdx s c.toNat.toUInt8), H) :=
  runs_ext Go.Proofs.Try.func47 (by kernel_rfl) (ext_index (by kernel_rfl) (by kernel_rfl) (by kernel_rfl) (by kernel_rfl))

def c_plait_bv_number_sub : LCode := (.seq (.reg [] [⟨some 2, some (.box T_bv_number (.tmp 0)), none⟩,
    ⟨some 3, some (.box T_bv_number (.tmp 1)), none⟩,
    ⟨some 4, some (.alloc T_bv_number), none⟩])
  (.seq (.reg [2] [⟨some 5, some (.load T_bv_number (.tmp 2)), none⟩,
    ⟨some 6, some (.load T_bv_number (.tmp 3)), none⟩,
    ⟨some 7, some (.call ⟨(.value (.func f_plait_bv_number_neg)), #[(.tmp 6)], #[T_bv_number]⟩), none⟩,
    ⟨some 8, some (.call ⟨(.value (.func f_plait_bv_number_add)), #[(.tmp 5), (.tmp 7)], #[T_bv_number, T_bv_number]⟩), none⟩,
    ⟨none, some (.store T_bv_number (.tmp 4) (.tmp 8)), none⟩])
  .ret))
theorem e_plait_bv_number_sub {a0 a1 : AV} {H : AHeap} : R f_plait_bv_number_sub [a0, a1] H = fnK Go.Proofs.Try.prog [] H [(.cell 4 T_bv_number)] (evalL Go.Proofs.Try.prog KT R c_plait_bv_number_sub (Env.args [a0, a1] 0) H) :=
  runs_body (D := DT) (f := f_plait_bv_number_sub) Go.Proofs.Try.func48 (by kernel_rfl) (by kernel_rfl) (by kernel_rfl) (by kernel_rfl) (by kernel_rfl) (Nat.le_of_ble_eq_true rfl)

def c_plait_bv_number_mul : LCode := (.seq (.reg [] [⟨some 2, some (.box T_bv_number (.tmp 0)), none⟩,
    ⟨some 3, some (.box T_bv_number (.tmp 1)), none⟩,
    ⟨some 4, some (.alloc T_bv_number), none⟩])
  (.seq (.reg [] [⟨some 8, some (.fieldAddr T_bv_number (.tmp 2) 0), none⟩,
    ⟨some 9, some (.load T_uint64 (.tmp 8)), none⟩,
    ⟨some 10, some (.fieldAddr T_bv_number (.tmp 3) 0), none⟩,
    ⟨some 11, some (.load T_uint64 (.tmp 10)), none⟩,
    ⟨some 12, some (.call ⟨(.value (.func f_math_bits_Mul64)), #[(.tmp 9), (.tmp 11)], #[T_uint64, T_uint64]⟩), none⟩,
    ⟨some 7, some (.move (.tmp 12)), none⟩,
    ⟨some 13, some (.extract (.tmp 7) 0), none⟩,
    ⟨some 14, some (.extract (.tmp 7) 1), none⟩,
    ⟨some 5, some (.assign (.tmp 13)), none⟩,
    ⟨some 6, some (.assign (.tmp 14)), none⟩])
  (.seq (.reg [] [⟨some 15, some (.move (.tmp 6)), none⟩,
    ⟨some 16, some (.move (.tmp 5)), none⟩,
    ⟨some 17, some (.fieldAddr T_bv_number (.tmp 2) 1), none⟩,
    ⟨some 18, some (.load T_uint64 (.tmp 17)), none⟩,
    ⟨some 19, some (.fieldAddr T_bv_number (.tmp 3) 0), none⟩,
    ⟨some 20, some (.load T_uint64 (.tmp 19)), none⟩,
    ⟨some 21, some (.binOp .mul T_uint64 (.tmp 18) (.tmp 20) T_uint64), none⟩,
    ⟨some 22, some (.binOp .add T_uint64 (.tmp 16) (.tmp 21) T_uint64), none⟩,
    ⟨some 23, some (.fieldAddr T_bv_number (.tmp 2) 0), none⟩,
    ⟨some 24, some (.load T_uint64 (.tmp 23)), none⟩,
    ⟨some 25, some (.fieldAddr T_bv_number (.tmp 3) 1), none⟩,
    ⟨some 26, some (.load T_uint64 (.tmp 25)), none⟩,
    ⟨some 27, some (.binOp .mul T_uint64 (.tmp 24) (.tmp 26) T_uint64), none⟩,
    ⟨some 28, some (.binOp .add T_uint64 (.tmp 22) (.tmp 27) T_uint64), none⟩,
    ⟨some 29, some (.build T_bv_number #[(0, (.tmp 15)), (1, (.tmp 28))]), none⟩,
    ⟨none, some (.store T_bv_number (.tmp 4) (.tmp 29)), none⟩])
  .ret)))
theorem e_plait_bv_number_mul {a0 a1 : AV} {H : AHeap} : R f_plait_bv_number_mul [a0, a1] H = fnK Go.Proofs.Try.prog [] H [(.cell 4 T_bv_number)] (evalL Go.Proofs.Try.prog KT R c_plait_bv_number_mul (Env.args [a0, a1] 0) H) :=
  runs_body (D := DT) (f := f_plait_bv_number_mul) Go.Proofs.Try.func49 (by kernel_rfl) (by kernel_rfl) (by kernel_rfl) (by kernel_rfl) (by kernel_rfl) (Nat.le_of_ble_eq_true rfl)

def c_bv_divided : LCode := (.seq (.reg [] [⟨some 4, some (.box T_bv_number (.tmp 1)), none⟩,
    ⟨some 5, some (.box T_bv_number (.tmp 2)), none⟩,
    ⟨some 6, some (.alloc T_bv_number), none⟩,
    ⟨some 7, some (.alloc T_bv_number), none⟩])
  (.seq (.seq (.reg [] [⟨some 8, some (.load T_bv_number (.tmp 5)), none⟩,
    ⟨some 9, some (.build T_bv_number #[]), none⟩,
    ⟨some 10, some (.binOp .eql T_bv_number (.tmp 8) (.tmp 9) T_bv_number), none⟩])
  (.cond (.tmp 10) (.seq (.reg [1, 2, 3, 1006] [⟨some 11, some (.move (.tmp 0)), none⟩,
    ⟨some 12, some (.call ⟨(.value (.func f_bv_mask)), #[(.tmp 11)], #[T_int]⟩), none⟩,
    ⟨some 13, some (.load T_bv_number (.tmp 4)), none⟩,
    ⟨none, some (.store T_bv_number (.tmp 6) (.tmp 12)), none⟩,
    ⟨none, some (.store T_bv_number (.tmp 7) (.tmp 13)), none⟩])
  .ret)
  .skip))
  (.seq (.reg [] [⟨some 14, some (.load T_bv_number (.tmp 4)), none⟩,
    ⟨some 15, some (.load T_bv_number (.tmp 5)), none⟩,
    ⟨some 16, some (.call ⟨(.value (.func f_plait_bv_number_quo)), #[(.tmp 14), (.tmp 15)], #[T_bv_number, T_bv_number]⟩), none⟩,
    ⟨some 17, some (.extract (.tmp 16) 0), none⟩,
    ⟨some 18, some (.extract (.tmp 16) 1), none⟩,
    ⟨none, some (.store T_bv_number (.tmp 6) (.tmp 17)), none⟩,
    ⟨none, some (.store T_bv_number (.tmp 7) (.tmp 18)), none⟩])
  .ret)))
theorem e_bv_divided {a0 a1 a2 : AV} {H : AHeap} : R f_bv_divided [a0, a1, a2] H = fnK Go.Proofs.Try.prog [] H [(.cell 6 T_bv_number), (.cell 7 T_bv_number)] (evalL Go.Proofs.Try.prog KT R c_bv_divided (Env.args [a0, a1, a2] 0) H) :=
  runs_body (D := DT) (f := f_bv_divided) Go.Proofs.Try.func50 (by kernel_rfl) (by kernel_rfl) (by kernel_rfl) (by kernel_rfl) (by kernel_rfl) (Nat.le_of_ble_eq_true rfl)

def c_bv_size : LCode := (.seq (.reg [] [⟨some 1, some (.box T_api_Bits (.tmp 0)), none⟩,
    ⟨some 2, some (.alloc T_bv_number), none⟩])
  (.seq (.seq (.reg [] [⟨some 3, some (.load T_api_Bits (.tmp 1)), none⟩,
    ⟨some 4, some (.call ⟨(.value (.func f_bv_below)), #[(.tmp 3)], #[T_api_Bits]⟩), none⟩])
  (.cond (.tmp 4) (.seq (.reg [3, 4] [⟨some 5, some (.fieldAddr T_api_Bits (.tmp 1) 0), none⟩,
    ⟨some 6, some (.load T_int (.tmp 5)), none⟩,
    ⟨some 7, some (.load T_api_Bits (.tmp 1)), none⟩,
    ⟨some 8, some (.call ⟨(.value (.func f_bv_of)), #[(.tmp 7)], #[T_api_Bits]⟩), none⟩,
    ⟨some 9, some (.call ⟨(.value (.func f_plait_bv_number_neg)), #[(.tmp 8)], #[T_bv_number]⟩), none⟩,
    ⟨some 10, some (.call ⟨(.value (.func f_bv_cut)), #[(.tmp 6), (.tmp 9)], #[T_int, T_bv_number]⟩), none⟩,
    ⟨some 11, some (.call ⟨(.value (.func f_bv_of)), #[(.tmp 10)], #[T_api_Bits]⟩), none⟩,
    ⟨none, some (.store T_bv_number (.tmp 2) (.tmp 11)), none⟩])
  .ret)
  .skip))
  (.seq (.reg [] [⟨some 12, some (.load T_api_Bits (.tmp 1)), none⟩,
    ⟨some 13, some (.call ⟨(.value (.func f_bv_of)), #[(.tmp 12)], #[T_api_Bits]⟩), none⟩,
    ⟨none, some (.store T_bv_number (.tmp 2) (.tmp 13)), none⟩])
  .ret)))
theorem e_bv_size {a0 : AV} {H : AHeap} : R f_bv_size [a0] H = fnK Go.Proofs.Try.prog [] H [(.cell 2 T_bv_number)] (evalL Go.Proofs.Try.prog KT R c_bv_size (Env.args [a0] 0) H) :=
  runs_body (D := DT) (f := f_bv_size) Go.Proofs.Try.func51 (by kernel_rfl) (by kernel_rfl) (by kernel_rfl) (by kernel_rfl) (by kernel_rfl) (Nat.le_of_ble_eq_true rfl)

def c_bv_turnedIf : LCode := (.seq (.reg [] [⟨some 3, some (.box T_bv_number (.tmp 1)), none⟩,
    ⟨some 4, some (.alloc T_bv_number), none⟩])
  (.seq (.seq (.reg [] [⟨some 5, some (.move (.tmp 0)), none⟩])
  (.cond (.tmp 5) (.seq (.reg [] [⟨some 6, some (.load T_bv_number (.tmp 3)), none⟩,
    ⟨some 7, some (.call ⟨(.value (.func f_plait_bv_number_neg)), #[(.tmp 6)], #[T_bv_number]⟩), none⟩,
    ⟨none, some (.store T_bv_number (.tmp 4) (.tmp 7)), none⟩])
  .ret)
  .skip))
  (.seq (.reg [] [⟨some 8, some (.load T_bv_number (.tmp 3)), none⟩,
    ⟨none, some (.store T_bv_number (.tmp 4) (.tmp 8)), none⟩])
  .ret)))
theorem e_bv_turnedIf {a0 a1 : AV} {H : AHeap} : R f_bv_turnedIf [a0, a1] H = fnK Go.Proofs.Try.prog [] H [(.cell 4 T_bv_number)] (evalL Go.Proofs.Try.prog KT R c_bv_turnedIf (Env.args [a0, a1] 0) H) :=
  runs_body (D := DT) (f := f_bv_turnedIf) Go.Proofs.Try.func52 (by kernel_rfl) (by kernel_rfl) (by kernel_rfl) (by kernel_rfl) (by kernel_rfl) (Nat.le_of_ble_eq_true rfl)

def c_bv_smod : LCode := (.seq (.reg [] [⟨some 2, some (.box T_api_Bits (.tmp 0)), none⟩,
    ⟨some 3, some (.box T_api_Bits (.tmp 1)), none⟩,
    ⟨some 4, some (.alloc T_bv_number), none⟩])
  (.seq (.reg [3, 5, 10, 11] [⟨some 8, some (.fieldAddr T_api_Bits (.tmp 2) 0), none⟩,
    ⟨some 9, some (.load T_int (.tmp 8)), none⟩,
    ⟨some 10, some (.load T_api_Bits (.tmp 2)), none⟩,
    ⟨some 11, some (.call ⟨(.value (.func f_bv_size)), #[(.tmp 10)], #[T_api_Bits]⟩), none⟩,
    ⟨some 12, some (.load T_api_Bits (.tmp 3)), none⟩,
    ⟨some 13, some (.call ⟨(.value (.func f_bv_size)), #[(.tmp 12)], #[T_api_Bits]⟩), none⟩,
    ⟨some 14, some (.call ⟨(.value (.func f_bv_divided)), #[(.tmp 9), (.tmp 11), (.tmp 13)], #[T_int, T_bv_number, T_bv_number]⟩), none⟩,
    ⟨some 7, some (.move (.tmp 14)), none⟩,
    ⟨some 15, some (.extract (.tmp 7) 0), none⟩,
    ⟨some 16, some (.extract (.tmp 7) 1), none⟩,
    ⟨some 5, some (.alloc T_bv_number), none⟩,
    ⟨some 6, some (.alloc T_bv_number), none⟩,
    ⟨none, some (.store T_bv_number (.tmp 5) (.tmp 15)), none⟩,
    ⟨none, some (.store T_bv_number (.tmp 6) (.tmp 16)), none⟩])
  (.seq (.block 0 (.seq (.reg [] [⟨some 18, some (.load T_bv_number (.tmp 6)), none⟩,
    ⟨some 19, some (.build T_bv_number #[]), none⟩,
    ⟨some 20, some (.binOp .eql T_bv_number (.tmp 18) (.tmp 19) T_bv_number), none⟩,
    ⟨some 21, some (.move (.tmp 20)), none⟩,
    ⟨some 22, some (.load T_api_Bits (.tmp 2)), some (some 21, false)⟩,
    ⟨some 23, some (.call ⟨(.value (.func f_bv_below)), #[(.tmp 22)], #[T_api_Bits]⟩), some (some 21, false)⟩,
    ⟨some 24, some (.unOp .not T_bool (.tmp 23)), some (some 21, false)⟩,
    ⟨some 25, some (.move (.tmp 24)), some (some 21, false)⟩,
    ⟨some 26, some (.load T_api_Bits (.tmp 3)), some (some 25, true)⟩,
    ⟨some 27, some (.call ⟨(.value (.func f_bv_below)), #[(.tmp 26)], #[T_api_Bits]⟩), some (some 25, true)⟩,
    ⟨some 28, some (.unOp .not T_bool (.tmp 27)), some (some 25, true)⟩,
    ⟨some 29, some (.pick (.tmp 25) (.tmp 28) (.const (.bool false))), some (some 21, false)⟩,
    ⟨some 30, some (.pick (.tmp 21) (.const (.bool true)) (.tmp 29)), none⟩,
    ⟨some 17, some (.assign (.tmp 30)), none⟩])
  (.cond (.tmp 17) (.seq (.reg [] [⟨some 31, some (.load T_bv_number (.tmp 6)), none⟩,
    ⟨none, some (.store T_bv_number (.tmp 4) (.tmp 31)), none⟩])
  .ret)
  (.seq (.reg [] [⟨some 33, some (.load T_api_Bits (.tmp 3)), none⟩,
    ⟨some 34, some (.call ⟨(.value (.func f_bv_below)), #[(.tmp 33)], #[T_api_Bits]⟩), none⟩,
    ⟨some 35, some (.unOp .not T_bool (.tmp 34)), none⟩,
    ⟨some 32, some (.assign (.tmp 35)), none⟩])
  (.cond (.tmp 32) (.seq (.reg [1] [⟨some 36, some (.load T_api_Bits (.tmp 3)), none⟩,
    ⟨some 37, some (.call ⟨(.value (.func f_bv_of)), #[(.tmp 36)], #[T_api_Bits]⟩), none⟩,
    ⟨some 38, some (.load T_bv_number (.tmp 6)), none⟩,
    ⟨some 39, some (.call ⟨(.value (.func f_plait_bv_number_sub)), #[(.tmp 37), (.tmp 38)], #[T_bv_number, T_bv_number]⟩), none⟩,
    ⟨none, some (.store T_bv_number (.tmp 4) (.tmp 39)), none⟩])
  .ret)
  (.seq (.reg [] [⟨some 41, some (.load T_api_Bits (.tmp 2)), none⟩,
    ⟨some 42, some (.call ⟨(.value (.func f_bv_below)), #[(.tmp 41)], #[T_api_Bits]⟩), none⟩,
    ⟨some 43, some (.unOp .not T_bool (.tmp 42)), none⟩,
    ⟨some 40, some (.assign (.tmp 43)), none⟩])
  (.cond (.tmp 40) (.seq (.reg [2] [⟨some 44, some (.load T_bv_number (.tmp 6)), none⟩,
    ⟨some 45, some (.load T_api_Bits (.tmp 3)), none⟩,
    ⟨some 46, some (.call ⟨(.value (.func f_bv_of)), #[(.tmp 45)], #[T_api_Bits]⟩), none⟩,
    ⟨some 47, some (.call ⟨(.value (.func f_plait_bv_number_add)), #[(.tmp 44), (.tmp 46)], #[T_bv_number, T_bv_number]⟩), none⟩,
    ⟨none, some (.store T_bv_number (.tmp 4) (.tmp 47)), none⟩])
  .ret)
  .skip)))))))
  (.seq (.reg [] [⟨some 48, some (.load T_bv_number (.tmp 6)), none⟩,
    ⟨some 49, some (.call ⟨(.value (.func f_plait_bv_number_neg)), #[(.tmp 48)], #[T_bv_number]⟩), none⟩,
    ⟨none, some (.store T_bv_number (.tmp 4) (.tmp 49)), none⟩])
  .ret))))
theorem e_bv_smod {a0 a1 : AV} {H : AHeap} : R f_bv_smod [a0, a1] H = fnK Go.Proofs.Try.prog [] H [(.cell 4 T_bv_number)] (evalL Go.Proofs.Try.prog KT R c_bv_smod (Env.args [a0, a1] 0) H) :=
  runs_body (D := DT) (f := f_bv_smod) Go.Proofs.Try.func53 (by kernel_rfl) (by kernel_rfl) (by kernel_rfl) (by kernel_rfl) (by kernel_rfl) (Nat.le_of_ble_eq_true rfl)

def c_plait_bv_number_less : LCode := (.seq (.reg [] [⟨some 2, some (.box T_bv_number (.tmp 0)), none⟩,
    ⟨some 3, some (.box T_bv_number (.tmp 1)), none⟩,
    ⟨some 4, some (.assign (.const (.bool false))), none⟩])
  (.seq (.reg [] [⟨some 5, some (.fieldAddr T_bv_number (.tmp 2) 1), none⟩,
    ⟨some 6, some (.load T_uint64 (.tmp 5)), none⟩,
    ⟨some 7, some (.fieldAddr T_bv_number (.tmp 3) 1), none⟩,
    ⟨some 8, some (.load T_uint64 (.tmp 7)), none⟩,
    ⟨some 9, some (.binOp .lss T_uint64 (.tmp 6) (.tmp 8) T_uint64), none⟩,
    ⟨some 10, some (.move (.tmp 9)), none⟩,
    ⟨some 11, some (.fieldAddr T_bv_number (.tmp 2) 1), some (some 10, false)⟩,
    ⟨some 12, some (.load T_uint64 (.tmp 11)), some (some 10, false)⟩,
    ⟨some 13, some (.fieldAddr T_bv_number (.tmp 3) 1), some (some 10, false)⟩,
    ⟨some 14, some (.load T_uint64 (.tmp 13)), some (some 10, false)⟩,
    ⟨some 15, some (.binOp .eql T_uint64 (.tmp 12) (.tmp 14) T_uint64), some (some 10, false)⟩,
    ⟨some 16, some (.move (.tmp 15)), some (some 10, false)⟩,
    ⟨some 17, some (.fieldAddr T_bv_number (.tmp 2) 0), some (some 16, true)⟩,
    ⟨some 18, some (.load T_uint64 (.tmp 17)), some (some 16, true)⟩,
    ⟨some 19, some (.fieldAddr T_bv_number (.tmp 3) 0), some (some 16, true)⟩,
    ⟨some 20, some (.load T_uint64 (.tmp 19)), some (some 16, true)⟩,
    ⟨some 21, some (.binOp .lss T_uint64 (.tmp 18) (.tmp 20) T_uint64), some (some 16, true)⟩,
    ⟨some 22, some (.pick (.tmp 16) (.tmp 21) (.const (.bool false))), some (some 10, false)⟩,
    ⟨some 23, some (.pick (.tmp 10) (.const (.bool true)) (.tmp 22)), none⟩,
    ⟨some 4, some (.assign (.tmp 23)), none⟩])
  .ret))
theorem e_plait_bv_number_less {a0 a1 : AV} {H : AHeap} : R f_plait_bv_number_less [a0, a1] H = fnK Go.Proofs.Try.prog [] H [(.tmp 4)] (evalL Go.Proofs.Try.prog KT R c_plait_bv_number_less (Env.args [a0, a1] 0) H) :=
  runs_body (D := DT) (f := f_plait_bv_number_less) Go.Proofs.Try.func54 (by kernel_rfl) (by kernel_rfl) (by kernel_rfl) (by kernel_rfl) (by kernel_rfl) (Nat.le_of_ble_eq_true rfl)
theorem e_math_bits_Add64 {x y c : BitVec 64} (hc : c.toNat ≤ 1) {H : AHeap} : R f_math_bits_Add64 [u x, u y, u c] H = some (.tup [.int .u64 (((x.toNat : Int) + y.toNat + c.toNat) % 18446744073709551616), .int .u64 (((x.toNat : Int) + y.toNat + c.toNat) / 18446744073709551616)], H) :=
  runs_ext Go.Proofs.Try.func55 (by kernel_rfl) (ext_add64 (by kernel_rfl) (by kernel_rfl) (by kernel_rfl) (by kernel_rfl) (by omega) (by omega) (by omega) (by omega))

def c_math_bits_Mul64 : LCode := (.seq (.reg [] [⟨some 4, some (.assign (.const (.int .u64 0))), none⟩,
    ⟨some 5, some (.assign (.const (.int .u64 0))), none⟩])
  (.seq (.reg [] [⟨some 14, some (.move (.tmp 0)), none⟩,
    ⟨some 15, some (.binOp .and T_uint64 (.tmp 14) (.const (.int .u64 4294967295)) T_uint64), none⟩,
    ⟨some 6, some (.assign (.tmp 15)), none⟩])
  (.seq (.reg [] [⟨some 16, some (.move (.tmp 0)), none⟩,
    ⟨some 17, some (.binOp .shr T_uint64 (.tmp 16) (.const (.int .u64 32)) T_uint), none⟩,
    ⟨some 7, some (.assign (.tmp 17)), none⟩])
  (.seq (.reg [] [⟨some 18, some (.move (.tmp 1)), none⟩,
    ⟨some 19, some (.binOp .and T_uint64 (.tmp 18) (.const (.int .u64 4294967295)) T_uint64), none⟩,
    ⟨some 8, some (.assign (.tmp 19)), none⟩])
  (.seq (.reg [] [⟨some 20, some (.move (.tmp 1)), none⟩,
    ⟨some 21, some (.binOp .shr T_uint64 (.tmp 20) (.const (.int .u64 32)) T_uint), none⟩,
    ⟨some 9, some (.assign (.tmp 21)), none⟩])
  (.seq (.reg [] [⟨some 22, some (.move (.tmp 6)), none⟩,
    ⟨some 23, some (.move (.tmp 8)), none⟩,
    ⟨some 24, some (.binOp .mul T_uint64 (.tmp 22) (.tmp 23) T_uint64), none⟩,
    ⟨some 10, some (.assign (.tmp 24)), none⟩])
  (.seq (.reg [] [⟨some 25, some (.move (.tmp 7)), none⟩,
    ⟨some 26, some (.move (.tmp 8)), none⟩,
    ⟨some 27, some (.binOp .mul T_uint64 (.tmp 25) (.tmp 26) T_uint64), none⟩,
    ⟨some 28, some (.move (.tmp 10)), none⟩,
    ⟨some 29, some (.binOp .shr T_uint64 (.tmp 28) (.const (.int .u64 32)) T_uint), none⟩,
    ⟨some 30, some (.binOp .add T_uint64 (.tmp 27) (.tmp 29) T_uint64), none⟩,
    ⟨some 11, some (.assign (.tmp 30)), none⟩])
  (.seq (.reg [] [⟨some 31, some (.move (.tmp 11)), none⟩,
    ⟨some 32, some (.binOp .and T_uint64 (.tmp 31) (.const (.int .u64 4294967295)) T_uint64), none⟩,
    ⟨some 12, some (.assign (.tmp 32)), none⟩])
  (.seq (.reg [] [⟨some 33, some (.move (.tmp 11)), none⟩,
    ⟨some 34, some (.binOp .shr T_uint64 (.tmp 33) (.const (.int .u64 32)) T_uint), none⟩,
    ⟨some 13, some (.assign (.tmp 34)), none⟩])
  (.seq (.reg [] [⟨some 35, some (.move (.tmp 12)), none⟩,
    ⟨some 36, some (.move (.tmp 6)), none⟩,
    ⟨some 37, some (.move (.tmp 9)), none⟩,
    ⟨some 38, some (.binOp .mul T_uint64 (.tmp 36) (.tmp 37) T_uint64), none⟩,
    ⟨some 39, some (.binOp .add T_uint64 (.tmp 35) (.tmp 38) T_uint64), none⟩,
    ⟨some 12, some (.assign (.tmp 39)), none⟩])
  (.seq (.reg [] [⟨some 40, some (.move (.tmp 7)), none⟩,
    ⟨some 41, some (.move (.tmp 9)), none⟩,
    ⟨some 42, some (.binOp .mul T_uint64 (.tmp 40) (.tmp 41) T_uint64), none⟩,
    ⟨some 43, some (.move (.tmp 13)), none⟩,
    ⟨some 44, some (.binOp .add T_uint64 (.tmp 42) (.tmp 43) T_uint64), none⟩,
    ⟨some 45, some (.move (.tmp 12)), none⟩,
    ⟨some 46, some (.binOp .shr T_uint64 (.tmp 45) (.const (.int .u64 32)) T_uint), none⟩,
    ⟨some 47, some (.binOp .add T_uint64 (.tmp 44) (.tmp 46) T_uint64), none⟩,
    ⟨some 4, some (.assign (.tmp 47)), none⟩])
  (.seq (.reg [] [⟨some 48, some (.move (.tmp 0)), none⟩,
    ⟨some 49, some (.move (.tmp 1)), none⟩,
    ⟨some 50, some (.binOp .mul T_uint64 (.tmp 48) (.tmp 49) T_uint64), none⟩,
    ⟨some 5, some (.assign (.tmp 50)), none⟩])
  .ret))))))))))))
theorem e_math_bits_Mul64 {a0 a1 : AV} {H : AHeap} : R f_math_bits_Mul64 [a0, a1] H = fnK Go.Proofs.Try.prog [] H [(.tmp 4), (.tmp 5)] (evalL Go.Proofs.Try.prog KT R c_math_bits_Mul64 (Env.args [a0, a1] 0) H) :=
  runs_body (D := DT) (f := f_math_bits_Mul64) Go.Proofs.Try.func56 (by kernel_rfl) (by kernel_rfl) (by kernel_rfl) (by kernel_rfl) (by kernel_rfl) (Nat.le_of_ble_eq_true rfl)

def l_plait_bv_number_quo_0 : LCode := (.seq (.seq (.reg [] [⟨some 8, some (.move (.tmp 6)), none⟩,
    ⟨some 9, some (.binOp .geq T_int (.tmp 8) (.const (.int .i64 0)) T_int), none⟩])
  (.cond (.tmp 9) .skip
  (.exit 0)))
  (.seq (.block 1 (.seq (.reg [] [⟨some 12, some (.load T_bv_number (.tmp 5)), none⟩,
    ⟨some 13, some (.call ⟨(.value (.func f_plait_bv_number_bit)), #[(.tmp 12), (.const (.int .i64 127))], #[T_bv_number, T_int]⟩), none⟩,
    ⟨some 7, some (.assign (.tmp 13)), none⟩])
  (.seq (.reg [] [⟨some 14, some (.load T_bv_number (.tmp 5)), none⟩,
    ⟨some 15, some (.call ⟨(.value (.func f_plait_bv_number_left)), #[(.tmp 14), (.const (.int .i64 1))], #[T_bv_number, T_int]⟩), none⟩,
    ⟨none, some (.store T_bv_number (.tmp 5) (.tmp 15)), none⟩])
  (.seq (.seq (.reg [] [⟨some 16, some (.load T_bv_number (.tmp 2)), none⟩,
    ⟨some 17, some (.move (.tmp 6)), none⟩,
    ⟨some 18, some (.call ⟨(.value (.func f_plait_bv_number_bit)), #[(.tmp 16), (.tmp 17)], #[T_bv_number, T_int]⟩), none⟩])
  (.cond (.tmp 18) (.reg [] [⟨some 19, some (.fieldAddr T_bv_number (.tmp 5) 0), none⟩,
    ⟨some 20, some (.load T_uint64 (.tmp 19)), none⟩,
    ⟨some 21, some (.binOp .or T_uint64 (.tmp 20) (.const (.int .u64 1)) T_uint64), none⟩,
    ⟨some 22, some (.fieldAddr T_bv_number (.tmp 5) 0), none⟩,
    ⟨none, some (.store T_uint64 (.tmp 22) (.tmp 21)), none⟩])
  .skip))
  (.seq (.reg [] [⟨some 23, some (.move (.tmp 7)), none⟩,
    ⟨some 24, some (.move (.tmp 23)), none⟩,
    ⟨some 25, some (.load T_bv_number (.tmp 5)), some (some 24, false)⟩,
    ⟨some 26, some (.load T_bv_number (.tmp 3)), some (some 24, false)⟩,
    ⟨some 27, some (.call ⟨(.value (.func f_plait_bv_number_less)), #[(.tmp 25), (.tmp 26)], #[T_bv_number, T_bv_number]⟩), some (some 24, false)⟩,
    ⟨some 28, some (.unOp .not T_bool (.tmp 27)), some (some 24, false)⟩,
    ⟨some 29, some (.pick (.tmp 24) (.const (.bool true)) (.tmp 28)), none⟩])
  (.cond (.tmp 29) (.seq (.reg [] [⟨some 30, some (.load T_bv_number (.tmp 5)), none⟩,
    ⟨some 31, some (.load T_bv_number (.tmp 3)), none⟩,
    ⟨some 32, some (.call ⟨(.value (.func f_plait_bv_number_sub)), #[(.tmp 30), (.tmp 31)], #[T_bv_number, T_bv_number]⟩), none⟩,
    ⟨none, some (.store T_bv_number (.tmp 5) (.tmp 32)), none⟩])
  (.reg [3] [⟨some 33, some (.load T_bv_number (.tmp 4)), none⟩,
    ⟨some 34, some (.build T_bv_number #[(0, (.const (.int .u64 1)))]), none⟩,
    ⟨some 35, some (.move (.tmp 6)), none⟩,
    ⟨some 36, some (.call ⟨(.value (.func f_plait_bv_number_left)), #[(.tmp 34), (.tmp 35)], #[T_bv_number, T_int]⟩), none⟩,
    ⟨some 37, some (.call ⟨(.value (.func f_plait_bv_number_add)), #[(.tmp 33), (.tmp 36)], #[T_bv_number, T_bv_number]⟩), none⟩,
    ⟨none, some (.store T_bv_number (.tmp 4) (.tmp 37)), none⟩]))
  .skip))))))
  (.reg [] [⟨some 10, some (.move (.tmp 6)), none⟩,
    ⟨some 11, some (.binOp .sub T_int (.tmp 10) (.const (.int .i64 1)) T_int), none⟩,
    ⟨some 6, some (.assign (.tmp 11)), none⟩])))
@[simp] theorem d_l_plait_bv_number_quo_0 : defs l_plait_bv_number_quo_0 = [8, 9, 12, 13, 7, 14, 15, 16, 17, 18, 19, 20, 21, 22, 23, 24, 25, 26, 27, 28, 29, 30, 31, 32, 33, 34, 35, 36, 37, 10, 11, 6] := by rfl
def c_plait_bv_number_quo : LCode := (.seq (.reg [] [⟨some 2, some (.box T_bv_number (.tmp 0)), none⟩,
    ⟨some 3, some (.box T_bv_number (.tmp 1)), none⟩,
    ⟨some 4, some (.alloc T_bv_number), none⟩,
    ⟨some 5, some (.alloc T_bv_number), none⟩])
  (.seq (.seq (.reg [] [⟨some 6, some (.assign (.const (.int .i64 127))), none⟩])
  (.block 0 (.loop l_plait_bv_number_quo_0)))
  (.seq (.reg [1, 2, 999, 1005] [⟨some 38, some (.load T_bv_number (.tmp 4)), none⟩,
    ⟨some 39, some (.load T_bv_number (.tmp 5)), none⟩,
    ⟨none, some (.store T_bv_number (.tmp 4) (.tmp 38)), none⟩,
    ⟨none, some (.store T_bv_number (.tmp 5) (.tmp 39)), none⟩])
  .ret)))
theorem e_plait_bv_number_quo {a0 a1 : AV} {H : AHeap} : R f_plait_bv_number_quo [a0, a1] H = fnK Go.Proofs.Try.prog [] H [(.cell 4 T_bv_number), (.cell 5 T_bv_number)] (evalL Go.Proofs.Try.prog KT R c_plait_bv_number_quo (Env.args [a0, a1] 0) H) :=
  runs_body (D := DT) (f := f_plait_bv_number_quo) Go.Proofs.Try.func57 (by kernel_rfl) (by kernel_rfl) (by kernel_rfl) (by kernel_rfl) (by kernel_rfl) (Nat.le_of_ble_eq_true rfl)

end Go.Proofs.Ytghjglnebcpcmaa
