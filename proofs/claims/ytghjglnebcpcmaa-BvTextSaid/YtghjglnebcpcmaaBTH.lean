/- Values as texts: the document's digit and Text. -/
import Derived.Test.YtghjglnebcpcmaaBTG
import Derived.Test.YtghjglnebcpcmaaBRR
namespace Go.Proofs.Ytghjglnebcpcmaa
set_option maxRecDepth 100000
set_option maxHeartbeats 4000000

theorem digit_run {c : UInt8} {H : AHeap} : R f_plaitref1_digit [.int .u8 (c.toNat : Int)] H = some (.int .i64 (dvN c), H) := by
  have hc := c.toNat_lt
  obtain ⟨k, hk⟩ : ∃ k : Int, k = (c.toNat : Int) := ⟨_, rfl⟩
  rw [← hk, e_plaitref1_digit]
  have wu : ∀ m : Int, 0 ≤ m → m < 256 → IntKind.u8.wrap m = m := fun m h1 h2 => by
    simp [IntKind.wrap, IntKind.bits, IntKind.signed]
    omega
  by_cases h1 : 48 ≤ k ∧ k ≤ 57
  · have hd : (dvN c : Int) = k - 48 := by unfold dvN; rw [if_pos (by omega)]; omega
    have w1 := wu (k - 48) (by omega) (by omega)
    have w2 : IntKind.i64.wrap (k - 48) = k - 48 := i64w (by omega) (by omega)
    simp (maxDischargeDepth := 40) [c_plaitref1_digit, h1.1, h1.2, w1, w2, hd]
  have n1 : (¬ 48 ≤ k) ∨ (48 ≤ k ∧ ¬ k ≤ 57) := by omega
  by_cases h2 : 97 ≤ k ∧ k ≤ 102
  · have hd : (dvN c : Int) = k - 97 + 10 := by unfold dvN; rw [if_neg (by omega), if_pos (by omega)]; omega
    have w1 := wu (k - 97) (by omega) (by omega)
    have w2 : IntKind.i64.wrap (k - 97) = k - 97 := i64w (by omega) (by omega)
    have w3 : IntKind.i64.wrap (k - 97 + 10) = k - 97 + 10 := i64w (by omega) (by omega)
    have n1' : ¬ k ≤ 57 := by omega
    have n0 : 48 ≤ k := by omega
    simp (maxDischargeDepth := 40) [c_plaitref1_digit, n0, n1', h2.1, h2.2, w1, w2, w3, hd]
  by_cases h3 : 65 ≤ k ∧ k ≤ 70
  · have hd : (dvN c : Int) = k - 65 + 10 := by unfold dvN; rw [if_neg (by omega), if_neg (by omega), if_pos (by omega)]; omega
    have w1 := wu (k - 65) (by omega) (by omega)
    have w2 : IntKind.i64.wrap (k - 65) = k - 65 := i64w (by omega) (by omega)
    have w3 : IntKind.i64.wrap (k - 65 + 10) = k - 65 + 10 := i64w (by omega) (by omega)
    have n1' : ¬ k ≤ 57 := by omega
    have n0 : 48 ≤ k := by omega
    have n2 : ¬ 97 ≤ k := by omega
    simp (maxDischargeDepth := 40) [c_plaitref1_digit, n0, n1', n2, h3.1, h3.2, w1, w2, w3, hd]
  · have hd : (dvN c : Int) = 16 := by unfold dvN; rw [if_neg (by omega), if_neg (by omega), if_neg (by omega)]; rfl
    have n2 : (¬ 97 ≤ k) ∨ (97 ≤ k ∧ ¬ k ≤ 102) := by omega
    have n3 : (¬ 65 ≤ k) ∨ (65 ≤ k ∧ ¬ k ≤ 70) := by omega
    clear hk hc wu h1 h2 h3
    rcases n1 with a | ⟨a, a'⟩ <;> rcases n2 with b | ⟨b, b'⟩ <;> rcases n3 with d | ⟨d, d'⟩
    all_goals simp (maxDischargeDepth := 40) [c_plaitref1_digit, *]
theorem cat_one (ns : List Int) : pushN ns ++ ⟨#[49]⟩ = pushN (ns ++ [49]) ∧ pushN ns ++ ⟨#[48]⟩ = pushN (ns ++ [48]) := by
  constructor <;> apply bts_inj <;> rw [bts_add, bts_pushN, bts_pushN, List.map_append] <;> rfl
end Go.Proofs.Ytghjglnebcpcmaa
