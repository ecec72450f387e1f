/- Values as texts: the solver's Parse and Text. -/
import Derived.Test.YtghjglnebcpcmaaBTE
namespace Go.Proofs.Ytghjglnebcpcmaa
set_option maxRecDepth 100000
set_option maxHeartbeats 4000000

theorem prefix_short {s p : ByteArray} (h1 : s.size < p.size) {H : AHeap} : R f_strings_HasPrefix [.str s, .str p] H = some (.bool false, H) := by
  have g : R f_internal_stringslite_HasPrefix [.str s, .str p] H = some (.bool false, H) := by
    rw [e_internal_stringslite_HasPrefix]
    have c2 : ¬ (p.size : Int) ≤ s.size := by omega
    simp (maxDischargeDepth := 40) [c_internal_stringslite_HasPrefix, eq_false c2]
  rw [e_strings_HasPrefix]
  simp [c_strings_HasPrefix, g]
theorem prefix_two {s : ByteArray} {a b x y : UInt8} {l : List UInt8} (hb : bts s = a :: b :: l) {H : AHeap} : R f_strings_HasPrefix [.str s, .str ⟨#[x, y]⟩] H = some (.bool (decide (a = x ∧ b = y)), H) := by
  have hl := bts_len s
  rw [hb] at hl
  simp at hl
  refine prefix_ex (p := ⟨#[x, y]⟩) (by show 2 ≤ s.size; omega) ?_ (by show 2 ≤ 100; omega)
  have hcut : bts (s.extract 0 2) = [a, b] := by rw [bts_cut, hb]; rfl
  have : (s.extract 0 2 = (⟨#[x, y]⟩ : ByteArray)) ↔ (a = x ∧ b = y) := by
    constructor
    · intro h
      rw [h] at hcut
      have h2 : [x, y] = [a, b] := hcut
      simp at h2
      exact ⟨h2.1.symm, h2.2.symm⟩
    · rintro ⟨rfl, rfl⟩
      exact bts_inj hcut
  show decide (s.extract 0 2 = (⟨#[x, y]⟩ : ByteArray)) = _
  exact decide_eq_decide.2 this
/-- What Parse tells. -/
def parV (o : Option (Nat × W128)) : AV := .tup [(o.map fun p => Bt p.1 p.2).getD (Bt 0 0#128), .int .i64 (if o.isSome = true then 0 else 13)]
theorem parse_run {H : AHeap} {s : ByteArray} (hs : s.size ≤ 1000) : R f_bv_Parse [.str s] H = some (parV (parseF s), H) := by
  generalize h : R f_bv_Parse [.str s] H = r
  rw [e_bv_Parse] at h
  have hl := bts_len s
  by_cases c1 : s = pT
  · have hp : parseF s = some (0, 1#128) := by unfold parseF; rw [if_pos c1]
    rw [hp]
    simp (maxDischargeDepth := 40) [c_bv_Parse, eq_true (show s = ⟨#[116, 114, 117, 101]⟩ from c1), Bt] at h
    rw [← h]
    simp [parV, Bt]
  by_cases c2 : s = pF
  · have hp : parseF s = some (0, 0#128) := by unfold parseF; rw [if_neg c1, if_pos c2]
    rw [hp]
    simp (maxDischargeDepth := 40) [c_bv_Parse, eq_false (show ¬ s = ⟨#[116, 114, 117, 101]⟩ from c1), eq_true (show s = ⟨#[102, 97, 108, 115, 101]⟩ from c2), Bt] at h
    rw [← h]
    simp [parV, Bt]
  have hp : parseF s = formF (bts s) := by unfold parseF; rw [if_neg c1, if_neg c2]
  rw [hp]
  have d1 := eq_false (show ¬ s = ⟨#[116, 114, 117, 101]⟩ from c1)
  have d2 := eq_false (show ¬ s = ⟨#[102, 97, 108, 115, 101]⟩ from c2)
  cases hb : bts s with
  | nil =>
    rw [hb] at hl
    have p1 := fun H => prefix_short (s := s) (p := ⟨#[35, 98]⟩) (by rw [← hl]; decide) (H := H)
    have p2 := fun H => prefix_short (s := s) (p := ⟨#[35, 120]⟩) (by rw [← hl]; decide) (H := H)
    simp (maxDischargeDepth := 40) [c_bv_Parse, d1, d2, p1, p2] at h
    rw [← h]
    simp [parV, Bt, formF]
  | cons a l =>
    cases l with
    | nil =>
      rw [hb] at hl
      have p1 := fun H => prefix_short (s := s) (p := ⟨#[35, 98]⟩) (by rw [← hl]; show 1 < 2; omega) (H := H)
      have p2 := fun H => prefix_short (s := s) (p := ⟨#[35, 120]⟩) (by rw [← hl]; show 1 < 2; omega) (H := H)
      simp (maxDischargeDepth := 40) [c_bv_Parse, d1, d2, p1, p2] at h
      rw [← h]
      simp [parV, Bt, formF]
    | cons b l =>
      have p1 := fun H => prefix_two (x := 35) (y := 98) hb (H := H)
      have p2 := fun H => prefix_two (x := 35) (y := 120) hb (H := H)
      have hbl : bts (s.extract 2 s.size) = l := by
        rw [bts_cut, hb]
        rw [hb] at hl
        simp at hl
        simp only [List.drop_succ_cons, List.drop_zero]
        exact List.take_of_length_le (by omega)
      have hsl : (s.extract 2 s.size).size ≤ 1000 := by
        rw [← bts_len, hbl]
        rw [hb] at hl
        simp at hl
        omega
      have g1 := fun H => digits_run (e := 1) (.inl rfl) hsl (H := H)
      have g4 := fun H => digits_run (e := 4) (.inr rfl) hsl (H := H)
      rw [hbl] at g1 g4
      simp only [show ((1 : Nat) : Int) = 1 from rfl, show ((4 : Nat) : Int) = 4 from rfl, Bt] at g1 g4
      have hl2 := hl
      rw [hb] at hl2
      simp at hl2
      have s2 : (2 : Int) ≤ s.size := by omega
      have fF : formF (a :: b :: l) = if a = 35 ∧ b = 98 then digitsF 1 l else if a = 35 ∧ b = 120 then digitsF 4 l else none := rfl
      by_cases q1 : a = 35 ∧ b = 98
      · rw [fF, if_pos q1]
        cases hd : digitsF 1 l with
        | none =>
          rw [hd] at g1
          simp at g1
          simp (maxDischargeDepth := 40) [c_bv_Parse, d1, d2, p1, q1, s2, g1] at h
          rw [← h]
          simp [parV, Bt]
        | some o =>
          rw [hd] at g1
          simp at g1
          simp (maxDischargeDepth := 40) [c_bv_Parse, d1, d2, p1, q1, s2, g1] at h
          rw [← h]
          simp [parV, Bt]
      · have z1 : decide (a = 35 ∧ b = 98) = false := decide_eq_false q1
        rw [fF, if_neg q1]
        simp only [z1] at p1
        by_cases q2 : a = 35 ∧ b = 120
        · have z2 : decide (a = 35 ∧ b = 120) = true := decide_eq_true q2
          simp only [z2] at p2
          rw [if_pos q2]
          cases hd : digitsF 4 l with
          | none =>
            rw [hd] at g4
            simp at g4
            simp (maxDischargeDepth := 40) [c_bv_Parse, d1, d2, p1, p2, s2, g4] at h
            rw [← h]
            simp [parV, Bt]
          | some o =>
            rw [hd] at g4
            simp at g4
            simp (maxDischargeDepth := 40) [c_bv_Parse, d1, d2, p1, p2, s2, g4] at h
            rw [← h]
            simp [parV, Bt]
        · have z2 : decide (a = 35 ∧ b = 120) = false := decide_eq_false q2
          simp only [z2] at p2
          rw [if_neg q2]
          simp (maxDischargeDepth := 40) [c_bv_Parse, d1, d2, p1, p2] at h
          rw [← h]
          simp [parV, Bt]
end Go.Proofs.Ytghjglnebcpcmaa
