/- Values as texts: the solver's digits. -/
import Derived.Test.YtghjglnebcpcmaaBTC
namespace Go.Proofs.Ytghjglnebcpcmaa
set_option maxRecDepth 100000
set_option maxHeartbeats 4000000

theorem digs_snoc {e : Nat} {c : UInt8} : ∀ {l : List UInt8} {n : W128}, digs e n (l ++ [c]) = (digs e n l).bind fun m => if dvN c < 2 ^ e then some (m <<< e ||| BitVec.ofNat 128 (dvN c)) else none
  | [], n => by
    simp only [List.nil_append, digs, Option.bind_some]
  | d :: l, n => by
    rw [List.cons_append]
    unfold digs
    split
    · exact digs_snoc
    · rfl
theorem digs_bad {e : Nat} {l : List UInt8} {n : W128} {c : UInt8} (hc : c ∈ l) (h : ¬ dvN c < 2 ^ e) : digs e n l = none := by
  cases hd : digs e n l with
  | none => rfl
  | some m => exact absurd (digs_all hd c hc) h
/-- A digit's number, or -1. -/
def dvI (c : UInt8) : Int := if dvN c < 16 then dvN c else -1
theorem dvI_hex {c : UInt8} (h : ¬ (65 ≤ c.toNat ∧ c.toNat ≤ 70)) : firstIdx hexS c = dvI c := by
  rw [hex_idx]
  unfold dvI dvN
  by_cases h1 : 48 ≤ c.toNat ∧ c.toNat ≤ 57
  · rw [if_pos h1, if_pos h1, if_pos (by omega)]; omega
  · rw [if_neg h1, if_neg h1]
    by_cases h2 : 97 ≤ c.toNat ∧ c.toNat ≤ 102
    · rw [if_pos h2, if_pos h2, if_pos (by omega)]; omega
    · rw [if_neg h2, if_neg h2, if_neg h, if_neg (by omega)]
theorem dvI_up {c : UInt8} (h1 : 65 ≤ c.toNat) (h2 : c.toNat ≤ 70) : dvI c = (c.toNat : Int) - 65 + 10 := by
  have h : dvN c = c.toNat - 55 := by
    unfold dvN
    rw [if_neg (by omega), if_neg (by omega), if_pos ⟨h1, h2⟩]
  unfold dvI
  rw [h, if_pos (by omega)]
  omega
theorem dvI_ok {c : UInt8} {e : Nat} (he : e = 1 ∨ e = 4) : dvN c < 2 ^ e ↔ ¬ dvI c < 0 ∧ ¬ ((2 ^ e : Nat) : Int) ≤ dvI c := by
  have := dvN_le c
  unfold dvI
  rcases he with rfl | rfl <;> split <;> omega
theorem or_digit {x : W128} {d : Nat} (hd : d ≤ 16) : lo (x ||| BitVec.ofNat 128 d) = lo x ||| BitVec.ofInt 64 d ∧ hi (x ||| BitVec.ofNat 128 d) = hi x := by
  have h0 : lo (BitVec.ofNat 128 d) = BitVec.ofInt 64 d := by
    apply BitVec.eq_of_toNat_eq
    unfold lo
    simp
    try omega
  have h1 : hi (BitVec.ofNat 128 d) = 0#64 := by
    apply BitVec.eq_of_toNat_eq
    unfold hi
    simp [Nat.shiftRight_eq_div_pow]
    try omega
  rw [lo_or, hi_or, h0, h1]
  simp
/-- Digits read so far. -/
def DgI (H : AHeap) (e : Nat) (l : List UInt8) (H1 : AHeap) : Prop := Keeps H H1 ∧ H.size + 1 < H1.size ∧ H1.obj H.size = .cells [.int .i64 0, u 0#64, u 0#64] ∧ ∃ n, digs e 0#128 l = some n ∧ H1.obj (H.size + 1) = .cells [u (lo n), u (hi n)]
def DgB (H : AHeap) (H1 : AHeap) : Prop := Keeps H H1 ∧ H.size + 1 < H1.size ∧ H1.obj H.size = .cells [.int .i64 0, u 0#64, u 0#64]
theorem digits_loop {H K : AHeap} {s : ByteArray} {e : Nat} (he : e = 1 ∨ e = 4) (hs : s.size ≤ 1000) (h0 : DgI H e [] K) {ev : Env} {r : Rn}
    (hL : loopL Go.Proofs.Try.prog KT R l_bv_digits_0 ev K = r) (e0 : ev 0 = some (.str s)) (e1 : ev 1 = some (.int .i64 e)) (e4 : ev 4 = some (.ptr H.size 0)) (e6 : ev 6 = some (.ptr (H.size + 1) 0)) (e20 : ev 20 = some (.int .i64 s.size)) (e21 : ev 21 = some (.int .i64 0)) :
    ∃ y ev' H', r = some (y, ev', H') ∧ ((y = .ret ∧ ev' 5 = some (.bool false) ∧ digs e 0#128 (bts s) = none ∧ DgB H H') ∨ (y = .exit 0 ∧ DgI H e (bts s) H')) ∧ ∀ t, t ∉ defs l_bv_digits_0 → ev' t = ev t := by
  have hlen := bts_len s
  refine loop_count l_bv_digits_0.eq_1 hL s.size (fun i e1 H1 => e1 21 = some (.int .i64 i) ∧ DgI H e ((bts s).take i) H1) _ 0 (Nat.zero_le _) ⟨e21, h0⟩ ?_ ?_
  · rintro i f H1 hf - hi' ⟨f21, k1, z1, p0, n, hn, p1⟩
    have w1 : IntKind.i64.wrap ((i : Int) + 1) = (i : Int) + 1 := i64w (by omega) (by omega)
    have c1 : (i : Int) < s.size := by omega
    have hil : i < (bts s).length := by omega
    obtain ⟨c, hc⟩ : ∃ c, (bts s)[i]? = some c := ⟨(bts s)[i], by simp [hil]⟩
    have hat : s.data.toList[i]? = some c := hc
    have hcm : c ∈ bts s := List.mem_of_getElem? hc
    have ht : (bts s).take (i + 1) = (bts s).take i ++ [c] := by rw [List.take_add_one, hc]; rfl
    have hc256 := c.toNat_lt
    have hix := fun H => index_run (s := hexS) (n := c.toNat) hc256 (H := H)
    rw [UInt8.ofNat_toNat] at hix
    have hl := fun H => (nleft_run (x := n) (n := e) (by omega) (H := H)).run
    simp only [N] at hl
    have hd16 := dvN_le c
    obtain ⟨d, hd⟩ : ∃ d, d = dvI c := ⟨_, rfl⟩
    have hok := dvI_ok (c := c) he
    rw [← hd] at hok
    obtain ⟨or1, or2⟩ := or_digit (x := n <<< e) hd16
    have hdd : dvN c < 2 ^ e → BitVec.ofInt 64 d = BitVec.ofInt 64 (dvN c) := fun h => by
      have : dvN c < 16 := Nat.lt_of_lt_of_le h (by rcases he with rfl | rfl <;> decide)
      rw [hd]
      unfold dvI
      rw [if_pos this]
    obtain ⟨m, hm⟩ : ∃ m, m = n <<< e := ⟨_, rfl⟩
    rw [← hm] at hl or1 or2
    obtain ⟨k, hk⟩ : ∃ k : Int, k = (c.toNat : Int) := ⟨_, rfl⟩
    rw [← hk] at hix
    have hA : (65 ≤ k ∧ k ≤ 70) → IntKind.u8.wrap (k - 65) = k - 65 ∧ IntKind.i64.wrap (k - 65) = k - 65 ∧ IntKind.i64.wrap (k - 65 + 10) = d := fun h => by
      refine ⟨?_, i64w (by omega) (by omega), ?_⟩
      · simp [IntKind.wrap, IntKind.bits, IntKind.signed]
        omega
      · rw [i64w (by omega) (by omega), hd, dvI_up (by omega) (by omega)]
        omega
    have hB : ¬ (65 ≤ k ∧ k ≤ 70) → firstIdx hexS c = d := fun h => by rw [hd]; exact dvI_hex (by omega)
    unfold hexS at hix hB
    have hat2 : (s.data.toList[i]?).map (fun b => AV.int .u8 (b.toNat : Int)) = some (.int .u8 k) := by rw [hat, hk]; rfl
    have hat3 : s.data[i]? = some c := by rw [← hat, Array.getElem?_toList]
    have hks : (c.toNat : Int) = k := hk.symm
    have q0 : H.size < H1.size := by omega
    have bad : ¬ dvN c < 2 ^ e → digs e 0#128 (bts s) = none ∧ DgB H (H1.set H.size (.cells [.int .i64 0, u 0#64, u 0#64])) := fun h => ⟨digs_bad hcm h, k1.set (Nat.le_refl _) _, by simpa using z1, by simp⟩
    have good : dvN c < 2 ^ e → DgI H e ((bts s).take (i + 1)) ((H1.set (H.size + 1) (.cells [u (lo m), u (hi m)])).set (H.size + 1) (.cells [u (lo m ||| BitVec.ofInt 64 d), u (hi m)])) := fun h => by
      refine ⟨(k1.set (by omega) _).set (by omega) _, by simpa using z1, ?_, m ||| BitVec.ofNat 128 (dvN c), ?_, ?_⟩
      · rw [set_old (by omega), set_old (by omega)]
        exact p0
      · rw [ht, digs_snoc, hn, Option.bind_some, if_pos h, hm]
      · rw [or1, or2, ← hdd h]
        simp
    obtain ⟨B, C, hB1, hC, hB2⟩ : ∃ B C : Int, ((2 ^ e : Nat) : Int) = B ∧ (e : Int) = C ∧ (B = 2 ∧ C = 1 ∨ B = 16 ∧ C = 4) := by
      rcases he with rfl | rfl
      · exact ⟨2, 1, by decide, by decide, .inl ⟨rfl, rfl⟩⟩
      · exact ⟨16, 4, by decide, by decide, .inr ⟨rfl, rfl⟩⟩
    simp only [hC] at hl
    rw [hC] at e1
    rw [hB1] at hok
    have three : (65 ≤ k ∧ k ≤ 70) ∨ (65 ≤ k ∧ ¬ k ≤ 70) ∨ ¬ 65 ≤ k := by omega
    by_cases hgo : dvN c < 2 ^ e
    · have g := good hgo
      obtain ⟨g1, g2⟩ := hok.1 hgo
      rcases hB2 with ⟨rfl, rfl⟩ | ⟨rfl, rfl⟩
      all_goals
        rcases three with ⟨a1, a2⟩ | ⟨a1, a2⟩ | a1
        · obtain ⟨x1, x2, x3⟩ := hA ⟨a1, a2⟩
          simp (maxDischargeDepth := 40) [hf, e0, e1, e6, e20, f21, c1, hat3, hks, hix, a1, a2, x1, x2, x3, g1, g2, hl, p1, w1]
          exact g
        · have hb := hB (by omega)
          simp (maxDischargeDepth := 40) [hf, e0, e1, e6, e20, f21, c1, hat3, hks, hix, a1, a2, hb, g1, g2, hl, p1, w1]
          exact g
        · have hb := hB (by omega)
          simp (maxDischargeDepth := 40) [hf, e0, e1, e6, e20, f21, c1, hat3, hks, hix, a1, hb, g1, g2, hl, p1, w1]
          exact g
    · obtain ⟨g1, g2⟩ := bad hgo
      have hdc : d < 0 ∨ (¬ d < 0 ∧ B ≤ d) := by omega
      rcases hB2 with ⟨rfl, rfl⟩ | ⟨rfl, rfl⟩
      all_goals
        rcases three with ⟨a1, a2⟩ | ⟨a1, a2⟩ | a1
        · obtain ⟨x1, x2, x3⟩ := hA ⟨a1, a2⟩
          rcases hdc with hd1 | ⟨hd1, hd2⟩
          · simp (maxDischargeDepth := 40) [hf, e0, e4, e20, f21, c1, hat3, hks, hix, a1, a2, x1, x2, x3, hd1, p0]
            exact ⟨g1, g2⟩
          · simp (maxDischargeDepth := 40) [hf, e0, e1, e4, e20, f21, c1, hat3, hks, hix, a1, a2, x1, x2, x3, hd1, hd2, p0]
            exact ⟨g1, g2⟩
        · have hb := hB (by omega)
          rcases hdc with hd1 | ⟨hd1, hd2⟩
          · simp (maxDischargeDepth := 40) [hf, e0, e4, e20, f21, c1, hat3, hks, hix, a1, a2, hb, hd1, p0]
            exact ⟨g1, g2⟩
          · simp (maxDischargeDepth := 40) [hf, e0, e1, e4, e20, f21, c1, hat3, hks, hix, a1, a2, hb, hd1, hd2, p0]
            exact ⟨g1, g2⟩
        · have hb := hB (by omega)
          rcases hdc with hd1 | ⟨hd1, hd2⟩
          · simp (maxDischargeDepth := 40) [hf, e0, e4, e20, f21, c1, hat3, hks, hix, a1, hb, hd1, p0]
            exact ⟨g1, g2⟩
          · simp (maxDischargeDepth := 40) [hf, e0, e1, e4, e20, f21, c1, hat3, hks, hix, a1, hb, hd1, hd2, p0]
            exact ⟨g1, g2⟩
  · rintro f H1 hf ⟨f21, hI⟩
    rw [List.take_of_length_le (by omega)] at hI
    simp [hf, e20, f21]
    exact hI
end Go.Proofs.Ytghjglnebcpcmaa
