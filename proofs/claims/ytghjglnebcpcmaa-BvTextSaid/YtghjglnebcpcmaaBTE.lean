/- Values as texts: the solver reads them. -/
import Derived.Test.YtghjglnebcpcmaaBTD
namespace Go.Proofs.Ytghjglnebcpcmaa
set_option maxRecDepth 100000
set_option maxHeartbeats 4000000

theorem digits_run {H : AHeap} {s : ByteArray} {e : Nat} (he : e = 1 ∨ e = 4) (hs : s.size ≤ 1000) :
    R f_bv_digits [.str s, .int .i64 e] H = some (.tup [((digitsF e (bts s)).map fun p => Bt p.1 p.2).getD (Bt 0 0#128), .bool (digitsF e (bts s)).isSome], H) := by
  generalize h : R f_bv_digits [.str s, .int .i64 e] H = r
  rw [e_bv_digits] at h
  have hlen := bts_len s
  have hz : Bt 0 0#128 = .agg [.int .i64 0, u 0#64, u 0#64] := rfl
  obtain ⟨C, D, hC, hD, hCD⟩ : ∃ C D : Int, (e : Int) = C ∧ ((128 / e : Nat) : Int) = D ∧ (C = 1 ∧ D = 128 ∨ C = 4 ∧ D = 32) := by
    rcases he with rfl | rfl
    · exact ⟨1, 128, by decide, by decide, .inl ⟨rfl, rfl⟩⟩
    · exact ⟨4, 32, by decide, by decide, .inr ⟨rfl, rfl⟩⟩
  rw [hC] at h
  by_cases c0 : s = .empty
  · have hb : bts s = [] := by rw [c0]; rfl
    have hd : digitsF e (bts s) = none := by unfold digitsF; rw [if_pos (.inl hb)]
    rw [hd]
    simp (maxDischargeDepth := 40) [c_bv_digits, eq_true (show s = ⟨#[]⟩ from c0)] at h
    rw [← h]
    simp [hz]
  have hne : ¬ bts s = [] := fun q => c0 (bts_inj (by rw [q]; rfl))
  have hxe : ¬ s = ⟨#[]⟩ := c0
  by_cases c1 : 128 / e < s.size
  · have hd : digitsF e (bts s) = none := by unfold digitsF; rw [if_pos (.inr (by omega))]
    rw [hd]
    have c1' : D < s.size := by omega
    rcases hCD with ⟨rfl, rfl⟩ | ⟨rfl, rfl⟩
    all_goals
      simp (maxDischargeDepth := 40) [c_bv_digits, eq_false hxe, eq_true c1'] at h
      rw [← h]
      simp [hz]
  · have c1' : ¬ D < s.size := by omega
    have hel : e * s.size ≤ 128 := by rcases he with rfl | rfl <;> omega
    have hdg : digitsF e (bts s) = (digs e 0#128 (bts s)).map fun n => (e * (bts s).length, n &&& maskN (e * (bts s).length)) := by
      unfold digitsF
      rw [if_neg (by intro q; rcases q with q | q; exact hne q; omega)]
    have hcut := fun (n : W128) H => (cut_run (w := e * s.size) hel (x := n) (H := H)).run
    simp only [N, Bt] at hcut
    obtain ⟨L, hL'⟩ : ∃ L : Int, L = ((e * s.size : Nat) : Int) := ⟨_, rfl⟩
    have wm : IntKind.i64.wrap (C * s.size) = L := by
      rw [← hC, hL', i64w (by rcases he with rfl | rfl <;> omega) (by rcases he with rfl | rfl <;> omega)]
      simp
    rw [← hL'] at hcut
    obtain ⟨K, hK⟩ : ∃ K, K = (H.new (.cells [.int .i64 0, u 0#64, u 0#64])).new (.cells [u 0#64, u 0#64]) := ⟨_, rfl⟩
    have hI : DgI H e [] K := by
      rw [hK]
      exact ⟨((Keeps.refl H).new' _).new' _, by simp, by simp, 0#128, rfl, by simp⟩
    have fin := fun {ev : Env} {q : Rn} hq a0 a1 a4 a6 a20 a21 => digits_loop (ev := ev) (r := q) he hs hI hq a0 a1 a4 a6 a20 a21
    rw [hC] at fin
    have w1 : IntKind.i64.wrap (1 * (s.size : Int)) = IntKind.i64.wrap s.size := by rw [Int.one_mul]
    rcases hCD with ⟨rfl, rfl⟩ | ⟨rfl, rfl⟩
    all_goals
      simp (maxDischargeDepth := 40) [c_bv_digits, eq_false hxe, eq_false c1', ← hK] at h
      generalize hL : loopL _ _ _ _ _ _ = q at h
      obtain ⟨y, ev, H', rfl, hy, fr⟩ := fin hL (by simp) (by simp) (by simp) (by simp) (by simp) (by simp)
      rcases hy with ⟨rfl, g5, gd, k1, z1, p0⟩ | ⟨rfl, k1, z1, p0, n, gd, p1⟩
      · rw [hdg, gd]
        have zz : H.size < H'.size := by omega
        simp (maxDischargeDepth := 40) [fr, g5, p0, k1] at h
        rw [← h]
        simp [hz]
      · rw [hdg, gd]
        have zz : H.size < H'.size := by omega
        have hc := hcut n
        have wm' := wm
        try simp only [Int.one_mul] at wm'
        simp (maxDischargeDepth := 40) [fr, p0, p1, wm, wm', hc, k1] at h
        rw [← h]
        simp [Bt, hlen, hL']
end Go.Proofs.Ytghjglnebcpcmaa
