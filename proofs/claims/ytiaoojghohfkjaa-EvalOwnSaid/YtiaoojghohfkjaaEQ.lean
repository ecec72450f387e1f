/- Place. -/
import Derived.Test.YtiaoojghohfkjaaEP
namespace Go.Proofs.Ytiaoojghohfkjaa
set_option maxRecDepth 100000
set_option maxHeartbeats 2000000

theorem tmod_cases (k n : Int) (hn : 0 < n) : (k.tmod n < 0 → k % n = k.tmod n + n) ∧ (¬ k.tmod n < 0 → k % n = k.tmod n) ∧ k.tmod n < n ∧ - n < k.tmod n := by
  have h := Int.tmod_eq_emod (a := k) (b := n)
  have h1 := Int.emod_nonneg k (by omega : n ≠ 0)
  have h2 := Int.emod_lt_of_pos k hn
  rw [h]
  split
  · simp; omega
  · rename_i hh
    have : (n.natAbs : Int) = n := by omega
    rw [this]
    refine ⟨by omega, ?_, by omega, ?_⟩
    · intro hx; omega
    · have : ¬ k % n = 0 := by
        intro h0; exact hh (Or.inr (Int.dvd_of_emod_eq_zero h0))
      omega
theorem place_run {k n : Int} (hn : 0 < n) (hn2 : n ≤ 1000000) {H : AHeap} : R f_plaithelp_Place [.int .i64 k, .int .i64 n] H = some (.int .i64 (k % n), H) := by
  rw [e_plaithelp_Place]
  obtain ⟨q1, q2, q3, q4⟩ := tmod_cases k n hn
  have h0 : ¬ n = 0 := by omega
  by_cases c : k.tmod n < 0
  · have hw2 : IntKind.i64.wrap (k.tmod n + n) = k.tmod n + n := i64w (by omega) (by omega)
    simp (maxDischargeDepth := 40) [c_plaithelp_Place, h0, c, hw2, q1 c]
  · simp (maxDischargeDepth := 40) [c_plaithelp_Place, h0, c, q2 c]
end Go.Proofs.Ytiaoojghohfkjaa
