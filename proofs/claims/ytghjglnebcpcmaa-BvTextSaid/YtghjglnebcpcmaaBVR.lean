/- May there be such a value? What bv tells of any. -/
import Derived.Test.YtghjglnebcpcmaaBV1
namespace Go.Proofs.Ytghjglnebcpcmaa
set_option maxRecDepth 100000

/-- May there be such a value? -/
def rightF (w : Int) (l h : BitVec 64) : Bool := if w = 0 then decide (l ≤ 1#64 ∧ h = 0#64) else decide (0 < w ∧ w ≤ 128) && decide (mkN l h &&& maskN w.toNat = mkN l h)
theorem bvRight_run {w : Int} {l h : BitVec 64} {H : AHeap} : R f_bv_Right [.agg [.int .i64 w, u l, u h]] H = some (.bool (rightF w l h), H) := by
  unfold rightF
  rw [e_bv_Right]
  by_cases w0 : w = 0
  · subst w0
    by_cases c1 : l ≤ 1#64 <;> simp (maxDischargeDepth := 40) [c_bv_Right, c1]
  by_cases c1 : 0 < w
  rotate_left
  · simp (maxDischargeDepth := 40) [c_bv_Right, w0, c1]
  by_cases c2 : w ≤ 128
  rotate_left
  · simp (maxDischargeDepth := 40) [c_bv_Right, w0, c1, c2]
  obtain ⟨n, rfl⟩ : ∃ n : Nat, w = (n : Int) := ⟨w.toNat, by omega⟩
  have hn : n ≤ 128 := by omega
  have n0 : ¬ n = 0 := by omega
  have n1 : 0 < n := by omega
  have r1 := fun H => (of_run (a := .int .i64 n) (x := mkN l h) (H := H)).run
  have r2 := fun H => (cut_run hn (x := mkN l h) (H := H)).run
  simp only [N, Bt, lo_mk, hi_mk] at r1 r2
  have e : (lo (mkN l h &&& maskN n) = l ∧ hi (mkN l h &&& maskN n) = h) ↔ mkN l h &&& maskN n = mkN l h := by
    constructor
    · intro ⟨a, b⟩; exact pair_ext (by rw [a, lo_mk]) (by rw [b, hi_mk])
    · intro a; rw [a, lo_mk, hi_mk]; exact ⟨rfl, rfl⟩
  simp (maxDischargeDepth := 40) [c_bv_Right, n0, n1, c2, r1, r2]
  rw [← Bool.decide_and, decide_eq_decide]; exact e
end Go.Proofs.Ytghjglnebcpcmaa
