/- The document's Right, of any value. -/
import Derived.Test.YtghjglnebcpcmaaBRT
namespace Go.Proofs.Ytghjglnebcpcmaa
set_option maxRecDepth 100000
set_option maxHeartbeats 4000000

theorem rightR_run {w : Int} {l h : BitVec 64} {H : AHeap} : R f_plaitref1_Right [.agg [.int .i64 w, u l, u h]] H = some (.bool (rightF w l h), H) := by
  unfold rightF
  rw [e_plaitref1_Right]
  by_cases hneg : w < 0
  · have h0 : ¬ w = 0 := by omega
    have h1 : ¬ 0 < w := by omega
    simp (maxDischargeDepth := 40) [c_plaitref1_Right, hneg, h0, h1]
  by_cases hbig : 128 < w
  · have h0 : ¬ w = 0 := by omega
    have h1 : ¬ w ≤ 128 := by omega
    simp (maxDischargeDepth := 40) [c_plaitref1_Right, hneg, h0, h1, hbig]
  by_cases h0 : w = 0
  · subst h0
    by_cases hp : l ≤ 1#64 <;> simp (maxDischargeDepth := 40) [c_plaitref1_Right, hp]
  obtain ⟨n, rfl⟩ : ∃ n : Nat, w = n := ⟨w.toNat, by omega⟩
  have hn : n ≤ 128 := by omega
  have h0' : ¬ n = 0 := by omega
  have h1' : ¬ (128 : Int) < n := by omega
  have h2' : (n : Int) ≤ 128 := by omega
  have h3' : 0 < n := by omega
  obtain ⟨H', hb, kb, sb, hob⟩ := (bits_run hn (x := mkN l h) (H := H.new (.cells [.int .i64 n, u l, u h]))).ex
  rw [lo_mk, hi_mk] at hb
  have hv : RB H' (.row ((H.new (.cells [.int .i64 n, u l, u h])).size + 1) 0 1 n true) (bn n (mkN l h)) := RB.row (by rw [sb]; simp) hob (by simp)
  have h1 : H'.obj H.size = .cells [.int .i64 n, u l, u h] := by rw [kb.obj _ (by simp)]; simp
  have kb2 : Keeps H H' := (Keeps.new _ _).trans kb
  simp only [new_size] at hb hv
  have hw := (wordR_run hv (by simpa using hn)).run
  rw [wv_bn hn, ← cut_E hn] at hw
  simp only [Bt, bn_length] at hw
  have e : (lo (mkN l h &&& maskN n) = l ∧ hi (mkN l h &&& maskN n) = h) ↔ mkN l h &&& maskN n = mkN l h := by
    constructor
    · intro ⟨a, b⟩; exact pair_ext (by rw [a, lo_mk]) (by rw [b, hi_mk])
    · intro a; rw [a, lo_mk, hi_mk]; exact ⟨rfl, rfl⟩
  simp (maxDischargeDepth := 40) [c_plaitref1_Right, h0', h1', h2', h3', hb, hw, kb, kb2, h1]
  rw [← Bool.decide_and, decide_eq_decide]; exact e

end Go.Proofs.Ytghjglnebcpcmaa
