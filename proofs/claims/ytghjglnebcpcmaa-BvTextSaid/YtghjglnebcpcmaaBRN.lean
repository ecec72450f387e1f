/- New words, by the document. -/
import Derived.Test.YtghjglnebcpcmaaBRT
namespace Go.Proofs.Ytghjglnebcpcmaa
set_option maxRecDepth 100000

theorem BitsRun.of {w : Nat} (hw : w ≤ 128) {x : W128} {H : AHeap} {r : Option (AV × AHeap)} (hr : R f_plaitref1_Bits [.agg [.int .i64 w, u (lo x), u (hi x)]] H = r) : ∃ v H', r = some (v, H') ∧ Keeps H H' ∧ RB H' v (bn w x) ∧ v = .row (H.size + 1) 0 1 w true := by
  obtain ⟨H', h1, h2, h3, h4⟩ := (bits_run hw (x := x) (H := H)).ex
  exact ⟨_, H', hr.symm.trans h1, h2, RB.row (by omega) h4 (by simp), rfl⟩

end Go.Proofs.Ytghjglnebcpcmaa
