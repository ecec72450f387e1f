/- New words, by the document. -/
import Derived.Test.YtcnhpkongbdihaaBRT
namespace Go.Proofs.Ytcnhpkongbdihaa
set_option maxRecDepth 100000

theorem BitsRun.of {w : Nat} (hw : w ≤ 128) {x : W128} {H : AHeap} {r : Option (AV × AHeap)} (hr : R f_plaitref1_Bits [.agg [.int .i64 w, u (lo x), u (hi x)]] H = r) : ∃ v H', r = some (v, H') ∧ Keeps H H' ∧ RB H' v (bn w x) ∧ v = .row (H.size + 1) 0 1 w true := by
  obtain ⟨H', h1, h2, h3, h4⟩ := (bits_run hw (x := x) (H := H)).ex
  exact ⟨_, H', hr.symm.trans h1, h2, RB.row (by omega) h4 (by simp), rfl⟩

theorem newR_run {w : Nat} (h1 : 1 ≤ w) (hw : w ≤ 128) {x : W128} {H : AHeap} : Pure R f_plaitref1_New [.int .i64 w, u (lo x), u (hi x)] H (.tup [B (x.setWidth w), .int .i64 0]) := by
  have c1 : ¬ (w : Int) < 1 := by omega
  have c2 : ¬ 128 < (w : Int) := by omega
  have c3 : ¬ 128 < w := by omega
  have c4 : ¬ w < 1 := by omega
  have c5 : ¬ w = 0 := by omega
  unfold Pure
  rw [e_plaitref1_New]
  simp (maxDischargeDepth := 40) [c_plaitref1_New, c1, c2]
  generalize hN : R f_plaitref1_Bits _ _ = q
  obtain ⟨v, H', rfl, k, hv, -⟩ := BitsRun.of hw hN
  have hk : Keeps H H' := ((Keeps.refl H).new' _).trans k
  have ho : H'.obj H.size = .cells [.int .i64 0, u 0#64, u 0#64] := by rw [k.obj _ (by simp)]; simp
  have g := (wordR_run hv (by simpa using hw)).run
  rw [wv_bn hw] at g
  simp only [Bt, bn_length] at g
  have k2 : ∀ X, Keeps H (H'.set H.size X) := fun X => hk.set (Nat.le_refl _) X
  simp [g, ho, B, Bt, k2]

end Go.Proofs.Ytcnhpkongbdihaa
