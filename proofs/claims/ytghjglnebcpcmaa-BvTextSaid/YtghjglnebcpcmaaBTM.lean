/- The law BvText, for whatever its arguments read as. -/
import Derived.Test.YtghjglnebcpcmaaBTL
namespace Go.Proofs.Ytghjglnebcpcmaa
set_option maxRecDepth 100000

theorem threeV {cs : List AV} (h : cs.length = 3) : ∃ a b c, cs = [a, b, c] := by
  match cs, h with
  | [a, b, c], _ => exact ⟨a, b, c, rfl⟩
theorem tv_bits24 {d : Nat} {a : AV} (h : TV Go.Proofs.Try.prog (d + 2) 24 a) : ∃ w l h, a = .agg [.int .i64 w, u l, u h] := by
  obtain ⟨cs, rfl, h2⟩ := tv_struct Go.Proofs.Try.underlying24 h
  have c3 : Go.Proofs.Try.prog.cellsOf 24 = 3 := by kernel_rfl
  have c1 : Go.Proofs.Try.prog.cellsOf 3 = 1 := by kernel_rfl
  have cu : Go.Proofs.Try.prog.cellsOf 22 = 1 := by kernel_rfl
  obtain ⟨hl, hf⟩ := tc_struct Go.Proofs.Try.underlying24 h2
  rw [c3] at hl
  obtain ⟨x0, x1, x2, rfl⟩ := threeV hl
  simp [c1, cu] at hf
  obtain ⟨g0, g1, g2⟩ := hf
  obtain ⟨n0, e0, -⟩ := tc_i64 Go.Proofs.Try.underlying3 g0
  obtain ⟨y1, e1⟩ := tc_u64 Go.Proofs.Try.underlying22 g1
  obtain ⟨y2, e2⟩ := tc_u64 Go.Proofs.Try.underlying22 g2
  simp at e0 e1 e2
  exact ⟨n0, y1, y2, by rw [e0, e1, e2]⟩
theorem BvText_law {a0 a1 : AV} (y0 : TV Go.Proofs.Try.prog 8 24 a0) (y1 : TV Go.Proofs.Try.prog 8 9 a1) : ∃ H', R f_plaitlaw1_BvText [a0, a1] H0 = some (.bool true, H') := by
  obtain ⟨w, l, h, rfl⟩ := tv_bits24 (d := 6) y0
  obtain ⟨x, rfl, rfl⟩ := mk_parts l h
  obtain ⟨s, rfl, -⟩ := tv_str (d := 7) Go.Proofs.Try.underlying9 y1
  exact ⟨_, bvtext_run⟩
end Go.Proofs.Ytghjglnebcpcmaa
