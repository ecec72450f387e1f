/- The law AigMeans, for whatever its argument reads as. -/
import Derived.Test.YtphkkcocimmmfaaAW6
import Derived.Test.YtphkkcocimmmfaaAL23
namespace Go.Proofs.Ytphkkcocimmmfaa
set_option maxRecDepth 100000

theorem five {cs : List AV} (h : cs.length = 5) : ∃ a b c d e, cs = [a, b, c, d, e] := by
  match cs, h with
  | [a, b, c, d, e], _ => exact ⟨a, b, c, d, e, rfl⟩

theorem tv_steps {d : Nat} {a : AV} (h : TV Go.Proofs.Try.prog (d + 3) 37 a) : ∃ ss : List Sp, a = .lst 5 ss.length (stepsC ss) := by
  obtain ⟨n, ds, rfl, h2, h3, h4⟩ := tv_slice Go.Proofs.Try.underlying37 h
  have c5 : Go.Proofs.Try.prog.cellsOf 45 = 5 := by kernel_rfl
  have c1 : Go.Proofs.Try.prog.cellsOf 3 = 1 := by kernel_rfl
  have c2 : Go.Proofs.Try.prog.cellsOf 4 = 1 := by kernel_rfl
  rw [c5] at h2 h4
  obtain ⟨ss, e1, e2, -⟩ := chunks Sp.av (fun _ => True) (fun _ => rfl) h2 fun i hi => by
    have hs := h4 i hi
    generalize (ds.drop (i * 5)).take 5 = cs at hs
    obtain ⟨hl, hf⟩ := tc_struct Go.Proofs.Try.underlying45 hs
    rw [c5] at hl
    obtain ⟨x0, x1, x2, x3, x4, rfl⟩ := five hl
    simp [c1, c2] at hf
    obtain ⟨g0, g1, g2, g3, g4⟩ := hf
    obtain ⟨n0, e0, -⟩ := tc_i64 Go.Proofs.Try.underlying3 g0
    obtain ⟨n1, e1, -⟩ := tc_i64 Go.Proofs.Try.underlying3 g1
    obtain ⟨n2, e2, -⟩ := tc_i64 Go.Proofs.Try.underlying3 g2
    obtain ⟨n3, e3, -⟩ := tc_i64 Go.Proofs.Try.underlying3 g3
    obtain ⟨b, e4⟩ := tc_bool Go.Proofs.Try.underlying4 g4
    simp at e0 e1 e2 e3 e4
    exact ⟨⟨n0, n1, n2, n3, b⟩, trivial, by rw [e0, e1, e2, e3, e4]; rfl⟩
  exact ⟨ss, by rw [e2, c5, e1]; rfl⟩

theorem AigMeans_law {a0 : AV} (y0 : TV Go.Proofs.Try.prog 8 37 a0) : ∃ H', R f_plaitlaw8_AigMeans [a0] H0 = some (.bool true, H') := by
  obtain ⟨ss, rfl⟩ := tv_steps (d := 5) y0
  exact means_run
end Go.Proofs.Ytphkkcocimmmfaa
