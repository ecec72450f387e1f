/- CnfForm: clauses have no literal twice and none with its opposite, none is told twice, they are three a node at most, and variables begin where they were told to. For every script and every first variable. -/
import Derived.Test.YtdbbkhmiflignaaDE
namespace Go.Proofs.Ytdbbkhmiflignaa
set_option maxRecDepth 100000

theorem three {cs : List AV} (h : cs.length = 3) : ∃ a b c, cs = [a, b, c] := by
  match cs, h with
  | [a, b, c], _ => exact ⟨a, b, c, rfl⟩
theorem tv_steps {d : Nat} {a : AV} (h : TV Go.Proofs.Try.prog (d + 3) 22 a) : ∃ ss : List St3, a = .lst 3 ss.length (s3c ss) := by
  obtain ⟨n, ds, rfl, h2, h3, h4⟩ := tv_slice Go.Proofs.Try.underlying22 h
  have c3 : Go.Proofs.Try.prog.cellsOf 61 = 3 := by kernel_rfl
  have c1 : Go.Proofs.Try.prog.cellsOf 3 = 1 := by kernel_rfl
  rw [c3] at h2 h4
  obtain ⟨ss, e1, e2, -⟩ := chunks (fun s : St3 => [.int .i64 s.1, .int .i64 s.2.1, .int .i64 s.2.2]) (fun _ => True) (fun _ => rfl) h2 fun i hi => by
    have hs := h4 i hi
    generalize (ds.drop (i * 3)).take 3 = cs at hs
    obtain ⟨hl, hf⟩ := tc_struct Go.Proofs.Try.underlying61 hs
    rw [c3] at hl
    obtain ⟨x0, x1, x2, rfl⟩ := three hl
    simp [c1] at hf
    obtain ⟨g0, g1, g2⟩ := hf
    obtain ⟨n0, e0, -⟩ := tc_i64 Go.Proofs.Try.underlying3 g0
    obtain ⟨n1, e1, -⟩ := tc_i64 Go.Proofs.Try.underlying3 g1
    obtain ⟨n2, e2, -⟩ := tc_i64 Go.Proofs.Try.underlying3 g2
    simp at e0 e1 e2
    exact ⟨(n0, n1, n2), trivial, by rw [e0, e1, e2]⟩
  exact ⟨ss, by rw [e2, c3, e1]; rfl⟩
theorem CnfForm_law {a0 a1 : AV} (y0 : TV Go.Proofs.Try.prog 8 22 a0) (y1 : TV Go.Proofs.Try.prog 8 3 a1) : ∃ H', R f_plaitlaw10_CnfForm [a0, a1] H0 = some (.bool true, H') := by
  obtain ⟨ss, rfl⟩ := tv_steps (d := 5) y0
  obtain ⟨n, rfl, -⟩ := tv_i64 Go.Proofs.Try.underlying3 y1
  exact cnfform_run
end Go.Proofs.Ytdbbkhmiflignaa
