/- The law TermOnce, for whatever its arguments read as. -/
import Derived.Test.YtphkkcocimmmfaaTN
namespace Go.Proofs.Ytphkkcocimmmfaa
set_option maxRecDepth 100000

theorem eleven {cs : List AV} (h : cs.length = 11) : ∃ a b c d e f g i j k l, cs = [a, b, c, d, e, f, g, i, j, k, l] := by
  match cs, h with
  | [a, b, c, d, e, f, g, i, j, k, l], _ => exact ⟨a, b, c, d, e, f, g, i, j, k, l, rfl⟩
theorem three {cs : List AV} (h : cs.length = 3) : ∃ a b c, cs = [a, b, c] := by
  match cs, h with
  | [a, b, c], _ => exact ⟨a, b, c, rfl⟩

theorem tv_nodes {d : Nat} {a : AV} (h : TV Go.Proofs.Try.prog (d + 4) 83 a) : ∃ l : List Nd, a = NL l := by
  obtain ⟨n, ds, rfl, h2, h3, h4⟩ := tv_slice Go.Proofs.Try.underlying83 h
  have c11 : Go.Proofs.Try.prog.cellsOf 91 = 11 := by kernel_rfl
  have c1 : Go.Proofs.Try.prog.cellsOf 3 = 1 := by kernel_rfl
  have c3 : Go.Proofs.Try.prog.cellsOf 25 = 3 := by kernel_rfl
  have c9 : Go.Proofs.Try.prog.cellsOf 9 = 1 := by kernel_rfl
  have cu : Go.Proofs.Try.prog.cellsOf 23 = 1 := by kernel_rfl
  rw [c11] at h2 h4
  obtain ⟨ss, e1, e2, -⟩ := chunks Nd.cs (fun _ => True) (fun _ => rfl) h2 fun i hi => by
    have hs := h4 i hi
    generalize (ds.drop (i * 11)).take 11 = cs at hs
    obtain ⟨hl, hf⟩ := tc_struct Go.Proofs.Try.underlying91 hs
    rw [c11] at hl
    obtain ⟨x0, x1, x2, x3, x4, x5, x6, x7, x8, x9, x10, rfl⟩ := eleven hl
    simp [c1, c3, c9] at hf
    obtain ⟨g0, g1, g2, g3, g4, g5, g6, g7, g8⟩ := hf
    obtain ⟨n0, e0, -⟩ := tc_i64 Go.Proofs.Try.underlying3 g0
    obtain ⟨n1, e1, -⟩ := tc_i64 Go.Proofs.Try.underlying3 g1
    obtain ⟨n2, e2, -⟩ := tc_i64 Go.Proofs.Try.underlying3 g2
    obtain ⟨n3, e3, -⟩ := tc_i64 Go.Proofs.Try.underlying3 g3
    obtain ⟨n4, e4, -⟩ := tc_i64 Go.Proofs.Try.underlying3 g4
    obtain ⟨n5, e5, -⟩ := tc_i64 Go.Proofs.Try.underlying3 g5
    obtain ⟨n6, e6, -⟩ := tc_i64 Go.Proofs.Try.underlying3 g6
    obtain ⟨s, e10, -⟩ := tc_str Go.Proofs.Try.underlying9 g8
    obtain ⟨-, hb⟩ := tc_struct Go.Proofs.Try.underlying25 g7
    simp [c1, cu] at hb
    obtain ⟨k0, k1, k2⟩ := hb
    obtain ⟨n7, e7, -⟩ := tc_i64 Go.Proofs.Try.underlying3 k0
    obtain ⟨y8, e8⟩ := tc_u64 Go.Proofs.Try.underlying23 k1
    obtain ⟨y9, e9⟩ := tc_u64 Go.Proofs.Try.underlying23 k2
    simp at e0 e1 e2 e3 e4 e5 e6 e7 e8 e9 e10
    exact ⟨⟨n0, n1, n2, n3, n4, n5, n6, n7, y8, y9, s⟩, trivial, by rw [e0, e1, e2, e3, e4, e5, e6, e7, e8, e9, e10]; rfl⟩
  exact ⟨ss, by rw [NL, e2, c11, e1]; rfl⟩

theorem TermOnce_law {a0 a1 : AV} (y0 : TV Go.Proofs.Try.prog 8 3 a0) (y1 : TV Go.Proofs.Try.prog 8 83 a1) : ∃ H', R f_plaitlaw3_TermOnce [a0, a1] H0 = some (.bool true, H') := by
  obtain ⟨n0, rfl, -⟩ := tv_int3 y0
  obtain ⟨l, rfl⟩ := tv_nodes (d := 4) y1
  exact ⟨_, once_run⟩
end Go.Proofs.Ytphkkcocimmmfaa
