/- The law EvalTurned, for whatever its arguments read as. -/
import Derived.Test.YtiaoojghohfkjaaLET
import Derived.Test.YtiaoojghohfkjaaTVB
namespace Go.Proofs.Ytiaoojghohfkjaa
set_option maxRecDepth 100000
theorem EvalTurned_law {a0 a1 a2 a3 : AV} (y0 : TV Go.Proofs.Try.prog 8 T_int a0) (y1 : TV Go.Proofs.Try.prog 8 T_api_Bits a1) (y2 : TV Go.Proofs.Try.prog 8 T_api_Bits a2) (y3 : TV Go.Proofs.Try.prog 8 T_api_Bits a3) : ∃ H', R f_plaitlaw4_EvalTurned [a0, a1, a2, a3] H0 = some (.bool true, H') := by
  obtain ⟨n0, rfl, -⟩ := tv_int (d := 7) y0
  obtain ⟨a, rfl⟩ := tv_bits (d := 6) y1
  obtain ⟨b, rfl⟩ := tv_bits (d := 6) y2
  obtain ⟨c, rfl⟩ := tv_bits (d := 6) y3
  exact ⟨_, turned_run⟩
end Go.Proofs.Ytiaoojghohfkjaa
