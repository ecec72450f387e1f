/- The law EvalOwn, for whatever its arguments read as. -/
import Derived.Test.YtiaoojghohfkjaaLEO
import Derived.Test.YtiaoojghohfkjaaTVB
namespace Go.Proofs.Ytiaoojghohfkjaa
set_option maxRecDepth 100000
theorem EvalOwn_law {a0 a1 a2 a3 : AV} (y0 : TV Go.Proofs.Try.prog 8 T_s_api_Node a0) (y1 : TV Go.Proofs.Try.prog 8 T_s_api_Named a1) (y2 : TV Go.Proofs.Try.prog 8 T_s_api_Named a2) (y3 : TV Go.Proofs.Try.prog 8 T_int a3) : ∃ H', R f_plaitlaw4_EvalOwn [a0, a1, a2, a3] H0 = some (.bool true, H') := by
  obtain ⟨l, rfl⟩ := tv_nodes (d := 4) y0
  obtain ⟨env, hs⟩ := tv_named (d := 4) y1
  obtain ⟨other, ht⟩ := tv_named (d := 4) y2
  obtain ⟨n3, rfl, -⟩ := tv_int (d := 7) y3
  exact ⟨_, own_run hs ht⟩
end Go.Proofs.Ytiaoojghohfkjaa
