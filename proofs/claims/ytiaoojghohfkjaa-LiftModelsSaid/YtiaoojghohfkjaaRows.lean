/-
  No cell of these rows narrows 'for every input' (looked for: loops, veiled, ifaces, maps, wideKeys, modest, calm, conditions, laid).
  DERIVED. THE GIVEN ROWS OF THIS SEAT. 4 by the template 'for every input the law returns true; each argument reads behind the call as it read before'; 0 by the template 'total and deterministic' (their statements: YtiaoojghohfkjaaTotals.lean).
  GIVEN WITH THE SEED: the statements are not yours to turn. If you find one false, say at which input.
  Laid BY PROGRAM, IN A SANDBOX (cutbox-rows.mjs): the forced cells as the released guide's own fill.sh prints them over the translation bb08cc4a3a83f48a… (all of the seat's roots in one cut). By AI agents, Wed Nov 11 2026. No macro, syntax, notation, axiom, sorry.
-/
import Derived.Test.YtiaoojghohfkjaaChecked
import GoSem.Claim
import GoSem.ClaimJoined
import GoSem.ClaimMapViews
import Derived.JoinedTies
import Derived.KernelRfl
namespace Go.Proofs.Ytiaoojghohfkjaa
/- THE CELL 'sum', in the pinned program and in every row, IS THE sha256 OF THE DUMP (.gsa) THAT YtiaoojghohfkjaaProg.lean LOADS. Nothing in Lean hashes anything: it is a label: what it is worth is what the hold of that sum in a sandbox is worth. -/
noncomputable def Try.pinned : Pinned := { name := "ytiaoojghohfkjaa", sum := "bb08cc4a3a83f48a7c28213b376c9669372363a8433451d5ee5e7825f03c831f", checked := Try.checked }
namespace Rows
def none {H : Type} : Left H := { results := [], args := [] }

/-- 'plaitlaw4.EvalTurned': WHATEVER THE INPUT: true; the input reads as it did. -/
def evalTurnedSpec : ChangeSpec := { name := "evalTurned", fn := fun _ => fun
  | [d1, d2, d3, d4] => { results := [.lit (.bool true)], args := [d1, d2, d3, d4] }
  | _ => none }
def evalTurnedRow : OpenClaim := { program := "ytiaoojghohfkjaa", sum := "bb08cc4a3a83f48a7c28213b376c9669372363a8433451d5ee5e7825f03c831f", func := "plait/plaitlaw4.EvalTurned", spec := "evalTurned", inPlace := ["math/bits.Add64"], unfollowed := true, recurses := true, plainKeys := false, apart := false }
def EvalTurnedSaid : Prop := evalTurnedRow.holds Try.pinned (OpenSpec.ofChange evalTurnedSpec)

/-- ITS FALSE NEIGHBOUR: 'it returns false'. Refute it at one input. -/
def evalTurnedWrong : ChangeSpec := { name := "evalTurned", fn := fun _ => fun
  | [d1, d2, d3, d4] => { results := [.lit (.bool false)], args := [d1, d2, d3, d4] }
  | _ => none }
def EvalTurnedWrongFalsely : Prop := evalTurnedRow.holds Try.pinned (OpenSpec.ofChange evalTurnedWrong)

/-- 'plaitlaw4.EvalSwap': WHATEVER THE INPUT: true; the input reads as it did. -/
def evalSwapSpec : ChangeSpec := { name := "evalSwap", fn := fun _ => fun
  | [d1, d2, d3, d4] => { results := [.lit (.bool true)], args := [d1, d2, d3, d4] }
  | _ => none }
def evalSwapRow : OpenClaim := { program := "ytiaoojghohfkjaa", sum := "bb08cc4a3a83f48a7c28213b376c9669372363a8433451d5ee5e7825f03c831f", func := "plait/plaitlaw4.EvalSwap", spec := "evalSwap", inPlace := ["math/bits.Add64"], unfollowed := true, recurses := true, plainKeys := false, apart := false }
def EvalSwapSaid : Prop := evalSwapRow.holds Try.pinned (OpenSpec.ofChange evalSwapSpec)

/-- ITS FALSE NEIGHBOUR: 'it returns false'. Refute it at one input. -/
def evalSwapWrong : ChangeSpec := { name := "evalSwap", fn := fun _ => fun
  | [d1, d2, d3, d4] => { results := [.lit (.bool false)], args := [d1, d2, d3, d4] }
  | _ => none }
def EvalSwapWrongFalsely : Prop := evalSwapRow.holds Try.pinned (OpenSpec.ofChange evalSwapWrong)

/-- 'plaitlaw4.EvalOwn': WHATEVER THE INPUT: true; the input reads as it did. -/
def evalOwnSpec : ChangeSpec := { name := "evalOwn", fn := fun _ => fun
  | [d1, d2, d3, d4] => { results := [.lit (.bool true)], args := [d1, d2, d3, d4] }
  | _ => none }
def evalOwnRow : OpenClaim := { program := "ytiaoojghohfkjaa", sum := "bb08cc4a3a83f48a7c28213b376c9669372363a8433451d5ee5e7825f03c831f", func := "plait/plaitlaw4.EvalOwn", spec := "evalOwn", inPlace := ["math/bits.Add64"], unfollowed := true, recurses := true, plainKeys := false, apart := false }
def EvalOwnSaid : Prop := evalOwnRow.holds Try.pinned (OpenSpec.ofChange evalOwnSpec)

/-- ITS FALSE NEIGHBOUR: 'it returns false'. Refute it at one input. -/
def evalOwnWrong : ChangeSpec := { name := "evalOwn", fn := fun _ => fun
  | [d1, d2, d3, d4] => { results := [.lit (.bool false)], args := [d1, d2, d3, d4] }
  | _ => none }
def EvalOwnWrongFalsely : Prop := evalOwnRow.holds Try.pinned (OpenSpec.ofChange evalOwnWrong)

/-- 'plaitlaw16.LiftModels': WHATEVER THE INPUT: true; the input reads as it did. -/
def liftModelsSpec : ChangeSpec := { name := "liftModels", fn := fun _ => fun
  | [d1, d2, d3] => { results := [.lit (.bool true)], args := [d1, d2, d3] }
  | _ => none }
def liftModelsRow : OpenClaim := { program := "ytiaoojghohfkjaa", sum := "bb08cc4a3a83f48a7c28213b376c9669372363a8433451d5ee5e7825f03c831f", func := "plait/plaitlaw16.LiftModels", spec := "liftModels", inPlace := ["math/bits.Add64"], unfollowed := true, recurses := true, plainKeys := false, apart := false }
def LiftModelsSaid : Prop := liftModelsRow.holds Try.pinned (OpenSpec.ofChange liftModelsSpec)

/-- ITS FALSE NEIGHBOUR: 'it returns false'. Refute it at one input. -/
def liftModelsWrong : ChangeSpec := { name := "liftModels", fn := fun _ => fun
  | [d1, d2, d3] => { results := [.lit (.bool false)], args := [d1, d2, d3] }
  | _ => none }
def LiftModelsWrongFalsely : Prop := liftModelsRow.holds Try.pinned (OpenSpec.ofChange liftModelsWrong)

/- THE SECOND FORM. 'bulk': how many values and letters a reading holds, each counted each time it is reached (what is shared counts as often as it is met; a slice's spare places count too). A statement '..UptoSaid' is the law's where the arguments, and the package variables that the reading takes, are together of bulk at most 1048576: NARROWER than '..Said'. Prove '..Said' where nothing that the law and all that it calls make is longer than what came in: it says more and counts as full. Else prove '..UptoSaid'. A law counts once. -/
mutual
def uptoBulk {H : Type} : DataW H → Nat
  | .lit (.string bytes) => bytes.length + 1
  | .lit _ => 1
  | .nil => 1
  | .ptr d => uptoBulk d + 1
  | .slice elems spare => uptoBulkAll elems + uptoBulkAll spare + 1
  | .agg parts => uptoBulkAll parts + 1
  | .iface _ d => uptoBulk d + 1
  | .map entries => uptoBulkEntries entries + 1
  | .held _ => 1
def uptoBulkAll {H : Type} : List (DataW H) → Nat
  | [] => 0
  | d :: r => uptoBulk d + uptoBulkAll r
def uptoBulkEntries {H : Type} : List (Lit × DataW H) → Nat
  | [] => 0
  | x :: r => uptoBulkEntry x + uptoBulkEntries r
def uptoBulkEntry {H : Type} : Lit × DataW H → Nat
  | (.string bytes, d) => bytes.length + uptoBulk d + 1
  | (_, d) => uptoBulk d + 1
 end
def uptoSmall : (H : Type) → List (DataW H) → Bool := fun _ ds => decide (uptoBulkAll ds ≤ 1048576)
def OpenSpec.upto (s : _root_.Go.ChangeSpec) : _root_.Go.OpenSpec := { _root_.Go.OpenSpec.ofChange s with cond := some uptoSmall }

/-- 'plaitlaw4.EvalTurned', WHERE WHAT IT READS IS OF BULK AT MOST 1048576: true; the input reads as it did. -/
def evalTurnedUptoRow : OpenClaim := { program := "ytiaoojghohfkjaa", sum := "bb08cc4a3a83f48a7c28213b376c9669372363a8433451d5ee5e7825f03c831f", func := "plait/plaitlaw4.EvalTurned", spec := "evalTurned", inPlace := ["math/bits.Add64"], unfollowed := true, recurses := true, plainKeys := false, apart := false, narrowed := true }
def EvalTurnedUptoSaid : Prop := evalTurnedUptoRow.holds Try.pinned (OpenSpec.upto evalTurnedSpec)

/-- 'plaitlaw4.EvalSwap', WHERE WHAT IT READS IS OF BULK AT MOST 1048576: true; the input reads as it did. -/
def evalSwapUptoRow : OpenClaim := { program := "ytiaoojghohfkjaa", sum := "bb08cc4a3a83f48a7c28213b376c9669372363a8433451d5ee5e7825f03c831f", func := "plait/plaitlaw4.EvalSwap", spec := "evalSwap", inPlace := ["math/bits.Add64"], unfollowed := true, recurses := true, plainKeys := false, apart := false, narrowed := true }
def EvalSwapUptoSaid : Prop := evalSwapUptoRow.holds Try.pinned (OpenSpec.upto evalSwapSpec)

/-- 'plaitlaw4.EvalOwn', WHERE WHAT IT READS IS OF BULK AT MOST 1048576: true; the input reads as it did. -/
def evalOwnUptoRow : OpenClaim := { program := "ytiaoojghohfkjaa", sum := "bb08cc4a3a83f48a7c28213b376c9669372363a8433451d5ee5e7825f03c831f", func := "plait/plaitlaw4.EvalOwn", spec := "evalOwn", inPlace := ["math/bits.Add64"], unfollowed := true, recurses := true, plainKeys := false, apart := false, narrowed := true }
def EvalOwnUptoSaid : Prop := evalOwnUptoRow.holds Try.pinned (OpenSpec.upto evalOwnSpec)

/-- 'plaitlaw16.LiftModels', WHERE WHAT IT READS IS OF BULK AT MOST 1048576: true; the input reads as it did. -/
def liftModelsUptoRow : OpenClaim := { program := "ytiaoojghohfkjaa", sum := "bb08cc4a3a83f48a7c28213b376c9669372363a8433451d5ee5e7825f03c831f", func := "plait/plaitlaw16.LiftModels", spec := "liftModels", inPlace := ["math/bits.Add64"], unfollowed := true, recurses := true, plainKeys := false, apart := false, narrowed := true }
def LiftModelsUptoSaid : Prop := liftModelsUptoRow.holds Try.pinned (OpenSpec.upto liftModelsSpec)

end Rows
end Go.Proofs.Ytiaoojghohfkjaa
