/-
  No cell of these rows narrows 'for every input' (looked for: loops, veiled, ifaces, maps, wideKeys, modest, calm, conditions, laid).
  DERIVED. THE GIVEN ROWS OF THIS SEAT. 3 by the template 'for every input the law returns true; each argument reads behind the call as it read before'; 0 by the template 'total and deterministic' (their statements: YtdbbkhmiflignaaTotals.lean).
  GIVEN WITH THE SEED: the statements are not yours to turn. If you find one false, say at which input.
  Laid BY PROGRAM, IN A SANDBOX (cutbox-rows.mjs): the forced cells as the released guide's own fill.sh prints them over the translation 548464dfecc010c3… (all of the seat's roots in one cut). By AI agents, Wed Nov 11 2026. No macro, syntax, notation, axiom, sorry.
-/
import Derived.Test.YtdbbkhmiflignaaChecked
import GoSem.Claim
import GoSem.ClaimJoined
import GoSem.ClaimMapViews
import Derived.JoinedTies
import Derived.KernelRfl
namespace Go.Proofs.Ytdbbkhmiflignaa
/- THE CELL 'sum', in the pinned program and in every row, IS THE sha256 OF THE DUMP (.gsa) THAT YtdbbkhmiflignaaProg.lean LOADS. Nothing in Lean hashes anything: it is a label: what it is worth is what the hold of that sum in a sandbox is worth. -/
noncomputable def Try.pinned : Pinned := { name := "ytdbbkhmiflignaa", sum := "548464dfecc010c3b22ef20e716b7929ef30338afc857b7cb92150c8098762b9", checked := Try.checked }
namespace Rows
def none {H : Type} : Left H := { results := [], args := [] }

/-- 'plaitlaw10.CnfForm': WHATEVER THE INPUT: true; the input reads as it did. -/
def cnfFormSpec : ChangeSpec := { name := "cnfForm", fn := fun _ => fun
  | [d1, d2] => { results := [.lit (.bool true)], args := [d1, d2] }
  | _ => none }
def cnfFormRow : OpenClaim := { program := "ytdbbkhmiflignaa", sum := "548464dfecc010c3b22ef20e716b7929ef30338afc857b7cb92150c8098762b9", func := "plait/plaitlaw10.CnfForm", spec := "cnfForm", plainKeys := false, apart := false }
def CnfFormSaid : Prop := cnfFormRow.holds Try.pinned (OpenSpec.ofChange cnfFormSpec)

/-- ITS FALSE NEIGHBOUR: 'it returns false'. Refute it at one input. -/
def cnfFormWrong : ChangeSpec := { name := "cnfForm", fn := fun _ => fun
  | [d1, d2] => { results := [.lit (.bool false)], args := [d1, d2] }
  | _ => none }
def CnfFormWrongFalsely : Prop := cnfFormRow.holds Try.pinned (OpenSpec.ofChange cnfFormWrong)

/-- 'plaitlaw10.CnfAsserts': WHATEVER THE INPUT: true; the input reads as it did. -/
def cnfAssertsSpec : ChangeSpec := { name := "cnfAsserts", fn := fun _ => fun
  | [d] => { results := [.lit (.bool true)], args := [d] }
  | _ => none }
def cnfAssertsRow : OpenClaim := { program := "ytdbbkhmiflignaa", sum := "548464dfecc010c3b22ef20e716b7929ef30338afc857b7cb92150c8098762b9", func := "plait/plaitlaw10.CnfAsserts", spec := "cnfAsserts", plainKeys := false, apart := false }
def CnfAssertsSaid : Prop := cnfAssertsRow.holds Try.pinned (OpenSpec.ofChange cnfAssertsSpec)

/-- ITS FALSE NEIGHBOUR: 'it returns false'. Refute it at one input. -/
def cnfAssertsWrong : ChangeSpec := { name := "cnfAsserts", fn := fun _ => fun
  | [d] => { results := [.lit (.bool false)], args := [d] }
  | _ => none }
def CnfAssertsWrongFalsely : Prop := cnfAssertsRow.holds Try.pinned (OpenSpec.ofChange cnfAssertsWrong)

/-- 'plaitlaw1.BvText': WHATEVER THE INPUT: true; the input reads as it did. -/
def bvTextSpec : ChangeSpec := { name := "bvText", fn := fun _ => fun
  | [d1, d2] => { results := [.lit (.bool true)], args := [d1, d2] }
  | _ => none }
def bvTextRow : OpenClaim := { program := "ytdbbkhmiflignaa", sum := "548464dfecc010c3b22ef20e716b7929ef30338afc857b7cb92150c8098762b9", func := "plait/plaitlaw1.BvText", spec := "bvText", inPlace := ["math/bits.Add64", "internal/bytealg.IndexByteString"], plainKeys := false, apart := false }
def BvTextSaid : Prop := bvTextRow.holds Try.pinned (OpenSpec.ofChange bvTextSpec)

/-- ITS FALSE NEIGHBOUR: 'it returns false'. Refute it at one input. -/
def bvTextWrong : ChangeSpec := { name := "bvText", fn := fun _ => fun
  | [d1, d2] => { results := [.lit (.bool false)], args := [d1, d2] }
  | _ => none }
def BvTextWrongFalsely : Prop := bvTextRow.holds Try.pinned (OpenSpec.ofChange bvTextWrong)

/- THE SECOND FORM. 'bulk': how many values and letters a reading holds, each counted each time it is reached (what is shared counts as often as it is met; a slice's spare places count too). A statement '..UptoSaid' is the law's where the arguments, and the package variables that the reading takes, are together of bulk at most 1048576: NARROWER than '..Said'. Prove '..Said' where nothing that the law and all that it calls make is longer than what came in: it says more and counts as full. Else prove '..UptoSaid'. A law counts once. -/
mutual
def uptoBulk {H : Type} : DataW H → Nat
  | .lit (.string bytes) => bytes.length + 1
  | .lit _ => 1
  | .nil => 1
  | .ptr d => uptoBulk d + 1
  | .slice elems spare => uptoBulkAll elems + uptoBulkAll spare + 1
  | .agg parts => uptoBulkAll parts + 1
  | .iface _ d => uptoBulk d + 1
  | .map entries => uptoBulkEntries entries + 1
  | .held _ => 1
def uptoBulkAll {H : Type} : List (DataW H) → Nat
  | [] => 0
  | d :: r => uptoBulk d + uptoBulkAll r
def uptoBulkEntries {H : Type} : List (Lit × DataW H) → Nat
  | [] => 0
  | x :: r => uptoBulkEntry x + uptoBulkEntries r
def uptoBulkEntry {H : Type} : Lit × DataW H → Nat
  | (.string bytes, d) => bytes.length + uptoBulk d + 1
  | (_, d) => uptoBulk d + 1
 end
def uptoSmall : (H : Type) → List (DataW H) → Bool := fun _ ds => decide (uptoBulkAll ds ≤ 1048576)
def OpenSpec.upto (s : _root_.Go.ChangeSpec) : _root_.Go.OpenSpec := { _root_.Go.OpenSpec.ofChange s with cond := some uptoSmall }

/-- 'plaitlaw10.CnfForm', WHERE WHAT IT READS IS OF BULK AT MOST 1048576: true; the input reads as it did. -/
def cnfFormUptoRow : OpenClaim := { program := "ytdbbkhmiflignaa", sum := "548464dfecc010c3b22ef20e716b7929ef30338afc857b7cb92150c8098762b9", func := "plait/plaitlaw10.CnfForm", spec := "cnfForm", plainKeys := false, apart := false, narrowed := true }
def CnfFormUptoSaid : Prop := cnfFormUptoRow.holds Try.pinned (OpenSpec.upto cnfFormSpec)

/-- 'plaitlaw10.CnfAsserts', WHERE WHAT IT READS IS OF BULK AT MOST 1048576: true; the input reads as it did. -/
def cnfAssertsUptoRow : OpenClaim := { program := "ytdbbkhmiflignaa", sum := "548464dfecc010c3b22ef20e716b7929ef30338afc857b7cb92150c8098762b9", func := "plait/plaitlaw10.CnfAsserts", spec := "cnfAsserts", plainKeys := false, apart := false, narrowed := true }
def CnfAssertsUptoSaid : Prop := cnfAssertsUptoRow.holds Try.pinned (OpenSpec.upto cnfAssertsSpec)

/-- 'plaitlaw1.BvText', WHERE WHAT IT READS IS OF BULK AT MOST 1048576: true; the input reads as it did. -/
def bvTextUptoRow : OpenClaim := { program := "ytdbbkhmiflignaa", sum := "548464dfecc010c3b22ef20e716b7929ef30338afc857b7cb92150c8098762b9", func := "plait/plaitlaw1.BvText", spec := "bvText", inPlace := ["math/bits.Add64", "internal/bytealg.IndexByteString"], plainKeys := false, apart := false, narrowed := true }
def BvTextUptoSaid : Prop := bvTextUptoRow.holds Try.pinned (OpenSpec.upto bvTextSpec)

end Rows
end Go.Proofs.Ytdbbkhmiflignaa
