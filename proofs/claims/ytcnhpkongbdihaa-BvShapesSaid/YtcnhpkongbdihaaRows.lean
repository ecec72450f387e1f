/-
  No cell of these rows narrows 'for every input' (looked for: loops, veiled, ifaces, maps, wideKeys, modest, calm, conditions, laid).
  DERIVED. THE GIVEN ROWS OF THIS SEAT. 3 by the template 'for every input the law returns true; each argument reads behind the call as it read before'; 0 by the template 'total and deterministic' (their statements: YtcnhpkongbdihaaTotals.lean).
  GIVEN WITH THE SEED: the statements are not yours to turn. If you find one false, say at which input.
  Laid BY PROGRAM, IN A SANDBOX (cutbox-rows.mjs): the forced cells as the released guide's own fill.sh prints them over the translation afda2fdfaf2218b0… (all of the seat's roots in one cut). By AI agents, Wed Nov 11 2026. No macro, syntax, notation, axiom, sorry.
-/
import Derived.Test.YtcnhpkongbdihaaChecked
import GoSem.Claim
import GoSem.ClaimJoined
import GoSem.ClaimMapViews
import Derived.JoinedTies
import Derived.KernelRfl
namespace Go.Proofs.Ytcnhpkongbdihaa
/- THE CELL 'sum', in the pinned program and in every row, IS THE sha256 OF THE DUMP (.gsa) THAT YtcnhpkongbdihaaProg.lean LOADS. Nothing in Lean hashes anything: it is a label: what it is worth is what the hold of that sum in a sandbox is worth. -/
noncomputable def Try.pinned : Pinned := { name := "ytcnhpkongbdihaa", sum := "afda2fdfaf2218b091e065db527a6680d5f7c7739e11ec956c80ba079efbf262", checked := Try.checked }
namespace Rows
def none {H : Type} : Left H := { results := [], args := [] }

/-- 'plaitlaw1.BvShapes': WHATEVER THE INPUT: true; the input reads as it did. -/
def bvShapesSpec : ChangeSpec := { name := "bvShapes", fn := fun _ => fun
  | [d1, d2, d3, d4] => { results := [.lit (.bool true)], args := [d1, d2, d3, d4] }
  | _ => none }
def bvShapesRow : OpenClaim := { program := "ytcnhpkongbdihaa", sum := "afda2fdfaf2218b091e065db527a6680d5f7c7739e11ec956c80ba079efbf262", func := "plait/plaitlaw1.BvShapes", spec := "bvShapes", inPlace := ["math/bits.Add64", "internal/bytealg.IndexByteString"], apart := false }
def BvShapesSaid : Prop := bvShapesRow.holds Try.pinned (OpenSpec.ofChange bvShapesSpec)

/-- ITS FALSE NEIGHBOUR: 'it returns false'. Refute it at one input. -/
def bvShapesWrong : ChangeSpec := { name := "bvShapes", fn := fun _ => fun
  | [d1, d2, d3, d4] => { results := [.lit (.bool false)], args := [d1, d2, d3, d4] }
  | _ => none }
def BvShapesWrongFalsely : Prop := bvShapesRow.holds Try.pinned (OpenSpec.ofChange bvShapesWrong)

/-- 'plaitlaw1.BvText': WHATEVER THE INPUT: true; the input reads as it did. -/
def bvTextSpec : ChangeSpec := { name := "bvText", fn := fun _ => fun
  | [d1, d2] => { results := [.lit (.bool true)], args := [d1, d2] }
  | _ => none }
def bvTextRow : OpenClaim := { program := "ytcnhpkongbdihaa", sum := "afda2fdfaf2218b091e065db527a6680d5f7c7739e11ec956c80ba079efbf262", func := "plait/plaitlaw1.BvText", spec := "bvText", inPlace := ["math/bits.Add64", "internal/bytealg.IndexByteString"], apart := false }
def BvTextSaid : Prop := bvTextRow.holds Try.pinned (OpenSpec.ofChange bvTextSpec)

/-- ITS FALSE NEIGHBOUR: 'it returns false'. Refute it at one input. -/
def bvTextWrong : ChangeSpec := { name := "bvText", fn := fun _ => fun
  | [d1, d2] => { results := [.lit (.bool false)], args := [d1, d2] }
  | _ => none }
def BvTextWrongFalsely : Prop := bvTextRow.holds Try.pinned (OpenSpec.ofChange bvTextWrong)

/-- 'plaitlaw1.BvOps': WHATEVER THE INPUT: true; the input reads as it did. -/
def bvOpsSpec : ChangeSpec := { name := "bvOps", fn := fun _ => fun
  | [d1, d2, d3, d4] => { results := [.lit (.bool true)], args := [d1, d2, d3, d4] }
  | _ => none }
def bvOpsRow : OpenClaim := { program := "ytcnhpkongbdihaa", sum := "afda2fdfaf2218b091e065db527a6680d5f7c7739e11ec956c80ba079efbf262", func := "plait/plaitlaw1.BvOps", spec := "bvOps", inPlace := ["math/bits.Add64", "internal/bytealg.IndexByteString"], apart := false }
def BvOpsSaid : Prop := bvOpsRow.holds Try.pinned (OpenSpec.ofChange bvOpsSpec)

/-- ITS FALSE NEIGHBOUR: 'it returns false'. Refute it at one input. -/
def bvOpsWrong : ChangeSpec := { name := "bvOps", fn := fun _ => fun
  | [d1, d2, d3, d4] => { results := [.lit (.bool false)], args := [d1, d2, d3, d4] }
  | _ => none }
def BvOpsWrongFalsely : Prop := bvOpsRow.holds Try.pinned (OpenSpec.ofChange bvOpsWrong)

/- THE SECOND FORM. 'bulk': how many values and letters a reading holds, each counted each time it is reached (what is shared counts as often as it is met; a slice's spare places count too). A statement '..UptoSaid' is the law's where the arguments, and the package variables that the reading takes, are together of bulk at most 1048576: NARROWER than '..Said'. Prove '..Said' where nothing that the law and all that it calls make is longer than what came in: it says more and counts as full. Else prove '..UptoSaid'. A law counts once. -/
mutual
def uptoBulk {H : Type} : DataW H → Nat
  | .lit (.string bytes) => bytes.length + 1
  | .lit _ => 1
  | .nil => 1
  | .ptr d => uptoBulk d + 1
  | .slice elems spare => uptoBulkAll elems + uptoBulkAll spare + 1
  | .agg parts => uptoBulkAll parts + 1
  | .iface _ d => uptoBulk d + 1
  | .map entries => uptoBulkEntries entries + 1
  | .held _ => 1
def uptoBulkAll {H : Type} : List (DataW H) → Nat
  | [] => 0
  | d :: r => uptoBulk d + uptoBulkAll r
def uptoBulkEntries {H : Type} : List (Lit × DataW H) → Nat
  | [] => 0
  | x :: r => uptoBulkEntry x + uptoBulkEntries r
def uptoBulkEntry {H : Type} : Lit × DataW H → Nat
  | (.string bytes, d) => bytes.length + uptoBulk d + 1
  | (_, d) => uptoBulk d + 1
 end
def uptoSmall : (H : Type) → List (DataW H) → Bool := fun _ ds => decide (uptoBulkAll ds ≤ 1048576)
def OpenSpec.upto (s : _root_.Go.ChangeSpec) : _root_.Go.OpenSpec := { _root_.Go.OpenSpec.ofChange s with cond := some uptoSmall }

/-- 'plaitlaw1.BvShapes', WHERE WHAT IT READS IS OF BULK AT MOST 1048576: true; the input reads as it did. -/
def bvShapesUptoRow : OpenClaim := { program := "ytcnhpkongbdihaa", sum := "afda2fdfaf2218b091e065db527a6680d5f7c7739e11ec956c80ba079efbf262", func := "plait/plaitlaw1.BvShapes", spec := "bvShapes", inPlace := ["math/bits.Add64", "internal/bytealg.IndexByteString"], apart := false, narrowed := true }
def BvShapesUptoSaid : Prop := bvShapesUptoRow.holds Try.pinned (OpenSpec.upto bvShapesSpec)

/-- 'plaitlaw1.BvText', WHERE WHAT IT READS IS OF BULK AT MOST 1048576: true; the input reads as it did. -/
def bvTextUptoRow : OpenClaim := { program := "ytcnhpkongbdihaa", sum := "afda2fdfaf2218b091e065db527a6680d5f7c7739e11ec956c80ba079efbf262", func := "plait/plaitlaw1.BvText", spec := "bvText", inPlace := ["math/bits.Add64", "internal/bytealg.IndexByteString"], apart := false, narrowed := true }
def BvTextUptoSaid : Prop := bvTextUptoRow.holds Try.pinned (OpenSpec.upto bvTextSpec)

/-- 'plaitlaw1.BvOps', WHERE WHAT IT READS IS OF BULK AT MOST 1048576: true; the input reads as it did. -/
def bvOpsUptoRow : OpenClaim := { program := "ytcnhpkongbdihaa", sum := "afda2fdfaf2218b091e065db527a6680d5f7c7739e11ec956c80ba079efbf262", func := "plait/plaitlaw1.BvOps", spec := "bvOps", inPlace := ["math/bits.Add64", "internal/bytealg.IndexByteString"], apart := false, narrowed := true }
def BvOpsUptoSaid : Prop := bvOpsUptoRow.holds Try.pinned (OpenSpec.upto bvOpsSpec)

end Rows
end Go.Proofs.Ytcnhpkongbdihaa
