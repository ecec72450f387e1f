/-
  No cell of these rows narrows 'for every input' (looked for: loops, veiled, ifaces, maps, wideKeys, modest, calm, conditions, laid).
  DERIVED. THE GIVEN ROWS OF THIS SEAT. 11 by the template 'for every input the law returns true; each argument reads behind the call as it read before'; 0 by the template 'total and deterministic' (their statements: YtfjbdlfnoecejaaTotals.lean).
  GIVEN WITH THE SEED: the statements are not yours to turn. If you find one false, say at which input.
  Laid BY PROGRAM, IN A SANDBOX (cutbox-rows.mjs): the forced cells as the released guide's own fill.sh prints them over the translation a39c5750760cf8a5… (all of the seat's roots in one cut). By AI agents, Wed Nov 11 2026. No macro, syntax, notation, axiom, sorry.
-/
import Derived.Test.YtfjbdlfnoecejaaChecked
import GoSem.Claim
import GoSem.ClaimJoined
import GoSem.ClaimMapViews
import Derived.JoinedTies
import Derived.KernelRfl
namespace Go.Proofs.Ytfjbdlfnoecejaa
/- THE CELL 'sum', in the pinned program and in every row, IS THE sha256 OF THE DUMP (.gsa) THAT YtfjbdlfnoecejaaProg.lean LOADS. Nothing in Lean hashes anything: it is a label: what it is worth is what the hold of that sum in a sandbox is worth. -/
noncomputable def Try.pinned : Pinned := { name := "ytfjbdlfnoecejaa", sum := "a39c5750760cf8a538de96a8e5eb6556fa6ee85ac7a2049d07fd1803870db845", checked := Try.checked }
namespace Rows
def none {H : Type} : Left H := { results := [], args := [] }

/-- 'plaitlaw1.BvShapes': WHATEVER THE INPUT: true; the input reads as it did. -/
def bvShapesSpec : ChangeSpec := { name := "bvShapes", fn := fun _ => fun
  | [d1, d2, d3, d4] => { results := [.lit (.bool true)], args := [d1, d2, d3, d4] }
  | _ => none }
def bvShapesRow : OpenClaim := { program := "ytfjbdlfnoecejaa", sum := "a39c5750760cf8a538de96a8e5eb6556fa6ee85ac7a2049d07fd1803870db845", func := "plait/plaitlaw1.BvShapes", spec := "bvShapes", inPlace := ["math/bits.Add64", "internal/bytealg.IndexByteString"], apart := false }
def BvShapesSaid : Prop := bvShapesRow.holds Try.pinned (OpenSpec.ofChange bvShapesSpec)

/-- ITS FALSE NEIGHBOUR: 'it returns false'. Refute it at one input. -/
def bvShapesWrong : ChangeSpec := { name := "bvShapes", fn := fun _ => fun
  | [d1, d2, d3, d4] => { results := [.lit (.bool false)], args := [d1, d2, d3, d4] }
  | _ => none }
def BvShapesWrongFalsely : Prop := bvShapesRow.holds Try.pinned (OpenSpec.ofChange bvShapesWrong)

/-- 'plaitlaw1.BvText': WHATEVER THE INPUT: true; the input reads as it did. -/
def bvTextSpec : ChangeSpec := { name := "bvText", fn := fun _ => fun
  | [d1, d2] => { results := [.lit (.bool true)], args := [d1, d2] }
  | _ => none }
def bvTextRow : OpenClaim := { program := "ytfjbdlfnoecejaa", sum := "a39c5750760cf8a538de96a8e5eb6556fa6ee85ac7a2049d07fd1803870db845", func := "plait/plaitlaw1.BvText", spec := "bvText", inPlace := ["math/bits.Add64", "internal/bytealg.IndexByteString"], apart := false }
def BvTextSaid : Prop := bvTextRow.holds Try.pinned (OpenSpec.ofChange bvTextSpec)

/-- ITS FALSE NEIGHBOUR: 'it returns false'. Refute it at one input. -/
def bvTextWrong : ChangeSpec := { name := "bvText", fn := fun _ => fun
  | [d1, d2] => { results := [.lit (.bool false)], args := [d1, d2] }
  | _ => none }
def BvTextWrongFalsely : Prop := bvTextRow.holds Try.pinned (OpenSpec.ofChange bvTextWrong)

/-- 'plaitlaw1.BvLaws': WHATEVER THE INPUT: true; the input reads as it did. -/
def bvLawsSpec : ChangeSpec := { name := "bvLaws", fn := fun _ => fun
  | [d1, d2, d3, d4, d5, d6, d7] => { results := [.lit (.bool true)], args := [d1, d2, d3, d4, d5, d6, d7] }
  | _ => none }
def bvLawsRow : OpenClaim := { program := "ytfjbdlfnoecejaa", sum := "a39c5750760cf8a538de96a8e5eb6556fa6ee85ac7a2049d07fd1803870db845", func := "plait/plaitlaw1.BvLaws", spec := "bvLaws", inPlace := ["math/bits.Add64", "internal/bytealg.IndexByteString"], apart := false }
def BvLawsSaid : Prop := bvLawsRow.holds Try.pinned (OpenSpec.ofChange bvLawsSpec)

/-- ITS FALSE NEIGHBOUR: 'it returns false'. Refute it at one input. -/
def bvLawsWrong : ChangeSpec := { name := "bvLaws", fn := fun _ => fun
  | [d1, d2, d3, d4, d5, d6, d7] => { results := [.lit (.bool false)], args := [d1, d2, d3, d4, d5, d6, d7] }
  | _ => none }
def BvLawsWrongFalsely : Prop := bvLawsRow.holds Try.pinned (OpenSpec.ofChange bvLawsWrong)

/-- 'plaitlaw1.BvOrders': WHATEVER THE INPUT: true; the input reads as it did. -/
def bvOrdersSpec : ChangeSpec := { name := "bvOrders", fn := fun _ => fun
  | [d1, d2, d3, d4, d5, d6, d7] => { results := [.lit (.bool true)], args := [d1, d2, d3, d4, d5, d6, d7] }
  | _ => none }
def bvOrdersRow : OpenClaim := { program := "ytfjbdlfnoecejaa", sum := "a39c5750760cf8a538de96a8e5eb6556fa6ee85ac7a2049d07fd1803870db845", func := "plait/plaitlaw1.BvOrders", spec := "bvOrders", inPlace := ["math/bits.Add64", "internal/bytealg.IndexByteString"], apart := false }
def BvOrdersSaid : Prop := bvOrdersRow.holds Try.pinned (OpenSpec.ofChange bvOrdersSpec)

/-- ITS FALSE NEIGHBOUR: 'it returns false'. Refute it at one input. -/
def bvOrdersWrong : ChangeSpec := { name := "bvOrders", fn := fun _ => fun
  | [d1, d2, d3, d4, d5, d6, d7] => { results := [.lit (.bool false)], args := [d1, d2, d3, d4, d5, d6, d7] }
  | _ => none }
def BvOrdersWrongFalsely : Prop := bvOrdersRow.holds Try.pinned (OpenSpec.ofChange bvOrdersWrong)

/-- 'plaitlaw1.BvMoves': WHATEVER THE INPUT: true; the input reads as it did. -/
def bvMovesSpec : ChangeSpec := { name := "bvMoves", fn := fun _ => fun
  | [d1, d2, d3, d4, d5, d6, d7] => { results := [.lit (.bool true)], args := [d1, d2, d3, d4, d5, d6, d7] }
  | _ => none }
def bvMovesRow : OpenClaim := { program := "ytfjbdlfnoecejaa", sum := "a39c5750760cf8a538de96a8e5eb6556fa6ee85ac7a2049d07fd1803870db845", func := "plait/plaitlaw1.BvMoves", spec := "bvMoves", inPlace := ["math/bits.Add64", "internal/bytealg.IndexByteString"], apart := false }
def BvMovesSaid : Prop := bvMovesRow.holds Try.pinned (OpenSpec.ofChange bvMovesSpec)

/-- ITS FALSE NEIGHBOUR: 'it returns false'. Refute it at one input. -/
def bvMovesWrong : ChangeSpec := { name := "bvMoves", fn := fun _ => fun
  | [d1, d2, d3, d4, d5, d6, d7] => { results := [.lit (.bool false)], args := [d1, d2, d3, d4, d5, d6, d7] }
  | _ => none }
def BvMovesWrongFalsely : Prop := bvMovesRow.holds Try.pinned (OpenSpec.ofChange bvMovesWrong)

/-- 'plaitlaw1.BvLow': WHATEVER THE INPUT: true; the input reads as it did. -/
def bvLowSpec : ChangeSpec := { name := "bvLow", fn := fun _ => fun
  | [d1, d2, d3, d4, d5, d6] => { results := [.lit (.bool true)], args := [d1, d2, d3, d4, d5, d6] }
  | _ => none }
def bvLowRow : OpenClaim := { program := "ytfjbdlfnoecejaa", sum := "a39c5750760cf8a538de96a8e5eb6556fa6ee85ac7a2049d07fd1803870db845", func := "plait/plaitlaw1.BvLow", spec := "bvLow", inPlace := ["math/bits.Add64", "internal/bytealg.IndexByteString"], apart := false }
def BvLowSaid : Prop := bvLowRow.holds Try.pinned (OpenSpec.ofChange bvLowSpec)

/-- ITS FALSE NEIGHBOUR: 'it returns false'. Refute it at one input. -/
def bvLowWrong : ChangeSpec := { name := "bvLow", fn := fun _ => fun
  | [d1, d2, d3, d4, d5, d6] => { results := [.lit (.bool false)], args := [d1, d2, d3, d4, d5, d6] }
  | _ => none }
def BvLowWrongFalsely : Prop := bvLowRow.holds Try.pinned (OpenSpec.ofChange bvLowWrong)

/-- 'plaitlaw1.BvRepeats': WHATEVER THE INPUT: true; the input reads as it did. -/
def bvRepeatsSpec : ChangeSpec := { name := "bvRepeats", fn := fun _ => fun
  | [d1, d2, d3, d4] => { results := [.lit (.bool true)], args := [d1, d2, d3, d4] }
  | _ => none }
def bvRepeatsRow : OpenClaim := { program := "ytfjbdlfnoecejaa", sum := "a39c5750760cf8a538de96a8e5eb6556fa6ee85ac7a2049d07fd1803870db845", func := "plait/plaitlaw1.BvRepeats", spec := "bvRepeats", inPlace := ["math/bits.Add64", "internal/bytealg.IndexByteString"], apart := false }
def BvRepeatsSaid : Prop := bvRepeatsRow.holds Try.pinned (OpenSpec.ofChange bvRepeatsSpec)

/-- ITS FALSE NEIGHBOUR: 'it returns false'. Refute it at one input. -/
def bvRepeatsWrong : ChangeSpec := { name := "bvRepeats", fn := fun _ => fun
  | [d1, d2, d3, d4] => { results := [.lit (.bool false)], args := [d1, d2, d3, d4] }
  | _ => none }
def BvRepeatsWrongFalsely : Prop := bvRepeatsRow.holds Try.pinned (OpenSpec.ofChange bvRepeatsWrong)

/-- 'plaitlaw1.BvOps': WHATEVER THE INPUT: true; the input reads as it did. -/
def bvOpsSpec : ChangeSpec := { name := "bvOps", fn := fun _ => fun
  | [d1, d2, d3, d4] => { results := [.lit (.bool true)], args := [d1, d2, d3, d4] }
  | _ => none }
def bvOpsRow : OpenClaim := { program := "ytfjbdlfnoecejaa", sum := "a39c5750760cf8a538de96a8e5eb6556fa6ee85ac7a2049d07fd1803870db845", func := "plait/plaitlaw1.BvOps", spec := "bvOps", inPlace := ["math/bits.Add64", "internal/bytealg.IndexByteString"], apart := false }
def BvOpsSaid : Prop := bvOpsRow.holds Try.pinned (OpenSpec.ofChange bvOpsSpec)

/-- ITS FALSE NEIGHBOUR: 'it returns false'. Refute it at one input. -/
def bvOpsWrong : ChangeSpec := { name := "bvOps", fn := fun _ => fun
  | [d1, d2, d3, d4] => { results := [.lit (.bool false)], args := [d1, d2, d3, d4] }
  | _ => none }
def BvOpsWrongFalsely : Prop := bvOpsRow.holds Try.pinned (OpenSpec.ofChange bvOpsWrong)

/-- 'plaitlaw1.BvDivides': WHATEVER THE INPUT: true; the input reads as it did. -/
def bvDividesSpec : ChangeSpec := { name := "bvDivides", fn := fun _ => fun
  | [d1, d2, d3, d4, d5] => { results := [.lit (.bool true)], args := [d1, d2, d3, d4, d5] }
  | _ => none }
def bvDividesRow : OpenClaim := { program := "ytfjbdlfnoecejaa", sum := "a39c5750760cf8a538de96a8e5eb6556fa6ee85ac7a2049d07fd1803870db845", func := "plait/plaitlaw1.BvDivides", spec := "bvDivides", inPlace := ["math/bits.Add64", "internal/bytealg.IndexByteString"], apart := false }
def BvDividesSaid : Prop := bvDividesRow.holds Try.pinned (OpenSpec.ofChange bvDividesSpec)

/-- ITS FALSE NEIGHBOUR: 'it returns false'. Refute it at one input. -/
def bvDividesWrong : ChangeSpec := { name := "bvDivides", fn := fun _ => fun
  | [d1, d2, d3, d4, d5] => { results := [.lit (.bool false)], args := [d1, d2, d3, d4, d5] }
  | _ => none }
def BvDividesWrongFalsely : Prop := bvDividesRow.holds Try.pinned (OpenSpec.ofChange bvDividesWrong)

/-- 'plaitlaw1.BvExtends': WHATEVER THE INPUT: true; the input reads as it did. -/
def bvExtendsSpec : ChangeSpec := { name := "bvExtends", fn := fun _ => fun
  | [d1, d2, d3, d4, d5, d6] => { results := [.lit (.bool true)], args := [d1, d2, d3, d4, d5, d6] }
  | _ => none }
def bvExtendsRow : OpenClaim := { program := "ytfjbdlfnoecejaa", sum := "a39c5750760cf8a538de96a8e5eb6556fa6ee85ac7a2049d07fd1803870db845", func := "plait/plaitlaw1.BvExtends", spec := "bvExtends", inPlace := ["math/bits.Add64", "internal/bytealg.IndexByteString"], apart := false }
def BvExtendsSaid : Prop := bvExtendsRow.holds Try.pinned (OpenSpec.ofChange bvExtendsSpec)

/-- ITS FALSE NEIGHBOUR: 'it returns false'. Refute it at one input. -/
def bvExtendsWrong : ChangeSpec := { name := "bvExtends", fn := fun _ => fun
  | [d1, d2, d3, d4, d5, d6] => { results := [.lit (.bool false)], args := [d1, d2, d3, d4, d5, d6] }
  | _ => none }
def BvExtendsWrongFalsely : Prop := bvExtendsRow.holds Try.pinned (OpenSpec.ofChange bvExtendsWrong)

/-- 'plaitlaw1.BvShifts': WHATEVER THE INPUT: true; the input reads as it did. -/
def bvShiftsSpec : ChangeSpec := { name := "bvShifts", fn := fun _ => fun
  | [d1, d2, d3, d4, d5] => { results := [.lit (.bool true)], args := [d1, d2, d3, d4, d5] }
  | _ => none }
def bvShiftsRow : OpenClaim := { program := "ytfjbdlfnoecejaa", sum := "a39c5750760cf8a538de96a8e5eb6556fa6ee85ac7a2049d07fd1803870db845", func := "plait/plaitlaw1.BvShifts", spec := "bvShifts", inPlace := ["math/bits.Add64", "internal/bytealg.IndexByteString"], apart := false }
def BvShiftsSaid : Prop := bvShiftsRow.holds Try.pinned (OpenSpec.ofChange bvShiftsSpec)

/-- ITS FALSE NEIGHBOUR: 'it returns false'. Refute it at one input. -/
def bvShiftsWrong : ChangeSpec := { name := "bvShifts", fn := fun _ => fun
  | [d1, d2, d3, d4, d5] => { results := [.lit (.bool false)], args := [d1, d2, d3, d4, d5] }
  | _ => none }
def BvShiftsWrongFalsely : Prop := bvShiftsRow.holds Try.pinned (OpenSpec.ofChange bvShiftsWrong)

/- THE SECOND FORM. 'bulk': how many values and letters a reading holds, each counted each time it is reached (what is shared counts as often as it is met; a slice's spare places count too). A statement '..UptoSaid' is the law's where the arguments, and the package variables that the reading takes, are together of bulk at most 1048576: NARROWER than '..Said'. Prove '..Said' where nothing that the law and all that it calls make is longer than what came in: it says more and counts as full. Else prove '..UptoSaid'. A law counts once. -/
mutual
def uptoBulk {H : Type} : DataW H → Nat
  | .lit (.string bytes) => bytes.length + 1
  | .lit _ => 1
  | .nil => 1
  | .ptr d => uptoBulk d + 1
  | .slice elems spare => uptoBulkAll elems + uptoBulkAll spare + 1
  | .agg parts => uptoBulkAll parts + 1
  | .iface _ d => uptoBulk d + 1
  | .map entries => uptoBulkEntries entries + 1
  | .held _ => 1
def uptoBulkAll {H : Type} : List (DataW H) → Nat
  | [] => 0
  | d :: r => uptoBulk d + uptoBulkAll r
def uptoBulkEntries {H : Type} : List (Lit × DataW H) → Nat
  | [] => 0
  | x :: r => uptoBulkEntry x + uptoBulkEntries r
def uptoBulkEntry {H : Type} : Lit × DataW H → Nat
  | (.string bytes, d) => bytes.length + uptoBulk d + 1
  | (_, d) => uptoBulk d + 1
 end
def uptoSmall : (H : Type) → List (DataW H) → Bool := fun _ ds => decide (uptoBulkAll ds ≤ 1048576)
def OpenSpec.upto (s : _root_.Go.ChangeSpec) : _root_.Go.OpenSpec := { _root_.Go.OpenSpec.ofChange s with cond := some uptoSmall }

/-- 'plaitlaw1.BvShapes', WHERE WHAT IT READS IS OF BULK AT MOST 1048576: true; the input reads as it did. -/
def bvShapesUptoRow : OpenClaim := { program := "ytfjbdlfnoecejaa", sum := "a39c5750760cf8a538de96a8e5eb6556fa6ee85ac7a2049d07fd1803870db845", func := "plait/plaitlaw1.BvShapes", spec := "bvShapes", inPlace := ["math/bits.Add64", "internal/bytealg.IndexByteString"], apart := false, narrowed := true }
def BvShapesUptoSaid : Prop := bvShapesUptoRow.holds Try.pinned (OpenSpec.upto bvShapesSpec)

/-- 'plaitlaw1.BvText', WHERE WHAT IT READS IS OF BULK AT MOST 1048576: true; the input reads as it did. -/
def bvTextUptoRow : OpenClaim := { program := "ytfjbdlfnoecejaa", sum := "a39c5750760cf8a538de96a8e5eb6556fa6ee85ac7a2049d07fd1803870db845", func := "plait/plaitlaw1.BvText", spec := "bvText", inPlace := ["math/bits.Add64", "internal/bytealg.IndexByteString"], apart := false, narrowed := true }
def BvTextUptoSaid : Prop := bvTextUptoRow.holds Try.pinned (OpenSpec.upto bvTextSpec)

/-- 'plaitlaw1.BvLaws', WHERE WHAT IT READS IS OF BULK AT MOST 1048576: true; the input reads as it did. -/
def bvLawsUptoRow : OpenClaim := { program := "ytfjbdlfnoecejaa", sum := "a39c5750760cf8a538de96a8e5eb6556fa6ee85ac7a2049d07fd1803870db845", func := "plait/plaitlaw1.BvLaws", spec := "bvLaws", inPlace := ["math/bits.Add64", "internal/bytealg.IndexByteString"], apart := false, narrowed := true }
def BvLawsUptoSaid : Prop := bvLawsUptoRow.holds Try.pinned (OpenSpec.upto bvLawsSpec)

/-- 'plaitlaw1.BvOrders', WHERE WHAT IT READS IS OF BULK AT MOST 1048576: true; the input reads as it did. -/
def bvOrdersUptoRow : OpenClaim := { program := "ytfjbdlfnoecejaa", sum := "a39c5750760cf8a538de96a8e5eb6556fa6ee85ac7a2049d07fd1803870db845", func := "plait/plaitlaw1.BvOrders", spec := "bvOrders", inPlace := ["math/bits.Add64", "internal/bytealg.IndexByteString"], apart := false, narrowed := true }
def BvOrdersUptoSaid : Prop := bvOrdersUptoRow.holds Try.pinned (OpenSpec.upto bvOrdersSpec)

/-- 'plaitlaw1.BvMoves', WHERE WHAT IT READS IS OF BULK AT MOST 1048576: true; the input reads as it did. -/
def bvMovesUptoRow : OpenClaim := { program := "ytfjbdlfnoecejaa", sum := "a39c5750760cf8a538de96a8e5eb6556fa6ee85ac7a2049d07fd1803870db845", func := "plait/plaitlaw1.BvMoves", spec := "bvMoves", inPlace := ["math/bits.Add64", "internal/bytealg.IndexByteString"], apart := false, narrowed := true }
def BvMovesUptoSaid : Prop := bvMovesUptoRow.holds Try.pinned (OpenSpec.upto bvMovesSpec)

/-- 'plaitlaw1.BvLow', WHERE WHAT IT READS IS OF BULK AT MOST 1048576: true; the input reads as it did. -/
def bvLowUptoRow : OpenClaim := { program := "ytfjbdlfnoecejaa", sum := "a39c5750760cf8a538de96a8e5eb6556fa6ee85ac7a2049d07fd1803870db845", func := "plait/plaitlaw1.BvLow", spec := "bvLow", inPlace := ["math/bits.Add64", "internal/bytealg.IndexByteString"], apart := false, narrowed := true }
def BvLowUptoSaid : Prop := bvLowUptoRow.holds Try.pinned (OpenSpec.upto bvLowSpec)

/-- 'plaitlaw1.BvRepeats', WHERE WHAT IT READS IS OF BULK AT MOST 1048576: true; the input reads as it did. -/
def bvRepeatsUptoRow : OpenClaim := { program := "ytfjbdlfnoecejaa", sum := "a39c5750760cf8a538de96a8e5eb6556fa6ee85ac7a2049d07fd1803870db845", func := "plait/plaitlaw1.BvRepeats", spec := "bvRepeats", inPlace := ["math/bits.Add64", "internal/bytealg.IndexByteString"], apart := false, narrowed := true }
def BvRepeatsUptoSaid : Prop := bvRepeatsUptoRow.holds Try.pinned (OpenSpec.upto bvRepeatsSpec)

/-- 'plaitlaw1.BvOps', WHERE WHAT IT READS IS OF BULK AT MOST 1048576: true; the input reads as it did. -/
def bvOpsUptoRow : OpenClaim := { program := "ytfjbdlfnoecejaa", sum := "a39c5750760cf8a538de96a8e5eb6556fa6ee85ac7a2049d07fd1803870db845", func := "plait/plaitlaw1.BvOps", spec := "bvOps", inPlace := ["math/bits.Add64", "internal/bytealg.IndexByteString"], apart := false, narrowed := true }
def BvOpsUptoSaid : Prop := bvOpsUptoRow.holds Try.pinned (OpenSpec.upto bvOpsSpec)

/-- 'plaitlaw1.BvDivides', WHERE WHAT IT READS IS OF BULK AT MOST 1048576: true; the input reads as it did. -/
def bvDividesUptoRow : OpenClaim := { program := "ytfjbdlfnoecejaa", sum := "a39c5750760cf8a538de96a8e5eb6556fa6ee85ac7a2049d07fd1803870db845", func := "plait/plaitlaw1.BvDivides", spec := "bvDivides", inPlace := ["math/bits.Add64", "internal/bytealg.IndexByteString"], apart := false, narrowed := true }
def BvDividesUptoSaid : Prop := bvDividesUptoRow.holds Try.pinned (OpenSpec.upto bvDividesSpec)

/-- 'plaitlaw1.BvExtends', WHERE WHAT IT READS IS OF BULK AT MOST 1048576: true; the input reads as it did. -/
def bvExtendsUptoRow : OpenClaim := { program := "ytfjbdlfnoecejaa", sum := "a39c5750760cf8a538de96a8e5eb6556fa6ee85ac7a2049d07fd1803870db845", func := "plait/plaitlaw1.BvExtends", spec := "bvExtends", inPlace := ["math/bits.Add64", "internal/bytealg.IndexByteString"], apart := false, narrowed := true }
def BvExtendsUptoSaid : Prop := bvExtendsUptoRow.holds Try.pinned (OpenSpec.upto bvExtendsSpec)

/-- 'plaitlaw1.BvShifts', WHERE WHAT IT READS IS OF BULK AT MOST 1048576: true; the input reads as it did. -/
def bvShiftsUptoRow : OpenClaim := { program := "ytfjbdlfnoecejaa", sum := "a39c5750760cf8a538de96a8e5eb6556fa6ee85ac7a2049d07fd1803870db845", func := "plait/plaitlaw1.BvShifts", spec := "bvShifts", inPlace := ["math/bits.Add64", "internal/bytealg.IndexByteString"], apart := false, narrowed := true }
def BvShiftsUptoSaid : Prop := bvShiftsUptoRow.holds Try.pinned (OpenSpec.upto bvShiftsSpec)

end Rows
end Go.Proofs.Ytfjbdlfnoecejaa
