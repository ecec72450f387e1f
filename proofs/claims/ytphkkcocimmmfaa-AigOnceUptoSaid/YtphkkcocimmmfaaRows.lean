/-
  No cell of these rows narrows 'for every input' (looked for: loops, veiled, ifaces, maps, wideKeys, modest, calm, conditions, laid).
  DERIVED. THE GIVEN ROWS OF THIS SEAT. 12 by the template 'for every input the law returns true; each argument reads behind the call as it read before'; 0 by the template 'total and deterministic' (their statements: YtphkkcocimmmfaaTotals.lean).
  GIVEN WITH THE SEED: the statements are not yours to turn. If you find one false, say at which input.
  Laid BY PROGRAM, IN A SANDBOX (cutbox-rows.mjs): the forced cells as the released guide's own fill.sh prints them over the translation e8f25c0445c05e25… (all of the seat's roots in one cut). By AI agents, Wed Nov 11 2026. No macro, syntax, notation, axiom, sorry.
-/
import Derived.Test.YtphkkcocimmmfaaChecked
import GoSem.Claim
import GoSem.ClaimJoined
import GoSem.ClaimMapViews
import Derived.JoinedTies
import Derived.KernelRfl
namespace Go.Proofs.Ytphkkcocimmmfaa
/- THE CELL 'sum', in the pinned program and in every row, IS THE sha256 OF THE DUMP (.gsa) THAT YtphkkcocimmmfaaProg.lean LOADS. Nothing in Lean hashes anything: it is a label: what it is worth is what the hold of that sum in a sandbox is worth. -/
noncomputable def Try.pinned : Pinned := { name := "ytphkkcocimmmfaa", sum := "e8f25c0445c05e2577d38e860245642feaf9e4785b38358778c5688c1e3c0c30", checked := Try.checked }
namespace Rows
def none {H : Type} : Left H := { results := [], args := [] }

/-- 'plaitlaw16.LiftValues': WHATEVER THE INPUT: true; the input reads as it did. -/
def liftValuesSpec : ChangeSpec := { name := "liftValues", fn := fun _ => fun
  | [d1, d2, d3] => { results := [.lit (.bool true)], args := [d1, d2, d3] }
  | _ => none }
def liftValuesRow : OpenClaim := { program := "ytphkkcocimmmfaa", sum := "e8f25c0445c05e2577d38e860245642feaf9e4785b38358778c5688c1e3c0c30", func := "plait/plaitlaw16.LiftValues", spec := "liftValues", plainKeys := false, apart := false }
def LiftValuesSaid : Prop := liftValuesRow.holds Try.pinned (OpenSpec.ofChange liftValuesSpec)

/-- ITS FALSE NEIGHBOUR: 'it returns false'. Refute it at one input. -/
def liftValuesWrong : ChangeSpec := { name := "liftValues", fn := fun _ => fun
  | [d1, d2, d3] => { results := [.lit (.bool false)], args := [d1, d2, d3] }
  | _ => none }
def LiftValuesWrongFalsely : Prop := liftValuesRow.holds Try.pinned (OpenSpec.ofChange liftValuesWrong)

/-- 'plaitlaw8.AigPlays': WHATEVER THE INPUT: true; the input reads as it did. -/
def aigPlaysSpec : ChangeSpec := { name := "aigPlays", fn := fun _ => fun
  | [d1, d2, d3] => { results := [.lit (.bool true)], args := [d1, d2, d3] }
  | _ => none }
def aigPlaysRow : OpenClaim := { program := "ytphkkcocimmmfaa", sum := "e8f25c0445c05e2577d38e860245642feaf9e4785b38358778c5688c1e3c0c30", func := "plait/plaitlaw8.AigPlays", spec := "aigPlays", plainKeys := false, apart := false }
def AigPlaysSaid : Prop := aigPlaysRow.holds Try.pinned (OpenSpec.ofChange aigPlaysSpec)

/-- ITS FALSE NEIGHBOUR: 'it returns false'. Refute it at one input. -/
def aigPlaysWrong : ChangeSpec := { name := "aigPlays", fn := fun _ => fun
  | [d1, d2, d3] => { results := [.lit (.bool false)], args := [d1, d2, d3] }
  | _ => none }
def AigPlaysWrongFalsely : Prop := aigPlaysRow.holds Try.pinned (OpenSpec.ofChange aigPlaysWrong)

/-- 'plaitlaw8.AigMeans': WHATEVER THE INPUT: true; the input reads as it did. -/
def aigMeansSpec : ChangeSpec := { name := "aigMeans", fn := fun _ => fun
  | [d] => { results := [.lit (.bool true)], args := [d] }
  | _ => none }
def aigMeansRow : OpenClaim := { program := "ytphkkcocimmmfaa", sum := "e8f25c0445c05e2577d38e860245642feaf9e4785b38358778c5688c1e3c0c30", func := "plait/plaitlaw8.AigMeans", spec := "aigMeans", plainKeys := false, apart := false }
def AigMeansSaid : Prop := aigMeansRow.holds Try.pinned (OpenSpec.ofChange aigMeansSpec)

/-- ITS FALSE NEIGHBOUR: 'it returns false'. Refute it at one input. -/
def aigMeansWrong : ChangeSpec := { name := "aigMeans", fn := fun _ => fun
  | [d] => { results := [.lit (.bool false)], args := [d] }
  | _ => none }
def AigMeansWrongFalsely : Prop := aigMeansRow.holds Try.pinned (OpenSpec.ofChange aigMeansWrong)

/-- 'plaitlaw8.AigOnce': WHATEVER THE INPUT: true; the input reads as it did. -/
def aigOnceSpec : ChangeSpec := { name := "aigOnce", fn := fun _ => fun
  | [d1, d2, d3] => { results := [.lit (.bool true)], args := [d1, d2, d3] }
  | _ => none }
def aigOnceRow : OpenClaim := { program := "ytphkkcocimmmfaa", sum := "e8f25c0445c05e2577d38e860245642feaf9e4785b38358778c5688c1e3c0c30", func := "plait/plaitlaw8.AigOnce", spec := "aigOnce", plainKeys := false, apart := false }
def AigOnceSaid : Prop := aigOnceRow.holds Try.pinned (OpenSpec.ofChange aigOnceSpec)

/-- ITS FALSE NEIGHBOUR: 'it returns false'. Refute it at one input. -/
def aigOnceWrong : ChangeSpec := { name := "aigOnce", fn := fun _ => fun
  | [d1, d2, d3] => { results := [.lit (.bool false)], args := [d1, d2, d3] }
  | _ => none }
def AigOnceWrongFalsely : Prop := aigOnceRow.holds Try.pinned (OpenSpec.ofChange aigOnceWrong)

/-- 'plaitlaw8.AigTurns': WHATEVER THE INPUT: true; the input reads as it did. -/
def aigTurnsSpec : ChangeSpec := { name := "aigTurns", fn := fun _ => fun
  | [d1, d2, d3, d4] => { results := [.lit (.bool true)], args := [d1, d2, d3, d4] }
  | _ => none }
def aigTurnsRow : OpenClaim := { program := "ytphkkcocimmmfaa", sum := "e8f25c0445c05e2577d38e860245642feaf9e4785b38358778c5688c1e3c0c30", func := "plait/plaitlaw8.AigTurns", spec := "aigTurns", plainKeys := false, apart := false }
def AigTurnsSaid : Prop := aigTurnsRow.holds Try.pinned (OpenSpec.ofChange aigTurnsSpec)

/-- ITS FALSE NEIGHBOUR: 'it returns false'. Refute it at one input. -/
def aigTurnsWrong : ChangeSpec := { name := "aigTurns", fn := fun _ => fun
  | [d1, d2, d3, d4] => { results := [.lit (.bool false)], args := [d1, d2, d3, d4] }
  | _ => none }
def AigTurnsWrongFalsely : Prop := aigTurnsRow.holds Try.pinned (OpenSpec.ofChange aigTurnsWrong)

/-- 'plaitlaw10.CnfForm': WHATEVER THE INPUT: true; the input reads as it did. -/
def cnfFormSpec : ChangeSpec := { name := "cnfForm", fn := fun _ => fun
  | [d1, d2] => { results := [.lit (.bool true)], args := [d1, d2] }
  | _ => none }
def cnfFormRow : OpenClaim := { program := "ytphkkcocimmmfaa", sum := "e8f25c0445c05e2577d38e860245642feaf9e4785b38358778c5688c1e3c0c30", func := "plait/plaitlaw10.CnfForm", spec := "cnfForm", plainKeys := false, apart := false }
def CnfFormSaid : Prop := cnfFormRow.holds Try.pinned (OpenSpec.ofChange cnfFormSpec)

/-- ITS FALSE NEIGHBOUR: 'it returns false'. Refute it at one input. -/
def cnfFormWrong : ChangeSpec := { name := "cnfForm", fn := fun _ => fun
  | [d1, d2] => { results := [.lit (.bool false)], args := [d1, d2] }
  | _ => none }
def CnfFormWrongFalsely : Prop := cnfFormRow.holds Try.pinned (OpenSpec.ofChange cnfFormWrong)

/-- 'plaitlaw3.TermMakes': WHATEVER THE INPUT: true; the input reads as it did. -/
def termMakesSpec : ChangeSpec := { name := "termMakes", fn := fun _ => fun
  | [d1, d2, d3, d4] => { results := [.lit (.bool true)], args := [d1, d2, d3, d4] }
  | _ => none }
def termMakesRow : OpenClaim := { program := "ytphkkcocimmmfaa", sum := "e8f25c0445c05e2577d38e860245642feaf9e4785b38358778c5688c1e3c0c30", func := "plait/plaitlaw3.TermMakes", spec := "termMakes", unfollowed := true, recurses := true, plainKeys := false, apart := false }
def TermMakesSaid : Prop := termMakesRow.holds Try.pinned (OpenSpec.ofChange termMakesSpec)

/-- ITS FALSE NEIGHBOUR: 'it returns false'. Refute it at one input. -/
def termMakesWrong : ChangeSpec := { name := "termMakes", fn := fun _ => fun
  | [d1, d2, d3, d4] => { results := [.lit (.bool false)], args := [d1, d2, d3, d4] }
  | _ => none }
def TermMakesWrongFalsely : Prop := termMakesRow.holds Try.pinned (OpenSpec.ofChange termMakesWrong)

/-- 'plaitlaw3.TermSorts': WHATEVER THE INPUT: true; the input reads as it did. -/
def termSortsSpec : ChangeSpec := { name := "termSorts", fn := fun _ => fun
  | [d1, d2, d3, d4] => { results := [.lit (.bool true)], args := [d1, d2, d3, d4] }
  | _ => none }
def termSortsRow : OpenClaim := { program := "ytphkkcocimmmfaa", sum := "e8f25c0445c05e2577d38e860245642feaf9e4785b38358778c5688c1e3c0c30", func := "plait/plaitlaw3.TermSorts", spec := "termSorts", unfollowed := true, recurses := true, plainKeys := false, apart := false }
def TermSortsSaid : Prop := termSortsRow.holds Try.pinned (OpenSpec.ofChange termSortsSpec)

/-- ITS FALSE NEIGHBOUR: 'it returns false'. Refute it at one input. -/
def termSortsWrong : ChangeSpec := { name := "termSorts", fn := fun _ => fun
  | [d1, d2, d3, d4] => { results := [.lit (.bool false)], args := [d1, d2, d3, d4] }
  | _ => none }
def TermSortsWrongFalsely : Prop := termSortsRow.holds Try.pinned (OpenSpec.ofChange termSortsWrong)

/-- 'plaitlaw3.TermOnce': WHATEVER THE INPUT: true; the input reads as it did. -/
def termOnceSpec : ChangeSpec := { name := "termOnce", fn := fun _ => fun
  | [d1, d2] => { results := [.lit (.bool true)], args := [d1, d2] }
  | _ => none }
def termOnceRow : OpenClaim := { program := "ytphkkcocimmmfaa", sum := "e8f25c0445c05e2577d38e860245642feaf9e4785b38358778c5688c1e3c0c30", func := "plait/plaitlaw3.TermOnce", spec := "termOnce", unfollowed := true, recurses := true, plainKeys := false, apart := false }
def TermOnceSaid : Prop := termOnceRow.holds Try.pinned (OpenSpec.ofChange termOnceSpec)

/-- ITS FALSE NEIGHBOUR: 'it returns false'. Refute it at one input. -/
def termOnceWrong : ChangeSpec := { name := "termOnce", fn := fun _ => fun
  | [d1, d2] => { results := [.lit (.bool false)], args := [d1, d2] }
  | _ => none }
def TermOnceWrongFalsely : Prop := termOnceRow.holds Try.pinned (OpenSpec.ofChange termOnceWrong)

/-- 'plaitlaw3.TermCones': WHATEVER THE INPUT: true; the input reads as it did. -/
def termConesSpec : ChangeSpec := { name := "termCones", fn := fun _ => fun
  | [d] => { results := [.lit (.bool true)], args := [d] }
  | _ => none }
def termConesRow : OpenClaim := { program := "ytphkkcocimmmfaa", sum := "e8f25c0445c05e2577d38e860245642feaf9e4785b38358778c5688c1e3c0c30", func := "plait/plaitlaw3.TermCones", spec := "termCones", unfollowed := true, recurses := true, plainKeys := false, apart := false }
def TermConesSaid : Prop := termConesRow.holds Try.pinned (OpenSpec.ofChange termConesSpec)

/-- ITS FALSE NEIGHBOUR: 'it returns false'. Refute it at one input. -/
def termConesWrong : ChangeSpec := { name := "termCones", fn := fun _ => fun
  | [d] => { results := [.lit (.bool false)], args := [d] }
  | _ => none }
def TermConesWrongFalsely : Prop := termConesRow.holds Try.pinned (OpenSpec.ofChange termConesWrong)

/-- 'plaitlaw3.TermRoom': WHATEVER THE INPUT: true; the input reads as it did. -/
def termRoomSpec : ChangeSpec := { name := "termRoom", fn := fun _ => fun
  | [d1, d2] => { results := [.lit (.bool true)], args := [d1, d2] }
  | _ => none }
def termRoomRow : OpenClaim := { program := "ytphkkcocimmmfaa", sum := "e8f25c0445c05e2577d38e860245642feaf9e4785b38358778c5688c1e3c0c30", func := "plait/plaitlaw3.TermRoom", spec := "termRoom", unfollowed := true, recurses := true, plainKeys := false, apart := false }
def TermRoomSaid : Prop := termRoomRow.holds Try.pinned (OpenSpec.ofChange termRoomSpec)

/-- ITS FALSE NEIGHBOUR: 'it returns false'. Refute it at one input. -/
def termRoomWrong : ChangeSpec := { name := "termRoom", fn := fun _ => fun
  | [d1, d2] => { results := [.lit (.bool false)], args := [d1, d2] }
  | _ => none }
def TermRoomWrongFalsely : Prop := termRoomRow.holds Try.pinned (OpenSpec.ofChange termRoomWrong)

/-- 'plaitlaw10.CnfAsserts': WHATEVER THE INPUT: true; the input reads as it did. -/
def cnfAssertsSpec : ChangeSpec := { name := "cnfAsserts", fn := fun _ => fun
  | [d] => { results := [.lit (.bool true)], args := [d] }
  | _ => none }
def cnfAssertsRow : OpenClaim := { program := "ytphkkcocimmmfaa", sum := "e8f25c0445c05e2577d38e860245642feaf9e4785b38358778c5688c1e3c0c30", func := "plait/plaitlaw10.CnfAsserts", spec := "cnfAsserts", plainKeys := false, apart := false }
def CnfAssertsSaid : Prop := cnfAssertsRow.holds Try.pinned (OpenSpec.ofChange cnfAssertsSpec)

/-- ITS FALSE NEIGHBOUR: 'it returns false'. Refute it at one input. -/
def cnfAssertsWrong : ChangeSpec := { name := "cnfAsserts", fn := fun _ => fun
  | [d] => { results := [.lit (.bool false)], args := [d] }
  | _ => none }
def CnfAssertsWrongFalsely : Prop := cnfAssertsRow.holds Try.pinned (OpenSpec.ofChange cnfAssertsWrong)

/- THE SECOND FORM. 'bulk': how many values and letters a reading holds, each counted each time it is reached (what is shared counts as often as it is met; a slice's spare places count too). A statement '..UptoSaid' is the law's where the arguments, and the package variables that the reading takes, are together of bulk at most 1048576: NARROWER than '..Said'. Prove '..Said' where nothing that the law and all that it calls make is longer than what came in: it says more and counts as full. Else prove '..UptoSaid'. A law counts once. -/
mutual
def uptoBulk {H : Type} : DataW H → Nat
  | .lit (.string bytes) => bytes.length + 1
  | .lit _ => 1
  | .nil => 1
  | .ptr d => uptoBulk d + 1
  | .slice elems spare => uptoBulkAll elems + uptoBulkAll spare + 1
  | .agg parts => uptoBulkAll parts + 1
  | .iface _ d => uptoBulk d + 1
  | .map entries => uptoBulkEntries entries + 1
  | .held _ => 1
def uptoBulkAll {H : Type} : List (DataW H) → Nat
  | [] => 0
  | d :: r => uptoBulk d + uptoBulkAll r
def uptoBulkEntries {H : Type} : List (Lit × DataW H) → Nat
  | [] => 0
  | x :: r => uptoBulkEntry x + uptoBulkEntries r
def uptoBulkEntry {H : Type} : Lit × DataW H → Nat
  | (.string bytes, d) => bytes.length + uptoBulk d + 1
  | (_, d) => uptoBulk d + 1
 end
def uptoSmall : (H : Type) → List (DataW H) → Bool := fun _ ds => decide (uptoBulkAll ds ≤ 1048576)
def OpenSpec.upto (s : _root_.Go.ChangeSpec) : _root_.Go.OpenSpec := { _root_.Go.OpenSpec.ofChange s with cond := some uptoSmall }

/-- 'plaitlaw16.LiftValues', WHERE WHAT IT READS IS OF BULK AT MOST 1048576: true; the input reads as it did. -/
def liftValuesUptoRow : OpenClaim := { program := "ytphkkcocimmmfaa", sum := "e8f25c0445c05e2577d38e860245642feaf9e4785b38358778c5688c1e3c0c30", func := "plait/plaitlaw16.LiftValues", spec := "liftValues", plainKeys := false, apart := false, narrowed := true }
def LiftValuesUptoSaid : Prop := liftValuesUptoRow.holds Try.pinned (OpenSpec.upto liftValuesSpec)

/-- 'plaitlaw8.AigPlays', WHERE WHAT IT READS IS OF BULK AT MOST 1048576: true; the input reads as it did. -/
def aigPlaysUptoRow : OpenClaim := { program := "ytphkkcocimmmfaa", sum := "e8f25c0445c05e2577d38e860245642feaf9e4785b38358778c5688c1e3c0c30", func := "plait/plaitlaw8.AigPlays", spec := "aigPlays", plainKeys := false, apart := false, narrowed := true }
def AigPlaysUptoSaid : Prop := aigPlaysUptoRow.holds Try.pinned (OpenSpec.upto aigPlaysSpec)

/-- 'plaitlaw8.AigMeans', WHERE WHAT IT READS IS OF BULK AT MOST 1048576: true; the input reads as it did. -/
def aigMeansUptoRow : OpenClaim := { program := "ytphkkcocimmmfaa", sum := "e8f25c0445c05e2577d38e860245642feaf9e4785b38358778c5688c1e3c0c30", func := "plait/plaitlaw8.AigMeans", spec := "aigMeans", plainKeys := false, apart := false, narrowed := true }
def AigMeansUptoSaid : Prop := aigMeansUptoRow.holds Try.pinned (OpenSpec.upto aigMeansSpec)

/-- 'plaitlaw8.AigOnce', WHERE WHAT IT READS IS OF BULK AT MOST 1048576: true; the input reads as it did. -/
def aigOnceUptoRow : OpenClaim := { program := "ytphkkcocimmmfaa", sum := "e8f25c0445c05e2577d38e860245642feaf9e4785b38358778c5688c1e3c0c30", func := "plait/plaitlaw8.AigOnce", spec := "aigOnce", plainKeys := false, apart := false, narrowed := true }
def AigOnceUptoSaid : Prop := aigOnceUptoRow.holds Try.pinned (OpenSpec.upto aigOnceSpec)

/-- 'plaitlaw8.AigTurns', WHERE WHAT IT READS IS OF BULK AT MOST 1048576: true; the input reads as it did. -/
def aigTurnsUptoRow : OpenClaim := { program := "ytphkkcocimmmfaa", sum := "e8f25c0445c05e2577d38e860245642feaf9e4785b38358778c5688c1e3c0c30", func := "plait/plaitlaw8.AigTurns", spec := "aigTurns", plainKeys := false, apart := false, narrowed := true }
def AigTurnsUptoSaid : Prop := aigTurnsUptoRow.holds Try.pinned (OpenSpec.upto aigTurnsSpec)

/-- 'plaitlaw10.CnfForm', WHERE WHAT IT READS IS OF BULK AT MOST 1048576: true; the input reads as it did. -/
def cnfFormUptoRow : OpenClaim := { program := "ytphkkcocimmmfaa", sum := "e8f25c0445c05e2577d38e860245642feaf9e4785b38358778c5688c1e3c0c30", func := "plait/plaitlaw10.CnfForm", spec := "cnfForm", plainKeys := false, apart := false, narrowed := true }
def CnfFormUptoSaid : Prop := cnfFormUptoRow.holds Try.pinned (OpenSpec.upto cnfFormSpec)

/-- 'plaitlaw3.TermMakes', WHERE WHAT IT READS IS OF BULK AT MOST 1048576: true; the input reads as it did. -/
def termMakesUptoRow : OpenClaim := { program := "ytphkkcocimmmfaa", sum := "e8f25c0445c05e2577d38e860245642feaf9e4785b38358778c5688c1e3c0c30", func := "plait/plaitlaw3.TermMakes", spec := "termMakes", unfollowed := true, recurses := true, plainKeys := false, apart := false, narrowed := true }
def TermMakesUptoSaid : Prop := termMakesUptoRow.holds Try.pinned (OpenSpec.upto termMakesSpec)

/-- 'plaitlaw3.TermSorts', WHERE WHAT IT READS IS OF BULK AT MOST 1048576: true; the input reads as it did. -/
def termSortsUptoRow : OpenClaim := { program := "ytphkkcocimmmfaa", sum := "e8f25c0445c05e2577d38e860245642feaf9e4785b38358778c5688c1e3c0c30", func := "plait/plaitlaw3.TermSorts", spec := "termSorts", unfollowed := true, recurses := true, plainKeys := false, apart := false, narrowed := true }
def TermSortsUptoSaid : Prop := termSortsUptoRow.holds Try.pinned (OpenSpec.upto termSortsSpec)

/-- 'plaitlaw3.TermOnce', WHERE WHAT IT READS IS OF BULK AT MOST 1048576: true; the input reads as it did. -/
def termOnceUptoRow : OpenClaim := { program := "ytphkkcocimmmfaa", sum := "e8f25c0445c05e2577d38e860245642feaf9e4785b38358778c5688c1e3c0c30", func := "plait/plaitlaw3.TermOnce", spec := "termOnce", unfollowed := true, recurses := true, plainKeys := false, apart := false, narrowed := true }
def TermOnceUptoSaid : Prop := termOnceUptoRow.holds Try.pinned (OpenSpec.upto termOnceSpec)

/-- 'plaitlaw3.TermCones', WHERE WHAT IT READS IS OF BULK AT MOST 1048576: true; the input reads as it did. -/
def termConesUptoRow : OpenClaim := { program := "ytphkkcocimmmfaa", sum := "e8f25c0445c05e2577d38e860245642feaf9e4785b38358778c5688c1e3c0c30", func := "plait/plaitlaw3.TermCones", spec := "termCones", unfollowed := true, recurses := true, plainKeys := false, apart := false, narrowed := true }
def TermConesUptoSaid : Prop := termConesUptoRow.holds Try.pinned (OpenSpec.upto termConesSpec)

/-- 'plaitlaw3.TermRoom', WHERE WHAT IT READS IS OF BULK AT MOST 1048576: true; the input reads as it did. -/
def termRoomUptoRow : OpenClaim := { program := "ytphkkcocimmmfaa", sum := "e8f25c0445c05e2577d38e860245642feaf9e4785b38358778c5688c1e3c0c30", func := "plait/plaitlaw3.TermRoom", spec := "termRoom", unfollowed := true, recurses := true, plainKeys := false, apart := false, narrowed := true }
def TermRoomUptoSaid : Prop := termRoomUptoRow.holds Try.pinned (OpenSpec.upto termRoomSpec)

/-- 'plaitlaw10.CnfAsserts', WHERE WHAT IT READS IS OF BULK AT MOST 1048576: true; the input reads as it did. -/
def cnfAssertsUptoRow : OpenClaim := { program := "ytphkkcocimmmfaa", sum := "e8f25c0445c05e2577d38e860245642feaf9e4785b38358778c5688c1e3c0c30", func := "plait/plaitlaw10.CnfAsserts", spec := "cnfAsserts", plainKeys := false, apart := false, narrowed := true }
def CnfAssertsUptoSaid : Prop := cnfAssertsUptoRow.holds Try.pinned (OpenSpec.upto cnfAssertsSpec)

end Rows
end Go.Proofs.Ytphkkcocimmmfaa
