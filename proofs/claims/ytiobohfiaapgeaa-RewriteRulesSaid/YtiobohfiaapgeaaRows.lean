/-
  No cell of these rows narrows 'for every input' (looked for: loops, veiled, ifaces, maps, wideKeys, modest, calm, conditions, laid).
  DERIVED. THE GIVEN ROWS OF THIS SEAT. 4 by the template 'for every input the law returns true; each argument reads behind the call as it read before'; 0 by the template 'total and deterministic' (their statements: YtiobohfiaapgeaaTotals.lean).
  GIVEN WITH THE SEED: the statements are not yours to turn. If you find one false, say at which input.
  Laid BY PROGRAM, IN A SANDBOX (cutbox-rows.mjs): the forced cells as the released guide's own fill.sh prints them over the translation 1e77872746ab52b9… (all of the seat's roots in one cut). By AI agents, Wed Nov 11 2026. No macro, syntax, notation, axiom, sorry.
-/
import Derived.Test.YtiobohfiaapgeaaChecked
import GoSem.Claim
import GoSem.ClaimJoined
import GoSem.ClaimMapViews
import Derived.JoinedTies
import Derived.KernelRfl
namespace Go.Proofs.Ytiobohfiaapgeaa
/- THE CELL 'sum', in the pinned program and in every row, IS THE sha256 OF THE DUMP (.gsa) THAT YtiobohfiaapgeaaProg.lean LOADS. Nothing in Lean hashes anything: it is a label: what it is worth is what the hold of that sum in a sandbox is worth. -/
noncomputable def Try.pinned : Pinned := { name := "ytiobohfiaapgeaa", sum := "1e77872746ab52b9ec90ff666640d12174acf2e803da9d4ab5556e201bc28373", checked := Try.checked }
namespace Rows
def none {H : Type} : Left H := { results := [], args := [] }

/-- 'plaitlaw7.RewriteForm': WHATEVER THE INPUT: true; the input reads as it did. -/
def rewriteFormSpec : ChangeSpec := { name := "rewriteForm", fn := fun _ => fun
  | [d1, d2] => { results := [.lit (.bool true)], args := [d1, d2] }
  | _ => none }
def rewriteFormRow : OpenClaim := { program := "ytiobohfiaapgeaa", sum := "1e77872746ab52b9ec90ff666640d12174acf2e803da9d4ab5556e201bc28373", func := "plait/plaitlaw7.RewriteForm", spec := "rewriteForm", inPlace := ["math/bits.Add64"], unfollowed := true, recurses := true, plainKeys := false, apart := false }
def RewriteFormSaid : Prop := rewriteFormRow.holds Try.pinned (OpenSpec.ofChange rewriteFormSpec)

/-- ITS FALSE NEIGHBOUR: 'it returns false'. Refute it at one input. -/
def rewriteFormWrong : ChangeSpec := { name := "rewriteForm", fn := fun _ => fun
  | [d1, d2] => { results := [.lit (.bool false)], args := [d1, d2] }
  | _ => none }
def RewriteFormWrongFalsely : Prop := rewriteFormRow.holds Try.pinned (OpenSpec.ofChange rewriteFormWrong)

/-- 'plaitlaw7.RewriteRules': WHATEVER THE INPUT: true; the input reads as it did. -/
def rewriteRulesSpec : ChangeSpec := { name := "rewriteRules", fn := fun _ => fun
  | [d1, d2, d3] => { results := [.lit (.bool true)], args := [d1, d2, d3] }
  | _ => none }
def rewriteRulesRow : OpenClaim := { program := "ytiobohfiaapgeaa", sum := "1e77872746ab52b9ec90ff666640d12174acf2e803da9d4ab5556e201bc28373", func := "plait/plaitlaw7.RewriteRules", spec := "rewriteRules", inPlace := ["math/bits.Add64"], unfollowed := true, recurses := true, plainKeys := false, apart := false }
def RewriteRulesSaid : Prop := rewriteRulesRow.holds Try.pinned (OpenSpec.ofChange rewriteRulesSpec)

/-- ITS FALSE NEIGHBOUR: 'it returns false'. Refute it at one input. -/
def rewriteRulesWrong : ChangeSpec := { name := "rewriteRules", fn := fun _ => fun
  | [d1, d2, d3] => { results := [.lit (.bool false)], args := [d1, d2, d3] }
  | _ => none }
def RewriteRulesWrongFalsely : Prop := rewriteRulesRow.holds Try.pinned (OpenSpec.ofChange rewriteRulesWrong)

/-- 'plaitlaw7.RewriteMeans': WHATEVER THE INPUT: true; the input reads as it did. -/
def rewriteMeansSpec : ChangeSpec := { name := "rewriteMeans", fn := fun _ => fun
  | [d1, d2, d3] => { results := [.lit (.bool true)], args := [d1, d2, d3] }
  | _ => none }
def rewriteMeansRow : OpenClaim := { program := "ytiobohfiaapgeaa", sum := "1e77872746ab52b9ec90ff666640d12174acf2e803da9d4ab5556e201bc28373", func := "plait/plaitlaw7.RewriteMeans", spec := "rewriteMeans", inPlace := ["math/bits.Add64"], unfollowed := true, recurses := true, plainKeys := false, apart := false }
def RewriteMeansSaid : Prop := rewriteMeansRow.holds Try.pinned (OpenSpec.ofChange rewriteMeansSpec)

/-- ITS FALSE NEIGHBOUR: 'it returns false'. Refute it at one input. -/
def rewriteMeansWrong : ChangeSpec := { name := "rewriteMeans", fn := fun _ => fun
  | [d1, d2, d3] => { results := [.lit (.bool false)], args := [d1, d2, d3] }
  | _ => none }
def RewriteMeansWrongFalsely : Prop := rewriteMeansRow.holds Try.pinned (OpenSpec.ofChange rewriteMeansWrong)

/-- 'plaitlaw7.RewriteWithin': WHATEVER THE INPUT: true; the input reads as it did. -/
def rewriteWithinSpec : ChangeSpec := { name := "rewriteWithin", fn := fun _ => fun
  | [d1, d2, d3] => { results := [.lit (.bool true)], args := [d1, d2, d3] }
  | _ => none }
def rewriteWithinRow : OpenClaim := { program := "ytiobohfiaapgeaa", sum := "1e77872746ab52b9ec90ff666640d12174acf2e803da9d4ab5556e201bc28373", func := "plait/plaitlaw7.RewriteWithin", spec := "rewriteWithin", inPlace := ["math/bits.Add64"], unfollowed := true, recurses := true, plainKeys := false, apart := false }
def RewriteWithinSaid : Prop := rewriteWithinRow.holds Try.pinned (OpenSpec.ofChange rewriteWithinSpec)

/-- ITS FALSE NEIGHBOUR: 'it returns false'. Refute it at one input. -/
def rewriteWithinWrong : ChangeSpec := { name := "rewriteWithin", fn := fun _ => fun
  | [d1, d2, d3] => { results := [.lit (.bool false)], args := [d1, d2, d3] }
  | _ => none }
def RewriteWithinWrongFalsely : Prop := rewriteWithinRow.holds Try.pinned (OpenSpec.ofChange rewriteWithinWrong)

/- THE SECOND FORM. 'bulk': how many values and letters a reading holds, each counted each time it is reached (what is shared counts as often as it is met; a slice's spare places count too). A statement '..UptoSaid' is the law's where the arguments, and the package variables that the reading takes, are together of bulk at most 1048576: NARROWER than '..Said'. Prove '..Said' where nothing that the law and all that it calls make is longer than what came in: it says more and counts as full. Else prove '..UptoSaid'. A law counts once. -/
mutual
def uptoBulk {H : Type} : DataW H → Nat
  | .lit (.string bytes) => bytes.length + 1
  | .lit _ => 1
  | .nil => 1
  | .ptr d => uptoBulk d + 1
  | .slice elems spare => uptoBulkAll elems + uptoBulkAll spare + 1
  | .agg parts => uptoBulkAll parts + 1
  | .iface _ d => uptoBulk d + 1
  | .map entries => uptoBulkEntries entries + 1
  | .held _ => 1
def uptoBulkAll {H : Type} : List (DataW H) → Nat
  | [] => 0
  | d :: r => uptoBulk d + uptoBulkAll r
def uptoBulkEntries {H : Type} : List (Lit × DataW H) → Nat
  | [] => 0
  | x :: r => uptoBulkEntry x + uptoBulkEntries r
def uptoBulkEntry {H : Type} : Lit × DataW H → Nat
  | (.string bytes, d) => bytes.length + uptoBulk d + 1
  | (_, d) => uptoBulk d + 1
 end
def uptoSmall : (H : Type) → List (DataW H) → Bool := fun _ ds => decide (uptoBulkAll ds ≤ 1048576)
def OpenSpec.upto (s : _root_.Go.ChangeSpec) : _root_.Go.OpenSpec := { _root_.Go.OpenSpec.ofChange s with cond := some uptoSmall }

/-- 'plaitlaw7.RewriteForm', WHERE WHAT IT READS IS OF BULK AT MOST 1048576: true; the input reads as it did. -/
def rewriteFormUptoRow : OpenClaim := { program := "ytiobohfiaapgeaa", sum := "1e77872746ab52b9ec90ff666640d12174acf2e803da9d4ab5556e201bc28373", func := "plait/plaitlaw7.RewriteForm", spec := "rewriteForm", inPlace := ["math/bits.Add64"], unfollowed := true, recurses := true, plainKeys := false, apart := false, narrowed := true }
def RewriteFormUptoSaid : Prop := rewriteFormUptoRow.holds Try.pinned (OpenSpec.upto rewriteFormSpec)

/-- 'plaitlaw7.RewriteRules', WHERE WHAT IT READS IS OF BULK AT MOST 1048576: true; the input reads as it did. -/
def rewriteRulesUptoRow : OpenClaim := { program := "ytiobohfiaapgeaa", sum := "1e77872746ab52b9ec90ff666640d12174acf2e803da9d4ab5556e201bc28373", func := "plait/plaitlaw7.RewriteRules", spec := "rewriteRules", inPlace := ["math/bits.Add64"], unfollowed := true, recurses := true, plainKeys := false, apart := false, narrowed := true }
def RewriteRulesUptoSaid : Prop := rewriteRulesUptoRow.holds Try.pinned (OpenSpec.upto rewriteRulesSpec)

/-- 'plaitlaw7.RewriteMeans', WHERE WHAT IT READS IS OF BULK AT MOST 1048576: true; the input reads as it did. -/
def rewriteMeansUptoRow : OpenClaim := { program := "ytiobohfiaapgeaa", sum := "1e77872746ab52b9ec90ff666640d12174acf2e803da9d4ab5556e201bc28373", func := "plait/plaitlaw7.RewriteMeans", spec := "rewriteMeans", inPlace := ["math/bits.Add64"], unfollowed := true, recurses := true, plainKeys := false, apart := false, narrowed := true }
def RewriteMeansUptoSaid : Prop := rewriteMeansUptoRow.holds Try.pinned (OpenSpec.upto rewriteMeansSpec)

/-- 'plaitlaw7.RewriteWithin', WHERE WHAT IT READS IS OF BULK AT MOST 1048576: true; the input reads as it did. -/
def rewriteWithinUptoRow : OpenClaim := { program := "ytiobohfiaapgeaa", sum := "1e77872746ab52b9ec90ff666640d12174acf2e803da9d4ab5556e201bc28373", func := "plait/plaitlaw7.RewriteWithin", spec := "rewriteWithin", inPlace := ["math/bits.Add64"], unfollowed := true, recurses := true, plainKeys := false, apart := false, narrowed := true }
def RewriteWithinUptoSaid : Prop := rewriteWithinUptoRow.holds Try.pinned (OpenSpec.upto rewriteWithinSpec)

end Rows
end Go.Proofs.Ytiobohfiaapgeaa
