/- A list of nodes as an argument. -/
import Derived.Test.YtiaoojghohfkjaaTL
namespace Go.Proofs.Ytiaoojghohfkjaa
def NL (l : List Nd) : AV := .lst 11 l.length (flat l)
/-- A making that comes to the told. -/
theorem GvT.go {H : AHeap} {g : Nat} {most : Int} {F : List Nat} {ns js : List Nd} {n : Nd} {l e : Int} (G : GT H g most ns F) (hx : makT most ns n = (js, l, e)) {r : Option (AV × AHeap)} (h : R f_plait_term_Graph_Make [.ptr g 0, .agg n.cs] H = r) :
    ∃ H' F', r = some (.tup [.int .i64 l, .int .i64 e], H') ∧ GT H' g most js F' ∧ MvT F H F' H' := by
  have := mk_run G h
  rw [hx] at this
  exact this
end Go.Proofs.Ytiaoojghohfkjaa
