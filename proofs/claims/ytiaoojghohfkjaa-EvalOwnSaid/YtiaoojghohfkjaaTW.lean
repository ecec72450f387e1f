/- The document's Make; both graphs side by side. -/
import Derived.Test.YtiaoojghohfkjaaTZ3
import Derived.Test.YtiaoojghohfkjaaTZ4
namespace Go.Proofs.Ytiaoojghohfkjaa
set_option maxRecDepth 100000
set_option maxHeartbeats 4000000

theorem rmk_run {H : AHeap} {g : Nat} {most : Int} {ns : List Nd} {F : List Nat} (G : GR H g most ns F) {n : Nd} {r : Option (AV × AHeap)} (h : R f_plait_plaitref3_Graph_Make [.ptr g 0, .agg n.cs] H = r) : GvR H g most F (makT most ns n) r := by
  by_cases h1 : n.op = 1
  · exact rmk1_run G h1 h
  by_cases h2 : n.op = 2
  · exact rmk2_run G h2 h
  exact rmk3_run G h1 h2 h

/-- Both graphs. -/
structure Two (H0 H : AHeap) (g q : Nat) (most : Int) (ns : List Nd) (F E : List Nat) : Prop where
  gt : GT H g most ns F
  gr : GR H q most ns E
  kp : Keeps H0 H
  fF : ∀ p, p ∈ F → H0.size ≤ p
  fE : ∀ p, p ∈ E → H0.size ≤ p
  dj : ∀ p, p ∈ F → p ∉ E
theorem Two.make {H0 H H1 H2 : AHeap} {g q : Nat} {most : Int} {ns js : List Nd} {F E F' E' : List Nat} (T : Two H0 H g q most ns F E) (g1 : GT H1 g most js F') (m1 : MvT F H F' H1) (g2 : GR H2 q most js E') (m2 : MvT E H1 E' H2) : Two H0 H2 g q most js F' E' := by
  have hF' : ∀ p, p ∈ F' → H0.size ≤ p := fun p hp => by
    rcases m1.new p hp with h | h
    · exact T.fF p h
    · exact Nat.le_trans T.kp.size h
  have dj1 : ∀ p, p ∈ F' → p ∉ E := fun p hp hE => by
    rcases m1.new p hp with h | h
    · exact T.dj p h hE
    · have := T.gr.lt p hE; omega
  have k1 := m1.fr.keeps T.kp T.fF
  refine ⟨g1.same m2.fr.size fun p hp => m2.fr.obj p (g1.lt p hp) (dj1 p hp), g2, m2.fr.keeps k1 T.fE, hF', fun p hp => ?_, fun p hp hE => ?_⟩
  · rcases m2.new p hp with h | h
    · exact T.fE p h
    · exact Nat.le_trans k1.size h
  · rcases m2.new p hE with h | h
    · exact dj1 p hp h
    · have := g1.lt p hp; omega
theorem Two.keeps {H0 H H' : AHeap} {g q : Nat} {most : Int} {ns : List Nd} {F E : List Nat} (T : Two H0 H g q most ns F E) (k : Keeps H H') : Two H0 H' g q most ns F E :=
  ⟨T.gt.keeps k, T.gr.keeps k, T.kp.trans k, T.fF, T.fE, T.dj⟩

end Go.Proofs.Ytiaoojghohfkjaa
