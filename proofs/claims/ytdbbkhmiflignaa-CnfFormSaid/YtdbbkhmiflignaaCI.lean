/- The encoder of clauses, plain: no clause twice, three a node at most. -/
import Derived.Test.YtdbbkhmiflignaaCH
namespace Go.Proofs.Ytdbbkhmiflignaa
set_option maxRecDepth 100000

/-- The greatest variable of a clause is its node's. -/
def Top (c : List Int) (v : Int) : Prop := 1 ≤ v ∧ (v ∈ c ∨ -v ∈ c) ∧ ∀ x, x ∈ c → -v ≤ x ∧ x ≤ v
theorem Top.eq {c d : List Int} {v w : Int} (h : Top c v) (k : Top d w) (hs : ∀ x, x ∈ c ↔ x ∈ d) : v = w := by
  obtain ⟨h1, h2, h3⟩ := h
  obtain ⟨k1, k2, k3⟩ := k
  have a : v ≤ w := by
    rcases h2 with h | h
    · have := k3 _ ((hs _).1 h); omega
    · have := k3 _ ((hs _).1 h); omega
  have b : w ≤ v := by
    rcases k2 with h | h
    · have := h3 _ ((hs _).2 h); omega
    · have := h3 _ ((hs _).2 h); omega
  omega
theorem Parts.top1 {ks : Kd} {E : En} {n v va vb : Int} {k : Int × Int} (p : Parts ks E n k v va vb) {c : List Int} (h : c = [-v, E.lit k.1] ∨ c = [-v, E.lit k.2]) : Top c v := by
  have r2 := p.pa
  have r3 := p.pb
  have l1 := p.la
  have l2 := p.lb
  obtain ⟨a, b⟩ := p.lits
  refine ⟨by omega, ?_, ?_⟩
  · rcases h with rfl | rfl <;> simp
  · rcases h with rfl | rfl
    · intro x hx; simp at hx; rcases hx with rfl | rfl
      · omega
      · rcases a with a | a <;> omega
    · intro x hx; simp at hx; rcases hx with rfl | rfl
      · omega
      · rcases b with a | a <;> omega
theorem Parts.top2 {ks : Kd} {E : En} {n v va vb : Int} {k : Int × Int} (p : Parts ks E n k v va vb) : Top [v, -(E.lit k.1), -(E.lit k.2)] v := by
  have r2 := p.pa
  have r3 := p.pb
  have l1 := p.la
  have l2 := p.lb
  obtain ⟨a, b⟩ := p.lits
  refine ⟨by omega, by simp, ?_⟩
  intro x hx; simp at hx; rcases hx with rfl | rfl | rfl
  · omega
  · rcases a with a | a <;> omega
  · rcases b with a | a <;> omega
theorem Parts.same {ks : Kd} {E : En} {n v va vb v' va' vb' : Int} {k k' : Int × Int} (p : Parts ks E n k v va vb) (q : Parts ks E n k' v' va' vb') : k = k' ∧ v = v' ∧ va = va' ∧ vb = vb' := by
  have e1 := p.hk
  rw [q.hk] at e1
  cases e1
  have e2 := p.hv
  rw [q.hv] at e2
  cases e2
  have e3 := p.ha
  rw [q.ha] at e3
  cases e3
  have e4 := p.hb
  rw [q.hb] at e4
  cases e4
  exact ⟨rfl, rfl, rfl, rfl⟩
theorem Parts.node {ks : Kd} {E : En} {n v va vb : Int} {k : Int × Int} (p : Parts ks E n k v va vb) : n ≠ 0 := by
  rintro rfl
  have := p.kf
  unfold kidsF at this
  simp at this
/-- Clauses with the same literals are the same. -/
theorem Shape.inj {ks : Kd} {E : En} (hV : EnV ks E) {c d : List Int} (hc : Shape ks E c) (hd : Shape ks E d) (hs : ∀ x, x ∈ c ↔ x ∈ d) : c = d := by
  have hp := hV.pos
  cases hc with
  | pos n k v va vb p h =>
    have t := p.top1 h
    have r2 := p.pa
    have r3 := p.pb
    have l1 := p.la
    have l2 := p.lb
    have l3 := p.ab
    obtain ⟨a, b⟩ := p.lits
    cases hd with
    | pos n' k' v' va' vb' q h' =>
      have e := t.eq (q.top1 h') hs
      subst e
      have e := hV.inj _ _ _ p.hv q.hv
      subst e
      obtain ⟨rfl, -, rfl, rfl⟩ := p.same q
      rcases h with rfl | rfl <;> rcases h' with rfl | rfl
      · rfl
      · exfalso
        have := (hs (E.lit k.1)).1 (by simp)
        simp at this
        rcases a with a | a <;> rcases b with b | b <;> omega
      · exfalso
        have := (hs (E.lit k.2)).1 (by simp)
        simp at this
        rcases a with a | a <;> rcases b with b | b <;> omega
      · rfl
    | neg n' k' v' va' vb' q h' =>
      subst h'
      have e := t.eq q.top2 hs
      subst e
      exfalso
      have := (hs v).2 (by simp)
      rcases h with rfl | rfl <;> simp at this <;> rcases a with a | a <;> rcases b with b | b <;> omega
    | one v' hv' h' =>
      subst h'
      have r1 := hV.rng _ _ hv'
      have e := t.eq (d := [v']) (w := v') ⟨by omega, by simp, fun x hx => by simp at hx; omega⟩ hs
      subst e
      exact absurd (hV.inj _ _ _ p.hv hv') p.node
  | neg n k v va vb p h =>
    subst h
    have t := p.top2
    cases hd with
    | pos n' k' v' va' vb' q h' =>
      have e := t.eq (q.top1 h') hs
      subst e
      exfalso
      have r2 := q.pa
      have r3 := q.pb
      have l1 := q.la
      have l2 := q.lb
      obtain ⟨a, b⟩ := q.lits
      have := (hs v).1 (by simp)
      rcases h' with rfl | rfl <;> simp at this <;> rcases a with a | a <;> rcases b with b | b <;> omega
    | neg n' k' v' va' vb' q h' =>
      subst h'
      have e := t.eq q.top2 hs
      subst e
      have e := hV.inj _ _ _ p.hv q.hv
      subst e
      obtain ⟨rfl, -, rfl, rfl⟩ := p.same q
      rfl
    | one v' hv' h' =>
      subst h'
      have r1 := hV.rng _ _ hv'
      have e := t.eq (d := [v']) (w := v') ⟨by omega, by simp, fun x hx => by simp at hx; omega⟩ hs
      subst e
      exact absurd (hV.inj _ _ _ p.hv hv') p.node
  | one v hv h =>
    subst h
    have r1 := hV.rng _ _ hv
    have t : Top [v] v := ⟨by omega, by simp, fun x hx => by simp at hx; omega⟩
    cases hd with
    | pos n' k' v' va' vb' q h' =>
      have e := t.eq (q.top1 h') hs
      subst e
      exact absurd (hV.inj _ _ _ q.hv hv) q.node
    | neg n' k' v' va' vb' q h' =>
      subst h'
      have e := t.eq q.top2 hs
      subst e
      exact absurd (hV.inj _ _ _ q.hv hv) q.node
    | one v' hv' h' =>
      subst h'
      rw [hv] at hv'
      cases hv'
      rfl
end Go.Proofs.Ytdbbkhmiflignaa
