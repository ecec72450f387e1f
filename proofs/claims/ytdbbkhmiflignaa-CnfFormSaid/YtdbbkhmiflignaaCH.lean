/- The encoder of clauses, plain: literals, sets, how many clauses there are. -/
import Derived.Test.YtdbbkhmiflignaaCG
namespace Go.Proofs.Ytdbbkhmiflignaa
set_option maxRecDepth 100000

/-- Where a clause comes from. -/
inductive Shape (ks : Kd) (E : En) (c : List Int) : Prop where
  | pos (n : Int) (k : Int × Int) (v va vb : Int) (p : Parts ks E n k v va vb) (h : c = [-v, E.lit k.1] ∨ c = [-v, E.lit k.2])
  | neg (n : Int) (k : Int × Int) (v va vb : Int) (p : Parts ks E n k v va vb) (h : c = [v, -(E.lit k.1), -(E.lit k.2)])
  | one (v : Int) (hv : E.vr 0 = some v) (h : c = [v])
theorem EnC.shape {m : Int} {ks : Kd} {E : En} {C : List (List Int)} {st : List (Int × Int)} (hr : Rt m ks) (hV : EnV ks E) (h : EnC ks E C st) {c : List Int} (hc : c ∈ C) : Shape ks E c := by
  rcases (h.mem c).1 hc with ⟨n, h1, h2⟩ | ⟨n, h1, h2⟩ | ⟨v, h1, h2⟩
  · obtain ⟨v, hv⟩ := hV.told n (.inl h1)
    cases hk : (kidsF ks n).2.2 with
    | false => rw [(clauses_none hk).1] at h2; cases h2
    | true =>
      obtain ⟨k, va, vb, p⟩ := hV.parts hr hv hk
      rw [p.clauses1] at h2
      exact .pos n k v va vb p (by simpa using h2)
  · obtain ⟨v, hv⟩ := hV.told n (.inr h1)
    cases hk : (kidsF ks n).2.2 with
    | false => rw [(clauses_none hk).1] at h2; cases h2
    | true =>
      obtain ⟨k, va, vb, p⟩ := hV.parts hr hv hk
      rw [p.clauses2] at h2
      exact .neg n k v va vb p (by simpa using h2)
  · exact .one v h1 h2
/-- A clause's literals. -/
structure ClOK (E : En) (c : List Int) : Prop where
  nodup : c.Nodup
  rng : ∀ x, x ∈ c → x ≠ 0 ∧ E.first ≤ max x (-x) ∧ max x (-x) ≤ E.last
  opp : ∀ x, x ∈ c → -x ∉ c
  len : c.length ≤ 3
theorem EnC.ok {m : Int} {ks : Kd} {E : En} {C : List (List Int)} {st : List (Int × Int)} (hr : Rt m ks) (hV : EnV ks E) (h : EnC ks E C st) {c : List Int} (hc : c ∈ C) : ClOK E c := by
  have hp := hV.pos
  cases h.shape hr hV hc with
  | pos n k v va vb p h =>
    have r1 := hV.rng _ _ p.hv
    have r2 := hV.rng _ _ p.ha
    have r3 := hV.rng _ _ p.hb
    have l1 := p.la
    have l2 := p.lb
    obtain ⟨a, b⟩ := p.lits
    rcases h with rfl | rfl
    · rcases a with a | a <;> rw [a] <;> refine ⟨by simp; omega, fun x hx => ?_, fun x hx => ?_, by simp⟩ <;> simp at hx ⊢ <;> rcases hx with rfl | rfl <;> omega
    · rcases b with a | a <;> rw [a] <;> refine ⟨by simp; omega, fun x hx => ?_, fun x hx => ?_, by simp⟩ <;> simp at hx ⊢ <;> rcases hx with rfl | rfl <;> omega
  | neg n k v va vb p h =>
    have r1 := hV.rng _ _ p.hv
    have r2 := hV.rng _ _ p.ha
    have r3 := hV.rng _ _ p.hb
    have l1 := p.la
    have l2 := p.lb
    have l3 := p.ab
    obtain ⟨a, b⟩ := p.lits
    subst h
    rcases a with a | a <;> rcases b with b | b <;> rw [a, b] <;> refine ⟨by simp; omega, fun x hx => ?_, fun x hx => ?_, by simp⟩ <;> simp at hx ⊢ <;> rcases hx with rfl | rfl | rfl <;> omega
  | one v hv h =>
    subst h
    have r1 := hV.rng _ _ hv
    refine ⟨by simp, fun x hx => ?_, fun x hx => ?_, by simp⟩ <;> simp at hx ⊢ <;> subst hx <;> omega
theorem len_sub {α : Type} [DecidableEq α] : ∀ {l m : List α}, l.Nodup → (∀ x, x ∈ l → x ∈ m) → l.length ≤ m.length
  | [], _, _, _ => by simp
  | a :: l, m, h, hs => by
    rw [List.nodup_cons] at h
    have ha : a ∈ m := hs a (by simp)
    have := len_sub (l := l) (m := m.erase a) h.2 (fun x hx => (List.mem_erase_of_ne (by rintro rfl; exact h.1 hx)).2 (hs x (by simp [hx])))
    rw [List.length_erase_of_mem ha] at this
    have := List.length_pos_of_mem ha
    rw [List.length_cons]; omega
end Go.Proofs.Ytdbbkhmiflignaa
