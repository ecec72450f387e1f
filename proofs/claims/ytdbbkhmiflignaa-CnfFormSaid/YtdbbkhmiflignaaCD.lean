/- The encoder of clauses, plain: all variables of a literal, and the list of what is asked. -/
import Derived.Test.YtdbbkhmiflignaaCC
namespace Go.Proofs.Ytdbbkhmiflignaa
set_option maxRecDepth 100000

/-- What giving variables leaves. -/
structure Given (E : En) (ns : List Int) (E' : En) : Prop where
  first : E'.first = E.first
  last : E'.last = E.last + ns.length
  t1 : E'.t1 = E.t1
  t2 : E'.t2 = E.t2
  old : ∀ x v, E.vr x = some v → E'.vr x = some v
  new : ∀ x, x ∈ ns → ∃ v, E'.vr x = some v
  only : ∀ x, E'.vr x ≠ none → E.vr x ≠ none ∨ x ∈ ns
theorem give_all {m : Int} {ks : Kd} (hr : Rt m ks) : ∀ {ns : List Int} {E : En} {C : List (List Int)}, EnV ks E → EnC ks E C [] → ns.Pairwise (· < ·) → (∀ n, n ∈ ns → E.vr n = none ∧ 0 ≤ n ∧ n ≤ ks.length) →
    (∀ n, n ∈ ns → 1 ≤ n → ∀ k, ks[(n - 1).toNat]? = some k → k ≠ (0, 0) → (E.vr (k.1 / 2) ≠ none ∨ k.1 / 2 ∈ ns) ∧ (E.vr (k.2 / 2) ≠ none ∨ k.2 / 2 ∈ ns)) →
    EnV ks (giveF ns E C).1 ∧ EnC ks (giveF ns E C).1 (giveF ns E C).2 [] ∧ Given E ns (giveF ns E C).1
  | [], E, C, hV, hC, _, _, _ => ⟨hV, hC, rfl, by simp [giveF], rfl, rfl, fun _ _ h => h, fun x hx => (by cases hx), fun _ h => .inl h⟩
  | n :: ns, E, C, hV, hC, hs, hn, hk => by
    obtain ⟨n0, n1, n2⟩ := hn n (by simp)
    rw [List.pairwise_cons] at hs
    have low : ∀ k, 1 ≤ n → ks[(n - 1).toNat]? = some k → k ≠ (0, 0) → E.vr (k.1 / 2) ≠ none ∧ E.vr (k.2 / 2) ≠ none := fun k h1 hk1 hk0 => by
      obtain ⟨a, b⟩ := hk n (by simp) h1 k hk1 hk0
      obtain ⟨k1, k2, k3, -⟩ := hr.kids _ k hk1 hk0
      constructor
      · rcases a with a | a
        · exact a
        · exfalso
          rcases List.mem_cons.1 a with a | a
          · omega
          · have := hs.1 _ a; omega
      · rcases b with b | b
        · exact b
        · exfalso
          rcases List.mem_cons.1 b with b | b
          · omega
          · have := hs.1 _ b; omega
    have hV' := hV.give hr n0 n1 n2 low
    have hC' := hC.give hr hV n0
    have ev : ∀ x, (E.give n).vr x = if x = n then some (E.last + 1) else E.vr x := fun x => rfl
    obtain ⟨g1, g2, g3⟩ := give_all hr (ns := ns) hV' hC' hs.2 (fun x hx => by
      obtain ⟨a, b, c⟩ := hn x (by simp [hx])
      refine ⟨?_, b, c⟩
      have := hs.1 x hx
      rw [ev, if_neg (by omega)]; exact a) (fun x hx h1 k hk1 hk0 => by
      obtain ⟨a, b⟩ := hk x (by simp [hx]) h1 k hk1 hk0
      have lift : ∀ y, (E.vr y ≠ none ∨ y ∈ n :: ns) → ((E.give n).vr y ≠ none ∨ y ∈ ns) := fun y hy => by
        rw [ev]
        by_cases c : y = n
        · rw [if_pos c]; exact .inl (by simp)
        · rw [if_neg c]
          rcases hy with h | h
          · exact .inl h
          · rcases List.mem_cons.1 h with h | h
            · exact absurd h c
            · exact .inr h
      exact ⟨lift _ a, lift _ b⟩)
    refine ⟨g1, g2, g3.first, ?_, g3.t1, g3.t2, fun x v hx => g3.old x v ?_, fun x hx => ?_, fun x hx => ?_⟩
    · have : (giveF (n :: ns) E C).1.last = (E.give n).last + ns.length := g3.last
      rw [this]
      show E.last + 1 + (ns.length : Int) = E.last + ((n :: ns).length : Int)
      rw [List.length_cons]; omega
    · rw [ev, if_neg (by rintro rfl; rw [n0] at hx; cases hx)]; exact hx
    · rcases List.mem_cons.1 hx with rfl | hx
      · exact ⟨_, g3.old _ (E.last + 1) (by rw [ev, if_pos rfl])⟩
      · exact g3.new x hx
    · rcases g3.only x hx with h | h
      · rw [ev] at h
        by_cases c : x = n
        · exact .inr (by simp [c])
        · rw [if_neg c] at h; exact .inl h
      · exact .inr (by simp [h])

/-- One step of what is asked. -/
def stepF (ks : Kd) (s : En × List (List Int) × List (Int × Int)) : En × List (List Int) × List (Int × Int) :=
  match s.2.2.getLast? with
  | none => s
  | some t => if s.1.is t = true then (s.1, s.2.1, s.2.2.dropLast) else (s.1.tell t, s.2.1 ++ clausesF ks s.1 t, s.2.2.dropLast ++ moreF ks t)
def stepsF (ks : Kd) : Nat → En × List (List Int) × List (Int × Int) → En × List (List Int) × List (Int × Int)
  | 0, s => s
  | n + 1, s => stepsF ks n (stepF ks s)
theorem stepsF_add (ks : Kd) : ∀ (a b : Nat) (s : En × List (List Int) × List (Int × Int)), stepsF ks (a + b) s = stepsF ks b (stepsF ks a s)
  | 0, b, s => by rw [Nat.zero_add]; rfl
  | a + 1, b, s => by rw [Nat.add_right_comm]; exact stepsF_add ks a b _
theorem stepsF_end (ks : Kd) : ∀ (n : Nat) (E : En) (C : List (List Int)), stepsF ks n (E, C, []) = (E, C, [])
  | 0, _, _ => rfl
  | n + 1, E, C => by rw [stepsF]; exact stepsF_end ks n E C
/-- How many polarities of nodes aren't told. -/
def leftN (E : En) : Nat → Nat
  | 0 => 0
  | n + 1 => leftN E n + (if E.t1 n = true then 0 else 1) + (if E.t2 n = true then 0 else 1)
theorem leftN_le (E : En) : ∀ n : Nat, leftN E n ≤ 2 * n
  | 0 => Nat.le_refl _
  | n + 1 => by have := leftN_le E n; rw [leftN]; split <;> split <;> omega
theorem leftN_out (E : En) (t : Int × Int) : ∀ {n : Nat}, (n : Int) ≤ t.1 → leftN (E.tell t) n = leftN E n
  | 0, _ => rfl
  | n + 1, h => by
    rw [leftN, leftN, leftN_out E t (n := n) (by omega)]
    have : ¬ (n : Int) = t.1 := by omega
    unfold En.tell
    simp [this]
theorem leftN_tell (E : En) (t : Int × Int) (hs : t.2 = 1 ∨ t.2 = 2) (ht : E.is t = false) : ∀ {n : Nat}, 0 ≤ t.1 → t.1 < n → leftN (E.tell t) n + 1 = leftN E n
  | 0, h0, h1 => by omega
  | n + 1, h0, h1 => by
    rw [leftN, leftN]
    by_cases c : (n : Int) = t.1
    · rw [leftN_out E t (by omega)]
      unfold En.is at ht
      unfold En.tell
      rcases hs with hs | hs
      · rw [if_pos hs, ← c] at ht
        simp [hs, c.symm, ht]; omega
      · rw [if_neg (by omega), ← c] at ht
        simp [hs, c.symm, ht]
    · have := leftN_tell E t hs ht (n := n) h0 (by omega)
      have e1 : (E.tell t).t1 n = E.t1 n := by unfold En.tell; simp [c]
      have e2 : (E.tell t).t2 n = E.t2 n := by unfold En.tell; simp [c]
      rw [e1, e2]
      omega
end Go.Proofs.Ytdbbkhmiflignaa
