/- The encoder of clauses, plain: what a root tells. -/
import Derived.Test.YtdbbkhmiflignaaCD
namespace Go.Proofs.Ytdbbkhmiflignaa
set_option maxRecDepth 100000

theorem giveF_app : ∀ {ns : List Int} {E : En} {C D : List (List Int)}, giveF ns E (C ++ D) = ((giveF ns E D).1, C ++ (giveF ns E D).2)
  | [], _, _, _ => rfl
  | n :: ns, E, C, D => by
    unfold giveF
    by_cases c : n = 0
    · rw [if_pos c, if_pos c, List.append_assoc]; exact giveF_app
    · rw [if_neg c, if_neg c]; exact giveF_app
theorem stepF_app {ks : Kd} {E : En} {C D : List (List Int)} {st : List (Int × Int)} : stepF ks (E, C ++ D, st) = ((stepF ks (E, D, st)).1, C ++ (stepF ks (E, D, st)).2.1, (stepF ks (E, D, st)).2.2) := by
  unfold stepF
  cases st.getLast? with
  | none => rfl
  | some t =>
    simp only
    split
    · rfl
    · rw [List.append_assoc]
theorem stepsF_app {ks : Kd} : ∀ {n : Nat} {E : En} {C D : List (List Int)} {st : List (Int × Int)}, stepsF ks n (E, C ++ D, st) = ((stepsF ks n (E, D, st)).1, C ++ (stepsF ks n (E, D, st)).2.1, (stepsF ks n (E, D, st)).2.2)
  | 0, _, _, _, _ => rfl
  | n + 1, E, C, D, st => by
    rw [stepsF, stepsF, stepF_app]
    exact stepsF_app
/-- What every step keeps. -/
structure StOK (ks : Kd) (s : En × List (List Int) × List (Int × Int)) : Prop where
  v : EnV ks s.1
  c : EnC ks s.1 s.2.1 s.2.2
def measF (ks : Kd) (s : En × List (List Int) × List (Int × Int)) : Nat := 3 * leftN s.1 (ks.length + 1) + s.2.2.length
theorem more_len (ks : Kd) (t : Int × Int) : (moreF ks t).length ≤ 2 := by
  unfold moreF
  split
  · split <;> simp
  · simp
theorem StOK.step {m : Int} {ks : Kd} (hr : Rt m ks) {s : En × List (List Int) × List (Int × Int)} (h : StOK ks s) {t : Int × Int} {st : List (Int × Int)} (hs : s.2.2 = st ++ [t]) :
    StOK ks (stepF ks s) ∧ measF ks (stepF ks s) + 1 ≤ measF ks s ∧ (stepF ks s).1.vr = s.1.vr ∧ (stepF ks s).1.last = s.1.last ∧ (stepF ks s).1.first = s.1.first := by
  obtain ⟨E, C, st'⟩ := s
  simp only at hs
  subst hs
  have hV : EnV ks E := h.v
  have hC : EnC ks E C (st ++ [t]) := h.c
  have e : stepF ks (E, C, st ++ [t]) = if E.is t = true then (E, C, st) else (E.tell t, C ++ clausesF ks E t, st ++ moreF ks t) := by
    unfold stepF
    simp
  rw [e]
  by_cases c : E.is t = true
  · rw [if_pos c]
    refine ⟨⟨hV, hC.pop c⟩, ?_, rfl, rfl, rfl⟩
    unfold measF
    simp only [List.length_append, List.length_singleton]
    omega
  · rw [if_neg c]
    have c' : E.is t = false := by simpa using c
    obtain ⟨hside, v, hv⟩ := hC.stk t (by simp)
    have rv := hV.rng _ _ hv
    refine ⟨⟨hV.tell hv, hC.tell hr hV c'⟩, ?_, rfl, rfl, rfl⟩
    have hl := leftN_tell E t hside c' (n := ks.length + 1) rv.1 (by omega)
    have hm := more_len ks t
    unfold measF
    simp only [List.length_append, List.length_singleton]
    omega
theorem StOK.steps {m : Int} {ks : Kd} (hr : Rt m ks) : ∀ (n : Nat) {s : En × List (List Int) × List (Int × Int)}, StOK ks s → measF ks s ≤ n →
    StOK ks (stepsF ks n s) ∧ (stepsF ks n s).2.2 = [] ∧ (stepsF ks n s).1.vr = s.1.vr ∧ (stepsF ks n s).1.last = s.1.last ∧ (stepsF ks n s).1.first = s.1.first
  | 0, s, h, hm => by
    refine ⟨h, ?_, rfl, rfl, rfl⟩
    unfold measF at hm
    exact List.eq_nil_of_length_eq_zero (by show s.2.2.length = 0; omega)
  | n + 1, s, h, hm => by
    rcases List.eq_nil_or_concat s.2.2 with he | ⟨st, t, he⟩
    · have : stepsF ks (n + 1) s = s := by
        obtain ⟨E, C, st⟩ := s
        simp only at he
        subst he
        exact stepsF_end ks _ E C
      rw [this]
      exact ⟨h, he, rfl, rfl, rfl⟩
    · obtain ⟨h1, h2, h3, h4, h5⟩ := h.step hr (by rw [he, List.concat_eq_append])
      obtain ⟨g1, g2, g3, g4, g5⟩ := StOK.steps hr n h1 (by omega)
      rw [stepsF]
      exact ⟨g1, g2, g3.trans h3, g4.trans h4, g5.trans h5⟩
/-- What was told stays told. -/
theorem is_step {ks : Kd} {s : En × List (List Int) × List (Int × Int)} {t : Int × Int} (h : s.1.is t = true ∨ t ∈ s.2.2) : (stepF ks s).1.is t = true ∨ t ∈ (stepF ks s).2.2 := by
  obtain ⟨E, C, st⟩ := s
  rcases List.eq_nil_or_concat st with he | ⟨st', u, he⟩
  · subst he; exact h
  · rw [List.concat_eq_append] at he
    subst he
    have e : stepF ks (E, C, st' ++ [u]) = if E.is u = true then (E, C, st') else (E.tell u, C ++ clausesF ks E u, st' ++ moreF ks u) := by
      unfold stepF
      simp
    have up : ∀ x, E.is x = true → (E.tell u).is x = true := fun x hx => by
      unfold En.is En.tell at *
      simp only at hx ⊢
      by_cases c : x.2 = 1
      · rw [if_pos c] at hx ⊢; split <;> simp [hx]
      · rw [if_neg c] at hx ⊢; split <;> simp [hx]
    have self : (E.tell u).is u = true := by
      unfold En.is En.tell
      simp only
      by_cases c : u.2 = 1 <;> simp [c]
    rw [e]
    simp only [List.mem_append, List.mem_singleton] at h
    by_cases c : E.is u = true
    · rw [if_pos c]
      rcases h with h | h | h
      · exact .inl h
      · exact .inr h
      · rw [h]; exact .inl c
    · rw [if_neg c]
      rcases h with h | h | h
      · exact .inl (up _ h)
      · exact .inr (by simp [h])
      · rw [h]; exact .inl self
theorem is_steps {ks : Kd} {t : Int × Int} : ∀ (n : Nat) {s : En × List (List Int) × List (Int × Int)}, (s.1.is t = true ∨ t ∈ s.2.2) → (stepsF ks n s).1.is t = true ∨ t ∈ (stepsF ks n s).2.2
  | 0, _, h => h
  | n + 1, _, h => is_steps n (is_step h)
end Go.Proofs.Ytdbbkhmiflignaa
