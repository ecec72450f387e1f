/- The encoder of clauses, plain: variables for a literal's nodes. -/
import Derived.Test.YtdbbkhmiflignaaCB
namespace Go.Proofs.Ytdbbkhmiflignaa
set_option maxRecDepth 100000

def En.give (E : En) (n : Int) : En := { E with last := E.last + 1, vr := fun k => if k = n then some (E.last + 1) else E.vr k }
/-- Variables for nodes, one behind the other. -/
def giveF : List Int → En → List (List Int) → En × List (List Int)
  | [], E, C => (E, C)
  | n :: ns, E, C => giveF ns (E.give n) (if n = 0 then C ++ [[E.last + 1]] else C)
/-- The nodes of a literal that have none. -/
def needF (ks : Kd) (E : En) (l : Int) : List Int := (coneF ks l ++ [0]).filter fun n => (E.vr n).isNone && (decide (0 < n) || decide (l / 2 = 0))
theorem EnV.give {m : Int} {ks : Kd} {E : En} (_hr : Rt m ks) (h : EnV ks E) {n : Int} (hn : E.vr n = none) (h0 : 0 ≤ n) (h1 : n ≤ ks.length)
    (hk : ∀ k, 1 ≤ n → ks[(n - 1).toNat]? = some k → k ≠ (0, 0) → E.vr (k.1 / 2) ≠ none ∧ E.vr (k.2 / 2) ≠ none) : EnV ks (E.give n) := by
  have hp := h.pos
  have hl := h.le
  have ne : ∀ {x v : Int}, E.vr x = some v → x ≠ n := by rintro x v hx rfl; rw [hn] at hx; cases hx
  have some_ : ∀ {x : Int}, E.vr x ≠ none → ∃ v, E.vr x = some v := fun {x} hx => by
    cases hv : E.vr x with
    | none => exact absurd hv hx
    | some v => exact ⟨v, rfl⟩
  refine ⟨hp, ?_, fun x v hx => ?_, fun x y v hx hy => ?_, fun x v hx hx1 k hk1 hk0 => ?_, fun x hx => ?_⟩
  · show E.first - 1 ≤ E.last + 1
    omega
  · show 0 ≤ x ∧ x ≤ ks.length ∧ E.first ≤ v ∧ v ≤ E.last + 1
    change (if x = n then some (E.last + 1) else E.vr x) = some v at hx
    by_cases c : x = n
    · rw [if_pos c] at hx
      cases hx
      omega
    · rw [if_neg c] at hx
      have := h.rng _ _ hx
      omega
  · change (if x = n then some (E.last + 1) else E.vr x) = some v at hx
    change (if y = n then some (E.last + 1) else E.vr y) = some v at hy
    by_cases c : x = n <;> by_cases d : y = n
    · omega
    · rw [if_pos c] at hx
      rw [if_neg d] at hy
      cases hx
      have := h.rng _ _ hy
      omega
    · rw [if_neg c] at hx
      rw [if_pos d] at hy
      cases hy
      have := h.rng _ _ hx
      omega
    · rw [if_neg c] at hx
      rw [if_neg d] at hy
      exact h.inj _ _ _ hx hy
  · change (if x = n then some (E.last + 1) else E.vr x) = some v at hx
    show (∃ va, (if k.1 / 2 = n then some (E.last + 1) else E.vr (k.1 / 2)) = some va ∧ va < v) ∧ ∃ vb, (if k.2 / 2 = n then some (E.last + 1) else E.vr (k.2 / 2)) = some vb ∧ vb < v
    by_cases c : x = n
    · rw [if_pos c] at hx
      cases hx
      subst c
      obtain ⟨k1, k2⟩ := hk k hx1 hk1 hk0
      obtain ⟨va, ha⟩ := some_ k1
      obtain ⟨vb, hb⟩ := some_ k2
      have ra := h.rng _ _ ha
      have rb := h.rng _ _ hb
      refine ⟨⟨va, ?_, by omega⟩, vb, ?_, by omega⟩
      · rw [if_neg (ne ha)]; exact ha
      · rw [if_neg (ne hb)]; exact hb
    · rw [if_neg c] at hx
      obtain ⟨⟨va, ha, la⟩, vb, hb, lb⟩ := h.kid _ _ hx hx1 k hk1 hk0
      refine ⟨⟨va, ?_, la⟩, vb, ?_, lb⟩
      · rw [if_neg (ne ha)]; exact ha
      · rw [if_neg (ne hb)]; exact hb
  · obtain ⟨v, hv⟩ := h.told x hx
    exact ⟨v, by show (if x = n then some (E.last + 1) else E.vr x) = some v; rw [if_neg (ne hv)]; exact hv⟩
theorem clauses_give {m : Int} {ks : Kd} {E : En} (hr : Rt m ks) (h : EnV ks E) {n : Int} (hn : E.vr n = none) {x v s : Int} (hx : E.vr x = some v) : clausesF ks (E.give n) (x, s) = clausesF ks E (x, s) := by
  have ne : ∀ {x v : Int}, E.vr x = some v → x ≠ n := by rintro x v hx rfl; rw [hn] at hx; cases hx
  cases hk : (kidsF ks x).2.2 with
  | false => rw [(clauses_none hk).1, (clauses_none hk).1]
  | true =>
    obtain ⟨k, va, vb, p⟩ := h.parts hr hx hk
    have ev : ∀ {y w : Int}, E.vr y = some w → (E.give n).vr y = some w := fun {y w} hy => by
      show (if y = n then some (E.last + 1) else E.vr y) = some w
      rw [if_neg (ne hy)]; exact hy
    have el : ∀ {l w : Int}, E.vr (l / 2) = some w → (E.give n).lit l = E.lit l := fun {l w} hl => by
      unfold En.lit En.nl
      rw [ev hl, hl]
    unfold clausesF En.v
    simp only [p.kf, ev p.hv, p.hv, el p.ha, el p.hb]
/-- A variable for a node: what holds of the clauses holds on. -/
theorem EnC.give {m : Int} {ks : Kd} {E : En} {C : List (List Int)} (hr : Rt m ks) (hV : EnV ks E) (h : EnC ks E C []) {n : Int} (hn : E.vr n = none) : EnC ks (E.give n) (if n = 0 then C ++ [[E.last + 1]] else C) [] := by
  have two : ∀ c, c ∈ C → ∀ v, E.vr 0 = none → c ≠ [v] := by
    rintro c hc v h0 rfl
    rcases (h.mem _).1 hc with ⟨x, h1, h2⟩ | ⟨x, h1, h2⟩ | ⟨w, h1, h2⟩
    · obtain ⟨w, hw⟩ := hV.told x (.inl h1)
      cases hk : (kidsF ks x).2.2 with
      | false => rw [(clauses_none hk).1] at h2; cases h2
      | true =>
        obtain ⟨k, va, vb, p⟩ := hV.parts hr hw hk
        rw [p.clauses1] at h2
        simp at h2
    · obtain ⟨w, hw⟩ := hV.told x (.inr h1)
      cases hk : (kidsF ks x).2.2 with
      | false => rw [(clauses_none hk).1] at h2; cases h2
      | true =>
        obtain ⟨k, va, vb, p⟩ := hV.parts hr hw hk
        rw [p.clauses2] at h2
        simp at h2
    · rw [h0] at h1; cases h1
  have e1 : ∀ x c, E.t1 x = true → (c ∈ clausesF ks (E.give n) (x, 1) ↔ c ∈ clausesF ks E (x, 1)) := fun x c hx => by
    obtain ⟨v, hv⟩ := hV.told x (.inl hx)
    rw [clauses_give hr hV hn hv]
  have e2 : ∀ x c, E.t2 x = true → (c ∈ clausesF ks (E.give n) (x, 2) ↔ c ∈ clausesF ks E (x, 2)) := fun x c hx => by
    obtain ⟨v, hv⟩ := hV.told x (.inr hx)
    rw [clauses_give hr hV hn hv]
  have key : ∀ c, (∃ v, (E.give n).vr 0 = some v ∧ c = [v]) ↔ (n = 0 ∧ c = [E.last + 1]) ∨ ∃ v, E.vr 0 = some v ∧ c = [v] := fun c => by
    show (∃ v, (if (0 : Int) = n then some (E.last + 1) else E.vr 0) = some v ∧ c = [v]) ↔ _
    by_cases c0 : n = 0
    · subst c0
      rw [if_pos rfl]
      constructor
      · rintro ⟨v, hv, rfl⟩; cases hv; exact .inl ⟨rfl, rfl⟩
      · rintro (⟨-, rfl⟩ | ⟨v, hv, -⟩)
        · exact ⟨_, rfl, rfl⟩
        · rw [hn] at hv; cases hv
    · rw [if_neg (fun e => c0 e.symm)]
      constructor
      · exact .inr
      · rintro (⟨e, -⟩ | h)
        · exact absurd e c0
        · exact h
  have hm : ∀ c, c ∈ C ↔ (∃ x, (E.give n).t1 x = true ∧ c ∈ clausesF ks (E.give n) (x, 1)) ∨ (∃ x, (E.give n).t2 x = true ∧ c ∈ clausesF ks (E.give n) (x, 2)) ∨ ∃ v, E.vr 0 = some v ∧ c = [v] := fun c => by
    rw [h.mem c]
    refine or_congr (exists_congr fun x => and_congr_right fun hx => (e1 x c hx).symm) (or_congr (exists_congr fun x => and_congr_right fun hx => (e2 x c hx).symm) Iff.rfl)
  refine ⟨fun c => ?_, ?_, fun t ht => (by cases ht), fun x s hs hx t ht => h.asked x s hs hx t ht⟩
  · rw [key]
    by_cases c0 : n = 0
    · rw [if_pos c0, List.mem_append, hm c, List.mem_singleton]
      constructor
      · rintro ((h1 | h1 | h1) | h1)
        · exact .inl h1
        · exact .inr (.inl h1)
        · exact .inr (.inr (.inr h1))
        · exact .inr (.inr (.inl ⟨c0, h1⟩))
      · rintro (h1 | h1 | ⟨-, h1⟩ | h1)
        · exact .inl (.inl h1)
        · exact .inl (.inr (.inl h1))
        · exact .inr h1
        · exact .inl (.inr (.inr h1))
    · rw [if_neg c0, hm c]
      refine or_congr Iff.rfl (or_congr Iff.rfl ?_)
      constructor
      · exact .inr
      · rintro (⟨e, -⟩ | h1)
        · exact absurd e c0
        · exact h1
  · by_cases c0 : n = 0
    · rw [if_pos c0, List.nodup_append]
      refine ⟨h.nodup, by simp, fun a ha b hb e => ?_⟩
      simp at hb
      subst hb
      subst e
      subst c0
      exact two _ ha _ hn rfl
    · rw [if_neg c0]; exact h.nodup
end Go.Proofs.Ytdbbkhmiflignaa
