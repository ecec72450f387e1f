/- Maps from numbers to numbers. -/
import Derived.Test.YtdbbkhmiflignaaCJ
import Derived.Test.YtdbbkhmiflignaaAXK
import Derived.Test.YtdbbkhmiflignaaAX3
namespace Go.Proofs.Ytdbbkhmiflignaa
set_option maxRecDepth 100000

theorem findE_snoc (k : AV) : ∀ (es : List AEnt) (e : AEnt), findE k (es ++ [e]) = (findE k es).or (if keyEq k e.key = true then some e else none)
  | [], e => by simp [findE]
  | x :: es, e => by
    simp only [List.cons_append, findE]
    by_cases h : keyEq k x.key = true
    · simp [h]
    · rw [if_neg h, if_neg h]; exact findE_snoc k es e
theorem key_int {k j : Int} : keyEq (.int .i64 k) (.int .i64 j) = decide (k = j) := by
  simp only [keyEq, scEq]
  by_cases h : k = j <;> simp [h]
/-- A map of numbers. -/
def IM (es : List AEnt) (f : Int → Option Int) : Prop := (∀ k, (findE (.int .i64 k) es).map (·.val) = (f k).map (.int .i64 ·)) ∧ ∀ x, x ∈ es → ∃ j, x.key = .int .i64 j
theorem IM.nil : IM [] fun _ => none := ⟨fun k => by simp [findE], fun x hx => by cases hx⟩
theorem IM.add {es : List AEnt} {f : Int → Option Int} (h : IM es f) {k v : Int} {c : Nat} (hk : f k = none) : IM (es ++ [⟨.int .i64 k, .int .i64 v, c⟩]) (fun x => if x = k then some v else f x) := by
  refine ⟨fun x => ?_, fun x hx => ?_⟩
  · rw [findE_snoc, key_int]
    have h1 := h.1 x
    by_cases e : x = k
    · subst e
      rw [hk] at h1
      cases hf : findE (.int .i64 x) es with
      | none => simp
      | some y => rw [hf] at h1; simp at h1
    · show _ = ((if x = k then some v else f x) : Option Int).map _
      rw [if_neg e]
      cases hf : findE (.int .i64 x) es with
      | none => rw [hf] at h1; simpa [e] using h1
      | some y => rw [hf] at h1; simpa using h1
  · rcases List.mem_append.1 hx with h1 | h1
    · exact h.2 x h1
    · simp at h1; exact ⟨k, by rw [h1]⟩
theorem IM.find {es : List AEnt} {f : Int → Option Int} (h : IM es f) (k : Int) : (f k = none ∧ findE (.int .i64 k) es = none) ∨ ∃ v x, f k = some v ∧ findE (.int .i64 k) es = some x ∧ x.val = .int .i64 v := by
  have h1 := h.1 k
  cases hf : findE (.int .i64 k) es <;> cases hl : f k <;> rw [hf, hl] at h1 <;> first | (cases h1; done) | skip
  · exact .inl ⟨rfl, rfl⟩
  · exact .inr ⟨_, _, rfl, rfl, by simpa using h1⟩
theorem findE_set {k v : Int} : ∀ {es : List AEnt}, (∀ x, x ∈ es → ∃ j, x.key = .int .i64 j) → findE (.int .i64 k) es ≠ none → ∀ j : Int, (findE (.int .i64 j) (setE (.int .i64 k) (.int .i64 v) es)).map (·.val) = if j = k then some (.int .i64 v) else (findE (.int .i64 j) es).map (·.val)
  | [], _, h, _ => by simp [findE] at h
  | e :: es, hk, h, j => by
    obtain ⟨i, hi⟩ := hk e (by simp)
    unfold setE
    by_cases c : k = i
    · subst c
      rw [if_pos (by rw [hi, key_int]; simp)]
      unfold findE
      by_cases d : j = k
      · simp [d, key_int]
      · simp [d, key_int, hi]
    · rw [if_neg (by rw [hi, key_int]; simpa using c)]
      unfold findE at h
      rw [if_neg (by rw [hi, key_int]; simpa using c)] at h
      have ih := findE_set (v := v) (fun x hx => hk x (by simp [hx])) h j
      unfold findE
      by_cases d : j = i
      · subst d
        simp [hi, key_int]
        intro e; exact absurd e.symm c
      · have hd : ¬ keyEq (.int .i64 j) e.key = true := by rw [hi, key_int]; simpa using d
        simp only [if_neg hd]
        exact ih
end Go.Proofs.Ytdbbkhmiflignaa
