/- The encoder of clauses, plain: the start, a fresh variable, a graph that grows. -/
import Derived.Test.YtdbbkhmiflignaaCF
namespace Go.Proofs.Ytdbbkhmiflignaa
set_option maxRecDepth 100000

def En.start (first : Int) : En := ⟨first, first - 1, fun _ => none, fun _ => false, fun _ => false⟩
theorem EnV.start {ks : Kd} {first : Int} (h : 1 ≤ first) : EnV ks (En.start first) :=
  ⟨h, by simp [En.start], fun _ _ h => by simp [En.start] at h, fun _ _ _ h => by simp [En.start] at h, fun _ _ h => by simp [En.start] at h, fun _ h => by simp [En.start] at h⟩
theorem EnC.start {ks : Kd} {first : Int} : EnC ks (En.start first) [] [] :=
  ⟨fun c => by simp [En.start], .nil, fun _ h => (by cases h), fun n s hs h => by unfold En.is En.start at h; simp at h⟩
def En.next (E : En) : En := { E with last := E.last + 1 }
theorem EnV.next {ks : Kd} {E : En} (h : EnV ks E) : EnV ks E.next :=
  ⟨h.pos, by have := h.le; show E.first - 1 ≤ E.last + 1; omega, fun n v hv => by have := h.rng n v hv; show 0 ≤ n ∧ n ≤ ks.length ∧ E.first ≤ v ∧ v ≤ E.last + 1; omega, h.inj, h.kid, h.told⟩
theorem EnC.next {ks : Kd} {E : En} {C : List (List Int)} {st : List (Int × Int)} (h : EnC ks E C st) : EnC ks E.next C st := ⟨h.mem, h.nodup, h.stk, h.asked⟩
theorem kidsF_more {ks t : Kd} {n : Int} (h : n ≤ ks.length) : kidsF (ks ++ t) n = kidsF ks n := by
  unfold kidsF
  by_cases c : 1 ≤ n
  · rw [if_pos c, if_pos c, List.getElem?_append_left (by omega)]
  · rw [if_neg c, if_neg c]
theorem EnV.more {ks : Kd} {E : En} (h : EnV ks E) (t : Kd) : EnV (ks ++ t) E := by
  refine ⟨h.pos, h.le, fun n v hv => ?_, h.inj, fun n v hv h1 k hk h0 => ?_, h.told⟩
  · have := h.rng n v hv
    rw [List.length_append]; omega
  · have := h.rng n v hv
    rw [List.getElem?_append_left (by omega)] at hk
    exact h.kid n v hv h1 k hk h0
theorem clausesF_more {ks : Kd} {E : En} {n s : Int} (h : n ≤ ks.length) (t : Kd) : clausesF (ks ++ t) E (n, s) = clausesF ks E (n, s) := by
  unfold clausesF
  rw [kidsF_more h]
theorem moreF_more {ks : Kd} {n s : Int} (h : n ≤ ks.length) (t : Kd) : moreF (ks ++ t) (n, s) = moreF ks (n, s) := by
  unfold moreF
  rw [kidsF_more h]
theorem EnC.more {ks : Kd} {E : En} {C : List (List Int)} {st : List (Int × Int)} (hV : EnV ks E) (h : EnC ks E C st) (t : Kd) : EnC (ks ++ t) E C st := by
  have le : ∀ n, E.t1 n = true ∨ E.t2 n = true → n ≤ ks.length := fun n hn => by
    obtain ⟨v, hv⟩ := hV.told n hn
    exact (hV.rng n v hv).2.1
  refine ⟨fun c => ?_, h.nodup, h.stk, fun n s hs hn u hu => ?_⟩
  · rw [h.mem c]
    refine or_congr (exists_congr fun x => and_congr_right fun hx => ?_) (or_congr (exists_congr fun x => and_congr_right fun hx => ?_) Iff.rfl)
    · rw [clausesF_more (le x (.inl hx))]
    · rw [clausesF_more (le x (.inr hx))]
  · have : n ≤ ks.length := le n (by
      unfold En.is at hn
      simp only at hn
      rcases hs with rfl | rfl
      · exact .inl (by simpa using hn)
      · exact .inr (by simpa using hn))
    rw [moreF_more this] at hu
    exact h.asked n s hs hn u hu
/-- Variables that are told. -/
def cntV (E : En) : Nat → Nat
  | 0 => 0
  | n + 1 => cntV E n + (if (E.vr n).isSome = true then 1 else 0)
theorem cntV_le (E : En) : ∀ n, cntV E n ≤ n
  | 0 => Nat.le_refl _
  | n + 1 => by have := cntV_le E n; rw [cntV]; split <;> omega
theorem cntV_congr {E E' : En} (h : E'.vr = E.vr) : ∀ n, cntV E' n = cntV E n
  | 0 => rfl
  | n + 1 => by rw [cntV, cntV, cntV_congr h n, h]
theorem cntV_out (E : En) {x : Int} : ∀ {n : Nat}, (n : Int) ≤ x → cntV (E.give x) n = cntV E n
  | 0, _ => rfl
  | n + 1, h => by
    rw [cntV, cntV, cntV_out E (n := n) (by omega)]
    have : ¬ (n : Int) = x := by omega
    unfold En.give
    simp [this]
theorem cntV_give (E : En) {x : Int} (hx : E.vr x = none) : ∀ {n : Nat}, 0 ≤ x → x < n → cntV (E.give x) n = cntV E n + 1
  | 0, h0, h1 => by omega
  | n + 1, h0, h1 => by
    rw [cntV, cntV]
    by_cases c : (n : Int) = x
    · subst c
      rw [cntV_out E (by omega), hx]
      unfold En.give
      simp
    · rw [cntV_give E hx h0 (by omega)]
      have : (E.give x).vr n = E.vr n := by unfold En.give; simp [c]
      rw [this]; omega
end Go.Proofs.Ytdbbkhmiflignaa
