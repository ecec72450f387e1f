/- The encoder of clauses, plain: a root's answer, and that it tells nothing twice. -/
import Derived.Test.YtdbbkhmiflignaaCE
namespace Go.Proofs.Ytdbbkhmiflignaa
set_option maxRecDepth 100000

def fuelF (ks : Kd) : Nat := 6 * ks.length + 7
/-- The encoder behind a root, and the clauses that are new. -/
def rootF (ks : Kd) (E : En) (l : Int) : En × List (List Int) :=
  let g := giveF (needF ks E l) E []
  let s := stepsF ks (fuelF ks) (g.1, g.2, [asksF l])
  (s.1, s.2.1)
theorem need_mem {ks : Kd} {E : En} {l x : Int} : x ∈ needF ks E l ↔ (x ∈ coneF ks l ∨ x = 0) ∧ E.vr x = none ∧ (0 < x ∨ l / 2 = 0) := by
  unfold needF
  simp [List.mem_filter, Option.isNone_iff_eq_none]
  rw [or_and_right]
theorem cone_pos {ks : Kd} {l x : Int} (h : x ∈ coneF ks l) : 1 ≤ x ∧ x ≤ l / 2 ∧ 1 ≤ l / 2 ∧ x ≤ ks.length := by
  obtain ⟨j, rfl, h1, h2, -⟩ := cone_in h
  have hl : isL ks.length l := by
    unfold coneF at h
    split at h
    · assumption
    · cases h
  have := hl.2
  omega
theorem need_rises {ks : Kd} {E : En} {l : Int} : (needF ks E l).Pairwise (· < ·) := by
  by_cases c : 1 ≤ l / 2
  · have : needF ks E l = (coneF ks l).filter fun n => (E.vr n).isNone && (decide (0 < n) || decide (l / 2 = 0)) := by
      unfold needF
      rw [List.filter_append]
      have : ¬ l / 2 = 0 := by omega
      simp [this]
    rw [this]
    exact (coneF_rises ks l).filter _
  · have e : coneF ks l = [] := by
      cases hc : coneF ks l with
      | nil => rfl
      | cons x xs => exact absurd (cone_pos (ks := ks) (l := l) (x := x) (by rw [hc]; simp)).2.2.1 c
    unfold needF
    rw [e, List.nil_append]
    refine List.Pairwise.filter _ ?_
    simp
/-- What a root leaves. -/
structure Rooted (ks : Kd) (E : En) (C : List (List Int)) (l : Int) : Prop where
  v : EnV ks (rootF ks E l).1
  c : EnC ks (rootF ks E l).1 (C ++ (rootF ks E l).2) []
  first : (rootF ks E l).1.first = E.first
  last : (rootF ks E l).1.last = E.last + (needF ks E l).length
  old : ∀ x v, E.vr x = some v → (rootF ks E l).1.vr x = some v
  only : ∀ x, (rootF ks E l).1.vr x ≠ none → E.vr x ≠ none ∨ x ∈ needF ks E l
  all : ∀ x, x ∈ coneF ks l ∨ (x = 0 ∧ l / 2 = 0) → ∃ v, (rootF ks E l).1.vr x = some v
  self : ∃ v, (rootF ks E l).1.vr (l / 2) = some v
  asked : (rootF ks E l).1.is (asksF l) = true
theorem root_ok {m : Int} {ks : Kd} {E : En} {C : List (List Int)} (hr : Rt m ks) (hV : EnV ks E) (hC : EnC ks E C []) {l : Int} (hl : isL ks.length l) : Rooted ks E C l := by
  have hg := give_all hr (ns := needF ks E l) (E := E) (C := C) hV hC need_rises (fun n hn => by
    obtain ⟨h1, h2, -⟩ := need_mem.1 hn
    refine ⟨h2, ?_⟩
    rcases h1 with h1 | h1
    · have := cone_pos h1; omega
    · omega) (fun n hn h1 k hk hk0 => by
    obtain ⟨h2, -, -⟩ := need_mem.1 hn
    rcases h2 with h2 | h2
    · have hc := cone_kids hr h2 hk hk0
      have put : ∀ y, y ∈ coneF ks l → E.vr y ≠ none ∨ y ∈ needF ks E l := fun y hy => by
        by_cases c : E.vr y = none
        · exact .inr (need_mem.2 ⟨.inl hy, c, .inl (by have := cone_pos hy; omega)⟩)
        · exact .inl c
      exact ⟨put _ hc.1, put _ hc.2⟩
    · omega)
  have hap := giveF_app (ns := needF ks E l) (E := E) (C := C) (D := [])
  rw [List.append_nil] at hap
  rw [hap] at hg
  simp only at hg
  obtain ⟨g1, g2, g3⟩ := hg
  obtain ⟨G, hG⟩ : ∃ G, G = giveF (needF ks E l) E [] := ⟨_, rfl⟩
  rw [← hG] at g1 g2 g3
  have all : ∀ x, x ∈ coneF ks l ∨ (x = 0 ∧ l / 2 = 0) → ∃ v, G.1.vr x = some v := fun x hx => by
    cases hv : E.vr x with
    | some v => exact ⟨v, g3.old x v hv⟩
    | none =>
      refine g3.new x (need_mem.2 ⟨?_, hv, ?_⟩)
      · exact hx.imp id fun h => h.1
      · rcases hx with h | h
        · exact .inl (by have := cone_pos h; omega)
        · exact .inr h.2
  have self : ∃ v, G.1.vr (l / 2) = some v := by
    refine all _ ?_
    by_cases c : 1 ≤ l / 2
    · exact .inl (cone_self hl c)
    · have := hl.1
      exact .inr ⟨by omega, by omega⟩
  have h0 : StOK ks (G.1, C ++ G.2, [asksF l]) := by
    refine ⟨g1, g2.mem, g2.nodup, fun t ht => ?_, fun n s hs hn t ht => ?_⟩
    · simp at ht
      rw [ht]
      exact ⟨asks_side l, self⟩
    · rcases g2.asked n s hs hn t ht with h | h
      · exact .inl h
      · cases h
  have hm : measF ks (G.1, C ++ G.2, [asksF l]) ≤ fuelF ks := by
    have := leftN_le G.1 (ks.length + 1)
    unfold measF fuelF
    simp only [List.length_singleton]
    omega
  obtain ⟨s1, s2, s3, s4, s5⟩ := StOK.steps hr (fuelF ks) h0 hm
  have sA := stepsF_app (ks := ks) (n := fuelF ks) (E := G.1) (C := C) (D := G.2) (st := [asksF l])
  have hR : rootF ks E l = ((stepsF ks (fuelF ks) (G.1, G.2, [asksF l])).1, (stepsF ks (fuelF ks) (G.1, G.2, [asksF l])).2.1) := by
    unfold rootF
    rw [← hG]
  have hi := is_steps (ks := ks) (t := asksF l) (fuelF ks) (s := (G.1, C ++ G.2, [asksF l])) (.inr (by simp))
  rw [s2] at hi
  rw [sA] at s1 s2 s3 s4 s5 hi
  simp only at s2 s3 s4 s5 hi
  have sv := s1.v
  have sc := s1.c
  simp only at sv sc
  rw [s2] at sc
  refine ⟨?_, ?_, ?_, ?_, ?_, ?_, ?_, ?_, ?_⟩
  · rw [hR]; exact sv
  · rw [hR]; exact sc
  · rw [hR]; exact s5.trans g3.first
  · rw [hR]; exact s4.trans g3.last
  · rw [hR]; simp only; rw [s3]; exact g3.old
  · rw [hR]; simp only; rw [s3]; exact g3.only
  · rw [hR]; simp only; rw [s3]; exact all
  · rw [hR]; simp only; rw [s3]; exact self
  · rw [hR]
    rcases hi with h | h
    · exact h
    · cases h
/-- A root that was asked for tells nothing new. -/
theorem root_again {m : Int} {ks : Kd} {E : En} {C : List (List Int)} (hr : Rt m ks) (hV : EnV ks E) (hC : EnC ks E C []) {l : Int} (hl : isL ks.length l) : rootF ks (rootF ks E l).1 l = ((rootF ks E l).1, []) := by
  have h := root_ok hr hV hC hl
  have hn : needF ks (rootF ks E l).1 l = [] := by
    refine List.eq_nil_iff_forall_not_mem.2 fun x hx => ?_
    obtain ⟨h1, h2, h3⟩ := need_mem.1 hx
    obtain ⟨v, hv⟩ := h.all x (by
      rcases h1 with h1 | h1
      · exact .inl h1
      · exact .inr ⟨h1, by omega⟩)
    rw [h2] at hv; cases hv
  have ha := h.asked
  obtain ⟨X, hX⟩ : ∃ X, X = (rootF ks E l).1 := ⟨_, rfl⟩
  rw [← hX] at hn ha ⊢
  unfold rootF
  rw [hn]
  simp only [giveF]
  have : fuelF ks = 1 + (6 * ks.length + 6) := by unfold fuelF; omega
  rw [this, stepsF_add]
  have e : stepsF ks 1 (X, [], [asksF l]) = (X, [], []) := by
    simp only [stepsF, stepF, List.getLast?_singleton, ha, if_true, List.dropLast_singleton]
  rw [e, stepsF_end]
end Go.Proofs.Ytdbbkhmiflignaa
