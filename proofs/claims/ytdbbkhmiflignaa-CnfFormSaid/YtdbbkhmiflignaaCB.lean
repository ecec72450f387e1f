/- The encoder of clauses, plain: its steps keep what holds. -/
import Derived.Test.YtdbbkhmiflignaaCA
namespace Go.Proofs.Ytdbbkhmiflignaa
set_option maxRecDepth 100000

theorem kidsF_cases (ks : Kd) (n : Int) : (∃ k, 1 ≤ n ∧ ks[(n - 1).toNat]? = some k ∧ k ≠ (0, 0) ∧ kidsF ks n = (k.1, k.2, true)) ∨ kidsF ks n = (0, 0, false) := by
  unfold kidsF
  split
  · rename_i h1
    split
    · rename_i k hk
      split
      · exact .inr rfl
      · rename_i h0; exact .inl ⟨k, h1, hk, h0, rfl⟩
    · exact .inr rfl
  · exact .inr rfl
theorem En.lit_of {E : En} {l v : Int} (h : E.vr (l / 2) = some v) : E.lit l = v ∨ E.lit l = -v := by
  unfold En.lit En.nl
  rw [h]
  simp only [Option.getD_some]
  split <;> split <;> simp
/-- The parts of a node that has a variable: its own, and its kids'. -/
structure Parts (ks : Kd) (E : En) (n : Int) (k : Int × Int) (v va vb : Int) : Prop where
  hk : ks[(n - 1).toNat]? = some k
  h0 : k ≠ (0, 0)
  kf : kidsF ks n = (k.1, k.2, true)
  hv : E.vr n = some v
  ha : E.vr (k.1 / 2) = some va
  hb : E.vr (k.2 / 2) = some vb
  la : va < v
  lb : vb < v
  pa : 1 ≤ va
  pb : 1 ≤ vb
  ab : va ≠ vb
theorem EnV.parts {m : Int} {ks : Kd} {E : En} (hr : Rt m ks) (h : EnV ks E) {n v : Int} (hv : E.vr n = some v) (hk : (kidsF ks n).2.2 = true) : ∃ k va vb, Parts ks E n k v va vb := by
  rcases kidsF_cases ks n with ⟨k, h1, h2, h3, h4⟩ | h4
  · obtain ⟨⟨va, ha, la⟩, vb, hb, lb⟩ := h.kid n v hv h1 k h2 h3
    have ra := h.rng _ _ ha
    have rb := h.rng _ _ hb
    have hp := h.pos
    refine ⟨k, va, vb, h2, h3, h4, hv, ha, hb, la, lb, by omega, by omega, ?_⟩
    rintro rfl
    have e := h.inj _ _ _ ha hb
    obtain ⟨k1, k2, k3, k4⟩ := hr.kids _ k h2 h3
    unfold flip1 at k4
    split at k4 <;> omega
  · rw [h4] at hk; cases hk
theorem Parts.clauses1 {ks : Kd} {E : En} {n v va vb : Int} {k : Int × Int} (p : Parts ks E n k v va vb) : clausesF ks E (n, 1) = [[-v, E.lit k.1], [-v, E.lit k.2]] := by
  unfold clausesF En.v
  simp only [p.kf, p.hv, if_true, Option.getD_some]
theorem Parts.clauses2 {ks : Kd} {E : En} {n v va vb : Int} {k : Int × Int} (p : Parts ks E n k v va vb) : clausesF ks E (n, 2) = [[v, -(E.lit k.1), -(E.lit k.2)]] := by
  unfold clausesF En.v
  simp only [p.kf, p.hv, if_true, Option.getD_some]
  rw [if_neg (by decide)]
theorem Parts.more1 {ks : Kd} {E : En} {n v va vb : Int} {k : Int × Int} (p : Parts ks E n k v va vb) : moreF ks (n, 1) = [asksF k.1, asksF k.2] := by
  unfold moreF
  simp only [p.kf, if_true]
theorem Parts.more2 {ks : Kd} {E : En} {n v va vb : Int} {k : Int × Int} (p : Parts ks E n k v va vb) : moreF ks (n, 2) = [asksF (flip1 k.1), asksF (flip1 k.2)] := by
  unfold moreF
  simp only [p.kf, if_true]
  rw [if_neg (by decide)]
theorem clauses_none {ks : Kd} {E : En} {n s : Int} (h : (kidsF ks n).2.2 = false) : clausesF ks E (n, s) = [] ∧ moreF ks (n, s) = [] := by
  unfold clausesF moreF
  simp [h]
theorem asks_side (l : Int) : (asksF l).2 = 1 ∨ (asksF l).2 = 2 := by unfold asksF; simp only; split <;> simp
theorem flip_half (l : Int) : flip1 l / 2 = l / 2 := by unfold flip1; split <;> omega
theorem Parts.lits {ks : Kd} {E : En} {n v va vb : Int} {k : Int × Int} (p : Parts ks E n k v va vb) : (E.lit k.1 = va ∨ E.lit k.1 = -va) ∧ (E.lit k.2 = vb ∨ E.lit k.2 = -vb) := ⟨En.lit_of p.ha, En.lit_of p.hb⟩

theorem is_tell (E : En) (t s : Int × Int) (ht : t.2 = 1 ∨ t.2 = 2) (hs : s.2 = 1 ∨ s.2 = 2) : (E.tell t).is s = true ↔ E.is s = true ∨ s = t := by
  obtain ⟨a, b⟩ := t
  obtain ⟨c, d⟩ := s
  simp only at ht hs
  unfold En.is En.tell
  simp only [Prod.mk.injEq]
  rcases hs with rfl | rfl <;> rcases ht with rfl | rfl <;> simp <;> by_cases e : c = a <;> simp [e]
theorem EnV.tell {ks : Kd} {E : En} (h : EnV ks E) {t : Int × Int} {v : Int} (hv : E.vr t.1 = some v) : EnV ks (E.tell t) := by
  refine ⟨h.pos, h.le, h.rng, h.inj, h.kid, fun n hn => ?_⟩
  unfold En.tell at hn
  simp only at hn
  by_cases c : n = t.1
  · rw [c]; exact ⟨v, hv⟩
  · simp only [c, false_and, if_false] at hn
    exact h.told n hn
/-- What was told is told: it is struck off the list. -/
theorem EnC.pop {ks : Kd} {E : En} {C : List (List Int)} {st : List (Int × Int)} {t : Int × Int} (h : EnC ks E C (st ++ [t])) (ht : E.is t = true) : EnC ks E C st := by
  refine ⟨h.mem, h.nodup, fun s hs => h.stk s (by simp [hs]), fun n s hs hn x hx => ?_⟩
  rcases h.asked n s hs hn x hx with h1 | h1
  · exact .inl h1
  · rcases List.mem_append.1 h1 with h2 | h2
    · exact .inr h2
    · simp at h2; rw [h2]; exact .inl ht
/-- Something is told of a node. -/
theorem EnC.tell {m : Int} {ks : Kd} {E : En} {C : List (List Int)} {st : List (Int × Int)} {t : Int × Int} (hr : Rt m ks) (hV : EnV ks E) (h : EnC ks E C (st ++ [t])) (ht : E.is t = false) : EnC ks (E.tell t) (C ++ clausesF ks E t) (st ++ moreF ks t) := by
  obtain ⟨hside, v, hv⟩ := h.stk t (by simp)
  obtain ⟨n, s⟩ := t
  simp only at hside hv
  have hmem : ∀ c, c ∈ C ++ clausesF ks E (n, s) ↔ (∃ n', (E.tell (n, s)).t1 n' = true ∧ c ∈ clausesF ks (E.tell (n, s)) (n', 1)) ∨ (∃ n', (E.tell (n, s)).t2 n' = true ∧ c ∈ clausesF ks (E.tell (n, s)) (n', 2)) ∨ ∃ v, (E.tell (n, s)).vr 0 = some v ∧ c = [v] := by
    intro c
    rw [List.mem_append, h.mem c]
    simp only [clauses_tell]
    unfold En.tell
    simp only
    constructor
    · rintro ((⟨n', h1, h2⟩ | ⟨n', h1, h2⟩ | h1) | h1)
      · exact .inl ⟨n', by simp [h1], h2⟩
      · exact .inr (.inl ⟨n', by simp [h1], h2⟩)
      · exact .inr (.inr h1)
      · rcases hside with rfl | rfl
        · exact .inl ⟨n, by simp, h1⟩
        · exact .inr (.inl ⟨n, by simp, h1⟩)
    · rintro (⟨n', h1, h2⟩ | ⟨n', h1, h2⟩ | h1)
      · by_cases e : n' = n ∧ s = 1
        · obtain ⟨rfl, rfl⟩ := e
          exact .inr h2
        · rw [if_neg e] at h1
          exact .inl (.inl ⟨n', h1, h2⟩)
      · by_cases e : n' = n ∧ s ≠ 1
        · obtain ⟨rfl, e2⟩ := e
          have : s = 2 := hside.resolve_left e2
          subst this
          exact .inr h2
        · rw [if_neg e] at h1
          exact .inl (.inr (.inl ⟨n', h1, h2⟩))
      · exact .inl (.inr (.inr h1))
  have hnew : ∀ c, c ∈ C → c ∉ clausesF ks E (n, s) := by
    intro c hc hn
    have hkt : (kidsF ks n).2.2 = true := by
      cases hk : (kidsF ks n).2.2 with
      | true => rfl
      | false => rw [(clauses_none hk).1] at hn; cases hn
    obtain ⟨k, va, vb, p⟩ := hV.parts hr hv hkt
    have hl := p.lits
    have pp := p.pa
    have pq := p.pb
    have la := p.la
    rcases (h.mem c).1 hc with ⟨n', h1, h2⟩ | ⟨n', h1, h2⟩ | ⟨v', h1, h2⟩
    · obtain ⟨v', hv'⟩ := hV.told n' (.inl h1)
      have hkt' : (kidsF ks n').2.2 = true := by
        cases hk : (kidsF ks n').2.2 with
        | true => rfl
        | false => rw [(clauses_none hk).1] at h2; cases h2
      obtain ⟨k', va', vb', p'⟩ := hV.parts hr hv' hkt'
      rw [p'.clauses1] at h2
      have pp' := p'.pa
      have la' := p'.la
      rcases hside with rfl | rfl
      · rw [p.clauses1] at hn
        have e : v = v' := by
          simp at h2 hn
          rcases h2 with rfl | rfl <;> rcases hn with hn | hn <;> simp at hn <;> omega
        subst e
        have := hV.inj _ _ _ hv hv'
        subst this
        unfold En.is at ht
        simp only [if_true] at ht
        rw [h1] at ht; cases ht
      · rw [p.clauses2] at hn
        simp at h2 hn
        rcases h2 with rfl | rfl <;> simp at hn
    · obtain ⟨v', hv'⟩ := hV.told n' (.inr h1)
      have hkt' : (kidsF ks n').2.2 = true := by
        cases hk : (kidsF ks n').2.2 with
        | true => rfl
        | false => rw [(clauses_none hk).1] at h2; cases h2
      obtain ⟨k', va', vb', p'⟩ := hV.parts hr hv' hkt'
      rw [p'.clauses2] at h2
      have pp' := p'.pa
      rcases hside with rfl | rfl
      · rw [p.clauses1] at hn
        simp at h2 hn
        subst h2
        rcases hn with hn | hn <;> simp at hn
      · rw [p.clauses2] at hn
        have e : v = v' := by
          simp at h2 hn
          subst h2
          simp at hn
          omega
        subst e
        have := hV.inj _ _ _ hv hv'
        subst this
        unfold En.is at ht
        simp only at ht
        rw [if_neg (by decide)] at ht
        rw [h1] at ht; cases ht
    · subst h2
      rcases hside with rfl | rfl
      · rw [p.clauses1] at hn; simp at hn
      · rw [p.clauses2] at hn; simp at hn
  have hcl : (clausesF ks E (n, s)).Nodup := by
    cases hk : (kidsF ks n).2.2 with
    | false => rw [(clauses_none hk).1]; exact .nil
    | true =>
      obtain ⟨k, va, vb, p⟩ := hV.parts hr hv hk
      have hl := p.lits
      have pp := p.pa
      have pq := p.pb
      have pab := p.ab
      rcases hside with rfl | rfl
      · rw [p.clauses1]
        simp
        omega
      · rw [p.clauses2]; simp
  refine ⟨hmem, ?_, fun x hx => ?_, fun n' s' hs' hn' x hx => ?_⟩
  · rw [List.nodup_append]
    exact ⟨h.nodup, hcl, fun a ha b hb e => hnew a ha (e ▸ hb)⟩
  · rcases List.mem_append.1 hx with h1 | h1
    · exact h.stk x (by simp [h1])
    · cases hk : (kidsF ks n).2.2 with
      | false => rw [(clauses_none (E := E) hk).2] at h1; cases h1
      | true =>
        obtain ⟨k, va, vb, p⟩ := hV.parts hr hv hk
        rcases hside with rfl | rfl
        · rw [p.more1] at h1
          simp at h1
          rcases h1 with rfl | rfl
          · exact ⟨asks_side _, va, p.ha⟩
          · exact ⟨asks_side _, vb, p.hb⟩
        · rw [p.more2] at h1
          simp at h1
          rcases h1 with rfl | rfl
          · refine ⟨asks_side _, va, ?_⟩
            show E.vr (flip1 k.1 / 2) = some va
            rw [flip_half]; exact p.ha
          · refine ⟨asks_side _, vb, ?_⟩
            show E.vr (flip1 k.2 / 2) = some vb
            rw [flip_half]; exact p.hb
  · have hxs : x.2 = 1 ∨ x.2 = 2 := by
      unfold moreF at hx
      split at hx
      · split at hx <;> simp at hx <;> rcases hx with rfl | rfl <;> exact asks_side _
      · cases hx
    rw [is_tell E (n, s) (n', s') hside hs'] at hn'
    rw [is_tell E (n, s) x hside hxs]
    rcases hn' with h1 | h1
    · rcases h.asked n' s' hs' h1 x hx with h2 | h2
      · exact .inl (.inl h2)
      · rcases List.mem_append.1 h2 with h3 | h3
        · exact .inr (by simp [h3])
        · simp at h3; exact .inl (.inr h3)
    · simp only [Prod.mk.injEq] at h1
      obtain ⟨rfl, rfl⟩ := h1
      exact .inr (by simp [hx])
end Go.Proofs.Ytdbbkhmiflignaa
