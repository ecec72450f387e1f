/- The encoder of clauses, plain: cones, what is told of a node, what holds of all clauses. -/
import Derived.Test.YtdbbkhmiflignaaAM3
namespace Go.Proofs.Ytdbbkhmiflignaa
set_option maxRecDepth 100000

/-! Cones hold their nodes' kids. -/
theorem set_getD' {v : List Bool} {j i : Nat} (hi : i < v.length) : (v.set j true).getD i false = (v.getD i false || decide (i = j)) := by
  rw [List.getD_eq_getElem?_getD, List.getD_eq_getElem?_getD, List.getElem?_set]
  by_cases h : j = i
  · subst h; simp [hi]
  · have : ¬ i = j := fun e => h e.symm
    simp [h, this]
theorem mark1_keeps {ks : Kd} {n i : Nat} {v : List Bool} (hi : i < v.length) (h : v.getD i false = true) : (mark1 ks n v).getD i false = true := by
  unfold mark1
  split
  · cases ks[n]? with
    | none => exact h
    | some k =>
      simp only
      split
      · exact h
      · rw [set_getD' (by simpa using hi), set_getD' hi, h]; rfl
  · exact h
theorem markF_keeps {ks : Kd} : ∀ {n i : Nat} {v : List Bool}, i < v.length → v.getD i false = true → (markF ks n v).getD i false = true
  | 0, _, _, _, h => h
  | n + 1, i, v, hi, h => by
    rw [markF]
    exact markF_keeps (by rw [mark1_len]; exact hi) (mark1_keeps hi h)
theorem mark1_high {m : Int} {ks : Kd} (hr : Rt m ks) {n j : Nat} (h : n < j) {v : List Bool} : (mark1 ks n v).getD j false = v.getD j false := by
  unfold mark1
  split
  · cases hk : ks[n]? with
    | none => rfl
    | some k =>
      simp only
      by_cases e : k = (0, 0)
      · rw [if_pos e]
      · rw [if_neg e]
        obtain ⟨h1, h2, h3, -⟩ := hr.kids n k hk e
        have e1 : (k.1 / 2).toNat ≠ j := by omega
        have e2 : (k.2 / 2).toNat ≠ j := by omega
        simp [List.getD_eq_getElem?_getD, e1, e2]
  · rfl
theorem markF_high {m : Int} {ks : Kd} (hr : Rt m ks) : ∀ {n j : Nat} {v : List Bool}, n ≤ j → (markF ks n v).getD j false = v.getD j false
  | 0, _, _, _ => rfl
  | n + 1, j, v, h => by rw [markF, markF_high hr (by omega), mark1_high hr (by omega)]
theorem markF_kids {m : Int} {ks : Kd} (hr : Rt m ks) : ∀ {n : Nat} {v : List Bool}, n < v.length → ∀ {j : Nat} {k : Int × Int}, j < n → ks[j]? = some k → k ≠ (0, 0) → (markF ks n v).getD (j + 1) false = true → (markF ks n v).getD (k.1 / 2).toNat false = true ∧ (markF ks n v).getD (k.2 / 2).toNat false = true
  | 0, _, _, _, _, h, _, _, _ => by omega
  | n + 1, v, hn, j, k, hj, hk, h0, ht => by
    rw [markF] at ht ⊢
    by_cases c : j < n
    · exact markF_kids hr (by rw [mark1_len]; omega) c hk h0 ht
    · have e : j = n := by omega
      subst e
      rw [markF_high hr (by omega), mark1_high hr (by omega)] at ht
      obtain ⟨h1, h2, h3, -⟩ := hr.kids j k hk h0
      have em : mark1 ks j v = (v.set (k.1 / 2).toNat true).set (k.2 / 2).toNat true := by
        unfold mark1
        rw [if_pos ht, hk]
        simp only
        rw [if_neg h0]
      have l1 : (k.1 / 2).toNat < v.length := by omega
      have l2 : (k.2 / 2).toNat < v.length := by omega
      refine ⟨markF_keeps (by rw [mark1_len]; exact l1) ?_, markF_keeps (by rw [mark1_len]; exact l2) ?_⟩
      · rw [em, set_getD' (by simpa using l1), set_getD' l1]; simp
      · rw [em, set_getD' (by simpa using l2)]; simp
theorem mem_outF {v : List Bool} {i j : Nat} : (j : Int) ∈ outF v i ↔ 1 ≤ j ∧ j < i ∧ v.getD j false = true := by
  unfold outF
  simp only [List.mem_map, List.mem_filter, List.mem_range, Bool.and_eq_true, decide_eq_true_eq]
  constructor
  · rintro ⟨k, ⟨h1, h2, h3⟩, h4⟩
    have : k = j := by omega
    subst this
    exact ⟨h2, h1, h3⟩
  · rintro ⟨h1, h2, h3⟩
    exact ⟨j, ⟨h2, h1, h3⟩, rfl⟩
theorem cone_in {ks : Kd} {l x : Int} (h : x ∈ coneF ks l) : ∃ j : Nat, x = j ∧ 1 ≤ j ∧ (j : Int) ≤ l / 2 ∧ (coneM ks l).getD j false = true := by
  unfold coneF at h
  split at h
  · rename_i hl
    unfold isL at hl
    have h' := h
    unfold outF at h
    simp only [List.mem_map, List.mem_filter, List.mem_range, Bool.and_eq_true, decide_eq_true_eq] at h
    obtain ⟨k, ⟨h1, h2, h3⟩, rfl⟩ := h
    exact ⟨k, rfl, h2, by omega, h3⟩
  · cases h
theorem coneM_len {ks : Kd} {l : Int} : (coneM ks l).length = (l / 2).toNat + 1 := by unfold coneM; rw [markF_len]; simp
theorem cone_self {ks : Kd} {l : Int} (hl : isL ks.length l) (h1 : 1 ≤ l / 2) : l / 2 ∈ coneF ks l := by
  unfold coneF
  rw [if_pos hl, show l / 2 = (((l / 2).toNat : Nat) : Int) from by omega, mem_outF]
  refine ⟨by omega, by omega, ?_⟩
  unfold coneM
  refine markF_keeps (by simp) ?_
  rw [set_getD' (by simp)]; simp
theorem cone_kids {m : Int} {ks : Kd} (hr : Rt m ks) {l x : Int} (hx : x ∈ coneF ks l) {k : Int × Int} (hk : ks[(x - 1).toNat]? = some k) (h0 : k ≠ (0, 0)) : k.1 / 2 ∈ coneF ks l ∧ k.2 / 2 ∈ coneF ks l := by
  obtain ⟨j, rfl, h1, h2, h3⟩ := cone_in hx
  have hl : isL ks.length l := by
    unfold coneF at hx
    split at hx
    · assumption
    · cases hx
  obtain ⟨k1, k2, k3, -⟩ := hr.kids _ k hk h0
  have hm := markF_kids hr (n := (l / 2).toNat) (v := (List.replicate ((l / 2).toNat + 1) false).set (l / 2).toNat true) (by simp) (j := j - 1) (by omega) (by rw [← hk]; congr 1; omega) h0 (by rw [show j - 1 + 1 = j from by omega]; exact h3)
  have mem : ∀ y : Int, 1 ≤ y → y ≤ l / 2 → (coneM ks l).getD y.toNat false = true → y ∈ coneF ks l := fun y y1 y2 y3 => by
    unfold coneF
    rw [if_pos hl, show y = ((y.toNat : Nat) : Int) from by omega, mem_outF]
    exact ⟨by omega, by omega, by simpa using y3⟩
  exact ⟨mem _ (by omega) (by omega) hm.1, mem _ (by omega) (by omega) hm.2⟩
theorem coneF_rises (ks : Kd) (l : Int) : (coneF ks l).Pairwise (· < ·) := by
  unfold coneF
  split
  · unfold outF
    rw [List.pairwise_map]
    refine List.Pairwise.imp (R := fun (a b : Nat) => a < b) (fun h => by omega) ?_
    exact List.Pairwise.filter _ List.pairwise_lt_range
  · exact .nil

/-! What the encoder tells. -/
structure En where
  first : Int
  last : Int
  vr : Int → Option Int
  t1 : Int → Bool
  t2 : Int → Bool
/-- A node's variable, as a literal's clause literal has it. -/
def En.nl (E : En) (n : Int) : Int := if n = 0 then -((E.vr n).getD 0) else (E.vr n).getD 0
def En.lit (E : En) (l : Int) : Int := if l % 2 = 1 then -(E.nl (l / 2)) else E.nl (l / 2)
theorem lit_flip (E : En) (l : Int) : E.lit (flip1 l) = -(E.lit l) := by
  unfold En.lit flip1
  by_cases h : l % 2 = 0
  · rw [if_pos h, if_pos (by omega), if_neg (by omega), show (l + 1) / 2 = l / 2 from by omega]
  · rw [if_neg h, if_neg (by omega), if_pos (by omega), show (l - 1) / 2 = l / 2 from by omega]; omega
def asksF (l : Int) : Int × Int := (l / 2, if l % 2 = 1 then 2 else 1)
def En.told (E : En) (n : Int) : Int := (if E.t1 n = true then 1 else 0) + (if E.t2 n = true then 2 else 0)
/-- Is it told, of a node and a polarity? -/
def En.is (E : En) (t : Int × Int) : Bool := if t.2 = 1 then E.t1 t.1 else E.t2 t.1
def En.tell (E : En) (t : Int × Int) : En := { E with t1 := fun n => if n = t.1 ∧ t.2 = 1 then true else E.t1 n, t2 := fun n => if n = t.1 ∧ t.2 ≠ 1 then true else E.t2 n }
/-- A node's variable. -/
def En.v (E : En) (n : Int) : Int := (E.vr n).getD 0
/-- A node's clauses of one polarity. -/
def clausesF (ks : Kd) (E : En) (t : Int × Int) : List (List Int) :=
  if (kidsF ks t.1).2.2 = true then (if t.2 = 1 then [[-(E.v t.1), E.lit (kidsF ks t.1).1], [-(E.v t.1), E.lit (kidsF ks t.1).2.1]] else [[E.v t.1, -(E.lit (kidsF ks t.1).1), -(E.lit (kidsF ks t.1).2.1)]]) else []
def moreF (ks : Kd) (t : Int × Int) : List (Int × Int) :=
  if (kidsF ks t.1).2.2 = true then (if t.2 = 1 then [asksF (kidsF ks t.1).1, asksF (kidsF ks t.1).2.1] else [asksF (flip1 (kidsF ks t.1).1), asksF (flip1 (kidsF ks t.1).2.1)]) else []
theorem clauses_tell (ks : Kd) (E : En) (t s : Int × Int) : clausesF ks (E.tell t) s = clausesF ks E s := rfl
/-- What holds of the encoder: variables, and where they come from. -/
structure EnV (ks : Kd) (E : En) : Prop where
  pos : 1 ≤ E.first
  le : E.first - 1 ≤ E.last
  rng : ∀ n v, E.vr n = some v → 0 ≤ n ∧ n ≤ ks.length ∧ E.first ≤ v ∧ v ≤ E.last
  inj : ∀ n m v, E.vr n = some v → E.vr m = some v → n = m
  kid : ∀ n v, E.vr n = some v → 1 ≤ n → ∀ k, ks[(n - 1).toNat]? = some k → k ≠ (0, 0) → (∃ va, E.vr (k.1 / 2) = some va ∧ va < v) ∧ ∃ vb, E.vr (k.2 / 2) = some vb ∧ vb < v
  told : ∀ n, E.t1 n = true ∨ E.t2 n = true → ∃ v, E.vr n = some v
/-- .. its clauses, and what is asked yet. -/
structure EnC (ks : Kd) (E : En) (C : List (List Int)) (st : List (Int × Int)) : Prop where
  mem : ∀ c, c ∈ C ↔ (∃ n, E.t1 n = true ∧ c ∈ clausesF ks E (n, 1)) ∨ (∃ n, E.t2 n = true ∧ c ∈ clausesF ks E (n, 2)) ∨ ∃ v, E.vr 0 = some v ∧ c = [v]
  nodup : C.Nodup
  stk : ∀ t, t ∈ st → (t.2 = 1 ∨ t.2 = 2) ∧ ∃ v, E.vr t.1 = some v
  asked : ∀ n s, (s = 1 ∨ s = 2) → E.is (n, s) = true → ∀ t, t ∈ moreF ks (n, s) → E.is t = true ∨ t ∈ st
end Go.Proofs.Ytdbbkhmiflignaa
