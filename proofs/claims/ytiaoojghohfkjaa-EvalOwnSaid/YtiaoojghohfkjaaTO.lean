/- Cones: what a term is made of, by its operands' parts. -/
import Derived.Test.YtiaoojghohfkjaaTNL
import Derived.Test.YtiaoojghohfkjaaTJ
namespace Go.Proofs.Ytiaoojghohfkjaa
set_option maxRecDepth 100000

def kidIn (m : Nd) (i : Nat) : Bool := decide (i = m.a.toNat) || (decide (i = m.b.toNat) || decide (i = m.c.toNat))
def mk1P (ns : List Nd) (n : Nat) (f : Nat → Bool) (i : Nat) : Bool := f i || (f (n + 1) && kidIn (ns.getD n Nd.zero) i)
def mkP (ns : List Nd) : Nat → (Nat → Bool) → Nat → Bool
  | 0, f => f
  | n + 1, f => mkP ns n (mk1P ns n f)
theorem set_getD {v : List Bool} {j i : Nat} (hi : i < v.length) : (v.set j true).getD i false = (v.getD i false || decide (i = j)) := by
  rw [List.getD_eq_getElem?_getD, List.getD_eq_getElem?_getD, List.getElem?_set]
  by_cases h : j = i
  · subst h; simp [hi]
  · have : ¬ i = j := fun e => h e.symm
    simp [h, this]
theorem mark1T_at {ns : List Nd} {n i : Nat} {v : List Bool} (hi : i < v.length) : (mark1T ns n v).getD i false = (v.getD i false || (v.getD (n + 1) false && kidIn (ns.getD n Nd.zero) i)) := by
  unfold mark1T kidIn
  split
  · rename_i h
    rw [set_getD (by simpa using hi), set_getD (by simpa using hi), set_getD hi, h, Bool.true_and, Bool.or_assoc, Bool.or_assoc]
  · rename_i h
    rw [Bool.eq_false_iff.2 h, Bool.false_and, Bool.or_false]
theorem markT_at {ns : List Nd} : ∀ {n : Nat} {v : List Bool} {f : Nat → Bool}, n < v.length → (∀ i, i < v.length → v.getD i false = f i) → ∀ i, i < v.length → (markT ns n v).getD i false = mkP ns n f i
  | 0, v, f, _, h, i, hi => h i hi
  | n + 1, v, f, hn, h, i, hi => by
    rw [markT, mkP]
    refine markT_at (by rw [mark1T_len]; omega) (fun j hj => ?_) i (by rw [mark1T_len]; exact hi)
    rw [mark1T_len] at hj
    rw [mark1T_at hj, mk1P, h j hj, h (n + 1) hn]
theorem mkP_or {ns : List Nd} : ∀ {n : Nat} {f g : Nat → Bool}, mkP ns n (fun i => f i || g i) = fun i => mkP ns n f i || mkP ns n g i
  | 0, _, _ => rfl
  | n + 1, f, g => by
    have : mk1P ns n (fun i => f i || g i) = fun i => mk1P ns n f i || mk1P ns n g i := by
      funext i
      simp only [mk1P]
      cases f i <;> cases g i <;> cases f (n + 1) <;> cases g (n + 1) <;> cases kidIn (ns.getD n Nd.zero) i <;> rfl
    rw [mkP, this, mkP_or]; rfl
theorem mkP_skip {ns : List Nd} {a : Nat} {f : Nat → Bool} : ∀ {n : Nat}, a ≤ n → (∀ j, a < j → j ≤ n → f j = false) → mkP ns n f = mkP ns a f
  | 0, h, _ => by have : a = 0 := by omega
                  rw [this]
  | n + 1, h, hf => by
    by_cases e : a = n + 1
    · rw [e]
    · have : mk1P ns n f = f := by funext i; unfold mk1P; rw [hf (n + 1) (by omega) (Nat.le_refl _)]; simp
      rw [mkP, this]
      exact mkP_skip (by omega) fun j h1 h2 => hf j h1 (by omega)
/-- What a term is made of. -/
def cP (ns : List Nd) (n : Nat) : Nat → Bool := mkP ns n fun i => decide (i = n)
theorem cP_zero (ns : List Nd) (i : Nat) : cP ns 0 i = decide (i = 0) := rfl
theorem cP_succ {ns : List Nd} {n : Nat} {m : Nd} (hm : ns[n]? = some m) (ha : m.a.toNat ≤ n) (hb : m.b.toNat ≤ n) (hc : m.c.toNat ≤ n) (i : Nat) : cP ns (n + 1) i = (decide (i = n + 1) || (cP ns m.a.toNat i || (cP ns m.b.toNat i || cP ns m.c.toNat i))) := by
  have hg : ns.getD n Nd.zero = m := by simp [List.getD_eq_getElem?_getD, hm]
  have e1 : mk1P ns n (fun i => decide (i = n + 1)) = fun i => decide (i = n + 1) || (decide (i = m.a.toNat) || (decide (i = m.b.toNat) || decide (i = m.c.toNat))) := by
    funext i
    unfold mk1P kidIn
    rw [hg]; simp
  have e2 : mkP ns n (fun i => decide (i = n + 1)) = fun i => decide (i = n + 1) := mkP_skip (a := 0) (by omega) fun j h1 h2 => by simp; omega
  have K : ∀ k, k ≤ n → mkP ns n (fun i => decide (i = k)) = cP ns k := fun k hk => mkP_skip hk fun j h1 h2 => by simp; omega
  show mkP ns n (mk1P ns n fun i => decide (i = n + 1)) i = _
  rw [e1, mkP_or, mkP_or, mkP_or, e2, K _ ha, K _ hb, K _ hc]
theorem cP_high {ns : List Nd} (kok : Kok ns) : ∀ (n : Nat), n ≤ ns.length → ∀ i, n < i → cP ns n i = false := by
  intro n
  induction n using Nat.strongRecOn with
  | ind n ih =>
    intro hn i hi
    cases n with
    | zero => rw [cP_zero]; simp; omega
    | succ n =>
      obtain ⟨m, hm⟩ : ∃ m, ns[n]? = some m := ⟨ns[n], List.getElem?_eq_getElem hn⟩
      obtain ⟨⟨a0, a1⟩, ⟨b0, b1⟩, ⟨d0, d1⟩⟩ := kok n m hm
      rw [cP_succ hm (by omega) (by omega) (by omega), ih m.a.toNat (by omega) (by omega) i (by omega), ih m.b.toNat (by omega) (by omega) i (by omega), ih m.c.toNat (by omega) (by omega) i (by omega)]
      simp; omega
theorem coneM_at {ns : List Nd} {n i : Nat} (hi : i ≤ n) : (coneM ns n).getD i false = cP ns n i := by
  unfold coneM cP
  refine markT_at (by simp) (fun j hj => ?_) i (by simp; omega)
  rw [set_getD (by simpa using hj)]
  have : (List.replicate (n + 1) false).getD j false = false := by
    rw [List.getD_eq_getElem?_getD]; simp [List.getElem?_replicate]; split <;> rfl
  rw [this]; simp
theorem outT_congr {v w : List Bool} {i : Nat} (h : ∀ j, 1 ≤ j → j < i → v.getD j false = w.getD j false) : outT v i = outT w i := by
  unfold outT
  congr 1
  apply List.filter_congr
  intro j hj
  simp only [List.mem_range] at hj
  by_cases c : 1 ≤ j
  · rw [h j c hj]
  · simp [c]
theorem outT_more {v : List Bool} {i : Nat} (hi : 1 ≤ i) : ∀ (k : Nat), (∀ j, i ≤ j → j < i + k → v.getD j false = false) → outT v (i + k) = outT v i
  | 0, _ => rfl
  | k + 1, h => by
    rw [← Nat.add_assoc, outT_succ v (by omega), h (i + k) (by omega) (by omega), outT_more hi k fun j h1 h2 => h j h1 (by omega)]
    simp
theorem mem_outT {v : List Bool} {i j : Nat} : (j : Int) ∈ outT v i ↔ 1 ≤ j ∧ j < i ∧ v.getD j false = true := by
  unfold outT
  simp only [List.mem_map, List.mem_filter, List.mem_range, Bool.and_eq_true, decide_eq_true_eq]
  constructor
  · rintro ⟨k, ⟨h1, h2, h3⟩, h4⟩
    have : k = j := by omega
    subst this
    exact ⟨h2, h1, h3⟩
  · rintro ⟨h1, h2, h3⟩
    exact ⟨j, ⟨h2, h1, h3⟩, rfl⟩
theorem mem_cone {ns : List Nd} (kok : Kok ns) {a : Int} (h0 : 0 ≤ a) (h1 : a ≤ ns.length) {j : Nat} (hj : 1 ≤ j) : (j : Int) ∈ coneT ns a ↔ cP ns a.toNat j = true := by
  obtain ⟨n, rfl⟩ := Int.eq_ofNat_of_zero_le h0
  have hn : n ≤ ns.length := by omega
  simp only [Int.toNat_natCast]
  unfold coneT
  by_cases c : n = 0
  · subst c
    rw [if_pos (.inl (by simp)), cP_zero]
    simp; omega
  · rw [if_neg (by omega), Int.toNat_natCast, mem_outT]
    constructor
    · rintro ⟨-, h2, h3⟩
      rwa [coneM_at (by omega)] at h3
    · intro h
      by_cases c2 : j ≤ n
      · exact ⟨hj, by omega, by rw [coneM_at c2]; exact h⟩
      · rw [cP_high kok n hn j (by omega)] at h; cases h
theorem cone_mem {ns : List Nd} {a x : Int} (h : x ∈ coneT ns a) : ∃ j : Nat, x = j ∧ 1 ≤ j ∧ j ≤ ns.length := by
  unfold coneT at h
  split at h
  · cases h
  · rename_i c
    unfold outT at h
    simp only [List.mem_map, List.mem_filter, List.mem_range, Bool.and_eq_true, decide_eq_true_eq] at h
    obtain ⟨k, ⟨h1, h2, -⟩, rfl⟩ := h
    exact ⟨k, rfl, h2, by omega⟩
/-- The law: a term's parts are its operands' parts and itself. -/
theorem cone_law {ns : List Nd} (kok : Kok ns) {n : Nat} {m : Nd} (hm : ns[n]? = some m) {v : List Bool} (hv : ∀ j : Nat, 1 ≤ j → j ≤ ns.length → (v.getD j false = true ↔ j = n + 1 ∨ (j : Int) ∈ coneT ns m.a ∨ (j : Int) ∈ coneT ns m.b ∨ (j : Int) ∈ coneT ns m.c)) :
    coneT ns ((n : Int) + 1) = outT v (ns.length + 1) := by
  have hn : n < ns.length := (List.getElem?_eq_some_iff.1 hm).1
  obtain ⟨⟨a0, a1⟩, ⟨b0, b1⟩, ⟨d0, d1⟩⟩ := kok n m hm
  have hc : ∀ j, 1 ≤ j → j ≤ ns.length → v.getD j false = cP ns (n + 1) j := fun j h1 h2 => by
    have h := hv j h1 h2
    rw [mem_cone kok a0 (by omega) h1, mem_cone kok b0 (by omega) h1, mem_cone kok d0 (by omega) h1] at h
    rw [Bool.eq_iff_iff, h, cP_succ hm (by omega) (by omega) (by omega)]
    simp only [Bool.or_eq_true, decide_eq_true_eq]
  unfold coneT
  rw [if_neg (by omega), show ((n : Int) + 1).toNat = n + 1 from by omega]
  rw [show ns.length + 1 = (n + 1 + 1) + (ns.length - (n + 1)) from by omega, outT_more (v := v) (i := n + 1 + 1) (by omega)]
  · refine outT_congr fun j h1 h2 => ?_
    rw [coneM_at (by omega), hc j h1 (by omega)]
  · intro j h1 h2
    rw [hc j (by omega) (by omega), cP_high kok (n + 1) (by omega) j (by omega)]
end Go.Proofs.Ytiaoojghohfkjaa
