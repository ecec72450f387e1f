/- What an operator makes of values: plain. -/
import Derived.Test.YtiaoojghohfkjaaEB
import Derived.Test.YtiaoojghohfkjaaBVW
import Derived.Test.YtiaoojghohfkjaaBVP
namespace Go.Proofs.Ytiaoojghohfkjaa
set_option maxRecDepth 100000
set_option maxHeartbeats 2000000

/-- A word as a value. -/
def Vl.of {w : Nat} (x : BitVec w) : Vl := ⟨w, E x⟩
theorem Vl.of_av {w : Nat} (x : BitVec w) : (Vl.of x).av = B x := rfl
/-- A value's word. -/
def Vl.x (v : Vl) (w : Nat) : BitVec w := v.n.setWidth w
theorem Vl.of_x {w : Nat} (hw : w ≤ 128) (x : BitVec w) : (Vl.of x).x w = x := E_set hw x
/-- A word turned round. -/
def rotV {w : Nat} (x : BitVec w) (k : Nat) : BitVec w := (E x <<< k ||| E x >>> (w - k)).setWidth w
/-- Operators on two words. -/
def twoV {w : Nat} (n : Int) (a b : BitVec w) : Vl :=
  if n ≤ 28 then Vl.of (wordV n a b) else if n ≤ 36 then Vl.bool (cmpF n a b) else Vl.of (w := 1) (if a = b then 1#1 else 0#1)
/-- What an operator makes of values that fit. -/
def meanV (op p q : Int) (l : List Vl) : Vl :=
  if op ≤ 8 then Vl.bool (boolV op (l.getD 0 Vl.zero) (l.getD 1 Vl.zero))
  else if op = 9 then (if (l.getD 0 Vl.zero).yes = true then l.getD 1 Vl.zero else l.getD 2 Vl.zero)
  else if op = 10 then Vl.of (~~~(l.getD 0 Vl.zero).x (l.getD 0 Vl.zero).w.toNat)
  else if op = 11 then Vl.of (-(l.getD 0 Vl.zero).x (l.getD 0 Vl.zero).w.toNat)
  else if op ≤ 37 then twoV op ((l.getD 0 Vl.zero).x (l.getD 0 Vl.zero).w.toNat) ((l.getD 1 Vl.zero).x (l.getD 0 Vl.zero).w.toNat)
  else if op = 38 then Vl.of ((E ((l.getD 0 Vl.zero).x (l.getD 0 Vl.zero).w.toNat) <<< (l.getD 1 Vl.zero).w.toNat ||| E ((l.getD 1 Vl.zero).x (l.getD 1 Vl.zero).w.toNat)).setWidth ((l.getD 0 Vl.zero).w.toNat + (l.getD 1 Vl.zero).w.toNat))
  else if op = 39 then Vl.of ((E ((l.getD 0 Vl.zero).x (l.getD 0 Vl.zero).w.toNat) >>> q.toNat).setWidth ((p - q).toNat + 1))
  else if op = 40 then Vl.of ((E ((l.getD 0 Vl.zero).x (l.getD 0 Vl.zero).w.toNat)).setWidth ((l.getD 0 Vl.zero).w.toNat + p.toNat))
  else if op = 41 then Vl.of ((if ((l.getD 0 Vl.zero).x (l.getD 0 Vl.zero).w.toNat).msb = true then E ((l.getD 0 Vl.zero).x (l.getD 0 Vl.zero).w.toNat) ||| ~~~maskN (l.getD 0 Vl.zero).w.toNat else E ((l.getD 0 Vl.zero).x (l.getD 0 Vl.zero).w.toNat)).setWidth ((l.getD 0 Vl.zero).w.toNat + p.toNat))
  else if op = 42 then Vl.of (rotV ((l.getD 0 Vl.zero).x (l.getD 0 Vl.zero).w.toNat) (p.toNat % (l.getD 0 Vl.zero).w.toNat))
  else if op = 43 then Vl.of (rotV ((l.getD 0 Vl.zero).x (l.getD 0 Vl.zero).w.toNat) (((l.getD 0 Vl.zero).w.toNat - p.toNat % (l.getD 0 Vl.zero).w.toNat) % (l.getD 0 Vl.zero).w.toNat))
  else Vl.of (repB ((l.getD 0 Vl.zero).x (l.getD 0 Vl.zero).w.toNat) p.toNat)

theorem isWd_of {v : Vl} (h : v.ok = true) (h0 : ¬ v.w = 0) : ∃ (n : Nat) (x : BitVec n), 1 ≤ n ∧ n ≤ 128 ∧ v = Vl.of x := by
  have : isWd v.w (lo v.n) (hi v.n) = true := by
    unfold isWd
    rw [show rightF v.w (lo v.n) (hi v.n) = v.ok from rfl, h]
    simp [h0]
  obtain ⟨n, x, h1, h2, h3, h4, h5⟩ := isWd_word this
  exact ⟨n, x, h1, h2, Vl.ext' h3 h4 h5⟩
theorem Vl.of_ok {n : Nat} (h1 : 1 ≤ n) (hn : n ≤ 128) (x : BitVec n) : (Vl.of x).ok = true := by
  have := isWd_B h1 hn x
  unfold isWd at this
  simp only [Bool.and_eq_true] at this
  exact this.2
theorem Vl.bool_ok (b : Bool) : (Vl.bool b).ok = true := by cases b <;> decide
theorem Vl.of_bool {v : Vl} (h : v.ok = true) (h0 : v.w = 0) : ∃ b, v = Vl.bool b := by
  unfold Vl.ok rightF at h
  rw [if_pos h0] at h
  have h := of_decide_eq_true h
  have hl : lo v.n = 0#64 ∨ lo v.n = 1#64 := by
    have h1 := h.1
    rw [BitVec.le_def] at h1
    have e1 : (1#64 : BitVec 64).toNat = 1 := by decide
    rw [e1] at h1
    rcases (by omega : (lo v.n).toNat = 0 ∨ (lo v.n).toNat = 1) with h2 | h2
    · exact .inl (BitVec.eq_of_toNat_eq (by rw [h2]; rfl))
    · exact .inr (BitVec.eq_of_toNat_eq (by rw [h2]; rfl))
  rcases hl with hl | hl
  · exact ⟨false, Vl.ext' h0 (by rw [hl]; rfl) (by rw [h.2]; rfl)⟩
  · exact ⟨true, Vl.ext' h0 (by rw [hl]; rfl) (by rw [h.2]; rfl)⟩

/-- Values that an operator takes, and the sort of what it makes. -/
inductive Fit (op p q : Int) : List Vl → Int → Prop
  | not (a : Bool) : op = 3 → p = 0 → q = 0 → Fit op p q [Vl.bool a] 0
  | two (a b : Bool) : 4 ≤ op → op ≤ 7 → p = 0 → q = 0 → Fit op p q [Vl.bool a, Vl.bool b] 0
  | eq (a b : Vl) : op = 8 → p = 0 → q = 0 → a.ok = true → b.ok = true → a.w = b.w → Fit op p q [a, b] 0
  | ite (c : Bool) (a b : Vl) : op = 9 → p = 0 → q = 0 → a.ok = true → b.ok = true → a.w = b.w → Fit op p q [Vl.bool c, a, b] b.w
  | one (n : Nat) (x : BitVec n) : 1 ≤ n → n ≤ 128 → 10 ≤ op → op ≤ 11 → p = 0 → q = 0 → Fit op p q [Vl.of x] n
  | word (n : Nat) (x y : BitVec n) : 1 ≤ n → n ≤ 128 → 12 ≤ op → op ≤ 28 → p = 0 → q = 0 → Fit op p q [Vl.of x, Vl.of y] n
  | cmp (n : Nat) (x y : BitVec n) : 1 ≤ n → n ≤ 128 → 29 ≤ op → op ≤ 36 → p = 0 → q = 0 → Fit op p q [Vl.of x, Vl.of y] 0
  | comp (n : Nat) (x y : BitVec n) : 1 ≤ n → n ≤ 128 → op = 37 → p = 0 → q = 0 → Fit op p q [Vl.of x, Vl.of y] 1
  | concat (n m : Nat) (x : BitVec n) (y : BitVec m) : 1 ≤ n → 1 ≤ m → n + m ≤ 128 → op = 38 → p = 0 → q = 0 → Fit op p q [Vl.of x, Vl.of y] ((n + m : Nat) : Int)
  | extract (n i j : Nat) (x : BitVec n) : 1 ≤ n → n ≤ 128 → op = 39 → p = i → q = j → j ≤ i → i < n → Fit op p q [Vl.of x] ((i - j + 1 : Nat) : Int)
  | ext (n k : Nat) (x : BitVec n) : 1 ≤ n → n + k ≤ 128 → 40 ≤ op → op ≤ 41 → p = k → q = 0 → Fit op p q [Vl.of x] ((n + k : Nat) : Int)
  | rot (n k : Nat) (x : BitVec n) : 1 ≤ n → n ≤ 128 → 42 ≤ op → op ≤ 43 → p = k → q = 0 → Fit op p q [Vl.of x] n
  | rep (n k : Nat) (x : BitVec n) : 1 ≤ n → 1 ≤ k → n * k ≤ 128 → op = 44 → p = k → q = 0 → Fit op p q [Vl.of x] ((n * k : Nat) : Int)

theorem len1 {l : List Vl} (h : l.length = 1) : ∃ a, l = [a] := by
  cases l with
  | nil => simp at h
  | cons a l => cases l with
    | nil => exact ⟨a, rfl⟩
    | cons b l => simp at h
theorem len2 {l : List Vl} (h : l.length = 2) : ∃ a b, l = [a, b] := by
  cases l with
  | nil => simp at h
  | cons a l => obtain ⟨b, rfl⟩ := len1 (l := l) (by simpa using h); exact ⟨a, b, rfl⟩
theorem len3 {l : List Vl} (h : l.length = 3) : ∃ a b c, l = [a, b, c] := by
  cases l with
  | nil => simp at h
  | cons a l => obtain ⟨b, c, rfl⟩ := len2 (l := l) (by simpa using h); exact ⟨a, b, c, rfl⟩

theorem fit_of {op p q s : Int} {l : List Vl} (hs : sortS op p q (l.map Vl.w) = (s, 0)) (hl : ∀ v, v ∈ l → v.ok = true) : Fit op p q l s := by
  unfold sortS at hs
  by_cases a1 : arity op < 1
  · rw [if_pos a1] at hs; simp at hs
  rw [if_neg a1] at hs
  by_cases a2' : ¬ ((l.map Vl.w).length : Int) = arity op
  · rw [if_pos a2'] at hs; simp at hs
  have a2 : ((l.map Vl.w).length : Int) = arity op := Decidable.not_not.1 a2'
  rw [if_neg a2'] at hs
  split at hs
  · simp at hs
  rename_i a3
  split at hs
  · simp at hs
  rename_i a4
  split at hs
  · simp at hs
  rename_i a5
  have hsv : s = _ := (congrArg Prod.fst hs).symm
  simp only at hsv
  clear hs
  simp only [Bool.not_eq_false] at a3 a4
  rw [List.length_map] at a2
  have hop : 3 ≤ op ∧ op ≤ 44 := by unfold arity at a1; split at a1 <;> first | omega | (split at a1 <;> omega)
  have word : ∀ a, a ∈ l → 0 < a.w → ∃ (n : Nat) (x : BitVec n), 1 ≤ n ∧ n ≤ 128 ∧ a = Vl.of x := fun a ha h => isWd_of (hl a ha) (by omega)
  have bool : ∀ a, a ∈ l → a.w = 0 → ∃ b, a = Vl.bool b := fun a ha h => Vl.of_bool (hl a ha) h
  have ofw : ∀ (n : Nat) (x : BitVec n), (Vl.of x).w = n := fun _ _ => rfl
  have cast : ∀ {n m : Nat}, ((n : Int) = m) → n = m := fun h => by omega
  by_cases b1 : arity op = 1
  · obtain ⟨a, rfl⟩ := len1 (l := l) (by omega)
    have h1 := hl a (by simp)
    simp only [List.map_cons, List.map_nil, List.length_cons, List.length_nil, List.getD_cons_zero, Nat.zero_add, Nat.sub_self] at a4 a5 hsv
    have ho : op = 3 ∨ op = 10 ∨ op = 11 ∨ 39 ≤ op := by unfold arity at b1; split at b1 <;> first | omega | (split at b1 <;> first | omega | (split at b1 <;> first | omega | (split at b1 <;> omega)))
    by_cases c3 : op = 3
    · simp [toldB, c3] at a4
      simp [toldV, c3] at hsv
      obtain ⟨b, rfl⟩ := bool a (by simp) a4.2.2
      rw [hsv]
      exact .not b c3 a4.1 a4.2.1
    by_cases c10 : op ≤ 11
    · have d1 : ¬ op ≤ 7 := by omega
      have d2 : ¬ op = 8 := by omega
      have d3 : ¬ op = 9 := by omega
      have d4 : ¬ op = 38 := by omega
      have d5 : ¬ 39 ≤ op := by omega
      have d6 : ¬ op = 37 := by omega
      have d7 : ¬ 29 ≤ op := by omega
      simp [toldB, d1, d2, d3, d4, d5] at a4
      simp [toldV, d1, d2, d3, d4, d5, d6, d7] at hsv
      obtain ⟨n, x, n1, n2, rfl⟩ := word a (by simp) a4.2.2
      rw [hsv]
      exact .one n x n1 n2 (by omega) c10 a4.1 a4.2.1
    have d1 : ¬ op ≤ 7 := by omega
    have d2 : ¬ op = 8 := by omega
    have d3 : ¬ op = 9 := by omega
    have d4 : ¬ op = 38 := by omega
    have d5 : 39 ≤ op := by omega
    simp only [toldB, d1, d2, d3, d4, d5, if_true, if_false, Bool.and_eq_true, decide_eq_true_eq] at a4
    simp only [toldV, d1, d2, d3, d4, d5, if_true, if_false] at hsv a5
    obtain ⟨n, x, n1, n2, rfl⟩ := word a (by simp) a4.2
    have a4 := a4.1
    rw [ofw] at a4 a5 hsv
    by_cases c39 : op = 39
    · simp [numB, c39] at a4
      simp [numV, c39] at hsv
      obtain ⟨j, rfl⟩ : ∃ j : Nat, q = j := ⟨q.toNat, by omega⟩
      obtain ⟨i, rfl⟩ : ∃ i : Nat, p = i := ⟨p.toNat, by omega⟩
      rw [show s = ((i - j + 1 : Nat) : Int) by omega]
      exact .extract n i j x n1 n2 c39 rfl rfl (by omega) (by omega)
    by_cases c42 : op = 42 ∨ op = 43
    · have e2 : ¬ op = 44 := by omega
      simp only [numB, c39, e2, if_false, decide_eq_true_eq] at a4
      simp only [numV, c39, c42, if_false, if_true] at hsv
      obtain ⟨k, rfl⟩ : ∃ k : Nat, p = k := ⟨p.toNat, by omega⟩
      rw [hsv]
      exact .rot n k x n1 n2 (by omega) (by omega) rfl a4.2
    by_cases c44 : op = 44
    · simp only [numB, c44, if_false, if_true, decide_eq_true_eq, show ¬ (44 : Int) = 39 by omega] at a4
      simp only [numV, c44, if_false, if_true, show ¬ (44 : Int) = 39 by omega, show ¬ ((44 : Int) = 42 ∨ (44 : Int) = 43) by omega] at hsv a5
      obtain ⟨k, rfl⟩ : ∃ k : Nat, p = k := ⟨p.toNat, by omega⟩
      have hk : k ≤ 128 := by
        rcases Nat.lt_or_ge 128 k with h | h
        · exfalso
          rw [Int.min_eq_right (by omega)] at a5
          omega
        · exact h
      rw [Int.min_eq_left (by omega)] at a5 hsv
      rw [hsv, ← Int.natCast_mul]
      exact .rep n k x n1 (by omega) (by rw [← Int.natCast_mul] at a5; omega) c44 rfl a4.2
    · have c40 : op ≤ 41 := by omega
      simp only [numB, c39, c44, if_false, decide_eq_true_eq] at a4
      simp only [numV, c39, c42, c44, if_false] at hsv a5
      obtain ⟨k, rfl⟩ : ∃ k : Nat, p = k := ⟨p.toNat, by omega⟩
      rw [show s = ((n + k : Nat) : Int) by omega]
      exact .ext n k x n1 (by omega) (by omega) c40 rfl a4.2
  by_cases b3 : op = 9
  · rw [b3, arity9] at a2
    obtain ⟨a, b, c, rfl⟩ := len3 (l := l) (by omega)
    simp only [List.map_cons, List.map_nil, List.length_cons, List.length_nil, List.getD_cons_zero, Nat.zero_add, List.getD_cons_succ, Nat.add_sub_cancel] at a4 a5 hsv
    simp [toldB, b3] at a4
    simp [toldV, b3] at hsv
    obtain ⟨y, rfl⟩ := bool a (by simp) a4.2.2.1
    rw [hsv]
    exact .ite y b c b3 a4.1 a4.2.1 (hl b (by simp)) (hl c (by simp)) a4.2.2.2
  have b2 : arity op = 2 := by
    revert a1 b1 b3
    unfold arity
    split
    · omega
    · split
      · omega
      · split
        · omega
        · split <;> omega
  have hox : op ≤ 38 ∧ ¬ op = 3 ∧ ¬ op = 10 ∧ ¬ op = 11 := by
    unfold arity at b2
    split at b2
    · omega
    · split at b2
      · omega
      · split at b2
        · omega
        · omega
  obtain ⟨a, b, rfl⟩ := len2 (l := l) (by omega)
  simp only [List.map_cons, List.map_nil, List.length_cons, List.length_nil, List.getD_cons_zero, Nat.zero_add, List.getD_cons_succ, Nat.add_sub_cancel] at a4 a5 hsv
  by_cases c7 : op ≤ 7
  · simp [toldB, c7] at a4
    simp [toldV, c7] at hsv
    obtain ⟨x, rfl⟩ := bool a (by simp) a4.2.2.1
    obtain ⟨y, rfl⟩ := bool b (by simp) a4.2.2.2
    rw [hsv]
    exact .two x y (by omega) c7 a4.1 a4.2.1
  by_cases c8 : op = 8
  · simp [toldB, c8] at a4
    simp [toldV, c8] at hsv
    rw [hsv]
    exact .eq a b c8 a4.1 a4.2.1 (hl a (by simp)) (hl b (by simp)) a4.2.2
  by_cases c38 : op = 38
  · simp [toldB, c38] at a4
    simp [toldV, c38] at hsv a5
    obtain ⟨n, x, n1, n2, rfl⟩ := word a (by simp) a4.2.2.1
    obtain ⟨m, y, m1, m2, rfl⟩ := word b (by simp) a4.2.2.2
    rw [ofw, ofw] at hsv a5
    rw [hsv, ← Int.natCast_add]
    exact .concat n m x y n1 m1 (by omega) c38 a4.1 a4.2.1
  have d5 : ¬ 39 ≤ op := by omega
  simp [toldB, c7, c8, b3, c38, d5] at a4
  simp only [toldV, c7, c8, b3, c38, d5, if_false] at hsv
  obtain ⟨n, x, n1, n2, rfl⟩ := word a (by simp) a4.2.2.2
  obtain ⟨m, y, m1, m2, rfl⟩ := word b (by simp) (by rw [← a4.2.2.1]; exact a4.2.2.2)
  have e := a4.2.2.1
  rw [ofw, ofw] at e
  have e := cast e
  subst e
  by_cases c37 : op = 37
  · rw [if_pos c37] at hsv
    rw [hsv]
    exact .comp n x y n1 n2 c37 a4.1 a4.2.1
  rw [if_neg c37] at hsv
  by_cases c29 : 29 ≤ op
  · rw [if_pos c29] at hsv
    rw [hsv]
    exact .cmp n x y n1 n2 c29 (by omega) a4.1 a4.2.1
  rw [if_neg c29, ofw] at hsv
  rw [hsv]
  exact .word n x y n1 n2 (by omega) (by omega) a4.1 a4.2.1
end Go.Proofs.Ytiaoojghohfkjaa
