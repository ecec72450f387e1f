/- Texts EC ED BRT EE TD TE TF TH TI TL TNL TJ TO EF SA SB EG TQ EH EI OC EJ EK BRR TX TZ TZ2 TZ3 TZ4 TW EL EM EN EP SC SD SE SF SG SH SI of this claim, one behind the other. -/
import Derived.Test.YtiobohfiaapgeaaK5
section
namespace Go.Proofs.Ytiobohfiaapgeaa
set_option maxRecDepth 100000
set_option maxHeartbeats 2000000
def Vl.of {w : Nat} (x : BitVec w) : Vl := ⟨w, E x⟩
def Vl.x (v : Vl) (w : Nat) : BitVec w := v.n.setWidth w
theorem Vl.of_x {w : Nat} (hw : w ≤ 128) (x : BitVec w) : (Vl.of x).x w = x := E_set hw x
def rotV {w : Nat} (x : BitVec w) (k : Nat) : BitVec w := (E x <<< k ||| E x >>> (w - k)).setWidth w
def twoV {w : Nat} (n : Int) (a b : BitVec w) : Vl :=
  if n ≤ 28 then Vl.of (wordV n a b) else if n ≤ 36 then Vl.bool (cmpF n a b) else Vl.of (w := 1) (if a = b then 1#1 else 0#1)
def meanV (op p q : Int) (l : List Vl) : Vl :=
  if op ≤ 8 then Vl.bool (boolV op (l.getD 0 Vl.zero) (l.getD 1 Vl.zero))
  else if op = 9 then (if (l.getD 0 Vl.zero).yes = true then l.getD 1 Vl.zero else l.getD 2 Vl.zero)
  else if op = 10 then Vl.of (~~~(l.getD 0 Vl.zero).x (l.getD 0 Vl.zero).w.toNat)
  else if op = 11 then Vl.of (-(l.getD 0 Vl.zero).x (l.getD 0 Vl.zero).w.toNat)
  else if op ≤ 37 then twoV op ((l.getD 0 Vl.zero).x (l.getD 0 Vl.zero).w.toNat) ((l.getD 1 Vl.zero).x (l.getD 0 Vl.zero).w.toNat)
  else if op = 38 then Vl.of ((E ((l.getD 0 Vl.zero).x (l.getD 0 Vl.zero).w.toNat) <<< (l.getD 1 Vl.zero).w.toNat ||| E ((l.getD 1 Vl.zero).x (l.getD 1 Vl.zero).w.toNat)).setWidth ((l.getD 0 Vl.zero).w.toNat + (l.getD 1 Vl.zero).w.toNat))
  else if op = 39 then Vl.of ((E ((l.getD 0 Vl.zero).x (l.getD 0 Vl.zero).w.toNat) >>> q.toNat).setWidth ((p - q).toNat + 1))
  else if op = 40 then Vl.of ((E ((l.getD 0 Vl.zero).x (l.getD 0 Vl.zero).w.toNat)).setWidth ((l.getD 0 Vl.zero).w.toNat + p.toNat))
  else if op = 41 then Vl.of ((if ((l.getD 0 Vl.zero).x (l.getD 0 Vl.zero).w.toNat).msb = true then E ((l.getD 0 Vl.zero).x (l.getD 0 Vl.zero).w.toNat) ||| ~~~maskN (l.getD 0 Vl.zero).w.toNat else E ((l.getD 0 Vl.zero).x (l.getD 0 Vl.zero).w.toNat)).setWidth ((l.getD 0 Vl.zero).w.toNat + p.toNat))
  else if op = 42 then Vl.of (rotV ((l.getD 0 Vl.zero).x (l.getD 0 Vl.zero).w.toNat) (p.toNat % (l.getD 0 Vl.zero).w.toNat))
  else if op = 43 then Vl.of (rotV ((l.getD 0 Vl.zero).x (l.getD 0 Vl.zero).w.toNat) (((l.getD 0 Vl.zero).w.toNat - p.toNat % (l.getD 0 Vl.zero).w.toNat) % (l.getD 0 Vl.zero).w.toNat))
  else Vl.of (repB ((l.getD 0 Vl.zero).x (l.getD 0 Vl.zero).w.toNat) p.toNat)
theorem isWd_of {v : Vl} (h : v.ok = true) (h0 : ¬ v.w = 0) : ∃ (n : Nat) (x : BitVec n), 1 ≤ n ∧ n ≤ 128 ∧ v = Vl.of x := by
  have : isWd v.w (lo v.n) (hi v.n) = true := by
    unfold isWd
    rw [show rightF v.w (lo v.n) (hi v.n) = v.ok from rfl, h]
    simp [h0]
  obtain ⟨n, x, h1, h2, h3, h4, h5⟩ := isWd_word this
  exact ⟨n, x, h1, h2, Vl.ext' h3 h4 h5⟩
theorem Vl.of_ok {n : Nat} (h1 : 1 ≤ n) (hn : n ≤ 128) (x : BitVec n) : (Vl.of x).ok = true := by
  have := isWd_B h1 hn x
  unfold isWd at this
  simp only [Bool.and_eq_true] at this
  exact this.2
theorem Vl.bool_ok (b : Bool) : (Vl.bool b).ok = true := by cases b <;> decide
theorem Vl.of_bool {v : Vl} (h : v.ok = true) (h0 : v.w = 0) : ∃ b, v = Vl.bool b := by
  unfold Vl.ok rightF at h
  rw [if_pos h0] at h
  have h := of_decide_eq_true h
  have hl : lo v.n = 0#64 ∨ lo v.n = 1#64 := by
    have h1 := h.1
    rw [BitVec.le_def] at h1
    have e1 : (1#64 : BitVec 64).toNat = 1 := by decide
    rw [e1] at h1
    rcases (by omega : (lo v.n).toNat = 0 ∨ (lo v.n).toNat = 1) with h2 | h2
    · exact .inl (BitVec.eq_of_toNat_eq (by rw [h2]; rfl))
    · exact .inr (BitVec.eq_of_toNat_eq (by rw [h2]; rfl))
  rcases hl with hl | hl
  · exact ⟨false, Vl.ext' h0 (by rw [hl]; rfl) (by rw [h.2]; rfl)⟩
  · exact ⟨true, Vl.ext' h0 (by rw [hl]; rfl) (by rw [h.2]; rfl)⟩
inductive Fit (op p q : Int) : List Vl → Int → Prop
  | not (a : Bool) : op = 3 → p = 0 → q = 0 → Fit op p q [Vl.bool a] 0
  | two (a b : Bool) : 4 ≤ op → op ≤ 7 → p = 0 → q = 0 → Fit op p q [Vl.bool a, Vl.bool b] 0
  | eq (a b : Vl) : op = 8 → p = 0 → q = 0 → a.ok = true → b.ok = true → a.w = b.w → Fit op p q [a, b] 0
  | ite (c : Bool) (a b : Vl) : op = 9 → p = 0 → q = 0 → a.ok = true → b.ok = true → a.w = b.w → Fit op p q [Vl.bool c, a, b] b.w
  | one (n : Nat) (x : BitVec n) : 1 ≤ n → n ≤ 128 → 10 ≤ op → op ≤ 11 → p = 0 → q = 0 → Fit op p q [Vl.of x] n
  | word (n : Nat) (x y : BitVec n) : 1 ≤ n → n ≤ 128 → 12 ≤ op → op ≤ 28 → p = 0 → q = 0 → Fit op p q [Vl.of x, Vl.of y] n
  | cmp (n : Nat) (x y : BitVec n) : 1 ≤ n → n ≤ 128 → 29 ≤ op → op ≤ 36 → p = 0 → q = 0 → Fit op p q [Vl.of x, Vl.of y] 0
  | comp (n : Nat) (x y : BitVec n) : 1 ≤ n → n ≤ 128 → op = 37 → p = 0 → q = 0 → Fit op p q [Vl.of x, Vl.of y] 1
  | concat (n m : Nat) (x : BitVec n) (y : BitVec m) : 1 ≤ n → 1 ≤ m → n + m ≤ 128 → op = 38 → p = 0 → q = 0 → Fit op p q [Vl.of x, Vl.of y] ((n + m : Nat) : Int)
  | extract (n i j : Nat) (x : BitVec n) : 1 ≤ n → n ≤ 128 → op = 39 → p = i → q = j → j ≤ i → i < n → Fit op p q [Vl.of x] ((i - j + 1 : Nat) : Int)
  | ext (n k : Nat) (x : BitVec n) : 1 ≤ n → n + k ≤ 128 → 40 ≤ op → op ≤ 41 → p = k → q = 0 → Fit op p q [Vl.of x] ((n + k : Nat) : Int)
  | rot (n k : Nat) (x : BitVec n) : 1 ≤ n → n ≤ 128 → 42 ≤ op → op ≤ 43 → p = k → q = 0 → Fit op p q [Vl.of x] n
  | rep (n k : Nat) (x : BitVec n) : 1 ≤ n → 1 ≤ k → n * k ≤ 128 → op = 44 → p = k → q = 0 → Fit op p q [Vl.of x] ((n * k : Nat) : Int)
theorem len1 {l : List Vl} (h : l.length = 1) : ∃ a, l = [a] := by
  cases l with
  | nil => simp at h
  | cons a l => cases l with
    | nil => exact ⟨a, rfl⟩
    | cons b l => simp at h
theorem len2 {l : List Vl} (h : l.length = 2) : ∃ a b, l = [a, b] := by
  cases l with
  | nil => simp at h
  | cons a l => obtain ⟨b, rfl⟩ := len1 (l := l) (by simpa using h); exact ⟨a, b, rfl⟩
theorem len3 {l : List Vl} (h : l.length = 3) : ∃ a b c, l = [a, b, c] := by
  cases l with
  | nil => simp at h
  | cons a l => obtain ⟨b, c, rfl⟩ := len2 (l := l) (by simpa using h); exact ⟨a, b, c, rfl⟩
theorem fit_of {op p q s : Int} {l : List Vl} (hs : sortS op p q (l.map Vl.w) = (s, 0)) (hl : ∀ v, v ∈ l → v.ok = true) : Fit op p q l s := by
  unfold sortS at hs
  by_cases a1 : arity op < 1
  · rw [if_pos a1] at hs; simp at hs
  rw [if_neg a1] at hs
  by_cases a2' : ¬ ((l.map Vl.w).length : Int) = arity op
  · rw [if_pos a2'] at hs; simp at hs
  have a2 : ((l.map Vl.w).length : Int) = arity op := Decidable.not_not.1 a2'
  rw [if_neg a2'] at hs
  split at hs
  · simp at hs
  rename_i a3
  split at hs
  · simp at hs
  rename_i a4
  split at hs
  · simp at hs
  rename_i a5
  have hsv : s = _ := (congrArg Prod.fst hs).symm
  simp only at hsv
  clear hs
  simp only [Bool.not_eq_false] at a3 a4
  rw [List.length_map] at a2
  have hop : 3 ≤ op ∧ op ≤ 44 := by unfold arity at a1; split at a1 <;> first | omega | (split at a1 <;> omega)
  have word : ∀ a, a ∈ l → 0 < a.w → ∃ (n : Nat) (x : BitVec n), 1 ≤ n ∧ n ≤ 128 ∧ a = Vl.of x := fun a ha h => isWd_of (hl a ha) (by omega)
  have bool : ∀ a, a ∈ l → a.w = 0 → ∃ b, a = Vl.bool b := fun a ha h => Vl.of_bool (hl a ha) h
  have ofw : ∀ (n : Nat) (x : BitVec n), (Vl.of x).w = n := fun _ _ => rfl
  have cast : ∀ {n m : Nat}, ((n : Int) = m) → n = m := fun h => by omega
  by_cases b1 : arity op = 1
  · obtain ⟨a, rfl⟩ := len1 (l := l) (by omega)
    have h1 := hl a (by simp)
    simp only [List.map_cons, List.map_nil, List.length_cons, List.length_nil, List.getD_cons_zero, Nat.zero_add, Nat.sub_self] at a4 a5 hsv
    have ho : op = 3 ∨ op = 10 ∨ op = 11 ∨ 39 ≤ op := by unfold arity at b1; split at b1 <;> first | omega | (split at b1 <;> first | omega | (split at b1 <;> first | omega | (split at b1 <;> omega)))
    by_cases c3 : op = 3
    · simp [toldB, c3] at a4
      simp [toldV, c3] at hsv
      obtain ⟨b, rfl⟩ := bool a (by simp) a4.2.2
      rw [hsv]
      exact .not b c3 a4.1 a4.2.1
    by_cases c10 : op ≤ 11
    · have d1 : ¬ op ≤ 7 := by omega
      have d2 : ¬ op = 8 := by omega
      have d3 : ¬ op = 9 := by omega
      have d4 : ¬ op = 38 := by omega
      have d5 : ¬ 39 ≤ op := by omega
      have d6 : ¬ op = 37 := by omega
      have d7 : ¬ 29 ≤ op := by omega
      simp [toldB, d1, d2, d3, d4, d5] at a4
      simp [toldV, d1, d2, d3, d4, d5, d6, d7] at hsv
      obtain ⟨n, x, n1, n2, rfl⟩ := word a (by simp) a4.2.2
      rw [hsv]
      exact .one n x n1 n2 (by omega) c10 a4.1 a4.2.1
    have d1 : ¬ op ≤ 7 := by omega
    have d2 : ¬ op = 8 := by omega
    have d3 : ¬ op = 9 := by omega
    have d4 : ¬ op = 38 := by omega
    have d5 : 39 ≤ op := by omega
    simp only [toldB, d1, d2, d3, d4, d5, if_true, if_false, Bool.and_eq_true, decide_eq_true_eq] at a4
    simp only [toldV, d1, d2, d3, d4, d5, if_true, if_false] at hsv a5
    obtain ⟨n, x, n1, n2, rfl⟩ := word a (by simp) a4.2
    have a4 := a4.1
    rw [ofw] at a4 a5 hsv
    by_cases c39 : op = 39
    · simp [numB, c39] at a4
      simp [numV, c39] at hsv
      obtain ⟨j, rfl⟩ : ∃ j : Nat, q = j := ⟨q.toNat, by omega⟩
      obtain ⟨i, rfl⟩ : ∃ i : Nat, p = i := ⟨p.toNat, by omega⟩
      rw [show s = ((i - j + 1 : Nat) : Int) by omega]
      exact .extract n i j x n1 n2 c39 rfl rfl (by omega) (by omega)
    by_cases c42 : op = 42 ∨ op = 43
    · have e2 : ¬ op = 44 := by omega
      simp only [numB, c39, e2, if_false, decide_eq_true_eq] at a4
      simp only [numV, c39, c42, if_false, if_true] at hsv
      obtain ⟨k, rfl⟩ : ∃ k : Nat, p = k := ⟨p.toNat, by omega⟩
      rw [hsv]
      exact .rot n k x n1 n2 (by omega) (by omega) rfl a4.2
    by_cases c44 : op = 44
    · simp only [numB, c44, if_false, if_true, decide_eq_true_eq, show ¬ (44 : Int) = 39 by omega] at a4
      simp only [numV, c44, if_false, if_true, show ¬ (44 : Int) = 39 by omega, show ¬ ((44 : Int) = 42 ∨ (44 : Int) = 43) by omega] at hsv a5
      obtain ⟨k, rfl⟩ : ∃ k : Nat, p = k := ⟨p.toNat, by omega⟩
      have hk : k ≤ 128 := by
        rcases Nat.lt_or_ge 128 k with h | h
        · exfalso
          rw [Int.min_eq_right (by omega)] at a5
          omega
        · exact h
      rw [Int.min_eq_left (by omega)] at a5 hsv
      rw [hsv, ← Int.natCast_mul]
      exact .rep n k x n1 (by omega) (by rw [← Int.natCast_mul] at a5; omega) c44 rfl a4.2
    · have c40 : op ≤ 41 := by omega
      simp only [numB, c39, c44, if_false, decide_eq_true_eq] at a4
      simp only [numV, c39, c42, c44, if_false] at hsv a5
      obtain ⟨k, rfl⟩ : ∃ k : Nat, p = k := ⟨p.toNat, by omega⟩
      rw [show s = ((n + k : Nat) : Int) by omega]
      exact .ext n k x n1 (by omega) (by omega) c40 rfl a4.2
  by_cases b3 : op = 9
  · rw [b3, arity9] at a2
    obtain ⟨a, b, c, rfl⟩ := len3 (l := l) (by omega)
    simp only [List.map_cons, List.map_nil, List.length_cons, List.length_nil, List.getD_cons_zero, Nat.zero_add, List.getD_cons_succ, Nat.add_sub_cancel] at a4 a5 hsv
    simp [toldB, b3] at a4
    simp [toldV, b3] at hsv
    obtain ⟨y, rfl⟩ := bool a (by simp) a4.2.2.1
    rw [hsv]
    exact .ite y b c b3 a4.1 a4.2.1 (hl b (by simp)) (hl c (by simp)) a4.2.2.2
  have b2 : arity op = 2 := by
    revert a1 b1 b3
    unfold arity
    split
    · omega
    · split
      · omega
      · split
        · omega
        · split <;> omega
  have hox : op ≤ 38 ∧ ¬ op = 3 ∧ ¬ op = 10 ∧ ¬ op = 11 := by
    unfold arity at b2
    split at b2
    · omega
    · split at b2
      · omega
      · split at b2
        · omega
        · omega
  obtain ⟨a, b, rfl⟩ := len2 (l := l) (by omega)
  simp only [List.map_cons, List.map_nil, List.length_cons, List.length_nil, List.getD_cons_zero, Nat.zero_add, List.getD_cons_succ, Nat.add_sub_cancel] at a4 a5 hsv
  by_cases c7 : op ≤ 7
  · simp [toldB, c7] at a4
    simp [toldV, c7] at hsv
    obtain ⟨x, rfl⟩ := bool a (by simp) a4.2.2.1
    obtain ⟨y, rfl⟩ := bool b (by simp) a4.2.2.2
    rw [hsv]
    exact .two x y (by omega) c7 a4.1 a4.2.1
  by_cases c8 : op = 8
  · simp [toldB, c8] at a4
    simp [toldV, c8] at hsv
    rw [hsv]
    exact .eq a b c8 a4.1 a4.2.1 (hl a (by simp)) (hl b (by simp)) a4.2.2
  by_cases c38 : op = 38
  · simp [toldB, c38] at a4
    simp [toldV, c38] at hsv a5
    obtain ⟨n, x, n1, n2, rfl⟩ := word a (by simp) a4.2.2.1
    obtain ⟨m, y, m1, m2, rfl⟩ := word b (by simp) a4.2.2.2
    rw [ofw, ofw] at hsv a5
    rw [hsv, ← Int.natCast_add]
    exact .concat n m x y n1 m1 (by omega) c38 a4.1 a4.2.1
  have d5 : ¬ 39 ≤ op := by omega
  simp [toldB, c7, c8, b3, c38, d5] at a4
  simp only [toldV, c7, c8, b3, c38, d5, if_false] at hsv
  obtain ⟨n, x, n1, n2, rfl⟩ := word a (by simp) a4.2.2.2
  obtain ⟨m, y, m1, m2, rfl⟩ := word b (by simp) (by rw [← a4.2.2.1]; exact a4.2.2.2)
  have e := a4.2.2.1
  rw [ofw, ofw] at e
  have e := cast e
  subst e
  by_cases c37 : op = 37
  · rw [if_pos c37] at hsv
    rw [hsv]
    exact .comp n x y n1 n2 c37 a4.1 a4.2.1
  rw [if_neg c37] at hsv
  by_cases c29 : 29 ≤ op
  · rw [if_pos c29] at hsv
    rw [hsv]
    exact .cmp n x y n1 n2 c29 (by omega) a4.1 a4.2.1
  rw [if_neg c29, ofw] at hsv
  rw [hsv]
  exact .word n x y n1 n2 (by omega) (by omega) a4.1 a4.2.1
end Go.Proofs.Ytiobohfiaapgeaa
end
section
namespace Go.Proofs.Ytiobohfiaapgeaa
set_option maxRecDepth 100000
set_option maxHeartbeats 2000000
theorem mean_bool {op p q : Int} (h : op ≤ 8) (l : List Vl) : meanV op p q l = Vl.bool (boolV op (l.getD 0 Vl.zero) (l.getD 1 Vl.zero)) := by
  unfold meanV; rw [if_pos h]
theorem mean_ite {p q : Int} (a b c : Vl) : meanV 9 p q [a, b, c] = if a.yes = true then b else c := rfl
theorem mean_not {p q : Int} {n : Nat} (hn : n ≤ 128) (x : BitVec n) : meanV 10 p q [Vl.of x] = Vl.of (~~~x) := by
  show Vl.of (~~~(Vl.of x).x n) = _
  rw [Vl.of_x hn]
theorem mean_neg {p q : Int} {n : Nat} (hn : n ≤ 128) (x : BitVec n) : meanV 11 p q [Vl.of x] = Vl.of (-x) := by
  show Vl.of (-(Vl.of x).x n) = _
  rw [Vl.of_x hn]
theorem mean_two {op p q : Int} (h1 : 12 ≤ op) (h2 : op ≤ 37) {n : Nat} (hn : n ≤ 128) (x y : BitVec n) : meanV op p q [Vl.of x, Vl.of y] = twoV op x y := by
  unfold meanV
  rw [if_neg (by omega), if_neg (by omega), if_neg (by omega), if_neg (by omega), if_pos h2]
  show twoV op ((Vl.of x).x n) ((Vl.of y).x n) = _
  rw [Vl.of_x hn, Vl.of_x hn]
theorem mean_concat {p q : Int} {n m : Nat} (hn : n ≤ 128) (hm : m ≤ 128) (x : BitVec n) (y : BitVec m) : meanV 38 p q [Vl.of x, Vl.of y] = Vl.of ((E x <<< m ||| E y).setWidth (n + m)) := by
  show Vl.of ((E ((Vl.of x).x n) <<< m ||| E ((Vl.of y).x m)).setWidth (n + m)) = _
  rw [Vl.of_x hn, Vl.of_x hm]
theorem mean_extract {i j n : Nat} (hn : n ≤ 128) (h : j ≤ i) (x : BitVec n) : meanV 39 i j [Vl.of x] = Vl.of ((E x >>> j).setWidth (i - j + 1)) := by
  have e : ((i : Int) - j).toNat = i - j := by omega
  show Vl.of ((E ((Vl.of x).x n) >>> j).setWidth (((i : Int) - j).toNat + 1)) = _
  rw [Vl.of_x hn, e]
theorem mean_zext {q : Int} {k n : Nat} (hn : n ≤ 128) (x : BitVec n) : meanV 40 k q [Vl.of x] = Vl.of ((E x).setWidth (n + k)) := by
  show Vl.of ((E ((Vl.of x).x n)).setWidth (n + k)) = _
  rw [Vl.of_x hn]
theorem mean_sext {q : Int} {k n : Nat} (hn : n ≤ 128) (x : BitVec n) : meanV 41 k q [Vl.of x] = Vl.of ((if x.msb = true then E x ||| ~~~maskN n else E x).setWidth (n + k)) := by
  show Vl.of ((if ((Vl.of x).x n).msb = true then E ((Vl.of x).x n) ||| ~~~maskN n else E ((Vl.of x).x n)).setWidth (n + k)) = _
  rw [Vl.of_x hn]
theorem mean_rotl {q : Int} {k n : Nat} (hn : n ≤ 128) (x : BitVec n) : meanV 42 k q [Vl.of x] = Vl.of (rotV x (k % n)) := by
  show Vl.of (rotV ((Vl.of x).x n) (k % n)) = _
  rw [Vl.of_x hn]
theorem mean_rotr {q : Int} {k n : Nat} (hn : n ≤ 128) (x : BitVec n) : meanV 43 k q [Vl.of x] = Vl.of (rotV x ((n - k % n) % n)) := by
  show Vl.of (rotV ((Vl.of x).x n) ((n - k % n) % n)) = _
  rw [Vl.of_x hn]
theorem mean_rep {q : Int} {k n : Nat} (hn : n ≤ 128) (x : BitVec n) : meanV 44 k q [Vl.of x] = Vl.of (repB x k) := by
  show Vl.of (repB ((Vl.of x).x n) k) = _
  rw [Vl.of_x hn]
theorem of_w {n : Nat} (x : BitVec n) : (Vl.of x).w = n := rfl
theorem Fit.good {op p q s : Int} {l : List Vl} (h : Fit op p q l s) : (meanV op p q l).ok = true ∧ (meanV op p q l).w = s := by
  cases h with
  | not a h1 h2 h3 => rw [mean_bool (by omega)]; exact ⟨Vl.bool_ok _, rfl⟩
  | two a b h1 h2 h3 h4 => rw [mean_bool (by omega)]; exact ⟨Vl.bool_ok _, rfl⟩
  | eq a b h1 h2 h3 h4 h5 h6 => rw [mean_bool (by omega)]; exact ⟨Vl.bool_ok _, rfl⟩
  | ite c a b h1 h2 h3 h4 h5 h6 =>
    subst h1
    rw [mean_ite]
    split
    · exact ⟨h4, h6⟩
    · exact ⟨h5, rfl⟩
  | one n x h1 h2 h3 h4 h5 h6 =>
    rcases (by omega : op = 10 ∨ op = 11) with rfl | rfl
    · rw [mean_not h2]; exact ⟨Vl.of_ok h1 h2 _, rfl⟩
    · rw [mean_neg h2]; exact ⟨Vl.of_ok h1 h2 _, rfl⟩
  | word n x y h1 h2 h3 h4 h5 h6 =>
    rw [mean_two h3 (by omega) h2, twoV, if_pos h4]
    exact ⟨Vl.of_ok h1 h2 _, rfl⟩
  | cmp n x y h1 h2 h3 h4 h5 h6 =>
    rw [mean_two (by omega) (by omega) h2, twoV, if_neg (by omega), if_pos h4]
    exact ⟨Vl.bool_ok _, rfl⟩
  | comp n x y h1 h2 h3 h4 h5 =>
    rw [mean_two (by omega) (by omega) h2, twoV, if_neg (by omega), if_neg (by omega)]
    exact ⟨Vl.of_ok (by omega) (by omega) _, rfl⟩
  | concat n m x y h1 h2 h3 h4 h5 h6 =>
    subst h4
    rw [mean_concat (by omega) (by omega)]
    exact ⟨Vl.of_ok (by omega) h3 _, rfl⟩
  | extract n i j x h1 h2 h3 h4 h5 h6 h7 =>
    subst h3; subst h4; subst h5
    rw [mean_extract h2 h6]
    exact ⟨Vl.of_ok (by omega) (by omega) _, rfl⟩
  | ext n k x h1 h2 h3 h4 h5 h6 =>
    subst h5
    rcases (by omega : op = 40 ∨ op = 41) with rfl | rfl
    · rw [mean_zext (by omega)]; exact ⟨Vl.of_ok (by omega) h2 _, rfl⟩
    · rw [mean_sext (by omega)]; exact ⟨Vl.of_ok (by omega) h2 _, rfl⟩
  | rot n k x h1 h2 h3 h4 h5 h6 =>
    subst h5
    rcases (by omega : op = 42 ∨ op = 43) with rfl | rfl
    · rw [mean_rotl h2]; exact ⟨Vl.of_ok h1 h2 _, rfl⟩
    · rw [mean_rotr h2]; exact ⟨Vl.of_ok h1 h2 _, rfl⟩
  | rep n k x h1 h2 h3 h4 h5 h6 =>
    subst h4; subst h5
    have hn : n ≤ 128 := Nat.le_trans (Nat.le_mul_of_pos_right n h2) h3
    rw [mean_rep hn]
    exact ⟨Vl.of_ok (Nat.mul_pos h1 h2) h3 _, rfl⟩
abbrev Told1 (f : FuncId) (vs : List AV) (v : Vl) : Prop := ∀ H, R f vs H = some (.tup [.agg [.int .i64 v.w, u (lo v.n), u (hi v.n)], .int .i64 0], H)
theorem words1_one {H : AHeap} {s : AV} {a v : Vl} {op p q : Int} {o : Nat} (hs : RV H s [a]) (ho : o < H.size) (ob : H.obj o = .cells [.int .i64 op]) (h1 : 10 ≤ op) (h2 : op ≤ 11) (r : Told1 Zgb [.int .i64 op, .agg [.int .i64 a.w, u (lo a.n), u (hi a.n)]] v) :
    R Zbs [.int .i64 p, .int .i64 q, s, .ptr o 0] H = some (.tup [v.av, .int .i64 0], H) := by
  obtain ⟨x0, y0⟩ := hs.at (i := 0) (x := a) rfl
  have x0' : aindexAddr Try.prog Zo s 0 = some (ixp s 3 0) := x0
  have hne : ¬ o = H.size := Nat.ne_of_lt ho
  rw [Zc4]
  rcases (by omega : op = 10 ∨ op = 11) with rfl | rfl <;> simp (maxDischargeDepth := 40) [Zcv, x0', y0, ob, hne, r]
theorem words1_concat {H : AHeap} {s : AV} {a b v : Vl} {p q : Int} {o : Nat} (hs : RV H s [a, b]) (ho : o < H.size) (ob : H.obj o = .cells [.int .i64 38]) (r : Told1 Zdu [.agg [.int .i64 a.w, u (lo a.n), u (hi a.n)], .agg [.int .i64 b.w, u (lo b.n), u (hi b.n)]] v) :
    R Zbs [.int .i64 p, .int .i64 q, s, .ptr o 0] H = some (.tup [v.av, .int .i64 0], H) := by
  obtain ⟨x0, y0⟩ := hs.at (i := 0) (x := a) rfl
  obtain ⟨x1, y1⟩ := hs.at (i := 1) (x := b) rfl
  have x0' : aindexAddr Try.prog Zo s 0 = some (ixp s 3 0) := x0
  have x1' : aindexAddr Try.prog Zo s 1 = some (ixp s 3 1) := x1
  have hne : ¬ o = H.size := Nat.ne_of_lt ho
  rw [Zc4]
  simp (maxDischargeDepth := 40) [Zcv, x0', y0, x1', y1, ob, hne, r]
theorem words1_two {H : AHeap} {s : AV} {a b v : Vl} {op p q : Int} {o : Nat} (hs : RV H s [a, b]) (ho : o < H.size) (ob : H.obj o = .cells [.int .i64 op]) (h1 : 12 ≤ op) (h2 : op ≤ 37) (r : Told1 Zfu [.int .i64 op, .agg [.int .i64 a.w, u (lo a.n), u (hi a.n)], .agg [.int .i64 b.w, u (lo b.n), u (hi b.n)]] v) :
    R Zbs [.int .i64 p, .int .i64 q, s, .ptr o 0] H = some (.tup [v.av, .int .i64 0], H) := by
  obtain ⟨x0, y0⟩ := hs.at (i := 0) (x := a) rfl
  obtain ⟨x1, y1⟩ := hs.at (i := 1) (x := b) rfl
  have x0' : aindexAddr Try.prog Zo s 0 = some (ixp s 3 0) := x0
  have x1' : aindexAddr Try.prog Zo s 1 = some (ixp s 3 1) := x1
  have hne : ¬ o = H.size := Nat.ne_of_lt ho
  have d1 : ¬ op = 10 := by omega
  have d2 : ¬ op = 11 := by omega
  have d3 : ¬ op = 38 := by omega
  have d4 : ¬ op = 39 := by omega
  have d5 : ¬ op = 40 := by omega
  have d6 : ¬ op = 41 := by omega
  have d7 : ¬ op = 42 := by omega
  have d8 : ¬ op = 43 := by omega
  have d9 : ¬ op = 44 := by omega
  rw [Zc4]
  simp (maxDischargeDepth := 40) [Zcv, x0', y0, x1', y1, ob, hne, r, d1, d2, d3, d4, d5, d6, d7, d8, d9]
theorem words1_extract {H : AHeap} {s : AV} {a v : Vl} {p q : Int} {o : Nat} (hs : RV H s [a]) (ho : o < H.size) (ob : H.obj o = .cells [.int .i64 39]) (r : Told1 Zet [.agg [.int .i64 a.w, u (lo a.n), u (hi a.n)], .int .i64 p, .int .i64 q] v) :
    R Zbs [.int .i64 p, .int .i64 q, s, .ptr o 0] H = some (.tup [v.av, .int .i64 0], H) := by
  obtain ⟨x0, y0⟩ := hs.at (i := 0) (x := a) rfl
  have x0' : aindexAddr Try.prog Zo s 0 = some (ixp s 3 0) := x0
  have hne : ¬ o = H.size := Nat.ne_of_lt ho
  rw [Zc4]
  simp (maxDischargeDepth := 40) [Zcv, x0', y0, ob, hne, r]
theorem words1_ext {H : AHeap} {s : AV} {a v : Vl} {op p q : Int} {o : Nat} (hs : RV H s [a]) (ho : o < H.size) (ob : H.obj o = .cells [.int .i64 op]) (h1 : 40 ≤ op) (h2 : op ≤ 41) (r : Told1 Zfd [.agg [.int .i64 a.w, u (lo a.n), u (hi a.n)], .int .i64 p, .bool (decide (op = 41))] v) :
    R Zbs [.int .i64 p, .int .i64 q, s, .ptr o 0] H = some (.tup [v.av, .int .i64 0], H) := by
  obtain ⟨x0, y0⟩ := hs.at (i := 0) (x := a) rfl
  have x0' : aindexAddr Try.prog Zo s 0 = some (ixp s 3 0) := x0
  have hne : ¬ o = H.size := Nat.ne_of_lt ho
  rw [Zc4]
  rcases (by omega : op = 40 ∨ op = 41) with rfl | rfl <;> simp only [Int.reduceEq, decide_false, decide_true] at r <;> simp (maxDischargeDepth := 40) [Zcv, x0', y0, ob, hne, r]
theorem words1_rot {H : AHeap} {s : AV} {a v : Vl} {op p q : Int} {o : Nat} (hs : RV H s [a]) (ho : o < H.size) (ob : H.obj o = .cells [.int .i64 op]) (h1 : 42 ≤ op) (h2 : op ≤ 43) (r : Told1 Zea [.agg [.int .i64 a.w, u (lo a.n), u (hi a.n)], .int .i64 p, .bool (decide (op = 42))] v) :
    R Zbs [.int .i64 p, .int .i64 q, s, .ptr o 0] H = some (.tup [v.av, .int .i64 0], H) := by
  obtain ⟨x0, y0⟩ := hs.at (i := 0) (x := a) rfl
  have x0' : aindexAddr Try.prog Zo s 0 = some (ixp s 3 0) := x0
  have hne : ¬ o = H.size := Nat.ne_of_lt ho
  rw [Zc4]
  rcases (by omega : op = 42 ∨ op = 43) with rfl | rfl <;> simp only [Int.reduceEq, decide_false, decide_true] at r <;> simp (maxDischargeDepth := 40) [Zcv, x0', y0, ob, hne, r]
theorem words1_rep {H : AHeap} {s : AV} {a v : Vl} {p q : Int} {o : Nat} (hs : RV H s [a]) (ho : o < H.size) (ob : H.obj o = .cells [.int .i64 44]) (r : Told1 Zfe [.agg [.int .i64 a.w, u (lo a.n), u (hi a.n)], .int .i64 p] v) :
    R Zbs [.int .i64 p, .int .i64 q, s, .ptr o 0] H = some (.tup [v.av, .int .i64 0], H) := by
  obtain ⟨x0, y0⟩ := hs.at (i := 0) (x := a) rfl
  have x0' : aindexAddr Try.prog Zo s 0 = some (ixp s 3 0) := x0
  have hne : ¬ o = H.size := Nat.ne_of_lt ho
  rw [Zc4]
  simp (maxDischargeDepth := 40) [Zcv, x0', y0, ob, hne, r]
end Go.Proofs.Ytiobohfiaapgeaa
end
section
namespace Go.Proofs.Ytiobohfiaapgeaa
def bn (w : Nat) (x : W128) : List Bool := (List.range w).map x.getLsbD
def RB (H : AHeap) (v : AV) (bs : List Bool) : Prop := Reads H v 1 bs.length (bs.map .bool)
theorem RB.len {H : AHeap} {v : AV} {bs : List Bool} (h : RB H v bs) : sliceLen v = some bs.length := Reads.len h
theorem RB.keep {H H' : AHeap} {v : AV} {bs : List Bool} (h : RB H v bs) (k : Keeps H H') : RB H' v bs := Reads.keep h k
def BL (bs : List Bool) : AV := .lst 1 bs.length (bs.map .bool)
theorem RB.lst {H : AHeap} {bs : List Bool} : RB H (BL bs) bs := Reads.lst (by simp)
theorem RB.row {H : AHeap} {o n : Nat} {full : Bool} {bs : List Bool} (ho : o < H.size) (h : H.obj o = .cells (bs.map .bool)) (hl : n = bs.length) : RB H (.row o 0 1 n full) bs := by
  subst hl; exact Reads.row' ho h (by simp)
theorem RB.nils {H : AHeap} : RB H .nils [] := Reads.nils
theorem RB.new {H : AHeap} {v : AV} {bs : List Bool} (h : RB H v bs) (x : AObj) : RB (H.new x) v bs := h.keep (Keeps.new H x)
theorem RB.ix {P : Program} {H : AHeap} {v : AV} {bs : List Bool} (h : RB H v bs) {t : TypeId} (ht : eszS P t = some 1) {i : Nat} (hi : i < bs.length) : aindexAddr P t v (i : Int) = some (ixp v 1 i) := Reads.addr h ht hi
theorem RB.at {P : Program} {H : AHeap} {v : AV} {bs : List Bool} (h : RB H v bs) {t : TypeId} (hl : ldS P t = some none) {i : Nat} (hi : i < bs.length) : aload P H t (ixp v 1 i) = some (.bool (bs.getD i false)) := by
  rw [Reads.at h hl rfl hi]; simp [hi]
theorem fills (g : Nat → AV) (z : AV) (w : Nat) : ∃ F : Nat → List AV, F 0 = List.replicate w z ∧ (∀ i, i < w → (F i).set i (g i) = F (i + 1)) ∧ (∀ i, i ≤ w → (F i).length = w) ∧ F w = (List.range w).map g := by
  refine ⟨fun i => ((List.range w).map g).take i ++ (List.replicate w z).drop i, by simp, fun i hi => ?_, fun i hi => by simp; omega, by simp [List.take_of_length_le]⟩
  have hl2 : (((List.range w).map g).take i).length = i := by simp; omega
  have h0 : i < ((List.range w).map g).length := by simpa using hi
  have h1 : i < (List.replicate w z).length := by simpa using hi
  show ((((List.range w).map g).take i ++ (List.replicate w z).drop i).set i (g i)) = ((List.range w).map g).take (i + 1) ++ (List.replicate w z).drop (i + 1)
  rw [List.set_append_right i _ (by omega), hl2, Nat.sub_self, List.drop_eq_getElem_cons h1, List.set_cons_zero, List.take_succ_eq_append_getElem h0, List.append_assoc]
  simp
end Go.Proofs.Ytiobohfiaapgeaa
namespace Go.Proofs.Ytiobohfiaapgeaa
set_option maxRecDepth 100000
structure BitsRun (w : Nat) (x : W128) (H : AHeap) (r : Option (AV × AHeap)) : Prop where
  ex : ∃ H', r = some (.row (H.size + 1) 0 1 w true, H') ∧ Keeps H H' ∧ H'.size = H.size + 2 ∧ H'.obj (H.size + 1) = .cells ((bn w x).map .bool)
theorem Upd.rb {o : Nat} {H0 H H' : AHeap} (h : Upd o H H') (k : Keeps H0 H) (ho : H0.size ≤ o) {v : AV} {bs : List Bool} (hv : RB H0 v bs) : RB H' v bs := hv.keep (h.keeps k ho)
end Go.Proofs.Ytiobohfiaapgeaa
end
section
namespace Go.Proofs.Ytiobohfiaapgeaa
set_option maxRecDepth 100000
set_option maxHeartbeats 2000000
def applyS (op p q : Int) (l : List Vl) : Vl × Int := if (sortS op p q (l.map Vl.sort)).2 = 0 then (meanV op p q l, 0) else (Vl.zero, (sortS op p q (l.map Vl.sort)).2)
theorem sort_ok {v : Vl} (h : v.ok = true) : v.sort = v.w := by unfold Vl.sort; rw [if_pos h]
theorem sorts_ok {l : List Vl} (h : ∀ v, v ∈ l → v.ok = true) : l.map Vl.sort = l.map Vl.w := List.map_congr_left fun v hv => sort_ok (h v hv)
theorem sort_all {op p q : Int} {l : List Int} (h : (sortS op p q l).2 = 0) : l.all isSort = true := by
  unfold sortS at h
  split at h
  · simp at h
  split at h
  · simp at h
  split at h
  · simp at h
  · rename_i a h3; clear h; cases h4 : l.all isSort <;> first | rfl | exact absurd h4 h3
theorem apply_fit {op p q : Int} {l : List Vl} (h : (sortS op p q (l.map Vl.sort)).2 = 0) : Fit op p q l (sortS op p q (l.map Vl.sort)).1 := by
  have hok : ∀ v, v ∈ l → v.ok = true := fun v hv => by
    have h1 := List.all_eq_true.1 (sort_all h) v.sort (List.mem_map_of_mem hv)
    cases hv : v.ok with
    | true => rfl
    | false =>
      rw [Vl.sort, hv] at h1
      simp [isSort] at h1
  rw [sorts_ok hok] at h ⊢
  exact fit_of (by rw [← h]) hok
theorem apply_loop {H0 H : AHeap} {s : AV} {l : List Vl} (hs : RV H0 s l) (hm : l.length ≤ 1000) (k0 : Keeps H0 H) (z : H0.size + 1 < H.size) {Z : List AV} (oz : H.obj H0.size = .cells Z) (ob : H.obj (H0.size + 1) = .cells (List.replicate l.length (.int .i64 0)))
    {e : Env} {r : Rn} (hL : loopL Try.prog KT R Zd7 e H = r) (e10 : e 10 = some (.row (H0.size + 1) 0 1 l.length true)) (e20 : e 20 = some s) (e21 : e 21 = some (.int .i64 l.length)) (e22 : e 22 = some (.int .i64 0)) :
    ∃ y e' H', r = some (y, e', H') ∧ (y = .exit 0 ∧ Keeps H0 H' ∧ H0.size + 1 < H'.size ∧ H'.obj H0.size = .cells Z ∧ H'.obj (H0.size + 1) = .cells ((l.map Vl.sort).map (.int .i64))) ∧ ∀ t, t ∉ defs Zd7 → e' t = e t := by
  obtain ⟨F, F0, Fs, Fl, Fw⟩ := fills (fun i => .int .i64 (l.getD i Vl.zero).sort) (.int .i64 0) l.length
  have hFw : F l.length = (l.map Vl.sort).map (.int .i64) := by
    rw [Fw]
    apply List.ext_getElem (by simp)
    intro i h1 h2
    simp at h1
    simp [List.getD_eq_getElem?_getD, h1]
  rw [← F0] at ob
  rw [← hFw]
  refine loop_count Zd7.eq_1 hL l.length (fun i e1 H1 => e1 22 = some (.int .i64 i) ∧ Keeps H0 H1 ∧ H0.size + 1 < H1.size ∧ H1.obj H0.size = .cells Z ∧ H1.obj (H0.size + 1) = .cells (F i)) _ 0 (by omega) ⟨e22, k0, z, oz, ob⟩ ?_ ?_
  · rintro i f H1 hf - hlt ⟨f22, k, z1, o1, o2⟩
    have w1 := i64w (n := (i : Int) + 1) (by omega) (by omega)
    have c1 : (i : Int) < l.length := by omega
    have hs1 := Fs i hlt
    have hl : i < (F i).length := by rw [Fl i (by omega)]; exact hlt
    obtain ⟨v, hv⟩ : ∃ v, l[i]? = some v := ⟨l[i], by simp [hlt]⟩
    have hg : l.getD i Vl.zero = v := by simp [List.getD_eq_getElem?_getD, hv]
    rw [hg] at hs1
    obtain ⟨x0, y0⟩ := hs.at hv
    have y1 := y0 H1 k
    have hr := fun H => right_run (v := v) (H := H)
    have n1 : ¬ H0.size + 1 = H1.size := Nat.ne_of_lt z1
    have n2 : ¬ H0.size = H1.size := by omega
    have n3 : ¬ H1.size = H0.size + 1 := by omega
    have n4 : ¬ H1.size = H0.size := by omega
    have z2 : H0.size ≤ H1.size := by omega
    cases hv : v.ok with
    | true =>
      have hsv : v.sort = v.w := sort_ok hv
      rw [hsv] at hs1
      rw [hv] at hr
      simp (maxDischargeDepth := 20) [hf, e10, e20, e21, f22, c1, x0, y1, o1, o2, hl, w1, hr, n1, n2, n3, hs1, k, z2]
      omega
    | false =>
      have hsv : v.sort = -1 := by rw [Vl.sort, hv]; rfl
      rw [hsv] at hs1
      rw [hv] at hr
      simp (maxDischargeDepth := 20) [hf, e10, e20, e21, f22, c1, x0, y1, o1, o2, hl, w1, hr, n1, n2, n3, hs1, k, z2]
      omega
  · rintro f H1 hf ⟨f22, k, z1, o1, o2⟩
    simp [hf, e21, f22]
    exact ⟨k, z1, o1, o2⟩
theorem logic_told {H : AHeap} {s : AV} {l : List Vl} {op p q s' : Int} (hs : RV H s l) (hf : Fit op p q l s') (h3 : 3 ≤ op) (h8 : op ≤ 8) {o : Nat} (ho : o < H.size) (ob : H.obj o = .cells [.fn (.func (boolF op)) [] []]) :
    ∀ H', Keeps H H' → R Zb4 [.int .i64 p, .int .i64 q, s, .ptr o 0] H' = some (.tup [(meanV op p q l).av, .int .i64 0], H') := by
  intro H' k
  have hs' := hs.keep k
  have ob' : H'.obj o = .cells [.fn (.func (boolF op)) [] []] := (k.obj _ ho).trans ob
  rw [mean_bool h8]
  refine logic1_run (k.lt ho) ob' fun H2 k2 => ?_
  have hs2 := hs'.keep k2
  cases hf with
  | not a h1 => subst h1; exact bools1_run hs2
  | two a b h1 h2 => exact boolsB_run h1 (by omega) hs2
  | eq a b h1 => exact boolsB_run (by omega) (by omega) hs2
  | ite c a b h1 => omega
  | one => omega
  | word => omega
  | cmp => omega
  | comp => omega
  | concat => omega
  | extract => omega
  | ext => omega
  | rot => omega
  | rep => omega
theorem words_told {H : AHeap} {s : AV} {l : List Vl} {op p q s' : Int} (hs : RV H s l) (hf : Fit op p q l s') (h10 : 10 ≤ op) {o : Nat} (ho : o < H.size) (ob : H.obj o = .cells [.int .i64 op]) :
    ∀ H', Keeps H H' → R Zbs [.int .i64 p, .int .i64 q, s, .ptr o 0] H' = some (.tup [(meanV op p q l).av, .int .i64 0], H') := by
  intro H' k
  have hs' := hs.keep k
  have ob' : H'.obj o = .cells [.int .i64 op] := (k.obj _ ho).trans ob
  have ho' := k.lt ho
  cases hf with
  | not a h1 => omega
  | two a b h1 h2 => omega
  | eq a b h1 => omega
  | ite c a b h1 => omega
  | one n x h1 h2 h3 h4 h5 h6 =>
    refine words1_one hs' ho' ob' h3 h4 fun H2 => ?_
    have r := (one_run h1 h2 (n := op) (a := x) (H := H2)).run
    rcases (by omega : op = 10 ∨ op = 11) with rfl | rfl
    · rw [mean_not h2]; exact r
    · rw [mean_neg h2]; exact r
  | word n x y h1 h2 h3 h4 h5 h6 =>
    refine words1_two hs' ho' ob' h3 (by omega) fun H2 => ?_
    have r := (two_run h1 h2 (n := op) (a := x) (b := y) (H := H2)).run
    rw [twoF_word h2 ⟨h3, h4⟩, twoE, if_pos (by omega)] at r
    rw [mean_two h3 (by omega) h2, twoV, if_pos h4]
    exact r
  | cmp n x y h1 h2 h3 h4 h5 h6 =>
    refine words1_two hs' ho' ob' (by omega) (by omega) fun H2 => ?_
    have r := (two_run h1 h2 (n := op) (a := x) (b := y) (H := H2)).run
    rw [twoF, if_neg (by omega), if_neg (by omega), if_neg (by omega), if_pos (by omega), twoE, if_pos (by omega)] at r
    rw [mean_two (by omega) (by omega) h2, twoV, if_neg (by omega), if_pos h4]
    exact r
  | comp n x y h1 h2 h3 h4 h5 =>
    subst h3
    refine words1_two hs' ho' ob' (by omega) (by omega) fun H2 => ?_
    have r := (two_run h1 h2 (n := 37) (a := x) (b := y) (H := H2)).run
    rw [two_comp, show twoE 37 = 0 from rfl] at r
    rw [mean_two (by omega) (by omega) h2, twoV, if_neg (by omega), if_neg (by omega)]
    exact r
  | concat n m x y h1 h2 h3 h4 h5 h6 =>
    subst h4
    refine words1_concat hs' ho' ob' fun H2 => ?_
    rw [mean_concat (by omega) (by omega)]
    exact (concat_run h1 h2 rfl h3 (a := x) (b := y) (H := H2)).run
  | extract n i j x h1 h2 h3 h4 h5 h6 h7 =>
    subst h3; subst h4; subst h5
    refine words1_extract hs' ho' ob' fun H2 => ?_
    rw [mean_extract h2 h6]
    exact (extract_run h1 h2 (d := i - j) (by omega) h7 rfl (a := x) (H := H2)).run
  | ext n k x h1 h2 h3 h4 h5 h6 =>
    subst h5
    refine words1_ext hs' ho' ob' h3 h4 fun H2 => ?_
    have r := (extend_run h1 (n := k) rfl h2 (a := x) (sg := decide (op = 41)) (H := H2)).run
    rcases (by omega : op = 40 ∨ op = 41) with rfl | rfl
    · rw [mean_zext (by omega)]
      rw [show decide ((40 : Int) = 41) = false from rfl] at r ⊢
      simp only [Bool.false_and, Bool.false_eq_true, if_false] at r
      exact r
    · rw [mean_sext (by omega)]
      rw [show decide ((41 : Int) = 41) = true from rfl] at r ⊢
      simp only [Bool.true_and] at r
      exact r
  | rot n k x h1 h2 h3 h4 h5 h6 =>
    subst h5
    refine words1_rot hs' ho' ob' h3 h4 fun H2 => ?_
    rcases (by omega : op = 42 ∨ op = 43) with rfl | rfl
    · rw [mean_rotl h2]
      exact (rotate_left h1 h2 (n := k) rfl rfl (a := x) (H := H2)).run
    · rw [mean_rotr h2]
      exact (rotate_right h1 h2 (n := k) rfl rfl rfl rfl (a := x) (H := H2)).run
  | rep n k x h1 h2 h3 h4 h5 h6 =>
    subst h4; subst h5
    have hn : n ≤ 128 := Nat.le_trans (Nat.le_mul_of_pos_right n h2) h3
    refine words1_rep hs' ho' ob' fun H2 => ?_
    rw [mean_rep hn]
    exact (repeat_run h1 h3 h2 (x := x) (H := H2)).run
theorem Fit.op {op p q s : Int} {l : List Vl} (h : Fit op p q l s) : 3 ≤ op := by cases h <;> omega
theorem apply_run {op p q : Int} {H : AHeap} {s : AV} {l : List Vl} (hs : RV H s l) (hm : l.length ≤ 1000) : R Zfj [.int .i64 op, .int .i64 p, .int .i64 q, s] H = some (.tup [(applyS op p q l).1.av, .int .i64 (applyS op p q l).2], H) := by
  have c1 : (l.length : Int) * 8 ≤ 140737488355328 := by omega
  have c2 : (l.length : Int) ≤ 9223372036854775807 := by omega
  have hlen := hs.len
  obtain ⟨N, hN⟩ : ∃ N, N = l.length := ⟨_, rfl⟩
  rw [← hN] at c1 c2 hlen
  rw [Zib]
  simp (maxDischargeDepth := 40) [Zg2, hlen, c1, c2]
  generalize hL : loopL _ _ _ _ _ _ = y
  rw [hN] at hL
  obtain ⟨y, e1, H1, rfl, ⟨rfl, k1, z1, oz, ob⟩, fr⟩ := apply_loop hs hm (Z := [.int .i64 0, u 0#64, u 0#64]) (by simp) (by simp) (by simp) (by simp) hL (by simp) (by simp) (by simp) (by simp)
  have hS : RI H1 (.row (H.size + 1) 0 1 l.length true) (l.map Vl.sort) := RI.row z1 ob (by simp)
  have hsort := termSort_run hS (by simp; omega) (op := op) (p := p) (q := q)
  have n1 : ¬ H.size = H1.size := by omega
  have n2 : H.size ≤ H1.size := by omega
  unfold applyS
  generalize hT : sortS op p q (l.map Vl.sort) = T at hsort ⊢
  by_cases c : T.2 = 0
  · have hfit : Fit op p q l T.1 := hT ▸ apply_fit (by rw [hT]; exact c)
    rw [if_pos c]
    rw [c] at hsort
    have hs1 := hs.keep k1
    by_cases c3 : op ≤ 8
    · have g3 : 3 ≤ op := hfit.op
      obtain ⟨o, H2, hb, k2, ho, hf⟩ := (bools_run (H := H1) (op := op)).1 g3 c3
      have hl := logic_told (hs1.keep k2) hfit g3 c3 ho hf
      have kk := k1.trans k2
      have oz2 : H2.obj H.size = .cells [.int .i64 0, u 0#64, u 0#64] := (k2.obj _ (by omega)).trans oz
      have n3 : ¬ H.size = H2.size := by have := k2.size; omega
      have n4 : H.size ≤ H2.size := by have := k2.size; omega
      generalize meanV op p q l = v at *
      simp (maxDischargeDepth := 40) [fr, hsort, hb, hl, kk, n3, n4, oz2]
    · by_cases c9 : op = 9
      · subst c9
        have hb := (bools_run (H := H1) (op := 9)).2.1 rfl
        have hl : ∀ H', Keeps H1 H' → R Zdo [.int .i64 p, .int .i64 q, s] H' = some (.tup [(meanV 9 p q l).av, .int .i64 0], H') := by
          generalize T.1 = t1 at hfit
          intro H' k
          cases hfit <;> first | omega | skip
          rw [mean_ite]
          exact ite_run (hs1.keep k)
        generalize meanV 9 p q l = v at *
        simp (maxDischargeDepth := 40) [fr, hsort, hb, hl, k1, n1, n2, oz]
      · have g10 : 10 ≤ op := by omega
        have hb := (bools_run (H := H1) (op := op)).2.2 (by omega)
        obtain ⟨o, H2, hw, k2, ho, hf⟩ := words_run (H := (H1.new (.cells [.nilf])).set H1.size (.cells [.nilf])) (op := op)
        have ka : Keeps H1 ((H1.new (.cells [.nilf])).set H1.size (.cells [.nilf])) := (Keeps.new _ _).set (Nat.le_refl _) _
        have kk := k1.trans (ka.trans k2)
        have sz := k2.size
        simp only [set_size, new_size] at sz
        have om : H2.obj H1.size = .cells [.nilf] := (k2.obj _ (by simp)).trans (by simp)
        have oz2 : H2.obj H.size = .cells [.int .i64 0, u 0#64, u 0#64] := ((ka.trans k2).obj _ (by omega)).trans oz
        have n3 : H1.size < H2.size := by omega
        have n4 : ¬ H.size = H2.size := by omega
        have n5 : H.size ≤ H2.size := by omega
        have n6 : ¬ H1.size = H.size := by omega
        have no : o ≠ H1.size := by
          rintro rfl
          rw [om] at hf
          cases hf
        have hl := words_told (H := H2.set H1.size (.cells [.fn (.func Zbs) [] [.ptr o 0]])) (hs1.keep ((ka.trans k2).set (Nat.le_refl _) _)) hfit g10 (by simpa using ho) (by rw [set_old no]; exact hf)
        generalize meanV op p q l = v at *
        simp (maxDischargeDepth := 40) [fr, hsort, hb, hw, hl, kk, n1, n2, oz2, om]
  · rw [if_neg c]
    simp (maxDischargeDepth := 40) [fr, hsort, c, k1, oz, Vl.zero]
end Go.Proofs.Ytiobohfiaapgeaa
end
section
namespace Go.Proofs.Ytiobohfiaapgeaa
set_option maxRecDepth 100000
def ixG (l : Option (Option Nat)) (cs : List AV) (i : Int) : Option (Nat × Nat) → Option AV
  | some (len, sz) => if 0 ≤ i ∧ i < len then ldK l cs (i.toNat * sz) else none
  | none => none
@[simp] theorem aindex_agg {P : Program} {t : TypeId} {cs : List AV} {i : Int} : aindex P t (.agg cs) i = ixG (arrL P t) cs i (arrS P t) := by
  unfold aindex ixG arrL arrS
  cases P.underlying t with
  | none => rfl
  | some d =>
    cases d <;> try rfl
    rename_i len el
    simp only [loadC_eq]
    cases tS P el <;> rfl
@[simp] theorem ixG_some {l : Option (Option Nat)} {cs : List AV} {i : Int} {len sz : Nat} : ixG l cs i (some (len, sz)) = if 0 ≤ i ∧ i < len then ldK l cs (i.toNat * sz) else none := nr rfl
structure Nd where
  op : Int
  sort : Int
  a : Int
  b : Int
  c : Int
  p : Int
  q : Int
  vw : Int
  vl : BitVec 64
  vh : BitVec 64
  name : ByteArray
  deriving DecidableEq
def Nd.cs (n : Nd) : List AV := [.int .i64 n.op, .int .i64 n.sort, .int .i64 n.a, .int .i64 n.b, .int .i64 n.c, .int .i64 n.p, .int .i64 n.q, .int .i64 n.vw, u n.vl, u n.vh, .str n.name]
@[simp] theorem Nd.cs_len (n : Nd) : n.cs.length = 11 := rfl
def Nd.zero : Nd := ⟨0, 0, 0, 0, 0, 0, 0, 0, 0#64, 0#64, .empty⟩
def shN' : KSh := .many [.i .i64, .i .i64, .i .i64, .i .i64, .i .i64, .i .i64, .i .i64, .i .i64, .i .u64, .i .u64, .s]
theorem keyEq_nd (n m : Nd) : keyEq (.agg n.cs) (.agg m.cs) = decide (n = m) := by
  have hu : ∀ x y : BitVec 64, scEq (u x) (u y) = decide (x = y) := fun x y => by
    simp only [u, scEq_int, decide_eq_decide]
    exact ⟨fun h => BitVec.eq_of_toNat_eq (Int.ofNat.inj h), fun h => by rw [h]⟩
  simp only [keyEq, Nd.cs, scsEq_cons, scsEq_nil, scEq_int, scEq_str, hu, Bool.and_true, ← Bool.decide_and]
  rw [decide_eq_decide]
  constructor
  · rintro ⟨h1, h2, h3, h4, h5, h6, h7, h8, h9, h10, h11⟩
    cases n; cases m
    simp only at h1 h2 h3 h4 h5 h6 h7 h8 h9 h10 h11
    subst h1 h2 h3 h4 h5 h6 h7 h8 h9 h10 h11
    rfl
  · rintro rfl; simp
theorem findE_append (k : AV) : ∀ (es : List AEnt) (e : AEnt), findE k (es ++ [e]) = (findE k es).or (if keyEq k e.key = true then some e else none)
  | [], e => by simp [findE]
  | x :: es, e => by
    simp only [List.cons_append, findE]
    split
    · rfl
    · exact findE_append k es e
def idx (ns : List Nd) (n : Nd) : Option Nat := ns.findIdx? (fun m => decide (n = m))
def vidx (ns : List Nd) (s : ByteArray) : Option Nat := ns.findIdx? (fun m => decide (m.op = 2) && decide (s = m.name))
theorem idx_append (ns : List Nd) (n m : Nd) : idx (ns ++ [m]) n = (idx ns n).or (if n = m then some ns.length else none) := by
  unfold idx
  rw [List.findIdx?_append]
  congr 1
  by_cases h : n = m <;> simp [h, List.findIdx?_cons]
theorem vidx_append (ns : List Nd) (s : ByteArray) (m : Nd) : vidx (ns ++ [m]) s = (vidx ns s).or (if m.op = 2 ∧ s = m.name then some ns.length else none) := by
  unfold vidx
  rw [List.findIdx?_append]
  congr 1
  by_cases h : m.op = 2 <;> by_cases h2 : s = m.name <;> simp [h, h2, List.findIdx?_cons]
def num (i : Nat) : AV := .int .i64 ((i : Int) + 1)
def slv (o : Nat) (ns : List Nd) : AV := if ns = [] then .nils else .row o 0 11 ns.length false
def flat (ns : List Nd) : List AV := ns.flatMap Nd.cs
theorem flat_len (ns : List Nd) : (flat ns).length = ns.length * 11 := by
  unfold flat
  induction ns with
  | nil => rfl
  | cons n ns ih => simp only [List.flatMap_cons, List.length_append, ih, Nd.cs_len, List.length_cons]; omega
theorem flat_append (ns : List Nd) (n : Nd) : flat (ns ++ [n]) = flat ns ++ n.cs := by simp [flat]
theorem flat_drop : ∀ (ns : List Nd) (i : Nat), (flat ns).drop (i * 11) = flat (ns.drop i)
  | ns, 0 => by simp
  | [], i + 1 => by simp [flat]
  | n :: ns, i + 1 => by
    have e : (i + 1) * 11 = 11 + i * 11 := by omega
    rw [e, ← List.drop_drop]
    have : (flat (n :: ns)).drop 11 = flat ns := by simp [flat, List.drop_append]
    rw [this, flat_drop ns i]; rfl
theorem flat_at {ns : List Nd} {i : Nat} {n : Nd} (h : ns[i]? = some n) : ((flat ns).drop (i * 11)).take 11 = n.cs := by
  have hlt := (List.getElem?_eq_some_iff.1 h).1
  rw [flat_drop, List.drop_eq_getElem_cons hlt]
  have : ns[i] = n := (List.getElem?_eq_some_iff.1 h).2
  simp [flat, this]
  exact List.take_left' rfl
theorem flat_get {ns : List Nd} {i : Nat} {n : Nd} (h : ns[i]? = some n) {j : Nat} (hj : j < 11) : (flat ns)[i * 11 + j]? = n.cs[j]? := by
  rw [← flat_at h, List.getElem?_take_of_lt hj, List.getElem?_drop]
structure TG (H : AHeap) (g : Nat) (most : Int) (ns : List Nd) (o1 o2 o3 : Nat) : Prop where
  lg : g < H.size
  l1 : ns ≠ [] → o1 < H.size
  l2 : o2 < H.size
  l3 : o3 < H.size
  og : H.obj g = .cells [.int .i64 most, slv o1 ns, .map o2, .map o3]
  b1 : ns ≠ [] → H.obj o1 = .cells (flat ns)
  b2 : ∃ es c, H.obj o2 = .map shN' es c ∧ ∀ n, (findE (.agg n.cs) es).map (·.val) = (idx ns n).map num
  b3 : ∃ es c, H.obj o3 = .map (.one .s) es c ∧ ∀ s, (findE (.str s) es).map (·.val) = (vidx ns s).map num
  n1 : ns ≠ [] → g ≠ o1
  n2 : g ≠ o2
  n3 : g ≠ o3
  n12 : ns ≠ [] → o1 ≠ o2
  n13 : ns ≠ [] → o1 ≠ o3
  n23 : o2 ≠ o3
  lim : (ns.length : Int) ≤ most
  lim2 : most ≤ 4096
theorem TG.keep {H H' : AHeap} {g : Nat} {most : Int} {ns : List Nd} {o1 o2 o3 : Nat} (h : TG H g most ns o1 o2 o3) (k : Keeps H H') : TG H' g most ns o1 o2 o3 :=
  ⟨k.lt h.lg, fun e => k.lt (h.l1 e), k.lt h.l2, k.lt h.l3, (k.obj _ h.lg).trans h.og, fun e => (k.obj _ (h.l1 e)).trans (h.b1 e), by rw [k.obj _ h.l2]; exact h.b2, by rw [k.obj _ h.l3]; exact h.b3, h.n1, h.n2, h.n3, h.n12, h.n13, h.n23, h.lim, h.lim2⟩
theorem slv_len (o : Nat) (ns : List Nd) : sliceLen (slv o ns) = some ns.length := by
  unfold slv
  split
  · rename_i h; subst h; rfl
  · rfl
theorem slv_reads {H : AHeap} {o : Nat} {ns : List Nd} (h1 : ns ≠ [] → o < H.size) (h2 : ns ≠ [] → H.obj o = .cells (flat ns)) : Reads H (slv o ns) 11 ns.length (flat ns) := by
  unfold slv
  split
  · rename_i h; subst h; exact Reads.nils
  · rename_i h; exact Reads.row' (h1 h) (h2 h) (flat_len ns)
theorem slv_grows (o : Nat) (ns : List Nd) : grows (slv o ns) := by unfold slv; split <;> trivial
theorem slv_row {o : Nat} {ns : List Nd} {i : Nat} (h : i < ns.length) : slv o ns = .row o 0 11 ns.length false := by
  unfold slv; rw [if_neg (by rintro rfl; simp at h)]
def nodeS (ns : List Nd) (id : Int) : Option Nd := if id < 1 ∨ (ns.length : Int) < id then none else ns[(id - 1).toNat]?
theorem node_run {H : AHeap} {g : Nat} {most : Int} {ns : List Nd} {o1 o2 o3 : Nat} (h : TG H g most ns o1 o2 o3) {id : Int} : R Zp [.ptr g 0, .int .i64 id] H = some (.tup [.agg ((nodeS ns id).getD Nd.zero).cs, .bool (nodeS ns id).isSome], H) := by
  have hl := h.lim
  have hl2 := h.lim2
  unfold nodeS
  rw [Zfw]
  have ng : ¬ g = H.size := Nat.ne_of_lt h.lg
  by_cases c1 : id < 1
  · simp (maxDischargeDepth := 40) [Zcp, c1, Nd.cs, Nd.zero]
  by_cases c2 : (ns.length : Int) < id
  · simp (maxDischargeDepth := 40) [Zcp, c1, c2, h.og, ng, slv_len, Nd.cs, Nd.zero]
  obtain ⟨i, rfl⟩ : ∃ i : Nat, id = (i : Int) + 1 := ⟨(id - 1).toNat, by omega⟩
  have hi : i < ns.length := by omega
  have hne : ns ≠ [] := by rintro rfl; simp at hi
  obtain ⟨n, hn⟩ : ∃ n, ns[i]? = some n := ⟨ns[i], by simp [hi]⟩
  have w1 : IntKind.i64.wrap (i : Int) = (i : Int) := i64w (by omega) (by omega)
  have hx : ns[i] = n := (List.getElem?_eq_some_iff.1 hn).2
  have hs := slv_row (o := o1) hi
  have hsl := slv_len o1 ns
  have ho := h.b1 hne
  have hlt := h.l1 hne
  have n1 : ¬ o1 = H.size := Nat.ne_of_lt hlt
  have hfl := flat_len ns
  have hat := flat_at hn
  have hle : i * 11 + 11 ≤ ns.length * 11 := by omega
  have e1 : ((i : Int) + 1 - 1).toNat = i := by omega
  have c3 : (i : Int) < ns.length := by omega
  have hg := h.og
  rw [hs] at hg hsl
  simp (maxDischargeDepth := 40) [Zcp, c1, c2, hg, hx, w1, c3, hi, ho, n1, ng, hfl, hat, hle]
  simp (maxDischargeDepth := 40) [Nd.cs]
end Go.Proofs.Ytiobohfiaapgeaa
end
section
namespace Go.Proofs.Ytiobohfiaapgeaa
set_option maxRecDepth 100000
set_option maxHeartbeats 4000000
def kidOK (N a : Int) (i : Nat) (k : Int) : Bool := if (i : Int) < a then decide (1 ≤ k ∧ k ≤ N) else decide (k = 0)
def kidsOK (N a : Int) (l : List Int) (i : Nat) : Bool := match l with
  | [] => true
  | k :: l => kidOK N a i k && kidsOK N a l (i + 1)
def formedF (N : Int) (n : Nd) : Bool :=
  kidsOK N (arity n.op) [n.a, n.b, n.c] 0 && (decide (0 ≤ arity n.op) && (decide (n.op = 1) || decide (n.vw = 0 ∧ n.vl = 0#64 ∧ n.vh = 0#64)) && (decide (n.op = 2) || decide (n.name = .empty)))
theorem formed_loop {H : AHeap} {g : Nat} {most : Int} {ns : List Nd} {o1 o2 o3 : Nat} (h : TG H g most ns o1 o2 o3) {a x y z : Int} {e : Env} {r : Rn} (hL : loopL Try.prog KT R Zbw e H = r)
    (e0 : e 0 = some (.ptr g 0)) (e5 : e 5 = some (.int .i64 a)) (e17 : e 17 = some (.agg [.int .i64 x, .int .i64 y, .int .i64 z])) (e18 : e 18 = some (.int .i64 0)) :
    ∃ y' e' H', r = some (y', e', H') ∧ (H' = H ∧ ((y' = .exit 0 ∧ kidsOK ns.length a [x, y, z] 0 = true) ∨ (y' = .ret ∧ kidsOK ns.length a [x, y, z] 0 = false ∧ e' 4 = some (.bool false)))) ∧ ∀ t, t ∉ defs Zbw → e' t = e t := by
  refine loop_count Zbw.eq_1 hL 3 (fun i e1 H1 => e1 18 = some (.int .i64 i) ∧ H1 = H ∧ (0 < i → kidOK ns.length a 0 x = true) ∧ (1 < i → kidOK ns.length a 1 y = true) ∧ (2 < i → kidOK ns.length a 2 z = true)) _ 0 (by omega) ⟨e18, rfl, by simp, by simp, by simp⟩ ?_ ?_
  · rintro i f H1 hf - hi ⟨f18, rfl, k0, k1, k2⟩
    have hw1 := i64w (n := (i : Int) + 1) (by omega) (by omega)
    have hc : (i : Int) < 3 := by omega
    have hlen := slv_len o1 ns
    have K : ∀ k : Int, kidOK ns.length a i k = if (i : Int) < a then decide (1 ≤ k ∧ k ≤ ns.length) else decide (k = 0) := fun k => rfl
    rcases (show i = 0 ∨ i = 1 ∨ i = 2 by omega) with rfl | rfl | rfl
    · have K0 := K x
      rw [show (((0 : Nat) : Int)) = 0 from rfl] at K0
      by_cases c1 : (0 : Int) < a
      · have c1' : ¬ a ≤ 0 := by omega
        by_cases c2 : x < 1
        · have kf : kidOK ns.length a 0 x = false := by rw [K0]; simp [c1]; omega
          have kk : kidsOK ns.length a [x, y, z] 0 = false := by simp [kidsOK, kf]
          simp [hf, e5, e17, f18, c1, c2, kk]
        · by_cases c3 : (ns.length : Int) < x
          · have kf : kidOK ns.length a 0 x = false := by rw [K0]; simp [c1]; omega
            have kk : kidsOK ns.length a [x, y, z] 0 = false := by simp [kidsOK, kf]
            simp [hf, e0, e5, e17, f18, c1, c2, c3, h.og, hlen, kk]
          · have kt : kidOK ns.length a 0 x = true := by rw [K0]; simp [c1]; omega
            simp [hf, e0, e5, e17, f18, c1, c1', c2, c3, h.og, hlen, kt]
      · have c1' : a ≤ 0 := by omega
        by_cases c2 : x = 0
        · have kt : kidOK ns.length a 0 0 = true := by rw [c2] at K0; rw [K0]; simp [c1]
          subst c2
          simp [hf, e5, e17, f18, c1, c1', kt]
        · have kf : kidOK ns.length a 0 x = false := by rw [K0]; simp [c1, c2]
          have kk : kidsOK ns.length a [x, y, z] 0 = false := by simp [kidsOK, kf]
          simp [hf, e5, e17, f18, c1, c1', c2, kk]
    · have K0 := K y
      rw [show (((1 : Nat) : Int)) = 1 from rfl] at K0
      by_cases c1 : (1 : Int) < a
      · have c1' : ¬ a ≤ 1 := by omega
        by_cases c2 : y < 1
        · have kf : kidOK ns.length a 1 y = false := by rw [K0]; simp [c1]; omega
          have kk : kidsOK ns.length a [x, y, z] 0 = false := by simp [kidsOK, kf]
          simp [hf, e5, e17, f18, c1, c2, kk]
        · by_cases c3 : (ns.length : Int) < y
          · have kf : kidOK ns.length a 1 y = false := by rw [K0]; simp [c1]; omega
            have kk : kidsOK ns.length a [x, y, z] 0 = false := by simp [kidsOK, kf]
            simp [hf, e0, e5, e17, f18, c1, c2, c3, h.og, hlen, kk]
          · have kt : kidOK ns.length a 1 y = true := by rw [K0]; simp [c1]; omega
            simp [hf, e0, e5, e17, f18, c1, c1', c2, c3, h.og, hlen, kt, k0 (by omega)]
      · have c1' : a ≤ 1 := by omega
        by_cases c2 : y = 0
        · have kt : kidOK ns.length a 1 0 = true := by rw [c2] at K0; rw [K0]; simp [c1]
          subst c2
          simp [hf, e5, e17, f18, c1, c1', kt, k0 (by omega)]
        · have kf : kidOK ns.length a 1 y = false := by rw [K0]; simp [c1, c2]
          have kk : kidsOK ns.length a [x, y, z] 0 = false := by simp [kidsOK, kf]
          simp [hf, e5, e17, f18, c1, c1', c2, kk]
    · have K0 := K z
      rw [show (((2 : Nat) : Int)) = 2 from rfl] at K0
      by_cases c1 : (2 : Int) < a
      · have c1' : ¬ a ≤ 2 := by omega
        by_cases c2 : z < 1
        · have kf : kidOK ns.length a 2 z = false := by rw [K0]; simp [c1]; omega
          have kk : kidsOK ns.length a [x, y, z] 0 = false := by simp [kidsOK, kf]
          simp [hf, e5, e17, f18, c1, c2, kk]
        · by_cases c3 : (ns.length : Int) < z
          · have kf : kidOK ns.length a 2 z = false := by rw [K0]; simp [c1]; omega
            have kk : kidsOK ns.length a [x, y, z] 0 = false := by simp [kidsOK, kf]
            simp [hf, e0, e5, e17, f18, c1, c2, c3, h.og, hlen, kk]
          · have kt : kidOK ns.length a 2 z = true := by rw [K0]; simp [c1]; omega
            simp [hf, e0, e5, e17, f18, c1, c1', c2, c3, h.og, hlen, kt, k0 (by omega), k1 (by omega)]
      · have c1' : a ≤ 2 := by omega
        by_cases c2 : z = 0
        · have kt : kidOK ns.length a 2 0 = true := by rw [c2] at K0; rw [K0]; simp [c1]
          subst c2
          simp [hf, e5, e17, f18, c1, c1', kt, k0 (by omega), k1 (by omega)]
        · have kf : kidOK ns.length a 2 z = false := by rw [K0]; simp [c1, c2]
          have kk : kidsOK ns.length a [x, y, z] 0 = false := by simp [kidsOK, kf]
          simp [hf, e5, e17, f18, c1, c1', c2, kk]
  · rintro f H1 hf ⟨f18, rfl, k0, k1, k2⟩
    simp [f18, kidsOK, k0, k1, k2]
theorem formed_run {H : AHeap} {g : Nat} {most : Int} {ns : List Nd} {o1 o2 o3 : Nat} (h : TG H g most ns o1 o2 o3) {n : Nd} : R Zci [.ptr g 0, .agg n.cs] H = some (.bool (formedF ns.length n), H) := by
  obtain ⟨S, hS⟩ : ∃ S, S = formedF ns.length n := ⟨_, rfl⟩
  rw [← hS, Zfm]
  obtain ⟨op, sort, a, b, c, p, q, vw, vl, vh, name⟩ := n
  simp [Nd.cs, Zd6, arity_run]
  generalize hL : loopL _ _ _ _ _ _ = r
  obtain ⟨y, e1, H1, rfl, ⟨rfl, h1⟩, fr⟩ := formed_loop (a := arity op) (x := a) (y := b) (z := c) (h.keep (by simp)) hL (by simp) (by simp) (by simp) (by simp)
  have hS2 : S = (kidsOK ns.length (arity op) [a, b, c] 0 && (decide (0 ≤ arity op) && (decide (op = 1) || decide (vw = 0 ∧ vl = 0#64 ∧ vh = 0#64)) && (decide (op = 2) || decide (name = .empty)))) := hS
  rw [hS2]; clear hS2 hS
  rcases h1 with ⟨rfl, h1⟩ | ⟨rfl, h1, h2⟩
  · rw [h1, Bool.true_and]
    have z1 : (0 : Int) ≤ arity 1 := by decide
    have z2 : (0 : Int) ≤ arity 2 := by decide
    by_cases c1 : 0 ≤ arity op
    · by_cases c2 : op = 1
      · subst c2
        simp [fr, z1, show (ByteArray.empty) = ⟨#[]⟩ from rfl]
      · cases hz : (decide (vw = 0) && (decide (vl = 0#64) && decide (vh = 0#64))) with
        | true =>
          by_cases c3 : op = 2
          · subst c3
            simp [fr, hz, z2]
          · simp [fr, c1, c2, c3, hz, show (ByteArray.empty) = ⟨#[]⟩ from rfl]
        | false =>
          by_cases c3 : op = 2
          · subst c3
            simp [fr, hz, z2]
          · simp [fr, c1, c2, c3, hz, show (ByteArray.empty) = ⟨#[]⟩ from rfl]
    · simp [fr, c1]
  · rw [h1, Bool.false_and]
    simp [h2]
end Go.Proofs.Ytiobohfiaapgeaa
end
section
namespace Go.Proofs.Ytiobohfiaapgeaa
set_option maxRecDepth 100000
set_option maxHeartbeats 4000000
structure OutT (H0 H : AHeap) (v : AV) (l : List Int) : Prop where
  rd : RI H v l
  gr : grows v
  new : ∀ p, p ∈ objs v → H0.size ≤ p
theorem OutT.push {H0 H : AHeap} {v : AV} {l : List Int} (h : OutT H0 H v l) (k : Keeps H0 H) {a : Int} (hl : l.length ≤ 1000000) {r : Option (AV × AHeap)}
    (hA : appU (H.new (.cells [.int .i64 a])) v (.row H.size 0 1 1 true) (some (1, 8, [.int .i64 0])) = r) :
    ∃ v' H', r = some (v', H') ∧ OutT H0 H' v' (l ++ [a]) ∧ Keeps H0 H' := by
  obtain ⟨H1, rfl, f1, s1, o1, rd⟩ := app_of hA (h.rd.keep (by simp)) h.gr (Reads.row' (all := [.int .i64 a]) (by simp) (by simp) (by simp)) (by omega) rfl (by omega) (by omega) (by omega) (by simp)
  simp only [new_size] at s1
  have := k.size
  refine ⟨_, H1, rfl, ⟨by simpa [RI] using rd, by simp, by simp; omega⟩, f1.keeps (by simp [k]) (fun p hp => h.new p hp)⟩
def ksort (ns : List Nd) (k : Int) : List Int := if 0 < k then [(ns.getD (k - 1).toNat Nd.zero).sort] else []
theorem ksort_len (ns : List Nd) (k : Int) : (ksort ns k).length ≤ 1 := by unfold ksort; split <;> simp
theorem sorted_loop {H0 H : AHeap} {g : Nat} {most : Int} {ns : List Nd} {o1 o2 o3 : Nat} (h0 : TG H0 g most ns o1 o2 o3) (k0 : Keeps H0 H) {x y z : Int} (hx : x ≤ ns.length) (hy : y ≤ ns.length) (hz : z ≤ ns.length) {e : Env} {r : Rn} (hL : loopL Try.prog KT R Zbx e H = r)
    (e0 : e 0 = some (.ptr g 0)) (e7 : e 7 = some .nils) (e92 : e 92 = some (.agg [.int .i64 x, .int .i64 y, .int .i64 z])) (e93 : e 93 = some (.int .i64 0)) :
    ∃ y' e' H', r = some (y', e', H') ∧ (y' = .exit 1 ∧ Keeps H0 H' ∧ ∃ w, e' 7 = some w ∧ RI H' w (ksort ns x ++ ksort ns y ++ ksort ns z)) ∧ ∀ t, t ∉ defs Zbx → e' t = e t := by
  have hl := h0.lim
  have hl2 := h0.lim2
  have at1 : ∀ j : Nat, j < ns.length → (flat ns)[j * 11 + 1]? = some (.int .i64 (ns.getD j Nd.zero).sort) := fun j hj => by
    rw [flat_get (n := ns.getD j Nd.zero) (by simp [hj]) (by omega)]; rfl
  refine loop_count Zbx.eq_1 hL 3 (fun i e1 H1 => ∃ w, e1 7 = some w ∧ e1 93 = some (.int .i64 i) ∧ Keeps H0 H1 ∧ OutT H0 H1 w (([x, y, z].take i).flatMap (ksort ns))) _ 0 (by omega) ⟨.nils, e7, e93, k0, ⟨by simpa using RI.nils, by simp, by simp⟩⟩ ?_ ?_
  · rintro i f H1 hf - hi ⟨w, f7, f93, k1, hout⟩
    have hw1 := i64w (n := (i : Int) + 1) (by omega) (by omega)
    have hc : (i : Int) < 3 := by omega
    have h1 := h0.keep k1
    have hlen := slv_len o1 ns
    have hle : (([x, y, z].take i).flatMap (ksort ns)).length ≤ 1000000 := by
      have := ksort_len ns x
      have := ksort_len ns y
      have := ksort_len ns z
      rcases (show i = 0 ∨ i = 1 ∨ i = 2 by omega) with rfl | rfl | rfl <;> simp [List.flatMap_cons] <;> omega
    rcases (show i = 0 ∨ i = 1 ∨ i = 2 by omega) with rfl | rfl | rfl
    · by_cases c2 : 0 < x
      · obtain ⟨j, rfl⟩ : ∃ j : Nat, x = (j : Int) + 1 := ⟨(x - 1).toNat, by omega⟩
        have hj : j < ns.length := by omega
        have hne : ns ≠ [] := by rintro rfl; simp at hj
        have wj : IntKind.i64.wrap (j : Int) = (j : Int) := i64w (by omega) (by omega)
        have cj : (j : Int) < ns.length := by omega
        have hs := slv_row (o := o1) hj
        have hat := at1 j hj
        have hg := h1.og
        have hb := h1.b1 hne
        have kk : ksort ns ((j : Int) + 1) = [(ns.getD j Nd.zero).sort] := by unfold ksort; rw [if_pos (by omega)]; simp
        rw [hs] at hg
        generalize (ns.getD j Nd.zero).sort = s at hat kk
        simp [hf, e0, f7, f93, e92, c2, wj, hg, cj, hb, hat]
        generalize hA : appU _ _ _ _ = q
        obtain ⟨w', H2, rfl, h2, k2⟩ := hout.push k1 hle hA
        simp [f93, k2, kk]
        simpa using h2
      · have kk : ksort ns x = [] := by unfold ksort; rw [if_neg c2]
        simp [hf, f7, f93, e92, c2, k1, kk]
        simpa using hout
    · by_cases c2 : 0 < y
      · obtain ⟨j, rfl⟩ : ∃ j : Nat, y = (j : Int) + 1 := ⟨(y - 1).toNat, by omega⟩
        have hj : j < ns.length := by omega
        have hne : ns ≠ [] := by rintro rfl; simp at hj
        have wj : IntKind.i64.wrap (j : Int) = (j : Int) := i64w (by omega) (by omega)
        have cj : (j : Int) < ns.length := by omega
        have hs := slv_row (o := o1) hj
        have hat := at1 j hj
        have hg := h1.og
        have hb := h1.b1 hne
        have kk : ksort ns ((j : Int) + 1) = [(ns.getD j Nd.zero).sort] := by unfold ksort; rw [if_pos (by omega)]; simp
        rw [hs] at hg
        generalize (ns.getD j Nd.zero).sort = s at hat kk
        simp [hf, e0, f7, f93, e92, c2, wj, hg, cj, hb, hat]
        generalize hA : appU _ _ _ _ = q
        obtain ⟨w', H2, rfl, h2, k2⟩ := hout.push k1 hle hA
        simp [f93, k2, kk]
        simpa using h2
      · have kk : ksort ns y = [] := by unfold ksort; rw [if_neg c2]
        simp [hf, f7, f93, e92, c2, k1, kk]
        simpa using hout
    · by_cases c2 : 0 < z
      · obtain ⟨j, rfl⟩ : ∃ j : Nat, z = (j : Int) + 1 := ⟨(z - 1).toNat, by omega⟩
        have hj : j < ns.length := by omega
        have hne : ns ≠ [] := by rintro rfl; simp at hj
        have wj : IntKind.i64.wrap (j : Int) = (j : Int) := i64w (by omega) (by omega)
        have cj : (j : Int) < ns.length := by omega
        have hs := slv_row (o := o1) hj
        have hat := at1 j hj
        have hg := h1.og
        have hb := h1.b1 hne
        have kk : ksort ns ((j : Int) + 1) = [(ns.getD j Nd.zero).sort] := by unfold ksort; rw [if_pos (by omega)]; simp
        rw [hs] at hg
        generalize (ns.getD j Nd.zero).sort = s at hat kk
        simp [hf, e0, f7, f93, e92, c2, wj, hg, cj, hb, hat]
        generalize hA : appU _ _ _ _ = q
        obtain ⟨w', H2, rfl, h2, k2⟩ := hout.push k1 hle hA
        simp [f93, k2, kk]
        simpa using h2
      · have kk : ksort ns z = [] := by unfold ksort; rw [if_neg c2]
        simp [hf, f7, f93, e92, c2, k1, kk]
        simpa using hout
  · rintro f H1 hf ⟨w, f7, f93, k1, hout⟩
    simp [f93, f7, k1]
    simpa using hout.rd
def nameBad (ns : List Nd) (n : Nd) : Bool := decide (n.name = .empty) || match vidx ns n.name with
  | some i => decide (¬ (ns.getD i Nd.zero).sort = n.sort)
  | none => false
def sortedF (ns : List Nd) (n : Nd) : Nd × Int :=
  if n.op = 1 then (n, if rightF n.vw n.vl n.vh = true ∧ n.vw = n.sort ∧ n.p = 0 ∧ n.q = 0 then 0 else 30)
  else if n.op = 2 then (n, if isSort n.sort = true ∧ n.p = 0 ∧ n.q = 0 then (if nameBad ns n then 34 else 0) else 30)
  else ({ n with sort := (sortS n.op n.p n.q (ksort ns n.a ++ ksort ns n.b ++ ksort ns n.c)).1 }, (sortS n.op n.p n.q (ksort ns n.a ++ ksort ns n.b ++ ksort ns n.c)).2)
theorem vidx_lt {ns : List Nd} {s : ByteArray} {i : Nat} (h : vidx ns s = some i) : i < ns.length := by
  unfold vidx at h
  exact (List.findIdx?_eq_some_iff_getElem.1 h).1
theorem sorted_run {H : AHeap} {g : Nat} {most : Int} {ns : List Nd} {o1 o2 o3 : Nat} (h : TG H g most ns o1 o2 o3) {n : Nd} (ha : n.a ≤ ns.length) (hb : n.b ≤ ns.length) (hc : n.c ≤ ns.length) :
    R Zcj [.ptr g 0, .agg n.cs] H = some (.tup [.agg (sortedF ns n).1.cs, .int .i64 (sortedF ns n).2], H) := by
  obtain ⟨S, hS⟩ : ∃ S, S = sortedF ns n := ⟨_, rfl⟩
  rw [← hS, Zfn]
  obtain ⟨op, sort, a, b, c, p, q, vw, vl, vh, name⟩ := n
  by_cases c1 : op = 1
  · subst c1
    have hS2 : S = (⟨1, sort, a, b, c, p, q, vw, vl, vh, name⟩, if rightF vw vl vh = true ∧ vw = sort ∧ p = 0 ∧ q = 0 then 0 else 30) := by rw [hS]; unfold sortedF; rw [if_pos rfl]
    rw [hS2]; clear hS2 hS
    cases d1 : rightF vw vl vh with
    | false => simp (maxDischargeDepth := 40) [Nd.cs, Zs, bvRight_run, d1]
    | true =>
      by_cases d2 : vw = sort
      · subst d2
        by_cases d3 : p = 0
        · subst d3
          by_cases d4 : q = 0
          · subst d4
            simp (maxDischargeDepth := 40) [Nd.cs, Zs, bvRight_run, d1]
          · simp (maxDischargeDepth := 40) [Nd.cs, Zs, bvRight_run, d1, d4]
        · simp (maxDischargeDepth := 40) [Nd.cs, Zs, bvRight_run, d1, d3]
      · simp (maxDischargeDepth := 40) [Nd.cs, Zs, bvRight_run, d1, d2]
  by_cases c2 : op = 2
  · subst c2
    have hS2 : S = (⟨2, sort, a, b, c, p, q, vw, vl, vh, name⟩, if isSort sort = true ∧ p = 0 ∧ q = 0 then (if nameBad ns ⟨2, sort, a, b, c, p, q, vw, vl, vh, name⟩ then 34 else 0) else 30) := by rw [hS]; unfold sortedF; rw [if_neg c1, if_pos rfl]
    rw [hS2]; clear hS2 hS
    cases d1 : isSort sort with
    | false => simp (maxDischargeDepth := 40) [Nd.cs, Zs, sort_run, d1]
    | true =>
      by_cases d3 : p = 0
      rotate_left
      · simp (maxDischargeDepth := 40) [Nd.cs, Zs, sort_run, d1, d3]
      subst d3
      by_cases d4 : q = 0
      rotate_left
      · simp (maxDischargeDepth := 40) [Nd.cs, Zs, sort_run, d1, d4]
      subst d4
      obtain ⟨es, cnt, m1, m2⟩ := h.b3
      have m3 := m2 name
      have og := h.og
      have hlm := h.lim
      have hlm2 := h.lim2
      have lts : g < H.size := h.lg
      have lt3 : o3 < H.size := h.l3
      have nam : nameBad ns ⟨2, sort, a, b, c, 0, 0, vw, vl, vh, name⟩ = (decide (name = ⟨#[]⟩) || match vidx ns name with | some i => decide (¬ (ns.getD i Nd.zero).sort = sort) | none => false) := rfl
      rw [nam]
      cases hv : vidx ns name with
      | none =>
        rw [hv] at m3
        cases hf : findE (.str name) es with
        | some x => rw [hf] at m3; cases m3
        | none =>
          by_cases d5 : name = ⟨#[]⟩
          · simp (maxDischargeDepth := 40) [Nd.cs, Zs, sort_run, d1, og, m1, lts, lt3, d5]
          · simp (maxDischargeDepth := 40) [Nd.cs, Zs, sort_run, d1, og, m1, hf, lts, lt3, d5]
      | some j =>
        rw [hv] at m3
        cases hf : findE (.str name) es with
        | none => rw [hf] at m3; cases m3
        | some x =>
          rw [hf] at m3
          have hx : x.val = num j := by simpa using m3
          have hj := vidx_lt hv
          have hne : ns ≠ [] := by rintro rfl; simp at hj
          have wj : IntKind.i64.wrap (j : Int) = (j : Int) := i64w (by omega) (by omega)
          have cj : (j : Int) < ns.length := by omega
          have hs := slv_row (o := o1) hj
          have hat : (flat ns)[j * 11 + 1]? = some (.int .i64 (ns.getD j Nd.zero).sort) := by
            rw [flat_get (n := ns.getD j Nd.zero) (by simp [hj]) (by omega)]; rfl
          have hb := h.b1 hne
          have lt1 := h.l1 hne
          have p1 : (0 : Int) < (j : Int) + 1 := by omega
          rw [hs] at og
          obtain ⟨s, hsd⟩ : ∃ s, s = (ns.getD j Nd.zero).sort := ⟨_, rfl⟩
          rw [← hsd] at hat
          simp only [← hsd]
          by_cases d5 : name = ⟨#[]⟩
          · simp (maxDischargeDepth := 40) [Nd.cs, Zs, sort_run, d1, og, m1, lts, lt3, d5]
          · by_cases d6 : s = sort
            · have d6' := eq_true d6
              simp (maxDischargeDepth := 40) [Nd.cs, Zs, sort_run, d1, og, m1, hf, hx, num, lts, lt3, lt1, d5, p1, wj, cj, hb, hat, d6']
            · simp (maxDischargeDepth := 40) [Nd.cs, Zs, sort_run, d1, og, m1, hf, hx, num, lts, lt3, lt1, d5, p1, wj, cj, hb, hat, d6]
  · have hS2 : S = (⟨op, (sortS op p q (ksort ns a ++ ksort ns b ++ ksort ns c)).1, a, b, c, p, q, vw, vl, vh, name⟩, (sortS op p q (ksort ns a ++ ksort ns b ++ ksort ns c)).2) := by rw [hS]; unfold sortedF; rw [if_neg c1, if_neg c2]
    obtain ⟨l, hl⟩ : ∃ l, l = ksort ns a ++ ksort ns b ++ ksort ns c := ⟨_, rfl⟩
    rw [hS2, ← hl]; clear hS2 hS
    have lts : g < H.size := h.lg
    simp (maxDischargeDepth := 40) [Nd.cs, Zs, c1, c2]
    generalize hL : loopL _ _ _ _ _ _ = r
    obtain ⟨y, e1, H1, rfl, ⟨rfl, k1, w, e7, hw⟩, fr⟩ := sorted_loop (x := a) (y := b) (z := c) (h.keep (by simp)) (Keeps.refl _) ha hb hc hL (by simp) (by simp) (by simp) (by simp)
    have hK : Keeps H H1 := Keeps.trans (by simp (maxDischargeDepth := 40)) k1
    have hlk : (ksort ns a ++ ksort ns b ++ ksort ns c).length ≤ 9223372036854775807 := by
      have := ksort_len ns a
      have := ksort_len ns b
      have := ksort_len ns c
      simp; omega
    rw [← hl] at hw hlk
    clear hl
    have o2' : H1.obj (H.size + 1) = .cells Nd.zero.cs := by
      rw [k1.obj _ (by simp)]; simp [Nd.cs, Nd.zero]
    simp only [Nd.cs, Nd.zero] at o2'
    have o1' : H1.obj H.size = .cells [.int .i64 op, .int .i64 sort, .int .i64 a, .int .i64 b, .int .i64 c, .int .i64 p, .int .i64 q, .int .i64 vw, u vl, u vh, .str name] := by
      rw [k1.obj _ (by simp)]; simp
    have sz := k1.size
    simp only [new_size] at sz
    have z1 : H.size < H1.size := by omega
    have z2 : H.size + 1 < H1.size := by omega
    have ts := termSort_pair hw hlk (op := op) (p := p) (q := q)
    simp (maxDischargeDepth := 40) [fr, e7, o1', o2', ts, pair, hK]
end Go.Proofs.Ytiobohfiaapgeaa
end
section
namespace Go.Proofs.Ytiobohfiaapgeaa
set_option maxRecDepth 100000
set_option maxHeartbeats 4000000
def Vok (ns : List Nd) : Prop := ∀ n ∈ ns, n.op = 2 → n = ⟨2, n.sort, 0, 0, 0, 0, 0, 0, 0#64, 0#64, n.name⟩
def makT (most : Int) (ns : List Nd) (n : Nd) : List Nd × Int × Int :=
  if formedF ns.length n = false then (ns, 0, 32)
  else if ¬ (sortedF ns n).2 = 0 then (ns, 0, (sortedF ns n).2)
  else match idx ns (sortedF ns n).1 with
    | some i => (ns, (i : Int) + 1, 0)
    | none => if most ≤ ns.length then (ns, 0, 33) else (ns ++ [(sortedF ns n).1], (ns.length : Int) + 1, 0)
def Kok (ns : List Nd) : Prop := ∀ (i : Nat) (n : Nd), ns[i]? = some n → (0 ≤ n.a ∧ n.a ≤ i) ∧ (0 ≤ n.b ∧ n.b ≤ i) ∧ (0 ≤ n.c ∧ n.c ≤ i)
theorem Kok.grow {ns : List Nd} {M : Nd} (h : Kok ns) (k : (0 ≤ M.a ∧ M.a ≤ ns.length) ∧ (0 ≤ M.b ∧ M.b ≤ ns.length) ∧ (0 ≤ M.c ∧ M.c ≤ ns.length)) : Kok (ns ++ [M]) := by
  intro i n hn
  by_cases c : i < ns.length
  · rw [List.getElem?_append_left c] at hn; exact h i n hn
  · rw [List.getElem?_append_right (by omega)] at hn
    have : i - ns.length = 0 := by
      have := (List.getElem?_eq_some_iff.1 hn).1
      simp at this; omega
    rw [this] at hn
    simp at hn
    subst hn
    have e : i = ns.length := by omega
    subst e; exact k
theorem formed_kids0 {ns : List Nd} {n : Nd} (h : formedF ns.length n = true) : 0 ≤ n.a ∧ 0 ≤ n.b ∧ 0 ≤ n.c := by
  unfold formedF at h
  simp only [kidsOK, Bool.and_eq_true] at h
  obtain ⟨⟨h1, h2, h3, -⟩, -⟩ := h
  have K : ∀ (i : Nat) (k : Int), kidOK ns.length (arity n.op) i k = true → 0 ≤ k := fun i k hk => by
    unfold kidOK at hk
    split at hk <;> simp at hk <;> omega
  exact ⟨K _ _ h1, K _ _ h2, K _ _ h3⟩
theorem sorted_kids (ns : List Nd) (n : Nd) : (sortedF ns n).1.a = n.a ∧ (sortedF ns n).1.b = n.b ∧ (sortedF ns n).1.c = n.c := by
  unfold sortedF
  split
  · exact ⟨rfl, rfl, rfl⟩
  · split <;> exact ⟨rfl, rfl, rfl⟩
theorem formed_kids {ns : List Nd} {n : Nd} (h : formedF ns.length n = true) : n.a ≤ ns.length ∧ n.b ≤ ns.length ∧ n.c ≤ ns.length := by
  unfold formedF at h
  simp only [kidsOK, Bool.and_eq_true] at h
  obtain ⟨⟨h1, h2, h3, -⟩, -⟩ := h
  have K : ∀ (i : Nat) (k : Int), kidOK ns.length (arity n.op) i k = true → k ≤ ns.length := fun i k hk => by
    unfold kidOK at hk
    split at hk <;> simp at hk <;> omega
  exact ⟨K _ _ h1, K _ _ h2, K _ _ h3⟩
theorem formed_var {ns : List Nd} {n : Nd} (h : formedF ns.length n = true) (h2 : n.op = 2) (hp : n.p = 0) (hq : n.q = 0) : n = ⟨2, n.sort, 0, 0, 0, 0, 0, 0, 0#64, 0#64, n.name⟩ := by
  unfold formedF at h
  obtain ⟨op, sort, a, b, c, p, q, vw, vl, vh, name⟩ := n
  simp only at h2 hp hq
  subst h2 hp hq
  have ar : arity 2 = 0 := by decide
  simp only [kidsOK, ar, kidOK] at h
  simp at h
  simp [h]
theorem vidx_some {ns : List Nd} {s : ByteArray} {i : Nat} (h : vidx ns s = some i) : ∃ m, ns[i]? = some m ∧ m ∈ ns ∧ m.op = 2 ∧ m.name = s := by
  unfold vidx at h
  obtain ⟨h1, h2, -⟩ := List.findIdx?_eq_some_iff_getElem.1 h
  simp at h2
  exact ⟨ns[i], by simp [h1], List.getElem_mem h1, h2.1, h2.2.symm⟩
theorem idx_none {ns : List Nd} {n : Nd} (h : idx ns n = none) : n ∉ ns := by
  unfold idx at h
  rw [List.findIdx?_eq_none_iff] at h
  intro hm
  have := h n hm
  simp at this
theorem var_new {ns : List Nd} {n : Nd} (hv : Vok ns) (h : formedF ns.length n = true) (h2 : n.op = 2) (hs : (sortedF ns n).2 = 0) (hi : idx ns (sortedF ns n).1 = none) : vidx ns n.name = none ∧ (sortedF ns n).1 = n ∧ n = ⟨2, n.sort, 0, 0, 0, 0, 0, 0, 0#64, 0#64, n.name⟩ := by
  have hn1 : ¬ n.op = 1 := by omega
  unfold sortedF at hs hi ⊢
  rw [if_neg hn1, if_pos h2] at hs hi ⊢
  simp only at hs hi
  split at hs
  rotate_left
  · cases hs
  rename_i hc
  have hb : nameBad ns n = false := by
    cases hb : nameBad ns n with
    | false => rfl
    | true => rw [hb] at hs; cases hs
  have hn := formed_var h h2 hc.2.1 hc.2.2
  refine ⟨?_, rfl, hn⟩
  cases hx : vidx ns n.name with
  | none => rfl
  | some i =>
    exfalso
    obtain ⟨m, m1, m2, m3, m4⟩ := vidx_some hx
    have mo := hv m m2 m3
    unfold nameBad at hb
    rw [hx] at hb
    have hg : ns.getD i Nd.zero = m := by simp [List.getD_eq_getElem?_getD, m1]
    simp only [hg] at hb
    simp at hb
    have : n = m := by rw [hn, mo, m4, hb.2]
    exact idx_none hi (this ▸ m2)
def GT (H : AHeap) (g : Nat) (most : Int) (ns : List Nd) (F : List Nat) : Prop := ∃ o1 o2 o3, TG H g most ns o1 o2 o3 ∧ Vok ns ∧ Kok ns ∧ F = g :: o2 :: o3 :: objs (slv o1 ns)
structure MvT (F : List Nat) (H : AHeap) (F' : List Nat) (H' : AHeap) : Prop where
  fr : Fr F H H'
  new : ∀ p, p ∈ F' → p ∈ F ∨ H.size ≤ p
theorem MvT.refl (F : List Nat) (H : AHeap) : MvT F H F H := ⟨Fr.refl _ _, fun _ h => .inl h⟩
theorem MvT.keeps {F : List Nat} {H H' : AHeap} (k : Keeps H H') : MvT F H F H' := ⟨k.fr F, fun _ h => .inl h⟩
theorem MvT.trans {F G E : List Nat} {A B D : AHeap} (h : MvT F A G B) (k : MvT G B E D) : MvT F A E D := by
  refine ⟨h.fr.trans k.fr h.new, fun p hp => ?_⟩
  rcases k.new p hp with h1 | h1
  · exact h.new p h1
  · exact .inr (Nat.le_trans h.fr.size h1)
def GvT (H : AHeap) (g : Nat) (most : Int) (F : List Nat) (x : List Nd × Int × Int) (r : Option (AV × AHeap)) : Prop :=
  ∃ H' F', r = some (.tup [.int .i64 x.2.1, .int .i64 x.2.2], H') ∧ GT H' g most x.1 F' ∧ MvT F H F' H'
theorem GvT.mk {H H' : AHeap} {g : Nat} {most l e : Int} {F : List Nat} {x : List Nd × Int × Int} {js : List Nd} {r : Option (AV × AHeap)} (h : some (.tup [.int .i64 l, .int .i64 e], H') = r) (hx : x = (js, l, e)) (F' : List Nat) (g' : GT H' g most js F') (k : MvT F H F' H') : GvT H g most F x r := by
  subst hx; exact ⟨H', F', h.symm, g', k⟩
theorem GT.keeps {H H' : AHeap} {g : Nat} {most : Int} {ns : List Nd} {F : List Nat} (h : GT H g most ns F) (k : Keeps H H') : GT H' g most ns F := by
  obtain ⟨o1, o2, o3, t, v, kk, rfl⟩ := h
  exact ⟨o1, o2, o3, t.keep k, v, kk, rfl⟩
theorem tell2 {es : List AEnt} {ns : List Nd} {M : Nd} {c : Nat} (i2 : ∀ n : Nd, (findE (.agg n.cs) es).map (·.val) = (idx ns n).map num) (n : Nd) : (findE (.agg n.cs) (es ++ [⟨.agg M.cs, num ns.length, c⟩])).map (·.val) = (idx (ns ++ [M]) n).map num := by
  have h := i2 n
  rw [findE_append, idx_append, keyEq_nd]
  cases hf : findE (.agg n.cs) es <;> cases hi : idx ns n <;> rw [hf, hi] at h <;> first | (cases h; done) | skip
  · by_cases e : n = M <;> simp [e]
  · simpa using h
theorem tell3 {es : List AEnt} {ns : List Nd} {M : Nd} {c : Nat} (hM : M.op = 2) (i3 : ∀ s, (findE (.str s) es).map (·.val) = (vidx ns s).map num) (s : ByteArray) : (findE (.str s) (es ++ [⟨.str M.name, num ns.length, c⟩])).map (·.val) = (vidx (ns ++ [M]) s).map num := by
  have h := i3 s
  have hk : keyEq (.str s) (.str M.name) = decide (s = M.name) := by simp [keyEq]
  rw [findE_append, vidx_append, hk]
  cases hf : findE (.str s) es <;> cases hi : vidx ns s <;> rw [hf, hi] at h <;> first | (cases h; done) | skip
  · by_cases e : s = M.name <;> simp [e, hM]
  · simpa using h
theorem tell3' {es : List AEnt} {ns : List Nd} {M : Nd} (hM : ¬ M.op = 2) (i3 : ∀ s, (findE (.str s) es).map (·.val) = (vidx ns s).map num) (s : ByteArray) : (findE (.str s) es).map (·.val) = (vidx (ns ++ [M]) s).map num := by
  rw [vidx_append, i3 s, if_neg (by simp [hM])]; simp
theorem grow {H H' : AHeap} {g : Nat} {most : Int} {ns : List Nd} {o1 o2 o3 o : Nat} {M : Nd} (t : TG H g most ns o1 o2 o3) (v : Vok ns) (kok : Kok (ns ++ [M])) (hm : M.op = 2 → M = ⟨2, M.sort, 0, 0, 0, 0, 0, 0, 0#64, 0#64, M.name⟩) (lim : (ns.length : Int) < most) (sz : H.size ≤ H'.size) (ho : H.size ≤ o) (ho' : o < H'.size)
    (hg : H'.obj g = .cells [.int .i64 most, .row o 0 11 (ns.length + 1) false, .map o2, .map o3]) (ho1 : H'.obj o = .cells (flat ns ++ M.cs))
    (h2 : ∃ es c, H'.obj o2 = .map shN' es c ∧ ∀ n : Nd, (findE (.agg n.cs) es).map (·.val) = (idx (ns ++ [M]) n).map num) (h3 : ∃ es c, H'.obj o3 = .map (.one .s) es c ∧ ∀ s, (findE (.str s) es).map (·.val) = (vidx (ns ++ [M]) s).map num) : GT H' g most (ns ++ [M]) [g, o2, o3, o] := by
  have hs : slv o (ns ++ [M]) = .row o 0 11 (ns.length + 1) false := by unfold slv; rw [if_neg (by simp)]; simp
  have lg := t.lg
  have l2 := t.l2
  have l3 := t.l3
  refine ⟨o, o2, o3, ⟨by omega, fun _ => ho', by omega, by omega, by rw [hs]; exact hg, fun _ => by rw [flat_append]; exact ho1, h2, h3, fun _ => by omega, t.n2, t.n3, fun _ => by omega, fun _ => by omega, t.n23, by simp; omega, t.lim2⟩, ?_, kok, by rw [hs]; simp⟩
  intro n hn
  simp at hn
  rcases hn with hn | rfl
  · exact v n hn
  · exact hm
theorem back_not {z : List Nat} {H H' : AHeap} {v : AV} (h : ¬ Shut H H') : back z H v H' = (v, H') := by unfold back; rw [if_neg (fun h2 => h h2.2)]
theorem mk_run {H : AHeap} {g : Nat} {most : Int} {ns : List Nd} {F : List Nat} (G : GT H g most ns F) {n : Nd} {r : Option (AV × AHeap)} (h : R Zi [.ptr g 0, .agg n.cs] H = r) : GvT H g most F (makT most ns n) r := by
  obtain ⟨o1, o2, o3, t, v, kok, rfl⟩ := id G
  rw [Zfx] at h
  have k0 := Keeps.new H (.cells n.cs)
  have hfm := formed_run (t.keep k0) (n := n)
  cases c1 : formedF ns.length n with
  | false =>
    rw [c1] at hfm
    simp (maxDischargeDepth := 40) [Zb0, Nd.cs] at h hfm
    simp (maxDischargeDepth := 40) [hfm] at h
    exact GvT.mk h (by unfold makT; rw [if_pos c1]) _ (G.keeps (by simp (maxDischargeDepth := 40))) (MvT.keeps (by simp (maxDischargeDepth := 40)))
  | true =>
    rw [c1] at hfm
    obtain ⟨ka, kb, kc⟩ := formed_kids c1
    have hsr := sorted_run (t.keep k0) ka kb kc
    have hnew := fun h2 h3 h4 => var_new v c1 h2 h3 h4
    have hmk : makT most ns n = if ¬ (sortedF ns n).2 = 0 then (ns, 0, (sortedF ns n).2) else match idx ns (sortedF ns n).1 with
      | some i => (ns, (i : Int) + 1, 0)
      | none => if most ≤ ns.length then (ns, 0, 33) else (ns ++ [(sortedF ns n).1], (ns.length : Int) + 1, 0) := by
      unfold makT; rw [if_neg (by simp [c1])]
    rw [hmk]
    clear hmk
    have lg := t.lg
    have l2 := t.l2
    have l3 := t.l3
    have ne2 := t.n2
    have ne3 := t.n3
    have ne23 := t.n23
    have og := t.og
    have hlen := slv_len o1 ns
    have lim := t.lim
    have lim2 := t.lim2
    obtain ⟨es2, cn2, b2, i2⟩ := t.b2
    obtain ⟨es3, cn3, b3, i3⟩ := t.b3
    have kb0 : ∀ m : Nd, Keeps H ((H.new (.cells n.cs)).set H.size (.cells m.cs)) := fun m => by simp (maxDischargeDepth := 40)
    have hkk : (0 ≤ (sortedF ns n).1.a ∧ (sortedF ns n).1.a ≤ ns.length) ∧ (0 ≤ (sortedF ns n).1.b ∧ (sortedF ns n).1.b ≤ ns.length) ∧ (0 ≤ (sortedF ns n).1.c ∧ (sortedF ns n).1.c ≤ ns.length) := by
      obtain ⟨s1, s2, s3⟩ := sorted_kids ns n
      obtain ⟨f1, f2, f3⟩ := formed_kids0 c1
      rw [s1, s2, s3]
      exact ⟨⟨f1, ka⟩, ⟨f2, kb⟩, ⟨f3, kc⟩⟩
    have kok' := kok.grow hkk
    have hop : (sortedF ns n).1.op = n.op := by unfold sortedF; split <;> first | rfl | (split <;> rfl)
    generalize hS : sortedF ns n = S at *
    obtain ⟨m, e⟩ := S
    have hm2 := i2 m
    clear hkk
    have hnm : e = 0 → m.op = 2 → idx ns m = none → vidx ns m.name = none ∧ m = ⟨2, m.sort, 0, 0, 0, 0, 0, 0, 0#64, 0#64, m.name⟩ := fun he h2 hi => by
      obtain ⟨a1, a2, a3⟩ := hnew (hop ▸ h2) he hi
      have a2' : m = n := a2
      rw [a2']; exact ⟨a1, a3⟩
    clear hnew hop
    obtain ⟨M, hM⟩ : ∃ M, M = m := ⟨_, rfl⟩
    rw [show ((m, e) : Nd × Int).1 = M from hM.symm] at kok'
    obtain ⟨op, sort, a, b, c, p, q, vw, vl, vh, name⟩ := n
    obtain ⟨op', sort', a', b', c', p', q', vw', vl', vh', name'⟩ := m
    simp only [Nd.cs] at h hfm hsr hm2
    simp only [shN'] at b2
    by_cases c2 : e = 0
    rotate_left
    · simp (maxDischargeDepth := 40) [Zb0, hfm, hsr, c2] at h
      exact GvT.mk h (by simp [c2]) _ (G.keeps (by simp (maxDischargeDepth := 40))) (MvT.keeps (by simp (maxDischargeDepth := 40)))
    subst c2
    cases hi : idx ns M with
    | some j =>
      rw [← hM, hi] at hm2
      simp only [Option.map_some, Option.map_eq_some_iff] at hm2
      obtain ⟨x, hx1, hx2⟩ := hm2
      have p1 : (0 : Int) < (j : Int) + 1 := by omega
      simp (maxDischargeDepth := 40) [Zb0, hfm, hsr, og, b2, hx1, hx2, num, lg, l2, p1] at h
      exact GvT.mk h (by simp [← hM, hi]) _ (G.keeps (by simp (maxDischargeDepth := 40))) (MvT.keeps (by simp (maxDischargeDepth := 40)))
    | none =>
      rw [← hM, hi] at hm2
      simp only [Option.map_none, Option.map_eq_none_iff] at hm2
      by_cases c3 : most ≤ ns.length
      · simp (maxDischargeDepth := 40) [Zb0, hfm, hsr, og, b2, hm2, lg, l2, hlen, c3] at h
        exact GvT.mk h (by simp [← hM, hi, c3]) _ (G.keeps (by simp (maxDischargeDepth := 40))) (MvT.keeps (by simp (maxDischargeDepth := 40)))
      · simp (maxDischargeDepth := 40) [Zb0, hfm, hsr, og, b2, hm2, lg, l2, hlen, c3] at h
        generalize hH1 : AHeap.set _ _ _ = H1 at h
        have k1 : Keeps H H1 := by rw [← hH1]; simp (maxDischargeDepth := 40)
        have z1 : H1.size = H.size + 1 := by rw [← hH1]; simp
        have c8 : H1.obj H.size = .cells M.cs := by rw [← hH1, hM]; simp [Nd.cs]
        clear hH1
        generalize hA : appU _ _ _ _ = q1 at h
        have t1 := t.keep (k1.new' (.cells M.cs))
        have hob : ∀ p, p ∈ objs (slv o1 ns) → ns ≠ [] ∧ p = o1 := fun p hp => by
          unfold slv at hp
          split at hp
          · simp at hp
          · rename_i hne; simp at hp; exact ⟨hne, hp⟩
        have hcs : [AV.int .i64 op', .int .i64 sort', .int .i64 a', .int .i64 b', .int .i64 c', .int .i64 p', .int .i64 q', .int .i64 vw', u vl', u vh', .str name'] = M.cs := by rw [hM]; rfl
        rw [hcs, ← z1] at hA
        obtain ⟨H2, rfl, f2, s2, oo, -⟩ := app_of hA (slv_reads t1.l1 t1.b1) (slv_grows _ _) (Reads.row' (all := M.cs) (by simp) (by simp) (by simp)) (by omega) rfl (by omega) (by omega) (by omega) (by simp [Nd.cs])
        simp only [new_size, z1] at s2 oo
        have F2 : ∀ p, p < H.size → (ns ≠ [] → p ≠ o1) → H2.obj p = H.obj p := fun p hp hne => by
          rw [f2.obj p (by simp; omega) (fun hh => hne (hob p hh).1 (hob p hh).2)]
          exact (k1.new' _).obj p hp
        have g2 : H2.obj g = .cells [.int .i64 most, slv o1 ns, .map o2, .map o3] := (F2 g lg t.n1).trans og
        have m2 := (F2 o2 l2 (fun e he => t.n12 e he.symm)).trans b2
        have m3 := (F2 o3 l3 (fun e he => t.n13 e he.symm)).trans b3
        have x2 : H2.obj H.size = .cells M.cs := by
          rw [f2.obj H.size (by simp; omega) (fun hh => by have := t.l1 (hob _ hh).1; have := (hob _ hh).2; omega)]
          rw [(Keeps.new H1 _).obj _ (by omega)]; exact c8
        rw [← hcs] at x2
        have ng : ¬ g = H.size := Nat.ne_of_lt lg
        have n2 : ¬ o2 = H.size := Nat.ne_of_lt l2
        have n3 : ¬ o3 = H.size := Nat.ne_of_lt l3
        have sz1 : H2.size = H.size + 3 := by omega
        have lg2 : g < H2.size := by omega
        have l22 : o2 < H2.size := by omega
        have l32 : o3 < H2.size := by omega
        have lim' : (ns.length : Int) < most := by omega
        have hres : (if ¬ (M, (0 : Int)).2 = 0 then (ns, (0 : Int), (M, (0 : Int)).2) else match idx ns (M, (0 : Int)).1 with
          | some i => (ns, (i : Int) + 1, 0)
          | none => if most ≤ ns.length then (ns, 0, 33) else (ns ++ [(M, (0 : Int)).1], (ns.length : Int) + 1, 0)) = (ns ++ [M], (ns.length : Int) + 1, 0) := by simp [hi, c3]
        have hMd : (⟨op', sort', a', b', c', p', q', vw', vl', vh', name'⟩ : Nd) = M := hM.symm
        rw [hMd, hres]
        have hop : M.op = op' := by rw [hM]
        have hname : M.name = name' := by rw [hM]
        have hnm' := fun e2 => hnm rfl e2 (hM ▸ hi)
        rw [hMd] at hnm'
        by_cases c4 : op' = 2
        · obtain ⟨v1, v2⟩ := hnm' (hop.trans c4)
          have hv3 := i3 name'
          rw [← hname, v1, hname] at hv3
          simp only [Option.map_none, Option.map_eq_none_iff] at hv3
          have hm2' := hm2
          rw [c4] at hm2'
          simp (maxDischargeDepth := 40) [g2, m2, m3, x2, Ne.symm ng, Ne.symm n2, hm2', hv3, c4, ne2, ne2.symm, ne3.symm, ne23.symm] at h
          generalize hH3 : AHeap.set _ _ _ = H3 at h
          have og3 : H3.obj g = .cells [.int .i64 most, .row (H1.size + 1) 0 11 (ns.length + 1) false, .map o2, .map o3] := by
            rw [← hH3]; simp [ne2, ne3]
          have oh3 : H3.obj (H1.size + 1) = .cells (flat ns ++ M.cs) := by
            have a1 : ¬ H1.size + 1 = g := by omega
            have a2 : ¬ H1.size + 1 = o2 := by omega
            have a3 : ¬ H1.size + 1 = o3 := by omega
            rw [← hH3]; simp [a1, a2, a3]; rw [z1]; exact oo
          have om2 : H3.obj o2 = .map shN' (es2 ++ [⟨.agg M.cs, num ns.length, cn2⟩]) (cn2 + 1) := by
            rw [← hH3, ← hcs]; simp [ne23, shN', num, c4]
          have om3 : H3.obj o3 = .map (.one .s) (es3 ++ [⟨.str M.name, num ns.length, cn3⟩]) (cn3 + 1) := by
            rw [← hH3]; simp [hname, num]
          have sz3 : H3.size = H.size + 3 := by rw [← hH3]; simp [sz1]
          have fr3 : Fr (g :: o2 :: o3 :: objs (slv o1 ns)) H H3 := by
            rw [← hH3]
            exact ((((k1.new' _).fr _).trans f2 (fun p hp => .inl (by simp [hp]))).set (.inl (by simp)) _ |>.set (.inl (by simp)) _ |>.set (.inl (by simp)) _)
          clear hH3
          have hns : ¬ Shut H H3 := fun hsh => by
            rcases hsh.obj g lg with e | e
            · rw [og3, og] at e
              have e2 : slv o1 ns = .row (H1.size + 1) 0 11 (ns.length + 1) false := by
                simp only [AObj.cells.injEq, List.cons.injEq] at e; exact e.2.1.symm
              unfold slv at e2
              split at e2
              · cases e2
              · simp at e2
            · rw [og3] at e
              simp [closedO] at e
              omega
          rw [back_not hns] at h
          refine GvT.mk h rfl [g, o2, o3, H1.size + 1] (grow t v kok' (fun e2 => (hnm' e2).2) lim' (by omega) (by omega) (by omega) og3 oh3 ⟨_, _, om2, tell2 i2⟩ ⟨_, _, om3, tell3 (hop.trans c4) i3⟩) ⟨fr3, fun p hp => ?_⟩
          simp at hp ⊢
          rcases hp with hp | hp | hp | hp
          · simp [hp]
          · simp [hp]
          · simp [hp]
          · right; omega
        · simp (maxDischargeDepth := 40) [g2, m2, x2, Ne.symm ng, Ne.symm n2, hm2, c4, ne2.symm] at h
          generalize hH3 : AHeap.set _ _ _ = H3 at h
          have og3 : H3.obj g = .cells [.int .i64 most, .row (H1.size + 1) 0 11 (ns.length + 1) false, .map o2, .map o3] := by
            rw [← hH3]; simp [ne2]
          have oh3 : H3.obj (H1.size + 1) = .cells (flat ns ++ M.cs) := by
            have a1 : ¬ H1.size + 1 = g := by omega
            have a2 : ¬ H1.size + 1 = o2 := by omega
            have a3 : ¬ H1.size + 1 = o3 := by omega
            rw [← hH3]; simp [a1, a2]; rw [z1]; exact oo
          have om2 : H3.obj o2 = .map shN' (es2 ++ [⟨.agg M.cs, num ns.length, cn2⟩]) (cn2 + 1) := by
            rw [← hH3, ← hcs]; simp [shN', num]
          have om3 : H3.obj o3 = .map (.one .s) es3 cn3 := by
            rw [← hH3]; simp [ne3.symm, ne23.symm, m3]
          have sz3 : H3.size = H.size + 3 := by rw [← hH3]; simp [sz1]
          have fr3 : Fr (g :: o2 :: o3 :: objs (slv o1 ns)) H H3 := by
            rw [← hH3]
            exact ((((k1.new' _).fr _).trans f2 (fun p hp => .inl (by simp [hp]))).set (.inl (by simp)) _ |>.set (.inl (by simp)) _)
          clear hH3
          have hns : ¬ Shut H H3 := fun hsh => by
            rcases hsh.obj g lg with e | e
            · rw [og3, og] at e
              have e2 : slv o1 ns = .row (H1.size + 1) 0 11 (ns.length + 1) false := by
                simp only [AObj.cells.injEq, List.cons.injEq] at e; exact e.2.1.symm
              unfold slv at e2
              split at e2
              · cases e2
              · simp at e2
            · rw [og3] at e
              simp [closedO] at e
              omega
          rw [back_not hns] at h
          refine GvT.mk h rfl [g, o2, o3, H1.size + 1] (grow t v kok' (fun e2 => (hnm' e2).2) lim' (by omega) (by omega) (by omega) og3 oh3 ⟨_, _, om2, tell2 i2⟩ ⟨_, _, om3, tell3' (fun e => c4 (hop.symm.trans e)) i3⟩) ⟨fr3, fun p hp => ?_⟩
          simp at hp ⊢
          rcases hp with hp | hp | hp | hp
          · simp [hp]
          · simp [hp]
          · simp [hp]
          · right; omega
end Go.Proofs.Ytiobohfiaapgeaa
end
section
namespace Go.Proofs.Ytiobohfiaapgeaa
set_option maxRecDepth 100000
set_option maxHeartbeats 4000000
theorem tnew_run {n : Int} {H : AHeap} {r : Option (AV × AHeap)} (h : R Zem [.int .i64 n] H = r) : ∃ H' g F, r = some (.ptr g 0, H') ∧ GT H' g (min (max n 1) 4096) [] F ∧ Keeps H H' ∧ ∀ p, p ∈ F → H.size ≤ p := by
  rw [Ziv] at h
  simp [Zh0] at h
  rw [back_open (by simp [closed])] at h
  subst h
  refine ⟨_, H.size + 2, [H.size + 2, H.size, H.size + 1], rfl, ⟨0, H.size, H.size + 1, ⟨by simp, by simp, by simp, by simp, by simp [slv], by simp, ⟨[], 0, by simp [shN'], fun n => by simp [findE, idx]⟩, ⟨[], 0, by simp, fun n => by simp [findE, vidx]⟩, by simp, by omega, by omega, by simp, by simp, by omega, by show (0 : Int) ≤ _; omega, by omega⟩, (fun n hn => by cases hn), (fun i n hn => by rw [List.getElem?_nil] at hn; cases hn), by simp [slv]⟩, by simp (maxDischargeDepth := 40), fun p hp => by simp at hp; omega⟩
def varsT (ns : List Nd) (i : Nat) : List Int := ((List.range i).filter fun j => decide ((ns.getD j Nd.zero).op = 2)).map fun (j : Nat) => (j : Int) + 1
theorem OutT.keep {H0 H H' : AHeap} {v : AV} {l : List Int} (h : OutT H0 H v l) (k : Keeps H H') : OutT H0 H' v l := ⟨h.rd.keep k, h.gr, h.new⟩
end Go.Proofs.Ytiobohfiaapgeaa
end
section
namespace Go.Proofs.Ytiobohfiaapgeaa
set_option maxRecDepth 100000
theorem idx_more {ns ks : List Nd} {n : Nd} {i : Nat} (h : idx ns n = some i) : idx (ns ++ ks) n = some i := by
  unfold idx at h ⊢
  rw [List.findIdx?_append, h]; rfl
theorem vidx_more {ns ks : List Nd} {s : ByteArray} {i : Nat} (h : vidx ns s = some i) : vidx (ns ++ ks) s = some i := by
  unfold vidx at h ⊢
  rw [List.findIdx?_append, h]; rfl
theorem kidOK_more {N N' a : Int} {i : Nat} {k : Int} (hN : N ≤ N') (h : kidOK N a i k = true) : kidOK N' a i k = true := by
  unfold kidOK at h ⊢
  split at h <;> simp at h ⊢ <;> simp [*] <;> omega
theorem formed_more {N N' : Int} {n : Nd} (hN : N ≤ N') (h : formedF N n = true) : formedF N' n = true := by
  unfold formedF at h ⊢
  simp only [kidsOK, Bool.and_eq_true] at h ⊢
  obtain ⟨⟨h1, h2, h3, h4⟩, h5⟩ := h
  exact ⟨⟨kidOK_more hN h1, kidOK_more hN h2, kidOK_more hN h3, h4⟩, h5⟩
theorem ksort_more {ns ks : List Nd} {k : Int} (h : k ≤ ns.length) : ksort (ns ++ ks) k = ksort ns k := by
  unfold ksort
  split
  · rename_i hk
    have : (k - 1).toNat < ns.length := by omega
    rw [List.getD_eq_getElem?_getD, List.getD_eq_getElem?_getD, List.getElem?_append_left this]
  · rfl
theorem nameBad_more {ns ks : List Nd} {n : Nd} {i : Nat} (hv : vidx ns n.name = some i) (h : nameBad ns n = false) : nameBad (ns ++ ks) n = false := by
  unfold nameBad at h ⊢
  rw [hv] at h
  rw [vidx_more hv]
  have hi := vidx_lt hv
  simp only [List.getD_eq_getElem?_getD, List.getElem?_append_left hi] at h ⊢
  exact h
theorem sorted_more {ns ks : List Nd} {n M : Nd} (hf : formedF ns.length n = true) (hs : sortedF ns n = (M, 0)) (hv : n.op = 2 → ∃ i, vidx ns n.name = some i) : sortedF (ns ++ ks) n = (M, 0) := by
  obtain ⟨ka, kb, kc⟩ := formed_kids hf
  unfold sortedF at hs ⊢
  by_cases c1 : n.op = 1
  · rw [if_pos c1] at hs ⊢; exact hs
  rw [if_neg c1] at hs ⊢
  by_cases c2 : n.op = 2
  · rw [if_pos c2] at hs ⊢
    obtain ⟨i, hi⟩ := hv c2
    have hM : n = M := congrArg Prod.fst hs
    have h2 := congrArg Prod.snd hs
    simp only at h2
    split at h2
    rotate_left
    · cases h2
    rename_i hc
    cases hb : nameBad ns n with
    | true => rw [hb] at h2; cases h2
    | false =>
      rw [if_pos hc, nameBad_more hi hb, ← hM]; rfl
  · rw [if_neg c2] at hs ⊢
    rw [ksort_more ka, ksort_more kb, ksort_more kc]
    exact hs
theorem vidx_of_mem {ns : List Nd} {n : Nd} (h : n ∈ ns) (h2 : n.op = 2) : ∃ i, vidx ns n.name = some i := by
  cases hv : vidx ns n.name with
  | some i => exact ⟨i, rfl⟩
  | none =>
    unfold vidx at hv
    rw [List.findIdx?_eq_none_iff] at hv
    have := hv n h
    simp [h2] at this
theorem idx_mem {ns : List Nd} {n : Nd} {i : Nat} (h : idx ns n = some i) : n ∈ ns ∧ i < ns.length := by
  unfold idx at h
  obtain ⟨h1, h2, -⟩ := List.findIdx?_eq_some_iff_getElem.1 h
  simp at h2
  exact ⟨by rw [h2]; exact List.getElem_mem h1, h1⟩
structure Made (ns : List Nd) (n M : Nd) (i : Nat) : Prop where
  formed : formedF ns.length n = true
  sorted : sortedF ns n = (M, 0)
  at' : idx ns M = some i
theorem sorted_op {ns : List Nd} {n M : Nd} {e : Int} (h : sortedF ns n = (M, e)) : M.op = n.op ∧ (n.op = 2 → M = n) := by
  unfold sortedF at h
  split at h
  · have : n = M := congrArg Prod.fst h
    subst this; exact ⟨rfl, fun _ => rfl⟩
  · split at h
    · have : n = M := congrArg Prod.fst h
      subst this; exact ⟨rfl, fun _ => rfl⟩
    · rename_i h2
      have := congrArg Prod.fst h
      simp only at this
      subst this; exact ⟨rfl, fun h => absurd h h2⟩
theorem Made.more {ns ks : List Nd} {n M : Nd} {i : Nat} (h : Made ns n M i) : Made (ns ++ ks) n M i := by
  refine ⟨formed_more (by rw [List.length_append]; omega) h.formed, sorted_more h.formed h.sorted fun h2 => ?_, idx_more h.at'⟩
  have hM := (sorted_op h.sorted).2 h2
  have := (idx_mem h.at').1
  rw [hM] at this
  exact vidx_of_mem this h2
theorem Made.make {most : Int} {ns : List Nd} {n M : Nd} {i : Nat} (h : Made ns n M i) : makT most ns n = (ns, (i : Int) + 1, 0) := by
  unfold makT
  rw [if_neg (by simp [h.formed]), h.sorted]
  simp [h.at']
theorem make_made {most : Int} {ns js : List Nd} {n : Nd} {l e : Int} (hv : Vok ns) (h : makT most ns n = (js, l, e)) : (e = 0 ∧ ∃ M i, Made js n M i ∧ l = (i : Int) + 1 ∧ ∃ ks, js = ns ++ ks) ∨ (¬ e = 0 ∧ js = ns ∧ l = 0) := by
  unfold makT at h
  split at h
  · cases h; exact .inr ⟨by decide, rfl, rfl⟩
  rename_i c1
  split at h
  · rename_i c2
    cases h; exact .inr ⟨c2, rfl, rfl⟩
  rename_i c2
  have hf : formedF ns.length n = true := by simpa using c1
  obtain ⟨M, hs⟩ : ∃ M, sortedF ns n = (M, 0) := ⟨(sortedF ns n).1, by rw [Prod.ext_iff]; exact ⟨rfl, by simpa using c2⟩⟩
  rw [hs] at h
  simp only at h
  split at h
  · rename_i i hi
    cases h
    exact .inl ⟨rfl, M, i, ⟨hf, hs, hi⟩, rfl, [], by simp⟩
  · rename_i hi
    split at h
    · cases h; exact .inr ⟨by decide, rfl, rfl⟩
    · cases h
      refine .inl ⟨rfl, M, ns.length, ⟨formed_more (by rw [List.length_append]; omega) hf, ?_, ?_⟩, rfl, [M], rfl⟩
      · by_cases c3 : n.op = 2
        · obtain ⟨v1, v2, -⟩ := var_new hv hf c3 (by rw [hs]) (by rw [hs]; exact hi)
          have hM : M = n := (sorted_op hs).2 c3
          have hx : vidx (ns ++ [M]) n.name = some ns.length := by rw [vidx_append, v1, hM]; simp [c3]
          unfold sortedF at hs ⊢
          have c1 : ¬ n.op = 1 := by omega
          rw [if_neg c1, if_pos c3] at hs ⊢
          have h2 := congrArg Prod.snd hs
          simp only at h2
          split at h2
          rotate_left
          · cases h2
          rename_i hc
          cases hb : nameBad ns n with
          | true => rw [hb] at h2; cases h2
          | false =>
            have hb2 : nameBad (ns ++ [M]) n = false := by
              unfold nameBad at hb ⊢
              rw [v1] at hb
              rw [hx, hM]
              simp only [List.getD_eq_getElem?_getD, List.getElem?_append_right (Nat.le_refl _)]
              simpa using hb
            rw [if_pos hc, hb2, hM]; rfl
        · exact sorted_more hf hs (fun h => absurd h c3)
      · rw [idx_append, hi]; simp
end Go.Proofs.Ytiobohfiaapgeaa
end
section
namespace Go.Proofs.Ytiobohfiaapgeaa
def NL (l : List Nd) : AV := .lst 11 l.length (flat l)
theorem GvT.go {H : AHeap} {g : Nat} {most : Int} {F : List Nat} {ns js : List Nd} {n : Nd} {l e : Int} (G : GT H g most ns F) (hx : makT most ns n = (js, l, e)) {r : Option (AV × AHeap)} (h : R Zi [.ptr g 0, .agg n.cs] H = r) :
    ∃ H' F', r = some (.tup [.int .i64 l, .int .i64 e], H') ∧ GT H' g most js F' ∧ MvT F H F' H' := by
  have := mk_run G h
  rw [hx] at this
  exact this
end Go.Proofs.Ytiobohfiaapgeaa
end
section
namespace Go.Proofs.Ytiobohfiaapgeaa
set_option maxRecDepth 100000
set_option maxHeartbeats 4000000
theorem marks_set {v : List Bool} {j : Nat} : (v.map AV.bool).set j (.bool true) = (v.set j true).map AV.bool := by rw [List.map_set]
theorem marks_at {v : List Bool} {j : Nat} (hj : j < v.length) : (v.map AV.bool)[j]? = some (.bool (v.getD j false)) := by simp [List.getD_eq_getElem?_getD, hj]
def mark1T (ns : List Nd) (n : Nat) (v : List Bool) : List Bool :=
  if v.getD (n + 1) false then ((v.set (ns.getD n Nd.zero).a.toNat true).set (ns.getD n Nd.zero).b.toNat true).set (ns.getD n Nd.zero).c.toNat true else v
def markT (ns : List Nd) : Nat → List Bool → List Bool
  | 0, v => v
  | n + 1, v => markT ns n (mark1T ns n v)
theorem mark1T_len (ns : List Nd) (n : Nat) (v : List Bool) : (mark1T ns n v).length = v.length := by unfold mark1T; split <;> simp
theorem markT_len (ns : List Nd) : ∀ (n : Nat) (v : List Bool), (markT ns n v).length = v.length
  | 0, _ => rfl
  | n + 1, v => by rw [markT, markT_len, mark1T_len]
def outT (v : List Bool) (i : Nat) : List Int := ((List.range i).filter fun n => decide (1 ≤ n) && v.getD n false).map fun (n : Nat) => (n : Int)
theorem outT_one (v : List Bool) : outT v 1 = [] := by simp [outT, List.range_succ]
theorem outT_succ (v : List Bool) {i : Nat} (hi : 1 ≤ i) : outT v (i + 1) = outT v i ++ (if v.getD i false = true then [(i : Int)] else []) := by
  simp only [outT, List.range_succ, List.filter_append, List.map_append]
  congr 1
  have e : decide (1 ≤ i) = true := by simpa using hi
  simp only [List.filter_cons, e, Bool.true_and]
  split <;> simp
theorem outT_len (v : List Bool) (i : Nat) : (outT v i).length ≤ i := by
  unfold outT
  rw [List.length_map]
  exact Nat.le_trans (List.length_filter_le _ _) (by simp)
def coneM (ns : List Nd) (n : Nat) : List Bool := markT ns n ((List.replicate (n + 1) false).set n true)
def coneT (ns : List Nd) (id : Int) : List Int := if id < 1 ∨ (ns.length : Int) < id then [] else outT (coneM ns id.toNat) (id.toNat + 1)
theorem tcone_loop0 {H0 H : AHeap} {g : Nat} {most : Int} {ns : List Nd} {o1 o2 o3 : Nat} (t : TG H0 g most ns o1 o2 o3) (kok : Kok ns) {e : Env} {r : Rn} (hL : loopL Try.prog KT R Zb5 e H = r)
    (k0 : Keeps H0 H) (z : H0.size < H.size) {n len : Nat} {v : List Bool} (hl : v.length = len) (hn : n < len) (hnk : n ≤ ns.length) (hv : H.obj H0.size = .cells (v.map .bool))
    (e0 : e 0 = some (.ptr g 0)) (e5 : e 5 = some (.row H0.size 0 1 len true)) (e6 : e 6 = some (.int .i64 0)) (e7 : e 7 = some (.int .i64 n)) :
    ∃ x e' H', r = some (x, e', H') ∧ (x = .exit 0 ∧ Keeps H0 H' ∧ H0.size < H'.size ∧ H'.obj H0.size = .cells ((markT ns n v).map .bool) ∧ ∃ c : Nat, c ≤ n ∧ e' 6 = some (.int .i64 c)) ∧ ∀ t, t ∉ defs Zb5 → e' t = e t := by
  have lim := t.lim
  have lim2 := t.lim2
  refine loop_rule Zb5.eq_1 hL (fun i e1 H1 => ∃ v1 : List Bool, ∃ c : Nat, i < len ∧ i ≤ ns.length ∧ v1.length = len ∧ e1 7 = some (.int .i64 i) ∧ e1 6 = some (.int .i64 c) ∧ c + i ≤ n ∧ Keeps H0 H1 ∧ H0.size < H1.size ∧ H1.obj H0.size = .cells (v1.map .bool) ∧ markT ns i v1 = markT ns n v) _ n ⟨v, 0, hn, hnk, hl, e7, e6, by omega, k0, z, hv, rfl⟩ ?_
  rintro i e1 H1 hf ⟨v1, c, hi, hik, hl1, f7, f6, hci, k1, z1, ho, hmk⟩
  cases i with
  | zero =>
    simp [f7]
    exact ⟨k1, z1, by rw [ho, ← hmk]; rfl, c, by omega, f6⟩
  | succ i =>
    have hik' : i < ns.length := hik
    have hne : ns ≠ [] := by rintro rfl; simp at hik'
    obtain ⟨m, hm⟩ : ∃ m, ns[i]? = some m := ⟨ns[i], List.getElem?_eq_getElem hik'⟩
    have hg : ns.getD i Nd.zero = m := by simp [List.getD_eq_getElem?_getD, hm]
    obtain ⟨⟨a0, a1⟩, ⟨b0, b1⟩, ⟨d0, d1⟩⟩ := kok i m hm
    have hself : ∀ H', Keeps H0 H' → H'.obj g = .cells [.int .i64 most, .row o1 0 11 ns.length false, .map o2, .map o3] := fun H' k => ((k.obj g t.lg).trans t.og).trans (by rw [slv_row hik'])
    have hb1 : ∀ H2, Keeps H0 H2 → H2.obj o1 = .cells (flat ns) := fun H2 k => (k.obj _ (t.l1 hne)).trans (t.b1 hne)
    have hat := flat_at hm
    have hfl := flat_len ns
    have hle2 : i * 11 + 11 ≤ ns.length * 11 := by omega
    have w1 : IntKind.i64.wrap (i : Int) = (i : Int) := i64w (by omega) (by omega)
    have w2 : IntKind.i64.wrap ((c : Int) + 1) = (c : Int) + 1 := i64w (by omega) (by omega)
    have z2 : H0.size ≤ H1.size := Nat.le_of_lt z1
    have c1 : ¬ ((i : Int) + 1 ≤ 0) := by omega
    have c2 : (i : Int) + 1 < len := by omega
    have c3 : (i : Int) < ns.length := by omega
    have t1 : ((i : Int) + 1).toNat = i + 1 := by omega
    have p1 : (0 : Int) < (i : Int) + 1 := by omega
    have mk := marks_at (v := v1) (j := i + 1) (by omega)
    rw [markT] at hmk
    cases hx : v1.getD (i + 1) false with
    | false =>
      rw [hx] at mk
      rw [mark1T, hx] at hmk
      simp (maxDischargeDepth := 20) [hf, f6, f7, e5, w1, z1, k1, c2, t1, p1, ho, mk]
      exact ⟨i, by omega, by omega, by omega, v1, hl1, rfl, c, rfl, by omega, rfl, by simpa using hmk⟩
    | true =>
      rw [hx] at mk
      rw [mark1T, hx, hg] at hmk
      obtain ⟨op, sort, a, b, d, p, q, vw, vl, vh, name⟩ := m
      simp only at a0 a1 b0 b1 d0 d1 hmk
      simp only [Nd.cs] at hat
      obtain ⟨a, rfl⟩ := Int.eq_ofNat_of_zero_le a0
      obtain ⟨b, rfl⟩ := Int.eq_ofNat_of_zero_le b0
      obtain ⟨d, rfl⟩ := Int.eq_ofNat_of_zero_le d0
      have q4 : (a : Int) < (len : Int) := by omega
      have q5 : (b : Int) < (len : Int) := by omega
      have q6 : (d : Int) < (len : Int) := by omega
      have q7 : a < v1.length := by omega
      have q8 : b < v1.length := by omega
      have q9 : d < v1.length := by omega
      have n4 : a < len := by omega
      have n5 : b < len := by omega
      have n6 : d < len := by omega
      simp (maxDischargeDepth := 20) [-List.map_set, hf, f6, f7, e0, e5, hself, hb1, hat, hfl, hle2, w1, w2, z1, z2, k1, c2, c3, t1, p1, ho, mk, q4, q5, q6, n4, n5, n6, marks_set, hl1]
      exact ⟨i, by omega, by omega, by omega, _, by simp [hl1], rfl, c + 1, by omega, by omega, rfl, by simpa using hmk⟩
theorem OutT.push2 {H0 H : AHeap} {v : AV} {l : List Int} (h : OutT H0 H v l) (hob : ∀ p, p ∈ objs v → H0.size < p) (k : Keeps H0 H) (z : H0.size < H.size) {a : Int} (hl : l.length ≤ 1000000) {r : Option (AV × AHeap)}
    (hA : appU (H.new (.cells [.int .i64 a])) v (.row H.size 0 1 1 true) (some (1, 8, [.int .i64 0])) = r) :
    ∃ v' H', r = some (v', H') ∧ OutT H0 H' v' (l ++ [a]) ∧ Keeps H0 H' ∧ (∀ p, p ∈ objs v' → H0.size < p) ∧ H0.size < H'.size ∧ H'.obj H0.size = H.obj H0.size := by
  obtain ⟨H1, rfl, f1, s1, o1, rd⟩ := app_of hA (h.rd.keep (by simp)) h.gr (Reads.row' (all := [.int .i64 a]) (by simp) (by simp) (by simp)) (by omega) rfl (by omega) (by omega) (by omega) (by simp)
  simp only [new_size] at s1
  have := k.size
  refine ⟨_, H1, rfl, ⟨by simpa [RI] using rd, by simp, by simp; omega⟩, f1.keeps (by simp [k]) (fun p hp => h.new p hp), by simp; omega, by omega, ?_⟩
  rw [f1.obj _ (by simp; omega) (fun hh => by have := hob _ hh; omega)]
  simp
  intro e; omega
theorem tcone_loop1 {H0 : AHeap} {len : Nat} {v : List Bool} (hlv : v.length = len) (h1 : 1 ≤ len) (hm : len ≤ 1000000)
    {e : Env} {H : AHeap} {r : Rn} (hL : loopL Try.prog KT R Zb6 e H = r) (k0 : Keeps H0 H) (z : H0.size < H.size) (hv : H.obj H0.size = .cells (v.map .bool)) {w0 : AV} (hw0 : OutT H0 H w0 []) (hw1 : ∀ p, p ∈ objs w0 → H0.size < p)
    (e1' : e 1 = some (.int .i64 ((len : Int) - 1))) (e5 : e 5 = some (.row H0.size 0 1 len true)) (e9 : e 9 = some w0) (e10 : e 10 = some (.int .i64 1)) :
    ∃ x e' H', r = some (x, e', H') ∧ (x = .exit 2 ∧ Keeps H0 H' ∧ ∃ w, e' 9 = some w ∧ OutT H0 H' w (outT v len)) ∧ ∀ t, t ∉ defs Zb6 → e' t = e t := by
  refine loop_count Zb6.eq_1 hL len (fun i e1 H1 => ∃ w, e1 9 = some w ∧ e1 10 = some (.int .i64 i) ∧ Keeps H0 H1 ∧ H0.size < H1.size ∧ H1.obj H0.size = .cells (v.map .bool) ∧ (∀ p, p ∈ objs w → H0.size < p) ∧ OutT H0 H1 w (outT v i)) _ 1 h1
    ⟨w0, e9, e10, k0, z, hv, hw1, by rw [outT_one]; exact hw0⟩ ?_ ?_
  · rintro i e1 H1 hf hi1 hi ⟨w, f9, f10, k1, z1, ho, hob, hout⟩
    have w1 : IntKind.i64.wrap ((i : Int) + 1) = (i : Int) + 1 := i64w (by omega) (by omega)
    have c2 : (i : Int) < len := by omega
    have c3 : (i : Int) ≤ (len : Int) - 1 := by omega
    have c4 : ¬ (len : Int) - 1 < (i : Int) := by omega
    have mk := marks_at (v := v) (j := i) (by omega)
    have hlo := outT_len v i
    rw [outT_succ v hi1]
    cases hx : v.getD i false with
    | false =>
      rw [hx] at mk
      simp (maxDischargeDepth := 20) [hf, f9, f10, e1', e5, c2, c3, w1, ho, mk, k1, z1]
      exact ⟨hob, hout⟩
    | true =>
      rw [hx] at mk
      simp (maxDischargeDepth := 20) [hf, f9, f10, e1', e5, c2, c3, ho, mk]
      generalize hA : appU _ _ _ _ = q
      obtain ⟨w', H2, rfl, h2, k2, b2, z2, o2⟩ := hout.push2 hob k1 z1 (by omega) hA
      simp [f10, w1, k2, z2, o2, ho]
      exact ⟨b2, h2⟩
  · rintro e1 H1 hf ⟨w, f9, f10, k1, z1, ho, hob, hout⟩
    have c3 : ¬ (len : Int) ≤ (len : Int) - 1 := by omega
    have c4 : (len : Int) - 1 < (len : Int) := by omega
    simp [hf, e1', f9, f10, c3]
    exact ⟨k1, hout⟩
end Go.Proofs.Ytiobohfiaapgeaa
end
section
namespace Go.Proofs.Ytiobohfiaapgeaa
set_option maxRecDepth 100000
def kidIn (m : Nd) (i : Nat) : Bool := decide (i = m.a.toNat) || (decide (i = m.b.toNat) || decide (i = m.c.toNat))
def mk1P (ns : List Nd) (n : Nat) (f : Nat → Bool) (i : Nat) : Bool := f i || (f (n + 1) && kidIn (ns.getD n Nd.zero) i)
def mkP (ns : List Nd) : Nat → (Nat → Bool) → Nat → Bool
  | 0, f => f
  | n + 1, f => mkP ns n (mk1P ns n f)
theorem set_getD {v : List Bool} {j i : Nat} (hi : i < v.length) : (v.set j true).getD i false = (v.getD i false || decide (i = j)) := by
  rw [List.getD_eq_getElem?_getD, List.getD_eq_getElem?_getD, List.getElem?_set]
  by_cases h : j = i
  · subst h; simp [hi]
  · have : ¬ i = j := fun e => h e.symm
    simp [h, this]
theorem mark1T_at {ns : List Nd} {n i : Nat} {v : List Bool} (hi : i < v.length) : (mark1T ns n v).getD i false = (v.getD i false || (v.getD (n + 1) false && kidIn (ns.getD n Nd.zero) i)) := by
  unfold mark1T kidIn
  split
  · rename_i h
    rw [set_getD (by simpa using hi), set_getD (by simpa using hi), set_getD hi, h, Bool.true_and, Bool.or_assoc, Bool.or_assoc]
  · rename_i h
    rw [Bool.eq_false_iff.2 h, Bool.false_and, Bool.or_false]
theorem markT_at {ns : List Nd} : ∀ {n : Nat} {v : List Bool} {f : Nat → Bool}, n < v.length → (∀ i, i < v.length → v.getD i false = f i) → ∀ i, i < v.length → (markT ns n v).getD i false = mkP ns n f i
  | 0, v, f, _, h, i, hi => h i hi
  | n + 1, v, f, hn, h, i, hi => by
    rw [markT, mkP]
    refine markT_at (by rw [mark1T_len]; omega) (fun j hj => ?_) i (by rw [mark1T_len]; exact hi)
    rw [mark1T_len] at hj
    rw [mark1T_at hj, mk1P, h j hj, h (n + 1) hn]
theorem mkP_or {ns : List Nd} : ∀ {n : Nat} {f g : Nat → Bool}, mkP ns n (fun i => f i || g i) = fun i => mkP ns n f i || mkP ns n g i
  | 0, _, _ => rfl
  | n + 1, f, g => by
    have : mk1P ns n (fun i => f i || g i) = fun i => mk1P ns n f i || mk1P ns n g i := by
      funext i
      simp only [mk1P]
      cases f i <;> cases g i <;> cases f (n + 1) <;> cases g (n + 1) <;> cases kidIn (ns.getD n Nd.zero) i <;> rfl
    rw [mkP, this, mkP_or]; rfl
theorem mkP_skip {ns : List Nd} {a : Nat} {f : Nat → Bool} : ∀ {n : Nat}, a ≤ n → (∀ j, a < j → j ≤ n → f j = false) → mkP ns n f = mkP ns a f
  | 0, h, _ => by have : a = 0 := by omega
                  rw [this]
  | n + 1, h, hf => by
    by_cases e : a = n + 1
    · rw [e]
    · have : mk1P ns n f = f := by funext i; unfold mk1P; rw [hf (n + 1) (by omega) (Nat.le_refl _)]; simp
      rw [mkP, this]
      exact mkP_skip (by omega) fun j h1 h2 => hf j h1 (by omega)
def cP (ns : List Nd) (n : Nat) : Nat → Bool := mkP ns n fun i => decide (i = n)
theorem cP_zero (ns : List Nd) (i : Nat) : cP ns 0 i = decide (i = 0) := rfl
theorem cP_succ {ns : List Nd} {n : Nat} {m : Nd} (hm : ns[n]? = some m) (ha : m.a.toNat ≤ n) (hb : m.b.toNat ≤ n) (hc : m.c.toNat ≤ n) (i : Nat) : cP ns (n + 1) i = (decide (i = n + 1) || (cP ns m.a.toNat i || (cP ns m.b.toNat i || cP ns m.c.toNat i))) := by
  have hg : ns.getD n Nd.zero = m := by simp [List.getD_eq_getElem?_getD, hm]
  have e1 : mk1P ns n (fun i => decide (i = n + 1)) = fun i => decide (i = n + 1) || (decide (i = m.a.toNat) || (decide (i = m.b.toNat) || decide (i = m.c.toNat))) := by
    funext i
    unfold mk1P kidIn
    rw [hg]; simp
  have e2 : mkP ns n (fun i => decide (i = n + 1)) = fun i => decide (i = n + 1) := mkP_skip (a := 0) (by omega) fun j h1 h2 => by simp; omega
  have K : ∀ k, k ≤ n → mkP ns n (fun i => decide (i = k)) = cP ns k := fun k hk => mkP_skip hk fun j h1 h2 => by simp; omega
  show mkP ns n (mk1P ns n fun i => decide (i = n + 1)) i = _
  rw [e1, mkP_or, mkP_or, mkP_or, e2, K _ ha, K _ hb, K _ hc]
theorem cP_high {ns : List Nd} (kok : Kok ns) : ∀ (n : Nat), n ≤ ns.length → ∀ i, n < i → cP ns n i = false := by
  intro n
  induction n using Nat.strongRecOn with
  | ind n ih =>
    intro hn i hi
    cases n with
    | zero => rw [cP_zero]; simp; omega
    | succ n =>
      obtain ⟨m, hm⟩ : ∃ m, ns[n]? = some m := ⟨ns[n], List.getElem?_eq_getElem hn⟩
      obtain ⟨⟨a0, a1⟩, ⟨b0, b1⟩, ⟨d0, d1⟩⟩ := kok n m hm
      rw [cP_succ hm (by omega) (by omega) (by omega), ih m.a.toNat (by omega) (by omega) i (by omega), ih m.b.toNat (by omega) (by omega) i (by omega), ih m.c.toNat (by omega) (by omega) i (by omega)]
      simp; omega
theorem coneM_at {ns : List Nd} {n i : Nat} (hi : i ≤ n) : (coneM ns n).getD i false = cP ns n i := by
  unfold coneM cP
  refine markT_at (by simp) (fun j hj => ?_) i (by simp; omega)
  rw [set_getD (by simpa using hj)]
  have : (List.replicate (n + 1) false).getD j false = false := by
    rw [List.getD_eq_getElem?_getD]; simp [List.getElem?_replicate]; split <;> rfl
  rw [this]; simp
theorem mem_outT {v : List Bool} {i j : Nat} : (j : Int) ∈ outT v i ↔ 1 ≤ j ∧ j < i ∧ v.getD j false = true := by
  unfold outT
  simp only [List.mem_map, List.mem_filter, List.mem_range, Bool.and_eq_true, decide_eq_true_eq]
  constructor
  · rintro ⟨k, ⟨h1, h2, h3⟩, h4⟩
    have : k = j := by omega
    subst this
    exact ⟨h2, h1, h3⟩
  · rintro ⟨h1, h2, h3⟩
    exact ⟨j, ⟨h2, h1, h3⟩, rfl⟩
theorem mem_cone {ns : List Nd} (kok : Kok ns) {a : Int} (h0 : 0 ≤ a) (h1 : a ≤ ns.length) {j : Nat} (hj : 1 ≤ j) : (j : Int) ∈ coneT ns a ↔ cP ns a.toNat j = true := by
  obtain ⟨n, rfl⟩ := Int.eq_ofNat_of_zero_le h0
  have hn : n ≤ ns.length := by omega
  simp only [Int.toNat_natCast]
  unfold coneT
  by_cases c : n = 0
  · subst c
    rw [if_pos (.inl (by simp)), cP_zero]
    simp; omega
  · rw [if_neg (by omega), Int.toNat_natCast, mem_outT]
    constructor
    · rintro ⟨-, h2, h3⟩
      rwa [coneM_at (by omega)] at h3
    · intro h
      by_cases c2 : j ≤ n
      · exact ⟨hj, by omega, by rw [coneM_at c2]; exact h⟩
      · rw [cP_high kok n hn j (by omega)] at h; cases h
theorem cone_mem {ns : List Nd} {a x : Int} (h : x ∈ coneT ns a) : ∃ j : Nat, x = j ∧ 1 ≤ j ∧ j ≤ ns.length := by
  unfold coneT at h
  split at h
  · cases h
  · rename_i c
    unfold outT at h
    simp only [List.mem_map, List.mem_filter, List.mem_range, Bool.and_eq_true, decide_eq_true_eq] at h
    obtain ⟨k, ⟨h1, h2, -⟩, rfl⟩ := h
    exact ⟨k, rfl, h2, by omega⟩
end Go.Proofs.Ytiobohfiaapgeaa
end
section
namespace Go.Proofs.Ytiobohfiaapgeaa
set_option maxRecDepth 100000
set_option maxHeartbeats 2000000
structure Gok (ns : List Nd) : Prop where
  kok : Kok ns
  vok : Vok ns
  form : ∀ n, n ∈ ns → formedF ns.length n = true
  srt : ∀ n, n ∈ ns → sortedF ns n = (n, 0)
  uniq : ∀ i n, ns[i]? = some n → n.op = 2 → vidx ns n.name = some i
theorem Gok.nil : Gok [] := ⟨fun i n h => by simp at h, fun n h => by simp at h, fun n h => by simp at h, fun n h => by simp at h, fun i n h => by simp at h⟩
theorem vidx_more' {ns : List Nd} {M : Nd} {i : Nat} {s : ByteArray} (h : vidx ns s = some i) : vidx (ns ++ [M]) s = some i := vidx_more h
theorem sorted_self {ns : List Nd} {n M : Nd} (h : sortedF ns n = (M, 0)) : sortedF ns M = (M, 0) ∧ ∀ N, formedF N M = formedF N n := by
  by_cases c1 : n.op = 1
  · have : (sortedF ns n).1 = n := by unfold sortedF; rw [if_pos c1]
    have e : M = n := by rw [h] at this; exact this
    subst e
    exact ⟨h, fun _ => rfl⟩
  by_cases c2 : n.op = 2
  · have : (sortedF ns n).1 = n := by unfold sortedF; rw [if_neg c1, if_pos c2]
    have e : M = n := by rw [h] at this; exact this
    subst e
    exact ⟨h, fun _ => rfl⟩
  · unfold sortedF at h
    rw [if_neg c1, if_neg c2] at h
    have e := congrArg Prod.fst h
    have e2 := congrArg Prod.snd h
    simp only at e e2
    subst e
    refine ⟨?_, fun _ => rfl⟩
    unfold sortedF
    simp only [c1, c2, if_false]
    rw [e2]
theorem sorted_zero {ns : List Nd} {n : Nd} (h : (sortedF ns n).2 = 0) : sortedF ns n = ((sortedF ns n).1, 0) := by rw [← h]
theorem Gok.make {most : Int} {ns : List Nd} {n : Nd} (g : Gok ns) : Gok (makT most ns n).1 := by
  unfold makT
  split
  · exact g
  rename_i h1
  split
  · exact g
  rename_i h2
  have hf : formedF ns.length n = true := by simpa using h1
  have hs : (sortedF ns n).2 = 0 := by simpa using h2
  split
  · exact g
  rename_i hi
  split
  · exact g
  have hss := sorted_zero hs
  generalize hM : (sortedF ns n).1 = M at *
  obtain ⟨s1, s2⟩ := sorted_self hss
  have fM : formedF ns.length M = true := by rw [s2]; exact hf
  obtain ⟨k1, k2, k3⟩ := formed_kids fM
  obtain ⟨k4, k5, k6⟩ := formed_kids0 fM
  have ho := sorted_op hss
  have hv2 : M.op = 2 → vidx ns M.name = none ∧ M = n ∧ M = ⟨2, M.sort, 0, 0, 0, 0, 0, 0, 0#64, 0#64, M.name⟩ := fun h => by
    have e := ho.2 (ho.1 ▸ h)
    have := var_new g.vok hf (ho.1 ▸ h) hs (by rw [hM]; exact hi)
    rw [← e] at this
    exact ⟨this.1, e, this.2.2⟩
  refine ⟨g.kok.grow ⟨⟨k4, k1⟩, ⟨k5, k2⟩, ⟨k6, k3⟩⟩, ?_, ?_, ?_, ?_⟩
  · intro m hm hm2
    rcases List.mem_append.1 hm with h | h
    · exact g.vok m h hm2
    · simp at h
      subst h
      exact (hv2 hm2).2.2
  · intro m hm
    rcases List.mem_append.1 hm with h | h
    · exact formed_more (by rw [List.length_append]; omega) (g.form m h)
    · simp at h
      subst h
      exact formed_more (by rw [List.length_append]; omega) fM
  · intro m hm
    rcases List.mem_append.1 hm with h | h
    · exact sorted_more (g.form m h) (g.srt m h) fun h2 => vidx_of_mem h h2
    · simp at h
      subst h
      by_cases c2 : m.op = 2
      · obtain ⟨v1, v2, v3⟩ := hv2 c2
        have c1 : ¬ m.op = 1 := by omega
        unfold sortedF at s1 ⊢
        rw [if_neg c1, if_pos c2] at s1 ⊢
        have e2 := congrArg Prod.snd s1
        simp only at e2
        split at e2
        rotate_left
        · cases e2
        rename_i hc
        rw [if_pos hc]
        cases hb : nameBad ns m with
        | true => rw [hb] at e2; cases e2
        | false =>
          unfold nameBad at hb ⊢
          rw [v1] at hb
          rw [vidx_append, v1]
          simp only [Bool.or_eq_false_iff] at hb
          simp [c2, hb.1]
      · exact sorted_more fM s1 fun h2 => absurd h2 c2
  · intro i m hm hm2
    by_cases c : i < ns.length
    · rw [List.getElem?_append_left c] at hm
      exact vidx_more' (g.uniq i m hm hm2)
    · have hl := (List.getElem?_eq_some_iff.1 hm).1
      rw [List.length_append, List.length_singleton] at hl
      have e : i = ns.length := by omega
      subst e
      rw [List.getElem?_append_right (Nat.le_refl _), Nat.sub_self] at hm
      simp at hm
      subst hm
      rw [vidx_append, (hv2 hm2).1]
      simp [hm2]
def Nd.v (n : Nd) : Vl := ⟨n.vw, mkN n.vl n.vh⟩
def pick (acc : List Vl) (k : Int) : Vl := if k ≤ 0 then Vl.zero else acc.getD (k - 1).toNat Vl.zero
def kidsV (acc : List Vl) (n : Nd) : List Vl := [pick acc n.a, pick acc n.b, pick acc n.c].take (arity n.op).toNat
def nodeV (look : ByteArray → Option Vl) (acc : List Vl) (n : Nd) : Vl :=
  if n.op = 1 then n.v else if n.op = 2 then (look n.name).getD Vl.zero else meanV n.op n.p n.q (kidsV acc n)
def valsV (look : ByteArray → Option Vl) (ns : List Nd) : List Vl := ns.foldl (fun acc n => acc ++ [nodeV look acc n]) []
theorem valsV_append (look : ByteArray → Option Vl) (ns : List Nd) (n : Nd) : valsV look (ns ++ [n]) = valsV look ns ++ [nodeV look (valsV look ns) n] := by simp [valsV]
theorem valsV_more (look : ByteArray → Option Vl) (ns : List Nd) : ∀ ks : List Nd, ∃ t, valsV look (ns ++ ks) = valsV look ns ++ t := by
  intro ks
  induction ks generalizing ns with
  | nil => exact ⟨[], by simp⟩
  | cons k ks ih =>
    obtain ⟨t, ht⟩ := ih (ns ++ [k])
    rw [List.append_assoc] at ht
    exact ⟨_, by rw [show ns ++ k :: ks = ns ++ ([k] ++ ks) from rfl, ht, valsV_append, List.append_assoc]⟩
theorem valsV_len (look : ByteArray → Option Vl) : ∀ ns : List Nd, (valsV look ns).length = ns.length := by
  suffices h : ∀ (ns : List Nd) (acc : List Vl), (ns.foldl (fun acc n => acc ++ [nodeV look acc n]) acc).length = acc.length + ns.length from fun ns => by have := h ns []; simpa [valsV] using this
  intro ns
  induction ns with
  | nil => intro acc; rfl
  | cons n ns ih => intro acc; rw [List.foldl_cons, ih]; simp; omega
theorem pick_more {acc t : List Vl} {k : Int} (h : k ≤ acc.length) : pick (acc ++ t) k = pick acc k := by
  unfold pick
  split
  · rfl
  · rename_i c
    rw [List.getD_eq_getElem?_getD, List.getD_eq_getElem?_getD, List.getElem?_append_left (by omega)]
theorem nodeV_more {look : ByteArray → Option Vl} {acc t : List Vl} {n : Nd} (ha : n.a ≤ acc.length) (hb : n.b ≤ acc.length) (hc : n.c ≤ acc.length) : nodeV look (acc ++ t) n = nodeV look acc n ∧ kidsV (acc ++ t) n = kidsV acc n := by
  have : kidsV (acc ++ t) n = kidsV acc n := by unfold kidsV; rw [pick_more ha, pick_more hb, pick_more hc]
  exact ⟨by unfold nodeV; rw [this], this⟩
def V (look : ByteArray → Option Vl) (ns : List Nd) (k : Int) : Vl := pick (valsV look ns) k
theorem V_zero (look : ByteArray → Option Vl) (ns : List Nd) {k : Int} (h : k ≤ 0) : V look ns k = Vl.zero := by unfold V pick; rw [if_pos h]
theorem V_more {look : ByteArray → Option Vl} {ns ks : List Nd} {k : Int} (h : k ≤ ns.length) : V look (ns ++ ks) k = V look ns k := by
  obtain ⟨t, ht⟩ := valsV_more look ns ks
  unfold V
  rw [ht, pick_more (by rw [valsV_len]; exact h)]
theorem V_node {look : ByteArray → Option Vl} {ns : List Nd} (kok : Kok ns) {i : Nat} {n : Nd} (hn : ns[i]? = some n) : V look ns ((i : Int) + 1) = nodeV look (valsV look ns) n := by
  have hi := (List.getElem?_eq_some_iff.1 hn).1
  obtain ⟨⟨a0, a1⟩, ⟨b0, b1⟩, ⟨d0, d1⟩⟩ := kok i n hn
  have e : ns = ns.take i ++ ([n] ++ ns.drop (i + 1)) := by
    rw [← List.append_assoc]
    have : ns.take i ++ [n] = ns.take (i + 1) := by rw [List.take_add_one, hn]; rfl
    rw [this, List.take_append_drop]
  have hl : (ns.take i).length = i := by simp; omega
  obtain ⟨t, ht⟩ := valsV_more look (ns.take i) ([n] ++ ns.drop (i + 1))
  have e1 : valsV look ns = valsV look (ns.take i) ++ t := by rw [← ht, ← e]
  have hvl : (valsV look (ns.take i)).length = i := by rw [valsV_len, hl]
  rw [e1, (nodeV_more (by rw [hvl]; exact a1) (by rw [hvl]; exact b1) (by rw [hvl]; exact d1)).1]
  obtain ⟨t2, ht2⟩ := valsV_more look (ns.take i ++ [n]) (ns.drop (i + 1))
  rw [List.append_assoc, ← e, valsV_append] at ht2
  unfold V pick
  rw [if_neg (by omega), ht2, show ((i : Int) + 1 - 1).toNat = i from by omega, List.getD_eq_getElem?_getD, List.getElem?_append_left (by simp; omega), List.getElem?_append_right (by omega), hvl, Nat.sub_self]
  rfl
def varFit (look : ByteArray → Option Vl) (n : Nd) : Bool := match look n.name with
  | some v => v.ok && decide (v.w = n.sort)
  | none => false
def Cl (ns : List Nd) (S : Nat → Prop) : Prop := ∀ i n, S i → ns[i]? = some n → ∀ k, (k = n.a ∨ k = n.b ∨ k = n.c) → 0 < k → S (k - 1).toNat
theorem ksort_pos {ns : List Nd} {k : Int} (h : 0 < k) {m : Nd} (hm : ns[(k - 1).toNat]? = some m) : ksort ns k = [m.sort] := by
  unfold ksort
  rw [if_pos h, List.getD_eq_getElem?_getD, hm]; rfl
theorem ksort_none {ns : List Nd} {k : Int} (h : k = 0) : ksort ns k = [] := by unfold ksort; rw [if_neg (by omega)]
theorem kids_list {ns : List Nd} {n : Nd} (hf : formedF ns.length n = true) (h3 : ¬ n.op = 1) (h2 : ¬ n.op = 2) (acc : List Vl) (hk : ∀ k, (k = n.a ∨ k = n.b ∨ k = n.c) → 0 < k → ∃ m, ns[(k - 1).toNat]? = some m ∧ (pick acc k).ok = true ∧ (pick acc k).w = m.sort) :
    (kidsV acc n).map Vl.w = ksort ns n.a ++ ksort ns n.b ++ ksort ns n.c ∧ ∀ v, v ∈ kidsV acc n → v.ok = true := by
  unfold formedF at hf
  simp only [kidsOK, Bool.and_eq_true, decide_eq_true_eq] at hf
  obtain ⟨⟨f1, f2, f3, -⟩, ⟨f4, -⟩, -⟩ := hf
  have K : ∀ k : Int, (k = n.a ∨ k = n.b ∨ k = n.c) → 1 ≤ k → ksort ns k = [(pick acc k).w] ∧ (pick acc k).ok = true := fun k h1 h2 => by
    obtain ⟨m, m1, m2, m3⟩ := hk k h1 (by omega)
    exact ⟨by rw [ksort_pos (by omega) m1, m3], m2⟩
  have har : arity n.op = 1 ∨ arity n.op = 2 ∨ arity n.op = 3 := by
    have h0 := arity_le n.op
    have : ¬ arity n.op = 0 := by
      unfold arity
      split
      · omega
      · split
        · omega
        · split
          · omega
          · split <;> omega
    omega
  unfold kidOK at f1 f2 f3
  unfold kidsV
  rcases har with h | h | h <;> rw [h] at f1 f2 f3 ⊢ <;> simp at f1 f2 f3
  · obtain ⟨q1, q2⟩ := K n.a (.inl rfl) f1.1
    rw [q1, ksort_none f2, ksort_none f3]
    simp [q2]
  · obtain ⟨q1, q2⟩ := K n.a (.inl rfl) f1.1
    obtain ⟨q3, q4⟩ := K n.b (.inr (.inl rfl)) f2.1
    rw [q1, q3, ksort_none f3]
    simp [q2, q4]
  · obtain ⟨q1, q2⟩ := K n.a (.inl rfl) f1.1
    obtain ⟨q3, q4⟩ := K n.b (.inr (.inl rfl)) f2.1
    obtain ⟨q5, q6⟩ := K n.c (.inr (.inr rfl)) f3.1
    rw [q1, q3, q5]
    simp [q2, q4, q6]
theorem val_good {look : ByteArray → Option Vl} {ns : List Nd} (g : Gok ns) {S : Nat → Prop} (hc : Cl ns S) (hv : ∀ i n, S i → ns[i]? = some n → n.op = 2 → varFit look n = true) : ∀ (i : Nat) (n : Nd), S i → ns[i]? = some n →
    (V look ns ((i : Int) + 1)).ok = true ∧ (V look ns ((i : Int) + 1)).w = n.sort ∧ (¬ n.op = 1 → ¬ n.op = 2 → Fit n.op n.p n.q (kidsV (valsV look ns) n) n.sort ∧ applyS n.op n.p n.q (kidsV (valsV look ns) n) = (V look ns ((i : Int) + 1), 0)) := by
  intro i
  induction i using Nat.strongRecOn with
  | ind i ih =>
    intro n hS hn
    obtain ⟨⟨a0, a1⟩, ⟨b0, b1⟩, ⟨d0, d1⟩⟩ := g.kok i n hn
    have hmem : n ∈ ns := List.mem_of_getElem? hn
    have hi := (List.getElem?_eq_some_iff.1 hn).1
    have hs := g.srt n hmem
    rw [V_node g.kok hn]
    by_cases c1 : n.op = 1
    · have e : nodeV look (valsV look ns) n = n.v := by unfold nodeV; rw [if_pos c1]
      rw [e]
      unfold sortedF at hs
      rw [if_pos c1] at hs
      have h2 := congrArg Prod.snd hs
      simp only at h2
      split at h2
      rotate_left
      · cases h2
      rename_i hc
      refine ⟨?_, hc.2.1, fun h => absurd c1 h⟩
      unfold Vl.ok Nd.v
      simp only
      rw [lo_mk, hi_mk]; exact hc.1
    by_cases c2 : n.op = 2
    · have e : nodeV look (valsV look ns) n = (look n.name).getD Vl.zero := by unfold nodeV; rw [if_neg c1, if_pos c2]
      rw [e]
      have hf := hv i n hS hn c2
      unfold varFit at hf
      split at hf
      · rename_i v hv
        rw [hv]
        simp at hf
        exact ⟨hf.1, hf.2, fun _ h => absurd c2 h⟩
      · cases hf
    · have hk := kids_list (g.form n hmem) c1 c2 (valsV look ns) fun k h1 h2 => by
        have hkl : k ≤ i := by rcases h1 with rfl | rfl | rfl <;> assumption
        have hlt : (k - 1).toNat < ns.length := by omega
        obtain ⟨m, hm⟩ : ∃ m, ns[(k - 1).toNat]? = some m := ⟨ns[(k - 1).toNat], List.getElem?_eq_getElem hlt⟩
        obtain ⟨g1, g2, -⟩ := ih (k - 1).toNat (by omega) m (hc i n hS hn k h1 h2) hm
        have e : (((k - 1).toNat : Int) + 1) = k := by omega
        rw [e] at g1 g2
        exact ⟨m, hm, g1, g2⟩
      have e : nodeV look (valsV look ns) n = meanV n.op n.p n.q (kidsV (valsV look ns) n) := by unfold nodeV; rw [if_neg c1, if_neg c2]
      unfold sortedF at hs
      rw [if_neg c1, if_neg c2, ← hk.1] at hs
      have h1 := congrArg (fun x => x.1.sort) hs
      have h2 := congrArg Prod.snd hs
      simp only at h1 h2
      have hfit : Fit n.op n.p n.q (kidsV (valsV look ns) n) n.sort := fit_of (by rw [← h1, ← h2]) hk.2
      rw [e]
      refine ⟨hfit.good.1, hfit.good.2, fun _ _ => ⟨hfit, ?_⟩⟩
      unfold applyS
      rw [sorts_ok hk.2, h2, if_pos rfl]
theorem cP_self {ns : List Nd} (kok : Kok ns) : ∀ n, n ≤ ns.length → cP ns n n = true := by
  intro n hn
  cases n with
  | zero => rfl
  | succ n =>
    obtain ⟨m, hm⟩ : ∃ m, ns[n]? = some m := ⟨ns[n], List.getElem?_eq_getElem hn⟩
    obtain ⟨⟨a0, a1⟩, ⟨b0, b1⟩, ⟨d0, d1⟩⟩ := kok n m hm
    rw [cP_succ hm (by omega) (by omega) (by omega)]
    simp
theorem cP_kids {ns : List Nd} (kok : Kok ns) : ∀ n, n ≤ ns.length → ∀ j m, cP ns n (j + 1) = true → ns[j]? = some m → ∀ k, (k = m.a.toNat ∨ k = m.b.toNat ∨ k = m.c.toNat) → cP ns n k = true := by
  intro n
  induction n using Nat.strongRecOn with
  | ind n ih =>
    intro hn j m hj hm k hk
    cases n with
    | zero => rw [cP_zero] at hj; simp at hj
    | succ n =>
      obtain ⟨m', hm'⟩ : ∃ m, ns[n]? = some m := ⟨ns[n], List.getElem?_eq_getElem hn⟩
      obtain ⟨⟨a0, a1⟩, ⟨b0, b1⟩, ⟨d0, d1⟩⟩ := kok n m' hm'
      rw [cP_succ hm' (by omega) (by omega) (by omega)] at hj ⊢
      simp only [Bool.or_eq_true, decide_eq_true_eq] at hj ⊢
      rcases hj with h | h | h | h
      · have : j = n := by omega
        subst this
        rw [hm] at hm'
        cases hm'
        rcases hk with rfl | rfl | rfl
        · exact .inr (.inl (cP_self kok _ (by omega)))
        · exact .inr (.inr (.inl (cP_self kok _ (by omega))))
        · exact .inr (.inr (.inr (cP_self kok _ (by omega))))
      · exact .inr (.inl (ih _ (by omega) (by omega) j m h hm k hk))
      · exact .inr (.inr (.inl (ih _ (by omega) (by omega) j m h hm k hk)))
      · exact .inr (.inr (.inr (ih _ (by omega) (by omega) j m h hm k hk)))
theorem cone_rises (ns : List Nd) (a : Int) : (coneT ns a).Pairwise (· < ·) := by
  unfold coneT
  split
  · exact .nil
  · unfold outT
    rw [List.pairwise_map]
    refine List.Pairwise.imp (R := fun (a b : Nat) => a < b) (fun h => by omega) ?_
    exact List.Pairwise.filter _ List.pairwise_lt_range
def unfit (look : ByteArray → Option Vl) (ns : List Nd) (x : Int) : Bool := decide ((ns.getD (x - 1).toNat Nd.zero).op = 2) && !varFit look (ns.getD (x - 1).toNat Nd.zero)
def worthS (look : ByteArray → Option Vl) (ns : List Nd) (id : Int) : Vl × Int :=
  if id < 1 ∨ (ns.length : Int) < id then (Vl.zero, 40) else if (coneT ns id).any (unfit look ns) = true then (Vl.zero, 41) else (V look ns id, 0)
end Go.Proofs.Ytiobohfiaapgeaa
end
section
namespace Go.Proofs.Ytiobohfiaapgeaa
set_option maxRecDepth 100000
def ndF (ns : List Nd) (id : Int) : Nd := (nodeS ns id).getD Nd.zero
def nodeO (op a b c p q : Int) : Nd := ⟨op, 0, a, b, c, p, q, 0, 0#64, 0#64, .empty⟩
def constN (v : Vl) : Nd := ⟨1, v.w, 0, 0, 0, 0, 0, v.w, lo v.n, hi v.n, .empty⟩
def conF (ns : List Nd) (id : Int) : Option Vl := if (ndF ns id).op = 1 then some (ndF ns id).v else none
def isF (ns : List Nd) (id : Int) (k : BitVec 64) : Bool := match conF ns id with
  | some v => decide (0 < v.w) && decide (lo v.n = k) && decide (hi v.n = 0#64)
  | none => false
def consF (ns : List Nd) : List Int → Option (List Vl)
  | [] => some []
  | k :: ks => match conF ns k with
    | none => none
    | some v => (consF ns ks).map (v :: ·)
def foldF (ns : List Nd) (n : Nd) : Option Vl := match consF ns ([n.a, n.b, n.c].take (arity n.op).toNat) with
  | none => none
  | some l => if (applyS n.op n.p n.q l).2 = 0 then some (applyS n.op n.p n.q l).1 else none
inductive Ch where
  | at (k : Int)
  | con (v : Vl)
  | mk
  | again (n : Nd)
  | shl (x : Int) (v : Vl)
def sliceF (ns : List Nd) (n k : Nd) : Ch :=
  if k.op = 39 then .again (nodeO 39 k.a 0 0 (n.p + k.q) (n.q + k.q))
  else if k.op = 38 then
    (if (ndF ns k.b).sort ≤ n.q then .again (nodeO 39 k.a 0 0 (n.p - (ndF ns k.b).sort) (n.q - (ndF ns k.b).sort))
    else if n.p < (ndF ns k.b).sort then .again (nodeO 39 k.b 0 0 n.p n.q) else .mk)
  else if k.op = 40 ∨ k.op = 41 then (if n.p < (ndF ns k.a).sort then .again (nodeO 39 k.a 0 0 n.p n.q) else .mk)
  else .mk
def unC (ns : List Nd) (n : Nd) : Ch := match foldF ns n with
  | some v => .con v
  | none =>
    let k := ndF ns n.a
    if (n.op = 3 ∨ n.op = 10 ∨ n.op = 11) ∧ k.op = n.op then .at k.a
    else if n.op = 39 ∧ n.q = 0 ∧ n.p = k.sort - 1 then .at n.a
    else if (n.op = 40 ∨ n.op = 41) ∧ n.p = 0 then .at n.a
    else if (n.op = 42 ∨ n.op = 43) ∧ n.p.tmod k.sort = 0 then .at n.a
    else if n.op = 44 ∧ n.p = 1 then .at n.a
    else if n.op = 39 then sliceF ns n k
    else .mk
def iteC (ns : List Nd) (n : Nd) : Ch :=
  if n.b = n.c then .at n.b else match conF ns n.a with
  | some v => if lo v.n = 1#64 then .at n.b else .at n.c
  | none => .mk
def logicC (op : Int) (v : Vl) (a b : Int) : Option Ch :=
  if 0 < v.w then none
  else if op = 4 then some (if v.yes = true then .at b else .at a)
  else if op = 5 then some (if v.yes = true then .at a else .at b)
  else if op = 7 then some (if v.yes = true then .at b else .con (Vl.bool true))
  else if op = 6 then some (if v.yes = true then .again (nodeO 3 b 0 0 0 0) else .at b)
  else some (if v.yes = true then .at b else .again (nodeO 3 b 0 0 0 0))
def logicF (ns : List Nd) (n : Nd) : Option Ch :=
  if n.op < 4 ∨ 8 < n.op then none else match conF ns n.a with
  | some v => logicC n.op v n.a n.b
  | none => if n.op = 7 then none else match conF ns n.b with
    | some v => logicC n.op v n.b n.a
    | none => none
def powF (v : Vl) : Option Nat := (List.range v.w.toNat).find? fun i => decide (v.n = (1#128 <<< i))
def doubleF (ns : List Nd) (n : Nd) : Ch := match (conF ns n.b).bind powF with
  | some i => .shl n.a ⟨((conF ns n.b).getD Vl.zero).w, BitVec.ofNat 128 i⟩
  | none => match (conF ns n.a).bind powF with
    | some i => .shl n.b ⟨((conF ns n.a).getD Vl.zero).w, BitVec.ofNat 128 i⟩
    | none => .mk
def besideF (ns : List Nd) (n : Nd) : Ch :=
  if (n.op = 12 ∨ n.op = 20) ∧ (isF ns n.a 0#64 = true ∨ isF ns n.b 0#64 = true) ∨ (n.op = 26 ∨ n.op = 27 ∨ n.op = 28) ∧ isF ns n.a 0#64 = true then .con ⟨(ndF ns n.a).sort, 0#128⟩
  else if (n.op = 13 ∨ n.op = 14 ∨ n.op = 18 ∨ n.op = 19 ∨ n.op = 26 ∨ n.op = 27 ∨ n.op = 28) ∧ isF ns n.b 0#64 = true ∨ (n.op = 20 ∨ n.op = 21) ∧ isF ns n.b 1#64 = true then .at n.a
  else if (n.op = 13 ∨ n.op = 14 ∨ n.op = 18) ∧ isF ns n.a 0#64 = true ∨ n.op = 20 ∧ isF ns n.a 1#64 = true then .at n.b
  else if n.op = 20 then doubleF ns n
  else .mk
def binC (ns : List Nd) (n : Nd) : Ch := match foldF ns n with
  | some v => .con v
  | none =>
    if n.a = n.b ∧ (n.op = 4 ∨ n.op = 5 ∨ n.op = 12 ∨ n.op = 13) then .at n.a
    else if n.a = n.b ∧ (n.op = 6 ∨ n.op = 29 ∨ n.op = 31 ∨ n.op = 33 ∨ n.op = 35 ∨ n.op = 14 ∨ n.op = 19) then .con (if n.op = 14 ∨ n.op = 19 then ⟨(ndF ns n.a).sort, 0#128⟩ else Vl.bool false)
    else if n.a = n.b ∧ (n.op = 8 ∨ n.op = 30 ∨ n.op = 32 ∨ n.op = 34 ∨ n.op = 36 ∨ n.op = 7) then .con (Vl.bool true)
    else match logicF ns n with
      | some c => c
      | none => besideF ns n
def pathF (ns : List Nd) (n : Nd) : Ch :=
  if arity n.op = 0 then .mk else if arity n.op = 1 then unC ns n else if arity n.op = 3 then iteC ns n else binC ns n
def normF (most : Int) : Nat → List Nd → Nd → List Nd × Int × Int
  | 0, ns, _ => (ns, 0, -1)
  | f + 1, ns, n => match pathF ns n with
    | .at k => (ns, k, 0)
    | .con v => makT most ns (constN v)
    | .mk => makT most ns n
    | .again m => normF most f ns m
    | .shl x v => if (makT most ns (constN v)).2.2 = 0 then normF most f (makT most ns (constN v)).1 (nodeO 26 x (makT most ns (constN v)).2.1 0 0 0) else ((makT most ns (constN v)).1, 0, (makT most ns (constN v)).2.2)
end Go.Proofs.Ytiobohfiaapgeaa
end
section
namespace Go.Proofs.Ytiobohfiaapgeaa
set_option maxRecDepth 100000
set_option maxHeartbeats 1000000
theorem of_eq {n m : Nat} {x : BitVec n} {y : BitVec m} (h : n = m) (hb : ∀ i, i < m → x.getLsbD i = y.getLsbD i) : Vl.of x = Vl.of y := by
  subst h
  rw [BitVec.eq_of_getLsbD_eq hb]
theorem of_inj {n : Nat} (hn : n ≤ 128) {x y : BitVec n} (h : Vl.of x = Vl.of y) : x = y := by
  have : E x = E y := by
    have := congrArg Vl.n h
    exact this
  exact E_inj hn this
theorem v_not2 {p q p' q' : Int} (a : Bool) : meanV 3 p q [meanV 3 p' q' [Vl.bool a]] = Vl.bool a := by cases a <;> rfl
theorem v_bvnot2 {p q p' q' : Int} {n : Nat} (hn : n ≤ 128) (x : BitVec n) : meanV 10 p q [meanV 10 p' q' [Vl.of x]] = Vl.of x := by
  rw [mean_not hn, mean_not hn, BitVec.not_not]
theorem v_neg2 {p q p' q' : Int} {n : Nat} (hn : n ≤ 128) (x : BitVec n) : meanV 11 p q [meanV 11 p' q' [Vl.of x]] = Vl.of x := by
  rw [mean_neg hn, mean_neg hn, BitVec.neg_neg]
theorem v_extract_all {n : Nat} (h1 : 1 ≤ n) (hn : n ≤ 128) (x : BitVec n) : meanV 39 ((n : Int) - 1) 0 [Vl.of x] = Vl.of x := by
  have := mean_extract (i := n - 1) (j := 0) hn (by omega) x
  rw [show ((n - 1 : Nat) : Int) = (n : Int) - 1 by omega] at this
  rw [show (0 : Int) = ((0 : Nat) : Int) from rfl, this]
  refine of_eq (by omega) fun i hi => ?_
  rw [BitVec.getLsbD_setWidth, BitVec.getLsbD_ushiftRight, E_bit hn]
  have h3 : i < n - 1 - 0 + 1 := by omega
  rw [decide_eq_true h3]
  simp
theorem v_zext0 {q : Int} {n : Nat} (hn : n ≤ 128) (x : BitVec n) : meanV 40 0 q [Vl.of x] = Vl.of x := by
  rw [show (0 : Int) = ((0 : Nat) : Int) from rfl, mean_zext hn]
  refine of_eq (by omega) fun i hi => ?_
  rw [BitVec.getLsbD_setWidth, E_bit hn]
  simp [hi]
theorem v_sext0 {q : Int} {n : Nat} (hn : n ≤ 128) (x : BitVec n) : meanV 41 0 q [Vl.of x] = Vl.of x := by
  rw [show (0 : Int) = ((0 : Nat) : Int) from rfl, mean_sext hn]
  refine of_eq (by omega) fun i hi => ?_
  rw [BitVec.getLsbD_setWidth]
  have h2 : i < n + 0 := by omega
  split
  · rw [BitVec.getLsbD_or, E_bit hn, BitVec.getLsbD_not, maskN_bit n i hn]
    simp [hi]
  · rw [E_bit hn]; simp [hi]
theorem rot0 {n : Nat} (hn : n ≤ 128) (x : BitVec n) : rotV x 0 = x := by
  unfold rotV
  apply BitVec.eq_of_getLsbD_eq
  intro i hi
  rw [BitVec.getLsbD_setWidth, BitVec.getLsbD_or, BitVec.getLsbD_shiftLeft, BitVec.getLsbD_ushiftRight, E_bit hn, E_bit hn]
  have h1 : x.getLsbD (n - 0 + i) = false := BitVec.getLsbD_of_ge _ _ (by omega)
  have h2 : i < 128 := by omega
  rw [h1]
  simp [hi, h2]
theorem v_rotl0 {q : Int} {n k : Nat} (hn : n ≤ 128) (h : k % n = 0) (x : BitVec n) : meanV 42 k q [Vl.of x] = Vl.of x := by rw [mean_rotl hn, h, rot0 hn]
theorem v_rotr0 {q : Int} {n k : Nat} (hn : n ≤ 128) (h : k % n = 0) (x : BitVec n) : meanV 43 k q [Vl.of x] = Vl.of x := by rw [mean_rotr hn, h, Nat.sub_zero, Nat.mod_self, rot0 hn]
theorem v_rep1 {q : Int} {n : Nat} (h1 : 1 ≤ n) (hn : n ≤ 128) (x : BitVec n) : meanV 44 1 q [Vl.of x] = Vl.of x := by
  rw [show (1 : Int) = ((1 : Nat) : Int) from rfl, mean_rep hn]
  unfold repB
  refine of_eq (by omega) fun i hi => ?_
  rw [BitVec.getLsbD_setWidth, rpt_bit (by omega) x 1 (by omega)]
  have h2 : i < n * 1 := by omega
  rw [decide_eq_true h2, Nat.mod_eq_of_lt hi]
  simp
theorem v_ext_ext {n i j i2 j2 : Nat} (hn : n ≤ 128) (h2 : j2 ≤ i2) (hi2 : i2 < n) (hj : j ≤ i) (hi : i < i2 - j2 + 1) (x : BitVec n) : meanV 39 i j [meanV 39 i2 j2 [Vl.of x]] = meanV 39 ((i : Int) + j2) ((j : Int) + j2) [Vl.of x] := by
  rw [mean_extract hn h2, mean_extract (by omega) hj, show (i : Int) + j2 = ((i + j2 : Nat) : Int) by omega, show (j : Int) + j2 = ((j + j2 : Nat) : Int) by omega, mean_extract hn (by omega)]
  refine of_eq (by omega) fun t ht => ?_
  rw [BitVec.getLsbD_setWidth, BitVec.getLsbD_ushiftRight, E_bit (by omega), BitVec.getLsbD_setWidth, BitVec.getLsbD_ushiftRight, E_bit hn, BitVec.getLsbD_setWidth, BitVec.getLsbD_ushiftRight, E_bit hn]
  have a1 : t < i - j + 1 := by omega
  have a2 : j + t < i2 - j2 + 1 := by omega
  have a3 : t < i + j2 - (j + j2) + 1 := by omega
  have a4 : j2 + (j + t) = j + j2 + t := by omega
  simp [a1, a2, a3, a4]
theorem v_ext_high {n m i j : Nat} (hnm : n + m ≤ 128) (hj : j ≤ i) (hi : i < n + m) (hm : m ≤ j) {p q : Int} (x : BitVec n) (y : BitVec m) : meanV 39 i j [meanV 38 p q [Vl.of x, Vl.of y]] = meanV 39 ((i : Int) - m) ((j : Int) - m) [Vl.of x] := by
  rw [mean_concat (by omega) (by omega), mean_extract (by omega) hj, show (i : Int) - m = ((i - m : Nat) : Int) by omega, show (j : Int) - m = ((j - m : Nat) : Int) by omega, mean_extract (by omega) (by omega)]
  refine of_eq (by omega) fun t ht => ?_
  rw [BitVec.getLsbD_setWidth, BitVec.getLsbD_ushiftRight, E_bit (by omega), BitVec.getLsbD_setWidth, BitVec.getLsbD_or, BitVec.getLsbD_shiftLeft, E_bit (by omega), E_bit (by omega), BitVec.getLsbD_setWidth, BitVec.getLsbD_ushiftRight, E_bit (by omega)]
  have a1 : t < i - j + 1 := by omega
  have a2 : j + t < n + m := by omega
  have a3 : t < i - m - (j - m) + 1 := by omega
  have a4 : j + t - m = j - m + t := by omega
  have a5 : y.getLsbD (j + t) = false := BitVec.getLsbD_of_ge _ _ (by omega)
  have a6 : j + t < 128 := by omega
  have a7 : ¬ j + t < m := by omega
  simp [a1, a2, a3, a4, a5, a6, a7]
theorem v_ext_low {n m i j : Nat} (hnm : n + m ≤ 128) (hj : j ≤ i) (hi : i < m) {p q : Int} (x : BitVec n) (y : BitVec m) : meanV 39 i j [meanV 38 p q [Vl.of x, Vl.of y]] = meanV 39 i j [Vl.of y] := by
  rw [mean_concat (by omega) (by omega), mean_extract (by omega) hj, mean_extract (by omega) hj]
  refine of_eq rfl fun t ht => ?_
  rw [BitVec.getLsbD_setWidth, BitVec.getLsbD_ushiftRight, E_bit (by omega), BitVec.getLsbD_setWidth, BitVec.getLsbD_or, BitVec.getLsbD_shiftLeft, E_bit (by omega), E_bit (by omega), BitVec.getLsbD_setWidth, BitVec.getLsbD_ushiftRight, E_bit (by omega)]
  have a2 : j + t < n + m := by omega
  have a7 : j + t < m := by omega
  simp [ht, a2, a7]
theorem v_ext_zext {n k i j : Nat} (hn : n + k ≤ 128) (hj : j ≤ i) (hi : i < n) {q : Int} (x : BitVec n) : meanV 39 i j [meanV 40 k q [Vl.of x]] = meanV 39 i j [Vl.of x] := by
  rw [mean_zext (by omega), mean_extract (by omega) hj, mean_extract (by omega) hj]
  refine of_eq rfl fun t ht => ?_
  rw [BitVec.getLsbD_setWidth, BitVec.getLsbD_ushiftRight, E_bit (by omega), BitVec.getLsbD_setWidth, E_bit (by omega), BitVec.getLsbD_setWidth, BitVec.getLsbD_ushiftRight, E_bit (by omega)]
  have a2 : j + t < n + k := by omega
  simp [ht, a2]
theorem v_ext_sext {n k i j : Nat} (hn : n + k ≤ 128) (hj : j ≤ i) (hi : i < n) {q : Int} (x : BitVec n) : meanV 39 i j [meanV 41 k q [Vl.of x]] = meanV 39 i j [Vl.of x] := by
  rw [mean_sext (by omega), mean_extract (by omega) hj, mean_extract (by omega) hj]
  refine of_eq rfl fun t ht => ?_
  rw [BitVec.getLsbD_setWidth, BitVec.getLsbD_ushiftRight, E_bit (by omega), BitVec.getLsbD_setWidth, BitVec.getLsbD_setWidth, BitVec.getLsbD_ushiftRight, E_bit (by omega)]
  have a2 : j + t < n + k := by omega
  have a3 : j + t < n := by omega
  split
  · rw [BitVec.getLsbD_or, E_bit (by omega), BitVec.getLsbD_not, maskN_bit n _ (by omega)]
    simp [ht, a2, a3]
  · rw [E_bit (by omega)]; simp [ht, a2]
theorem w_same {n : Nat} {op : Int} (h : op = 12 ∨ op = 13) (x : BitVec n) : wordV op x x = x := by
  rcases h with rfl | rfl <;> simp [wordV]
theorem w_none {n : Nat} {op : Int} (h : op = 14 ∨ op = 19) (x : BitVec n) : wordV op x x = 0#n := by
  rcases h with rfl | rfl <;> simp [wordV]
theorem w_zero {n : Nat} {op : Int} (h : op = 12 ∨ op = 20) (x : BitVec n) : wordV op x (0#n) = 0#n ∧ wordV op (0#n) x = 0#n := by
  rcases h with rfl | rfl <;> simp [wordV]
theorem w_shift0 {n : Nat} {op : Int} (h : op = 26 ∨ op = 27 ∨ op = 28) (y : BitVec n) : wordV op (0#n) y = 0#n := by
  rcases h with rfl | rfl | rfl
  · simp [wordV]
  · simp [wordV]
  · simp only [wordV]
    simp
theorem w_right {n : Nat} (_h1 : 1 ≤ n) {op : Int} (h : op = 13 ∨ op = 14 ∨ op = 18 ∨ op = 19 ∨ op = 26 ∨ op = 27 ∨ op = 28) (x : BitVec n) : wordV op x (0#n) = x := by
  have hs : shN (0#n) = 0 := by unfold shN; simp
  rcases h with rfl | rfl | rfl | rfl | rfl | rfl | rfl <;> simp [wordV, hs]
theorem w_one {n : Nat} (h1 : 1 ≤ n) {op : Int} (h : op = 20 ∨ op = 21) (x : BitVec n) : wordV op x (1#n) = x := by
  rcases h with rfl | rfl
  · simp [wordV]
  · have h0 : ¬ (1#n = 0#n) := fun e => by
      have := congrArg BitVec.toNat e
      simp at this
      omega
    simp [wordV, qB, h0]
theorem w_left {n : Nat} {op : Int} (h : op = 13 ∨ op = 14 ∨ op = 18) (x : BitVec n) : wordV op (0#n) x = x := by
  rcases h with rfl | rfl | rfl <;> simp [wordV]
theorem w_double {n i : Nat} (hi : i < n) (x y : BitVec n) (hy : y = 1#n <<< i) : wordV 20 x y = wordV 26 x (BitVec.ofNat n i) ∧ wordV 20 y x = wordV 26 x (BitVec.ofNat n i) := by
  have hlt : i < 2 ^ n := Nat.lt_trans hi (Nat.lt_two_pow_self)
  have hs : shN (BitVec.ofNat n i) = i := by
    unfold shN
    rw [BitVec.toNat_ofNat, Nat.mod_eq_of_lt hlt, if_pos hi]
  have h : x * (1#n <<< i) = x <<< i := BitVec.mul_twoPow_eq_shiftLeft x i
  subst hy
  refine ⟨?_, ?_⟩
  · simp [wordV, hs, h]
  · simp only [wordV]
    rw [BitVec.mul_comm]
    simp [hs, h]
theorem c_same {n : Nat} (op : Int) (h1 : 29 ≤ op) (h2 : op ≤ 36) (x : BitVec n) : cmpF op x x = decide (op = 30 ∨ op = 32 ∨ op = 34 ∨ op = 36) := by
  have : op = 29 ∨ op = 30 ∨ op = 31 ∨ op = 32 ∨ op = 33 ∨ op = 34 ∨ op = 35 ∨ op = 36 := by omega
  rcases this with rfl | rfl | rfl | rfl | rfl | rfl | rfl | rfl <;> simp [cmpF, cmpN]
end Go.Proofs.Ytiobohfiaapgeaa
end
section
namespace Go.Proofs.Ytiobohfiaapgeaa
set_option maxRecDepth 100000
set_option maxHeartbeats 2000000
structure Nm where
  name : ByteArray
  v : Vl
def Nm.cs (n : Nm) : List AV := .str n.name :: n.v.cs
def flatN (l : List Nm) : List AV := l.flatMap Nm.cs
theorem flatN_at {l : List Nm} : ∀ {i : Nat} {v : Nm}, l[i]? = some v → ((flatN l).drop (i * 4)).take 4 = v.cs := by
  induction l with
  | nil => intro i v h; simp at h
  | cons x l ih =>
    intro i v h
    cases i with
    | zero => simp at h; subst h; simp [flatN, Nm.cs, Vl.cs]
    | succ i =>
      simp at h
      rw [show (i + 1) * 4 = i * 4 + 4 from by omega]
      simpa [flatN, Nm.cs, Vl.cs] using ih h
def RN (H : AHeap) (v : AV) (l : List Nm) : Prop := Reads H v 4 l.length (flatN l)
theorem RN.len {H : AHeap} {v : AV} {l : List Nm} (h : RN H v l) : sliceLen v = some l.length := Reads.len h
theorem RN.keep {H H' : AHeap} {v : AV} {l : List Nm} (h : RN H v l) (k : Keeps H H') : RN H' v l := Reads.keep h k
def lookL (l : List Nm) (s : ByteArray) : Option Vl := (l.find? fun n => decide (n.name = s)).map Nm.v
theorem lookL_snoc (l : List Nm) (n : Nm) (s : ByteArray) : lookL (l ++ [n]) s = (lookL l s).or (if s = n.name then some n.v else none) := by
  unfold lookL
  rw [List.find?_append]
  cases h : l.find? (fun n => decide (n.name = s)) with
  | some x => simp
  | none =>
    by_cases c : n.name = s
    · simp [c]
    · have c' : ¬ s = n.name := fun e => c e.symm
      simp [c, c']
def EnvM (es : List AEnt) (look : ByteArray → Option Vl) : Prop := ∀ s, (findE (.str s) es).map (·.val) = (look s).map Vl.av
theorem EnvM.add {es : List AEnt} {l : List Nm} {n : Nm} {c : Nat} (h : EnvM es (lookL l)) (_hn : lookL l n.name = none) : EnvM (es ++ [⟨.str n.name, n.v.av, c⟩]) (lookL (l ++ [n])) := by
  intro s
  have h1 := h s
  have hk : keyEq (.str s) (.str n.name) = decide (s = n.name) := by simp [keyEq, scEq]
  rw [findE_append, lookL_snoc, hk]
  cases hf : findE (.str s) es <;> cases hl : lookL l s <;> rw [hf, hl] at h1 <;> first | (cases h1; done) | skip
  · by_cases e : s = n.name <;> simp [e]
  · simpa using h1
theorem EnvM.find {es : List AEnt} {look : ByteArray → Option Vl} (h : EnvM es look) {s : ByteArray} : (look s = none ∧ findE (.str s) es = none) ∨ ∃ v x, look s = some v ∧ findE (.str s) es = some x ∧ x.val = v.av := by
  have h1 := h s
  cases hf : findE (.str s) es <;> cases hl : look s <;> rw [hf, hl] at h1 <;> first | (cases h1; done) | skip
  · exact .inl ⟨rfl, rfl⟩
  · exact .inr ⟨_, _, rfl, rfl, by simpa using h1⟩
end Go.Proofs.Ytiobohfiaapgeaa
end
section
namespace Go.Proofs.Ytiobohfiaapgeaa
set_option maxRecDepth 100000
set_option maxHeartbeats 4000000
theorem loadi_of {H : AHeap} {v : AV} {l : List Int} (hv : Reads H v 1 l.length (l.map (.int .i64))) {i : Nat} (hi : i < l.length) : aindexAddr Try.prog Zbm v (i : Int) = some (ixp v 1 i) ∧ ∀ H', Keeps H H' → aload Try.prog H' Zd (ixp v 1 i) = some (.int .i64 (l.getD i 0)) := by
  refine ⟨hv.addr (by simp) hi, fun H' k => ?_⟩
  rw [(hv.keep k).at (by simp) rfl hi]
  simp [List.getD_eq_getElem?_getD, hi]
theorem TG.same {H H' : AHeap} {g : Nat} {most : Int} {ns : List Nd} {o1 o2 o3 : Nat} (h : TG H g most ns o1 o2 o3) (z : H.size ≤ H'.size) (k : ∀ p, p ∈ g :: o2 :: o3 :: objs (slv o1 ns) → H'.obj p = H.obj p) : TG H' g most ns o1 o2 o3 := by
  have k1 : ns ≠ [] → H'.obj o1 = H.obj o1 := fun e => k o1 (by
    unfold slv; rw [if_neg e]; simp)
  exact ⟨Nat.lt_of_lt_of_le h.lg z, fun e => Nat.lt_of_lt_of_le (h.l1 e) z, Nat.lt_of_lt_of_le h.l2 z, Nat.lt_of_lt_of_le h.l3 z, (k _ (by simp)).trans h.og, fun e => (k1 e).trans (h.b1 e), by rw [k o2 (by simp)]; exact h.b2, by rw [k o3 (by simp)]; exact h.b3, h.n1, h.n2, h.n3, h.n12, h.n13, h.n23, h.lim, h.lim2⟩
theorem GT.same {H H' : AHeap} {g : Nat} {most : Int} {ns : List Nd} {F : List Nat} (h : GT H g most ns F) (z : H.size ≤ H'.size) (k : ∀ p, p ∈ F → H'.obj p = H.obj p) : GT H' g most ns F := by
  obtain ⟨o1, o2, o3, t, v, kk, rfl⟩ := h
  exact ⟨o1, o2, o3, t.same z k, v, kk, rfl⟩
theorem GT.lt {H : AHeap} {g : Nat} {most : Int} {ns : List Nd} {F : List Nat} (h : GT H g most ns F) : ∀ p, p ∈ F → p < H.size := by
  obtain ⟨o1, o2, o3, t, v, kk, rfl⟩ := h
  intro p hp
  simp only [List.mem_cons] at hp
  rcases hp with rfl | rfl | rfl | hp
  · exact t.lg
  · exact t.l2
  · exact t.l3
  · unfold slv at hp
    split at hp
    · simp at hp
    · rename_i hne
      simp at hp
      subst hp
      exact t.l1 hne
theorem back_ints2 {H H' : AHeap} {w : AV} {l : List Int} (k : Keeps H H') (h : OutT H H' w l) : ∃ v, back [0] H w H' = (v, H) ∧ ∀ H2, RI H2 v l := by
  obtain ⟨rd, gr, new⟩ := h
  cases w <;> first | (exact gr.elim) | skip
  · have e : l = [] := by
      have := rd.len
      simp [sliceLen] at this
      cases l with
      | nil => rfl
      | cons a l => simp at this
    subst e
    refine ⟨.nils, ?_, fun _ => RI.nils⟩
    rw [back_cons (by simp [frz]) k.shut, cut_keeps k]
    simp [frz]
  · rename_i o off sz m full
    have rd' := rd
    obtain ⟨g1, g2, g3, g4⟩ := rd
    obtain ⟨rfl, g4⟩ := g4
    simp [sliceLen] at g1
    subst g1
    have ho : ¬ o < H.size := by have := new o (by simp); omega
    unfold sliceCells at g2
    simp only at g2
    split at g2 <;> first | (cases g2; done) | skip
    rename_i all hob
    split at g2 <;> first | (cases g2; done) | skip
    rename_i hle
    simp only [Option.some.injEq] at g2
    have hf : frz H' H.size [0] (.row o off 1 l.length full) = IL l := by
      rw [frz_row, if_neg ho, hob, frzO_cells, if_pos hle, g2, frz_nil', List.map_id]; rfl
    refine ⟨IL l, ?_, fun _ => RI.lst⟩
    rw [back_cons (by rw [hf]; unfold IL; simp only [closed]; rw [closedL_all, List.all_map, List.all_eq_true]; intro x _; rfl) k.shut, cut_keeps k, hf]
theorem cone_run2 {H : AHeap} {g : Nat} {most : Int} {ns : List Nd} {F : List Nat} (G : GT H g most ns F) {id : Int} : ∃ v, R Zbz [.ptr g 0, .int .i64 id] H = some (v, H) ∧ ∀ H', RI H' v (coneT ns id) := by
  obtain ⟨o1, o2, o3, t, v, kok, rfl⟩ := G
  rw [Zfv]
  have hlen := slv_len o1 ns
  have lim := t.lim
  have lim2 := t.lim2
  have og := t.og
  unfold coneT
  by_cases c1 : id < 1
  · rw [if_pos (.inl c1)]
    simp (maxDischargeDepth := 40) [Zco, c1]
    exact fun _ => RI.nils
  by_cases c2 : (ns.length : Int) < id
  · rw [if_pos (.inr c2)]
    simp (maxDischargeDepth := 40) [Zco, c1, c2, og, hlen]
    exact fun _ => RI.nils
  rw [if_neg (by omega)]
  obtain ⟨n, rfl⟩ : ∃ n : Nat, id = (n : Int) := ⟨id.toNat, by omega⟩
  have hnl : n ≤ ns.length := by omega
  have w1 : IntKind.i64.wrap ((n : Int) + 1) = (n : Int) + 1 := i64w (by omega) (by omega)
  have c3 : (n : Int) + 1 ≤ 140737488355328 := by omega
  have c4 : (n : Int) + 1 ≤ 9223372036854775807 := by omega
  have c5 : n < n + 1 := by omega
  have c6 : (n : Int) < (n : Int) + 1 := by omega
  have c7 : (0 : Int) ≤ (n : Int) + 1 := by omega
  simp (maxDischargeDepth := 40) [Zco, c1, c2, og, hlen, w1, c3, c4, c5, c6, c7]
  generalize hL : loopL _ _ _ _ _ _ = q
  obtain ⟨x, e1, H1, rfl, ⟨rfl, k1, z1, ob1, c, hc, e6⟩, fr1⟩ := tcone_loop0 t kok hL (by simp) (by simp) (n := n) (v := (List.replicate (n + 1) false).set n true) (len := n + 1) (by simp) (by omega) hnl (by rw [List.map_set]; simp) (by simp) (by simp) (by simp) (by simp)
  have d1 : (c : Int) ≤ 140737488355328 := by omega
  have d2 : (c : Int) ≤ 9223372036854775807 := by omega
  have d3 : (c : Int) * 8 ≤ 140737488355328 := by omega
  simp (maxDischargeDepth := 40) [e6, d2, d3]
  generalize hL2 : loopL _ _ _ _ _ _ = q
  have K1 := k1.new' (.cells (List.replicate c (AV.int .i64 0)))
  obtain ⟨x, e2, H2, rfl, ⟨rfl, k2, w, e9, hout⟩, fr2⟩ := tcone_loop1 (v := markT ns n ((List.replicate (n + 1) false).set n true)) (len := n + 1) (by rw [markT_len]; simp) (by omega) (by omega) hL2 K1 (by simp; omega) (by simp [ob1, z1])
    (w0 := .row H1.size 0 1 0 (decide (0 = (c : Int)))) ⟨⟨rfl, by simp [sliceCells], rfl, ⟨rfl, by simp⟩⟩, by simp, by simp; omega⟩ (by simp; omega) (by simp [fr1]) (by simp [fr1]) (by simp) (by simp)
  simp (maxDischargeDepth := 40) [e9]
  exact back_ints2 k2 hout
end Go.Proofs.Ytiobohfiaapgeaa
end
section
namespace Go.Proofs.Ytiobohfiaapgeaa
set_option maxRecDepth 100000
set_option maxHeartbeats 2000000
@[simp] theorem plainV_u {x : BitVec 64} : plainV (u x) = true := rfl
theorem aslice_to {P : Program} {H : AHeap} {t : TypeId} {sz o off n : Nat} {full : Bool} (h : eszS P t = some sz) {k : Nat} (hkn : k ≤ n) : aslice P H t (.row o off sz n full) none (some (.int .i64 (k : Int))) none = some (.row o off sz k (full && decide ((k : Int) = n))) := by
  have h3 : (k : Int) ≤ n := by omega
  unfold eszS at h
  unfold aslice
  split at h <;> first | (cases h; done) | skip
  rename_i e hu
  rw [hu]
  simp [h, h3]
def ValM (es : List AEnt) (look : ByteArray → Option Vl) (ns : List Nd) (c : List Int) : Prop := ∀ k : Int, (findE (.int .i64 k) es).map (·.val) = if k ∈ c then some (V look ns k).av else none
theorem ValM.add {es : List AEnt} {look : ByteArray → Option Vl} {ns : List Nd} {c : List Int} {k : Int} {b : Nat} (h : ValM es look ns c) (hk : k ∉ c) : findE (.int .i64 k) es = none ∧ ValM (es ++ [⟨.int .i64 k, (V look ns k).av, b⟩]) look ns (c ++ [k]) := by
  have hn : findE (.int .i64 k) es = none := by
    have := h k
    rw [if_neg hk] at this
    cases hf : findE (.int .i64 k) es with
    | none => rfl
    | some x => rw [hf] at this; cases this
  refine ⟨hn, fun j => ?_⟩
  have h1 := h j
  have hkq : keyEq (.int .i64 j) (.int .i64 k) = decide (j = k) := by simp only [keyEq, scEq]; rw [Bool.eq_iff_iff]; simp
  rw [findE_append, hkq]
  by_cases e : j = k
  · subst e; rw [hn]; simp
  · simp only [e, decide_false, Bool.false_eq_true, if_false, Option.or_none, List.mem_append, List.mem_singleton, or_false]
    exact h1
theorem ValM.look {es : List AEnt} {look : ByteArray → Option Vl} {ns : List Nd} {c : List Int} (h : ValM es look ns c) {k : Int} (hk : k ∈ c ∨ k ≤ 0) : lookU false (.agg [.int .i64 0, u 0#64, u 0#64]) (findE (.int .i64 k) es) = (V look ns k).av := by
  have h1 := h k
  by_cases e : k ∈ c
  · rw [if_pos e] at h1
    cases hf : findE (.int .i64 k) es with
    | none => rw [hf] at h1; cases h1
    | some x => rw [hf] at h1; simpa using h1
  · rw [if_neg e] at h1
    have h0 : k ≤ 0 := hk.resolve_left e
    cases hf : findE (.int .i64 k) es with
    | some x => rw [hf] at h1; cases h1
    | none => rw [V_zero _ _ h0]; rfl
theorem cone_kid {ns : List Nd} (kok : Kok ns) {id : Int} (h1 : 1 ≤ id) (hid : id ≤ ns.length) {j : Nat} {n : Nd} (hj : (j : Int) + 1 ∈ coneT ns id) (hn : ns[j]? = some n) {k : Int} (hk : k = n.a ∨ k = n.b ∨ k = n.c) (h0 : 0 < k) : k ∈ coneT ns id ∧ k < (j : Int) + 1 := by
  have hj' : ((j + 1 : Nat) : Int) ∈ coneT ns id := by rw [show ((j + 1 : Nat) : Int) = (j : Int) + 1 from by omega]; exact hj
  have hc := (mem_cone kok (by omega) hid (by omega)).1 hj'
  obtain ⟨⟨a0, a1⟩, ⟨b0, b1⟩, ⟨d0, d1⟩⟩ := kok j n hn
  have := cP_kids kok id.toNat (by omega) j n hc hn k.toNat (by rcases hk with rfl | rfl | rfl <;> simp)
  have h2 := (mem_cone kok (by omega) hid (j := k.toNat) (by omega)).2 this
  rw [show ((k.toNat : Nat) : Int) = k from by omega] at h2
  exact ⟨h2, by rcases hk with rfl | rfl | rfl <;> omega⟩
end Go.Proofs.Ytiobohfiaapgeaa
end
section
namespace Go.Proofs.Ytiobohfiaapgeaa
set_option maxRecDepth 100000
set_option maxHeartbeats 2000000
end Go.Proofs.Ytiobohfiaapgeaa
end
section
namespace Go.Proofs.Ytiobohfiaapgeaa
set_option maxRecDepth 100000
structure OutC (H0 H : AHeap) (v : AV) (sz n : Nat) (cs : List AV) : Prop where
  rd : Reads H v sz n cs
  gr : grows v
  new : ∀ p, p ∈ objs v → H0.size ≤ p
theorem OutC.nils {H0 H : AHeap} {sz : Nat} : OutC H0 H .nils sz 0 [] := ⟨Reads.nils, by simp, by simp⟩
theorem OutC.keep {H0 H H' : AHeap} {v : AV} {sz n : Nat} {cs : List AV} (h : OutC H0 H v sz n cs) (k : Keeps H H') : OutC H0 H' v sz n cs := ⟨h.rd.keep k, h.gr, h.new⟩
theorem OutC.base {H0 H1 H : AHeap} {v : AV} {sz n : Nat} {cs : List AV} (h : OutC H1 H v sz n cs) (k : H0.size ≤ H1.size) : OutC H0 H v sz n cs := ⟨h.rd, h.gr, fun p hp => Nat.le_trans k (h.new p hp)⟩
theorem OutC.push {H0 H : AHeap} {v : AV} {sz n : Nat} {cs c z : List AV} {by_ : Nat} (h : OutC H0 H v sz n cs) (k : Keeps H0 H) {r : Option (AV × AHeap)}
    (hA : appU (H.new (.cells c)) v (.row H.size 0 sz 1 true) (some (sz, by_, z)) = r) (hc : c.length = sz) (hz : z.length = sz) (hs : 0 < sz) (h1 : (n + 1) * by_ ≤ 140737488355328) (h2 : n + 1 ≤ 9223372036854775807) (ho : allOne c = true) :
    ∃ v' H', r = some (v', H') ∧ OutC H0 H' v' sz (n + 1) (cs ++ c) ∧ Keeps H0 H' ∧ H.size < H'.size ∧ (∀ p, p < H.size → p ∉ objs v → H'.obj p = H.obj p) ∧ ∀ p, p ∈ objs v' → H.size ≤ p := by
  obtain ⟨H1, rfl, f1, s1, o1, rd⟩ := app_of hA (h.rd.keep (Keeps.new H _)) h.gr (Reads.row' (all := c) (by simp) (by simp) (by omega)) (by omega) hz hs h1 h2 ho
  simp only [new_size] at s1
  have := k.size
  refine ⟨_, H1, rfl, ⟨rd, by simp, by simp; omega⟩, f1.keeps (k.new' _) (fun p hp => h.new p hp), by omega, fun p hp hn => ?_, by simp⟩
  rw [f1.obj p (by simp; omega) hn, new_old (by omega)]
end Go.Proofs.Ytiobohfiaapgeaa
end
section
namespace Go.Proofs.Ytiobohfiaapgeaa
set_option maxRecDepth 100000
set_option maxHeartbeats 2000000
def fullV (look : ByteArray → Option Vl) (n : Nd) : Vl := if (((look n.name).getD Vl.zero).ok && decide (((look n.name).getD Vl.zero).w = n.sort)) = true then (look n.name).getD Vl.zero else ⟨n.sort, 0#128⟩
def fullS (look : ByteArray → Option Vl) (ns : List Nd) (xs : List Int) : List Nm := xs.map fun x => ⟨(ns.getD (x - 1).toNat Nd.zero).name, fullV look (ns.getD (x - 1).toNat Nd.zero)⟩
theorem EnvM.val {es : List AEnt} {look : ByteArray → Option Vl} (h : EnvM es look) {s : ByteArray} : lookU false (.agg [.int .i64 0, u 0#64, u 0#64]) (findE (.str s) es) = ((look s).getD Vl.zero).av := by
  rcases h.find (s := s) with ⟨h1, h2⟩ | ⟨v, x, h1, h2, h3⟩
  · rw [h1, h2]; rfl
  · rw [h1, h2]; simpa using h3
theorem mem_vars {ns : List Nd} {x : Int} (h : x ∈ varsT ns ns.length) : ∃ j : Nat, x = (j : Int) + 1 ∧ j < ns.length ∧ (ns.getD j Nd.zero).op = 2 := by
  unfold varsT at h
  simp only [List.mem_map, List.mem_filter, List.mem_range, decide_eq_true_eq] at h
  obtain ⟨j, ⟨h1, h2⟩, rfl⟩ := h
  exact ⟨j, rfl, h1, h2⟩
end Go.Proofs.Ytiobohfiaapgeaa
end
section
namespace Go.Proofs.Ytiobohfiaapgeaa
set_option maxRecDepth 100000
set_option maxHeartbeats 2000000
end Go.Proofs.Ytiobohfiaapgeaa
end
section
namespace Go.Proofs.Ytiobohfiaapgeaa
set_option maxRecDepth 100000
set_option maxHeartbeats 4000000
end Go.Proofs.Ytiobohfiaapgeaa
end
section
namespace Go.Proofs.Ytiobohfiaapgeaa
set_option maxRecDepth 100000
set_option maxHeartbeats 4000000
structure RG (H : AHeap) (g : Nat) (most : Int) (ns : List Nd) (o : Nat) : Prop where
  lg : g < H.size
  l1 : ns ≠ [] → o < H.size
  og : H.obj g = .cells [slv o ns, .int .i64 most]
  b1 : ns ≠ [] → H.obj o = .cells (flat ns)
  n1 : ns ≠ [] → g ≠ o
  lim : (ns.length : Int) ≤ most
  lim2 : most ≤ 4096
theorem RG.same {H H' : AHeap} {g : Nat} {most : Int} {ns : List Nd} {o : Nat} (h : RG H g most ns o) (z : H.size ≤ H'.size) (k : ∀ p, p ∈ g :: objs (slv o ns) → H'.obj p = H.obj p) : RG H' g most ns o := by
  have k1 : ns ≠ [] → H'.obj o = H.obj o := fun e => k o (by
    unfold slv; rw [if_neg e]; simp)
  exact ⟨Nat.lt_of_lt_of_le h.lg z, fun e => Nat.lt_of_lt_of_le (h.l1 e) z, (k _ (by simp)).trans h.og, fun e => (k1 e).trans (h.b1 e), h.n1, h.lim, h.lim2⟩
theorem RG.keep {H H' : AHeap} {g : Nat} {most : Int} {ns : List Nd} {o : Nat} (h : RG H g most ns o) (k : Keeps H H') : RG H' g most ns o :=
  ⟨k.lt h.lg, fun e => k.lt (h.l1 e), (k.obj _ h.lg).trans h.og, fun e => (k.obj _ (h.l1 e)).trans (h.b1 e), h.n1, h.lim, h.lim2⟩
def GR (H : AHeap) (g : Nat) (most : Int) (ns : List Nd) (F : List Nat) : Prop := ∃ o, RG H g most ns o ∧ Vok ns ∧ Kok ns ∧ F = g :: objs (slv o ns)
theorem GR.keeps {H H' : AHeap} {g : Nat} {most : Int} {ns : List Nd} {F : List Nat} (h : GR H g most ns F) (k : Keeps H H') : GR H' g most ns F := by
  obtain ⟨o, t, v, kk, rfl⟩ := h
  exact ⟨o, t.keep k, v, kk, rfl⟩
theorem GR.same {H H' : AHeap} {g : Nat} {most : Int} {ns : List Nd} {F : List Nat} (h : GR H g most ns F) (z : H.size ≤ H'.size) (k : ∀ p, p ∈ F → H'.obj p = H.obj p) : GR H' g most ns F := by
  obtain ⟨o, t, v, kk, rfl⟩ := h
  exact ⟨o, t.same z k, v, kk, rfl⟩
theorem GR.lt {H : AHeap} {g : Nat} {most : Int} {ns : List Nd} {F : List Nat} (h : GR H g most ns F) : ∀ p, p ∈ F → p < H.size := by
  obtain ⟨o, t, v, kk, rfl⟩ := h
  intro p hp
  simp only [List.mem_cons] at hp
  rcases hp with rfl | hp
  · exact t.lg
  · unfold slv at hp
    split at hp
    · simp at hp
    · rename_i hne
      simp at hp
      subst hp
      exact t.l1 hne
end Go.Proofs.Ytiobohfiaapgeaa
end
section
namespace Go.Proofs.Ytiobohfiaapgeaa
set_option maxRecDepth 100000
set_option maxHeartbeats 4000000
end Go.Proofs.Ytiobohfiaapgeaa
end
section
namespace Go.Proofs.Ytiobohfiaapgeaa
set_option maxRecDepth 100000
set_option maxHeartbeats 4000000
def GvR (H : AHeap) (g : Nat) (most : Int) (F : List Nat) (x : List Nd × Int × Int) (r : Option (AV × AHeap)) : Prop :=
  ∃ H' F', r = some (.tup [.int .i64 x.2.1, .int .i64 x.2.2], H') ∧ GR H' g most x.1 F' ∧ MvT F H F' H'
theorem GvR.mk {H H' : AHeap} {g : Nat} {most l e : Int} {F : List Nat} {x : List Nd × Int × Int} {js : List Nd} {r : Option (AV × AHeap)} (h : some (.tup [.int .i64 l, .int .i64 e], H') = r) (hx : x = (js, l, e)) (F' : List Nat) (g' : GR H' g most js F') (k : MvT F H F' H') : GvR H g most F x r := by
  subst hx; exact ⟨H', F', h.symm, g', k⟩
theorem GvR.keep {H H' : AHeap} {g : Nat} {most l e : Int} {F : List Nat} {ns : List Nd} {x : List Nd × Int × Int} {r : Option (AV × AHeap)} (G : GR H g most ns F) (h : some (.tup [.int .i64 l, .int .i64 e], H') = r) (hx : x = (ns, l, e)) (k : Keeps H H') : GvR H g most F x r :=
  GvR.mk h hx _ (G.keeps k) (MvT.keeps k)
end Go.Proofs.Ytiobohfiaapgeaa
end
section
namespace Go.Proofs.Ytiobohfiaapgeaa
set_option maxRecDepth 100000
set_option maxHeartbeats 4000000
end Go.Proofs.Ytiobohfiaapgeaa
end
section
namespace Go.Proofs.Ytiobohfiaapgeaa
set_option maxRecDepth 100000
set_option maxHeartbeats 4000000
end Go.Proofs.Ytiobohfiaapgeaa
end
section
namespace Go.Proofs.Ytiobohfiaapgeaa
set_option maxRecDepth 100000
set_option maxHeartbeats 4000000
structure Two (H0 H : AHeap) (g q : Nat) (most : Int) (ns : List Nd) (F E : List Nat) : Prop where
  gt : GT H g most ns F
  gr : GR H q most ns E
  kp : Keeps H0 H
  fF : ∀ p, p ∈ F → H0.size ≤ p
  fE : ∀ p, p ∈ E → H0.size ≤ p
  dj : ∀ p, p ∈ F → p ∉ E
theorem Two.make {H0 H H1 H2 : AHeap} {g q : Nat} {most : Int} {ns js : List Nd} {F E F' E' : List Nat} (T : Two H0 H g q most ns F E) (g1 : GT H1 g most js F') (m1 : MvT F H F' H1) (g2 : GR H2 q most js E') (m2 : MvT E H1 E' H2) : Two H0 H2 g q most js F' E' := by
  have hF' : ∀ p, p ∈ F' → H0.size ≤ p := fun p hp => by
    rcases m1.new p hp with h | h
    · exact T.fF p h
    · exact Nat.le_trans T.kp.size h
  have dj1 : ∀ p, p ∈ F' → p ∉ E := fun p hp hE => by
    rcases m1.new p hp with h | h
    · exact T.dj p h hE
    · have := T.gr.lt p hE; omega
  have k1 := m1.fr.keeps T.kp T.fF
  refine ⟨g1.same m2.fr.size fun p hp => m2.fr.obj p (g1.lt p hp) (dj1 p hp), g2, m2.fr.keeps k1 T.fE, hF', fun p hp => ?_, fun p hp hE => ?_⟩
  · rcases m2.new p hp with h | h
    · exact T.fE p h
    · exact Nat.le_trans k1.size h
  · rcases m2.new p hE with h | h
    · exact dj1 p hp h
    · have := g1.lt p hp; omega
theorem Two.keeps {H0 H H' : AHeap} {g q : Nat} {most : Int} {ns : List Nd} {F E : List Nat} (T : Two H0 H g q most ns F E) (k : Keeps H H') : Two H0 H' g q most ns F E :=
  ⟨T.gt.keeps k, T.gr.keeps k, T.kp.trans k, T.fF, T.fE, T.dj⟩
end Go.Proofs.Ytiobohfiaapgeaa
end
section
namespace Go.Proofs.Ytiobohfiaapgeaa
set_option maxRecDepth 100000
set_option maxHeartbeats 4000000
theorem makT_len {most : Int} {ns : List Nd} {n : Nd} : (makT most ns n).1.length ≤ ns.length + 1 := by
  unfold makT
  repeat' split
  all_goals simp
end Go.Proofs.Ytiobohfiaapgeaa
end
section
namespace Go.Proofs.Ytiobohfiaapgeaa
set_option maxRecDepth 100000
set_option maxHeartbeats 4000000
instance : DecidableEq Nm := fun a b => decidable_of_iff (a.name = b.name ∧ a.v = b.v) (by cases a; cases b; simp)
def kX : Nd := ⟨2, 4, 0, 0, 0, 0, 0, 0, 0#64, 0#64, ⟨#[120]⟩⟩
end Go.Proofs.Ytiobohfiaapgeaa
end
section
namespace Go.Proofs.Ytiobohfiaapgeaa
set_option maxRecDepth 100000
set_option maxHeartbeats 4000000
end Go.Proofs.Ytiobohfiaapgeaa
end
section
namespace Go.Proofs.Ytiobohfiaapgeaa
set_option maxRecDepth 100000
set_option maxHeartbeats 2000000
theorem zero_ok {s : Int} (h : isSort s = true) : (⟨s, 0#128⟩ : Vl).ok = true := by
  unfold isSort at h
  have h := of_decide_eq_true h
  unfold Vl.ok rightF
  by_cases c : s = 0
  · rw [if_pos c]; exact (by decide : decide (lo (0#128) ≤ 1#64 ∧ hi (0#128) = 0#64) = true)
  · rw [if_neg c]
    have e : mkN (lo (0#128)) (hi (0#128)) = 0#128 := by decide
    simp only
    rw [e]
    simp; omega
theorem fullV_fit {look : ByteArray → Option Vl} {n : Nd} (h : isSort n.sort = true) : (fullV look n).ok = true ∧ (fullV look n).w = n.sort := by
  unfold fullV
  split
  · rename_i h1
    simp only [Bool.and_eq_true, decide_eq_true_eq] at h1
    exact h1
  · exact ⟨zero_ok h, rfl⟩
theorem Gok.sort {ns : List Nd} (g : Gok ns) {n : Nd} (h : n ∈ ns) (h2 : n.op = 2) : isSort n.sort = true := by
  have := g.srt n h
  unfold sortedF at this
  rw [if_neg (by omega), if_pos h2] at this
  have h2 := congrArg Prod.snd this
  simp only at h2
  split at h2
  · rename_i h; exact h.1
  · cases h2
theorem Gok.same {ns : List Nd} (g : Gok ns) {i j : Nat} {n m : Nd} (hn : ns[i]? = some n) (hm : ns[j]? = some m) (h2 : n.op = 2) (h2' : m.op = 2) (h : n.name = m.name) : i = j := by
  have a := g.uniq i n hn h2
  have b := g.uniq j m hm h2'
  rw [h, b] at a
  exact (Option.some.inj a).symm
theorem look_full {look : ByteArray → Option Vl} {ns : List Nd} (g : Gok ns) {i : Nat} {n : Nd} (hn : ns[i]? = some n) (h2 : n.op = 2) : lookL (fullS look ns (varsT ns ns.length)) n.name = some (fullV look n) := by
  have hi := (List.getElem?_eq_some_iff.1 hn).1
  have hgi : ns.getD i Nd.zero = n := by rw [List.getD_eq_getElem?_getD, hn]; rfl
  unfold lookL
  cases hf : (fullS look ns (varsT ns ns.length)).find? (fun m => decide (m.name = n.name)) with
  | none =>
    exfalso
    have hm : (i : Int) + 1 ∈ varsT ns ns.length := by
      unfold varsT
      simp only [List.mem_map, List.mem_filter, List.mem_range, decide_eq_true_eq]
      exact ⟨i, ⟨hi, by rw [hgi]; exact h2⟩, rfl⟩
    have := List.find?_eq_none.1 hf ⟨n.name, fullV look n⟩ (by
      unfold fullS
      refine List.mem_map.2 ⟨_, hm, ?_⟩
      rw [show ((i : Int) + 1 - 1).toNat = i from by omega, hgi])
    simp at this
  | some m =>
    have hp := List.find?_some hf
    have hm := List.mem_of_find?_eq_some hf
    unfold fullS at hm
    obtain ⟨x, hx, rfl⟩ := List.mem_map.1 hm
    obtain ⟨j, rfl, hj, hj2⟩ := mem_vars hx
    rw [show ((j : Int) + 1 - 1).toNat = j from by omega] at hp ⊢
    obtain ⟨m, hm⟩ : ∃ m, ns[j]? = some m := ⟨ns[j], List.getElem?_eq_getElem hj⟩
    have hgj : ns.getD j Nd.zero = m := by rw [List.getD_eq_getElem?_getD, hm]; rfl
    rw [hgj] at hj2 hp ⊢
    have e := g.same hm hn hj2 h2 (by simpa using hp)
    subst e
    rw [hm] at hn
    cases hn
    rfl
def AllFit (look : ByteArray → Option Vl) (ns : List Nd) : Prop := ∀ (i : Nat) (n : Nd), ns[i]? = some n → n.op = 2 → varFit look n = true
theorem full_fit {look : ByteArray → Option Vl} {ns : List Nd} (g : Gok ns) : AllFit (lookL (fullS look ns (varsT ns ns.length))) ns := by
  intro i n hn h2
  unfold varFit
  rw [look_full g hn h2]
  obtain ⟨h3, h4⟩ := fullV_fit (look := look) (g.sort (List.mem_of_getElem? hn) h2)
  simp [h3, h4]
theorem AllFit.any {look : ByteArray → Option Vl} {ns : List Nd} (h : AllFit look ns) (xs : List Int) : xs.any (unfit look ns) = false := by
  rw [List.any_eq_false]
  intro x hx
  unfold unfit
  cases hn : ns[(x - 1).toNat]? with
  | none => rw [List.getD_eq_getElem?_getD, hn]; simp [Nd.zero]
  | some n =>
    rw [List.getD_eq_getElem?_getD, hn]
    simp only [Option.getD_some, Bool.and_eq_true, decide_eq_true_eq, Bool.not_eq_true']
    rintro ⟨h2, h3⟩
    rw [h _ n hn h2] at h3
    cases h3
theorem AllFit.worth {look : ByteArray → Option Vl} {ns : List Nd} (h : AllFit look ns) {id : Int} (h1 : 1 ≤ id) (h2 : id ≤ ns.length) : worthS look ns id = (V look ns id, 0) := by
  unfold worthS
  rw [if_neg (by omega), h.any]
  simp
theorem AllFit.good {look : ByteArray → Option Vl} {ns : List Nd} (h : AllFit look ns) (g : Gok ns) {i : Nat} {n : Nd} (hn : ns[i]? = some n) : (V look ns ((i : Int) + 1)).ok = true ∧ (V look ns ((i : Int) + 1)).w = n.sort := by
  have := val_good g (S := fun _ => True) (fun _ _ _ _ _ _ _ => trivial) (fun i n _ hn h2 => h i n hn h2) i n trivial hn
  exact ⟨this.1, this.2.1⟩
theorem AllFit.more {look : ByteArray → Option Vl} {ns : List Nd} (h : AllFit look ns) {M : Nd} (hM : ¬ M.op = 2) : AllFit look (ns ++ [M]) := by
  intro i n hn h2
  by_cases c : i < ns.length
  · rw [List.getElem?_append_left c] at hn; exact h i n hn h2
  · rw [List.getElem?_append_right (by omega)] at hn
    have := List.mem_of_getElem? hn
    simp at this
    rw [this] at h2
    exact absurd h2 hM
theorem formed_arity {N : Int} {n : Nd} (h : formedF N n = true) : (∀ i, i < 3 → kidOK N (arity n.op) i ([n.a, n.b, n.c].getD i 0) = true) ∧ 0 ≤ arity n.op := by
  unfold formedF at h
  simp only [kidsOK, Bool.and_eq_true, decide_eq_true_eq] at h
  obtain ⟨⟨f1, f2, f3, -⟩, ⟨f4, -⟩, -⟩ := h
  refine ⟨fun i hi => ?_, f4⟩
  rcases (by omega : i = 0 ∨ i = 1 ∨ i = 2) with rfl | rfl | rfl
  · exact f1
  · exact f2
  · exact f3
end Go.Proofs.Ytiobohfiaapgeaa
end
section
namespace Go.Proofs.Ytiobohfiaapgeaa
set_option maxRecDepth 100000
set_option maxHeartbeats 1000000
theorem nd_at {ns : List Nd} {k : Int} (h1 : 1 ≤ k) (h2 : k ≤ ns.length) : ∃ i : Nat, k = (i : Int) + 1 ∧ ns[i]? = some (ndF ns k) := by
  obtain ⟨i, hi⟩ : ∃ i : Nat, k = (i : Int) + 1 := ⟨(k - 1).toNat, by omega⟩
  refine ⟨i, hi, ?_⟩
  subst hi
  have hl : i < ns.length := by omega
  unfold ndF nodeS
  rw [if_neg (by omega), show ((i : Int) + 1 - 1).toNat = i by omega, List.getElem?_eq_getElem hl]
  rfl
theorem formed1 {N : Int} {n : Nd} (h : formedF N n = true) (ha : arity n.op = 1) : 1 ≤ n.a ∧ n.a ≤ N ∧ n.b = 0 ∧ n.c = 0 := by
  unfold formedF at h
  simp only [kidsOK, kidOK, Bool.and_eq_true, ha] at h
  obtain ⟨⟨f1, f2, f3, -⟩, -⟩ := h
  simp at f1 f2 f3
  exact ⟨f1.1, f1.2, f2, f3⟩
theorem formed2 {N : Int} {n : Nd} (h : formedF N n = true) (ha : arity n.op = 2) : 1 ≤ n.a ∧ n.a ≤ N ∧ 1 ≤ n.b ∧ n.b ≤ N ∧ n.c = 0 := by
  unfold formedF at h
  simp only [kidsOK, kidOK, Bool.and_eq_true, ha] at h
  obtain ⟨⟨f1, f2, f3, -⟩, -⟩ := h
  simp at f1 f2 f3
  exact ⟨f1.1, f1.2, f2.1, f2.2, f3⟩
theorem formed3 {N : Int} {n : Nd} (h : formedF N n = true) (ha : arity n.op = 3) : 1 ≤ n.a ∧ n.a ≤ N ∧ 1 ≤ n.b ∧ n.b ≤ N ∧ 1 ≤ n.c ∧ n.c ≤ N := by
  unfold formedF at h
  simp only [kidsOK, kidOK, Bool.and_eq_true, ha] at h
  obtain ⟨⟨f1, f2, f3, -⟩, -⟩ := h
  simp at f1 f2 f3
  exact ⟨f1.1, f1.2, f2.1, f2.2, f3.1, f3.2⟩
section
variable {look : ByteArray → Option Vl} {ns : List Nd}
theorem kidsV_1 {n : Nd} (ha : arity n.op = 1) : kidsV (valsV look ns) n = [V look ns n.a] := by unfold kidsV V; rw [ha]; rfl
theorem kidsV_2 {n : Nd} (ha : arity n.op = 2) : kidsV (valsV look ns) n = [V look ns n.a, V look ns n.b] := by unfold kidsV V; rw [ha]; rfl
theorem kidsV_3 {n : Nd} (ha : arity n.op = 3) : kidsV (valsV look ns) n = [V look ns n.a, V look ns n.b, V look ns n.c] := by unfold kidsV V; rw [ha]; rfl
structure KidOK (look : ByteArray → Option Vl) (ns : List Nd) (k : Int) : Prop where
  val : V look ns k = nodeV look (valsV look ns) (ndF ns k)
  ok : (V look ns k).ok = true
  w : (V look ns k).w = (ndF ns k).sort
  form : formedF ns.length (ndF ns k) = true
  fit : ¬ (ndF ns k).op = 1 → ¬ (ndF ns k).op = 2 → Fit (ndF ns k).op (ndF ns k).p (ndF ns k).q (kidsV (valsV look ns) (ndF ns k)) (ndF ns k).sort
  con : ∀ v, conF ns k = some v → V look ns k = v
theorem kid_ok (g : Gok ns) (hA : AllFit look ns) {k : Int} (h1 : 1 ≤ k) (h2 : k ≤ ns.length) : KidOK look ns k := by
  obtain ⟨i, rfl, hi⟩ := nd_at h1 h2
  obtain ⟨v1, v2, v3⟩ := val_good g (S := fun _ => True) (fun _ _ _ _ _ _ _ => trivial) (fun i n _ hn h2 => hA i n hn h2) i _ trivial hi
  have hv := V_node (look := look) g.kok hi
  refine ⟨hv, v1, v2, g.form _ (List.mem_of_getElem? hi), fun a b => (v3 a b).1, fun v hc => ?_⟩
  unfold conF at hc
  split at hc
  · rename_i ho
    cases hc
    rw [hv]
    unfold nodeV
    rw [if_pos ho]
  · cases hc
theorem node_fit (g : Gok ns) (hA : AllFit look ns) {n : Nd} (hf : formedF ns.length n = true) (hs : (sortedF ns n).2 = 0) (h1 : ¬ n.op = 1) (h2 : ¬ n.op = 2) : Fit n.op n.p n.q (kidsV (valsV look ns) n) (sortedF ns n).1.sort := by
  have hk := kids_list hf h1 h2 (valsV look ns) fun k hk h0 => by
    have hkl : k ≤ ns.length := by
      obtain ⟨k1, k2, k3⟩ := formed_kids hf
      rcases hk with rfl | rfl | rfl <;> assumption
    obtain ⟨i, rfl, hi⟩ := nd_at (by omega) hkl
    have K := kid_ok g hA (k := (i : Int) + 1) (by omega) hkl
    exact ⟨_, by rw [show ((i : Int) + 1 - 1).toNat = i by omega]; exact hi, K.ok, K.w⟩
  unfold sortedF at hs ⊢
  rw [if_neg h1, if_neg h2] at hs ⊢
  simp only at hs ⊢
  refine fit_of ?_ hk.2
  rw [hk.1]
  rw [← hs]
theorem consF_val (hk : ∀ k v, conF ns k = some v → V look ns k = v) : ∀ {l : List Int} {vs : List Vl}, consF ns l = some vs → vs = l.map (V look ns)
  | [], vs, h => by simp [consF] at h; subst h; rfl
  | k :: l, vs, h => by
    unfold consF at h
    cases hc : conF ns k with
    | none => rw [hc] at h; cases h
    | some v =>
      rw [hc] at h
      simp only [Option.map_eq_some_iff] at h
      obtain ⟨us, hu, rfl⟩ := h
      rw [List.map_cons, hk k v hc, consF_val hk hu]
theorem con_all (g : Gok ns) (hA : AllFit look ns) {k : Int} {v : Vl} (h : conF ns k = some v) : V look ns k = v := by
  by_cases c : 1 ≤ k ∧ k ≤ ns.length
  · exact (kid_ok g hA c.1 c.2).con v h
  · have e : nodeS ns k = none := by unfold nodeS; rw [if_pos (by omega)]
    unfold conF ndF at h
    rw [e] at h
    simp [Nd.zero] at h
theorem fold_val (g : Gok ns) (hA : AllFit look ns) {n : Nd} (h1 : ¬ n.op = 1) (h2 : ¬ n.op = 2) {v : Vl} (h : foldF ns n = some v) : nodeV look (valsV look ns) n = v := by
  unfold foldF at h
  cases hc : consF ns ([n.a, n.b, n.c].take (arity n.op).toNat) with
  | none => rw [hc] at h; cases h
  | some l =>
    rw [hc] at h
    simp only at h
    split at h
    · rename_i h0
      cases h
      have hl := consF_val (look := look) (fun k v h => con_all g hA h) hc
      have hk : kidsV (valsV look ns) n = l := by
        rw [hl]
        unfold kidsV
        rw [List.map_take]
        rfl
      unfold nodeV
      rw [if_neg h1, if_neg h2, hk]
      unfold applyS at h0 ⊢
      split at h0
      · rename_i h3; rw [if_pos h3]
      · rename_i h3; exact absurd h0 h3
    · cases h
end
end Go.Proofs.Ytiobohfiaapgeaa
end
section
namespace Go.Proofs.Ytiobohfiaapgeaa
set_option maxRecDepth 100000
set_option maxHeartbeats 4000000
def PV (look : ByteArray → Option Vl) (ns : List Nd) (n : Nd) : Ch → Prop
  | .at k => 1 ≤ k ∧ k ≤ ns.length ∧ V look ns k = nodeV look (valsV look ns) n
  | .con v => nodeV look (valsV look ns) n = v
  | .mk => True
  | .again m => ¬ m.op = 1 ∧ ¬ m.op = 2 ∧ formedF ns.length m = true ∧ sortedF ns m = ({ m with sort := (sortedF ns n).1.sort }, 0) ∧ nodeV look (valsV look ns) m = nodeV look (valsV look ns) n
  | .shl x v => v.ok = true ∧ v.w = (sortedF ns n).1.sort ∧ 0 < v.w ∧ 1 ≤ x ∧ x ≤ ns.length ∧ (ndF ns x).sort = v.w ∧ meanV 26 0 0 [V look ns x, v] = nodeV look (valsV look ns) n
theorem nodeV_op {look : ByteArray → Option Vl} {acc : List Vl} {n : Nd} (h1 : ¬ n.op = 1) (h2 : ¬ n.op = 2) : nodeV look acc n = meanV n.op n.p n.q (kidsV acc n) := by unfold nodeV; rw [if_neg h1, if_neg h2]
theorem sorted_ext {ns : List Nd} {a p q s : Int} (h1 : 1 ≤ a) (h2 : a ≤ ns.length) (hs : (ndF ns a).sort = s) (hw : s ≤ 128) (h3 : 0 ≤ q) (h4 : q ≤ p) (h5 : p < s) : formedF ns.length (nodeO 39 a 0 0 p q) = true ∧ sortedF ns (nodeO 39 a 0 0 p q) = ({ nodeO 39 a 0 0 p q with sort := p - q + 1 }, 0) := by
  obtain ⟨i, rfl, hi⟩ := nd_at h1 h2
  have hk : ksort ns ((i : Int) + 1) = [s] := by rw [ksort_pos (by omega) (m := ndF ns ((i : Int) + 1)) (by rw [show ((i : Int) + 1 - 1).toNat = i by omega]; exact hi), hs]
  have hk0 : ksort ns 0 = [] := ksort_none rfl
  have har : arity 39 = 1 := by decide
  refine ⟨?_, ?_⟩
  · unfold formedF nodeO
    simp [kidsOK, kidOK, har]
    omega
  · have hss : sortS 39 p q [s] = (p - q + 1, 0) := by
      have h6 : isSort s = true := by unfold isSort; simp; omega
      have h7 : toldB 39 p q s s 0 = true := by unfold toldB numB; simp; omega
      have h8 : toldV 39 p q s s = p - q + 1 := by unfold toldV numV; simp
      unfold sortS
      simp [har, h6, h7, h8]
      omega
    unfold sortedF nodeO
    simp only [hk, hk0, List.append_nil, hss]
    simp
theorem sorted_not {ns : List Nd} {a : Int} (h1 : 1 ≤ a) (h2 : a ≤ ns.length) (hs : (ndF ns a).sort = 0) : formedF ns.length (nodeO 3 a 0 0 0 0) = true ∧ sortedF ns (nodeO 3 a 0 0 0 0) = ({ nodeO 3 a 0 0 0 0 with sort := 0 }, 0) := by
  obtain ⟨i, rfl, hi⟩ := nd_at h1 h2
  have hk : ksort ns ((i : Int) + 1) = [0] := by rw [ksort_pos (by omega) (m := ndF ns ((i : Int) + 1)) (by rw [show ((i : Int) + 1 - 1).toNat = i by omega]; exact hi), hs]
  have hk0 : ksort ns 0 = [] := ksort_none rfl
  have har : arity 3 = 1 := by decide
  refine ⟨?_, ?_⟩
  · unfold formedF nodeO
    simp [kidsOK, kidOK, har]
    omega
  · have hss : sortS 3 0 0 [0] = (0, 0) := by decide
    unfold sortedF nodeO
    simp only [hk, hk0, List.append_nil, hss]
    simp
section
variable {look : ByteArray → Option Vl} {ns : List Nd}
theorem pv_again {n : Nd} {kk P Q w : Int} (h1 : 1 ≤ kk) (h2 : kk ≤ ns.length) (hw : (ndF ns kk).sort = w) (h3 : w ≤ 128) (h4 : 0 ≤ Q) (h5 : Q ≤ P) (h6 : P < w) (hS : P - Q + 1 = (sortedF ns n).1.sort) (hv : meanV 39 P Q [V look ns kk] = nodeV look (valsV look ns) n) : PV look ns n (.again (nodeO 39 kk 0 0 P Q)) := by
  obtain ⟨s1, s2⟩ := sorted_ext h1 h2 hw h3 h4 h5 h6
  refine ⟨by simp [nodeO], by simp [nodeO], s1, by rw [s2, hS], ?_⟩
  rw [nodeV_op (by simp [nodeO]) (by simp [nodeO]), kidsV_1 (n := nodeO 39 kk 0 0 P Q) (by show arity 39 = 1; decide)]
  exact hv
theorem slice_val (g : Gok ns) (hA : AllFit look ns) {n : Nd} (hf : formedF ns.length n = true) (hs : (sortedF ns n).2 = 0) (h39 : n.op = 39) : PV look ns n (sliceF ns n (ndF ns n.a)) := by
  have har : arity n.op = 1 := by rw [h39]; decide
  obtain ⟨f1, f2, f3, f4⟩ := formed1 hf har
  have K := kid_ok g hA f1 f2
  have F := node_fit g hA hf hs (by omega) (by omega)
  have hv := nodeV_op (look := look) (acc := valsV look ns) (n := n) (by omega) (by omega)
  rw [kidsV_1 har] at F hv
  obtain ⟨s, hse⟩ : ∃ s, s = (sortedF ns n).1.sort := ⟨_, rfl⟩
  rw [← hse] at F
  have hkw := K.w
  obtain ⟨A, hAe⟩ : ∃ A, A = V look ns n.a := ⟨_, rfl⟩
  rw [← hAe] at F hv hkw
  obtain ⟨k, hke⟩ : ∃ k, k = ndF ns n.a := ⟨_, rfl⟩
  rw [← hke] at hkw ⊢
  have KK : V look ns n.a = nodeV look (valsV look ns) k ∧ formedF ns.length k = true ∧ (¬ k.op = 1 → ¬ k.op = 2 → Fit k.op k.p k.q (kidsV (valsV look ns) k) k.sort) := by
    rw [hke]; exact ⟨K.val, K.form, K.fit⟩
  obtain ⟨kv, kf, kfit⟩ := KK
  rw [← hAe] at kv
  obtain ⟨op, sort, a, b, c, p, q, vw, vl, vh, name⟩ := n
  simp only at *
  subst h39
  cases F with
  | extract N i j x g1 g2 _ g4 g5 g6 g7 =>
    subst g4; subst g5
    unfold sliceF
    simp only
    have hlt : (i : Int) - j + 1 = ((i - j + 1 : Nat) : Int) := by omega
    rw [of_w] at hkw
    by_cases c1 : k.op = 39
    · rw [if_pos c1]
      have kfit := kfit (by omega) (by omega)
      have kar : arity k.op = 1 := by rw [c1]; decide
      obtain ⟨e1, e2, e3, e4⟩ := formed1 kf kar
      rw [nodeV_op (by omega) (by omega), kidsV_1 kar] at kv
      rw [kidsV_1 kar, c1] at kfit
      rw [c1] at kv
      have K2 := kid_ok g hA e1 e2
      have hw2 := K2.w
      obtain ⟨A2, hA2⟩ : ∃ A2, A2 = V look ns k.a := ⟨_, rfl⟩
      rw [← hA2] at kfit kv hw2
      obtain ⟨ks, hks⟩ : ∃ ks, ks = k.sort := ⟨_, rfl⟩
      obtain ⟨kp, hkp⟩ : ∃ kp, kp = k.p := ⟨_, rfl⟩
      obtain ⟨kq, hkq⟩ : ∃ kq, kq = k.q := ⟨_, rfl⟩
      rw [← hks, ← hkp, ← hkq] at kfit
      rw [← hkp, ← hkq] at kv
      rw [← hks] at hkw
      rw [← hkq]
      cases kfit with
      | extract N2 i2 j2 x2 r1 r2 _ r4 r5 r6 r7 =>
        subst r4; subst r5
        rw [of_w] at hw2
        refine pv_again e1 e2 hw2.symm (by omega) (by omega) (by omega) (by omega) (by rw [← hse]; omega) ?_
        rw [← hA2, hv, kv]
        exact (v_ext_ext r2 r6 r7 g6 (by omega) x2).symm
      | _ => omega
    rw [if_neg c1]
    by_cases c2 : k.op = 38
    · rw [if_pos c2]
      have kfit := kfit (by omega) (by omega)
      have kar : arity k.op = 2 := by rw [c2]; decide
      obtain ⟨e1, e2, e3, e4, -⟩ := formed2 kf kar
      rw [nodeV_op (by omega) (by omega), kidsV_2 kar] at kv
      rw [kidsV_2 kar, c2] at kfit
      rw [c2] at kv
      have K2 := kid_ok g hA e1 e2
      have K3 := kid_ok g hA e3 e4
      have hw2 := K2.w
      have hw3 := K3.w
      obtain ⟨A2, hA2⟩ : ∃ A2, A2 = V look ns k.a := ⟨_, rfl⟩
      obtain ⟨A3, hA3⟩ : ∃ A3, A3 = V look ns k.b := ⟨_, rfl⟩
      rw [← hA2, ← hA3] at kfit kv
      rw [← hA2] at hw2
      rw [← hA3] at hw3
      obtain ⟨ks, hks⟩ : ∃ ks, ks = k.sort := ⟨_, rfl⟩
      obtain ⟨kp, hkp⟩ : ∃ kp, kp = k.p := ⟨_, rfl⟩
      obtain ⟨kq, hkq⟩ : ∃ kq, kq = k.q := ⟨_, rfl⟩
      rw [← hks, ← hkp, ← hkq] at kfit
      rw [← hkp, ← hkq] at kv
      rw [← hks] at hkw
      cases kfit with
      | concat N2 M2 x2 y2 r1 r2 r3 _ r5 r6 =>
        rw [of_w] at hw2 hw3
        rw [← hw3]
        by_cases d1 : (M2 : Int) ≤ j
        · rw [if_pos d1]
          refine pv_again e1 e2 hw2.symm (by omega) (by omega) (by omega) (by omega) (by rw [← hse]; omega) ?_
          rw [← hA2, hv, kv]
          exact (v_ext_high r3 g6 (by omega) (by omega) x2 y2).symm
        · rw [if_neg d1]
          by_cases d2 : (i : Int) < M2
          · rw [if_pos d2]
            refine pv_again e3 e4 hw3.symm (by omega) (by omega) (by omega) (by omega) (by rw [← hse]; omega) ?_
            rw [← hA3, hv, kv]
            exact (v_ext_low r3 g6 (by omega) x2 y2).symm
          · rw [if_neg d2]; trivial
      | _ => omega
    rw [if_neg c2]
    by_cases c3 : k.op = 40 ∨ k.op = 41
    · rw [if_pos c3]
      have kfit := kfit (by omega) (by omega)
      have kar : arity k.op = 1 := by rcases c3 with h | h <;> rw [h] <;> decide
      obtain ⟨e1, e2, e3, e4⟩ := formed1 kf kar
      rw [nodeV_op (by omega) (by omega), kidsV_1 kar] at kv
      rw [kidsV_1 kar] at kfit
      have K2 := kid_ok g hA e1 e2
      have hw2 := K2.w
      obtain ⟨A2, hA2⟩ : ∃ A2, A2 = V look ns k.a := ⟨_, rfl⟩
      rw [← hA2] at kfit kv hw2
      obtain ⟨ks, hks⟩ : ∃ ks, ks = k.sort := ⟨_, rfl⟩
      obtain ⟨kp, hkp⟩ : ∃ kp, kp = k.p := ⟨_, rfl⟩
      obtain ⟨kq, hkq⟩ : ∃ kq, kq = k.q := ⟨_, rfl⟩
      obtain ⟨ko, hko⟩ : ∃ ko, ko = k.op := ⟨_, rfl⟩
      rw [← hks, ← hkp, ← hkq, ← hko] at kfit
      rw [← hkp, ← hkq, ← hko] at kv
      rw [← hks] at hkw
      rw [← hko] at c3
      cases kfit with
      | ext N2 k2 x2 r1 r2 r3 r4 r5 r6 =>
        subst r5
        rw [of_w] at hw2
        rw [← hw2]
        by_cases d2 : (i : Int) < N2
        · rw [if_pos d2]
          refine pv_again e1 e2 hw2.symm (by omega) (by omega) (by omega) (by omega) (by rw [← hse]; omega) ?_
          rw [← hA2, hv, kv]
          rcases c3 with rfl | rfl
          · exact (v_ext_zext r2 g6 (by omega) x2).symm
          · exact (v_ext_sext r2 g6 (by omega) x2).symm
        · rw [if_neg d2]; trivial
      | _ => omega
    rw [if_neg c3]; trivial
  | _ => omega
end
end Go.Proofs.Ytiobohfiaapgeaa
end
section
namespace Go.Proofs.Ytiobohfiaapgeaa
set_option maxRecDepth 100000
set_option maxHeartbeats 4000000
section
variable {look : ByteArray → Option Vl} {ns : List Nd}
theorem un_val (g : Gok ns) (hA : AllFit look ns) {n : Nd} (hf : formedF ns.length n = true) (hs : (sortedF ns n).2 = 0) (h1 : ¬ n.op = 1) (h2 : ¬ n.op = 2) (har : arity n.op = 1) : PV look ns n (unC ns n) := by
  unfold unC
  cases hfo : foldF ns n with
  | some v => exact fold_val g hA h1 h2 hfo
  | none =>
    simp only
    obtain ⟨f1, f2, f3, f4⟩ := formed1 hf har
    have K := kid_ok g hA f1 f2
    have F := node_fit g hA hf hs h1 h2
    have hv := nodeV_op (look := look) (acc := valsV look ns) h1 h2
    rw [kidsV_1 har] at F hv
    obtain ⟨s, hse⟩ : ∃ s, s = (sortedF ns n).1.sort := ⟨_, rfl⟩
    rw [← hse] at F
    have hkw := K.w
    obtain ⟨A, hAe⟩ : ∃ A, A = V look ns n.a := ⟨_, rfl⟩
    rw [← hAe] at F hv hkw
    by_cases c1 : (n.op = 3 ∨ n.op = 10 ∨ n.op = 11) ∧ (ndF ns n.a).op = n.op
    · rw [if_pos c1]
      obtain ⟨c1, c2⟩ := c1
      have kar : arity (ndF ns n.a).op = 1 := by rw [c2]; exact har
      obtain ⟨e1, e2, e3, e4⟩ := formed1 K.form kar
      have kfit := K.fit (by omega) (by omega)
      have kv := K.val
      rw [← hAe, nodeV_op (by omega) (by omega), kidsV_1 kar, c2] at kv
      rw [kidsV_1 kar, c2] at kfit
      refine ⟨e1, e2, ?_⟩
      rw [hv, kv]
      obtain ⟨A2, hA2⟩ : ∃ A2, A2 = V look ns (ndF ns n.a).a := ⟨_, rfl⟩
      rw [← hA2] at kfit kv ⊢
      obtain ⟨ks, hks⟩ : ∃ ks, ks = (ndF ns n.a).sort := ⟨_, rfl⟩
      obtain ⟨kp, hkp⟩ : ∃ kp, kp = (ndF ns n.a).p := ⟨_, rfl⟩
      obtain ⟨kq, hkq⟩ : ∃ kq, kq = (ndF ns n.a).q := ⟨_, rfl⟩
      obtain ⟨ko, hko⟩ : ∃ ko, ko = n.op := ⟨_, rfl⟩
      rw [← hks, ← hkp, ← hkq, ← hko] at kfit
      rw [← hkp, ← hkq, ← hko]
      rw [← hko] at c1
      cases kfit with
      | not a q1 q2 q3 => subst q1; exact (v_not2 a).symm
      | one N x q1 q2 q3 q4 q5 q6 =>
        rcases (by omega : ko = 10 ∨ ko = 11) with rfl | rfl
        · exact (v_bvnot2 q2 x).symm
        · exact (v_neg2 q2 x).symm
      | _ => omega
    rw [if_neg c1]
    clear c1
    obtain ⟨np, hnp⟩ : ∃ x, x = n.p := ⟨_, rfl⟩
    obtain ⟨nq, hnq⟩ : ∃ x, x = n.q := ⟨_, rfl⟩
    obtain ⟨no, hno⟩ : ∃ x, x = n.op := ⟨_, rfl⟩
    obtain ⟨ks, hks⟩ : ∃ ks, ks = (ndF ns n.a).sort := ⟨_, rfl⟩
    rw [← hnp, ← hnq, ← hno] at F hv
    rw [← hks] at hkw
    rw [← hno] at h1 h2
    rw [← hno, ← hnp, ← hnq, ← hks]
    have at_ : V look ns n.a = nodeV look (valsV look ns) n → PV look ns n (.at n.a) := fun h => ⟨f1, f2, h⟩
    by_cases c2 : no = 39 ∧ nq = 0 ∧ np = ks - 1
    · rw [if_pos c2]
      refine at_ ?_
      rw [← hAe, hv]
      obtain ⟨rfl, rfl, rfl⟩ := c2
      cases F with
      | extract N i j x g1 g2 _ g4 g5 g6 g7 =>
        rw [of_w] at hkw
        rw [← hkw]
        exact (v_extract_all g1 g2 x).symm
      | _ => omega
    rw [if_neg c2]
    by_cases c3 : (no = 40 ∨ no = 41) ∧ np = 0
    · rw [if_pos c3]
      refine at_ ?_
      rw [← hAe, hv]
      obtain ⟨c3, rfl⟩ := c3
      cases F with
      | ext N k x r1 r2 r3 r4 r5 r6 =>
        rcases c3 with rfl | rfl
        · exact (v_zext0 (by omega) x).symm
        · exact (v_sext0 (by omega) x).symm
      | _ => omega
    rw [if_neg c3]
    by_cases c4 : (no = 42 ∨ no = 43) ∧ np.tmod ks = 0
    · rw [if_pos c4]
      refine at_ ?_
      rw [← hAe, hv]
      obtain ⟨c4, c5⟩ := c4
      cases F with
      | rot N k x r1 r2 r3 r4 r5 r6 =>
        subst r5
        rw [of_w] at hkw
        rw [← hkw] at c5
        have hm : k % N = 0 := by
          have := c5
          rw [Int.tmod_eq_emod_of_nonneg (by omega)] at this
          omega
        rcases c4 with rfl | rfl
        · exact (v_rotl0 r2 hm x).symm
        · exact (v_rotr0 r2 hm x).symm
      | _ => omega
    rw [if_neg c4]
    by_cases c6 : no = 44 ∧ np = 1
    · rw [if_pos c6]
      refine at_ ?_
      rw [← hAe, hv]
      obtain ⟨rfl, rfl⟩ := c6
      cases F with
      | rep N k x r1 r2 r3 r4 r5 r6 =>
        obtain rfl : k = 1 := by omega
        exact (v_rep1 r1 (by omega) x).symm
      | _ => omega
    rw [if_neg c6]
    by_cases c7 : no = 39
    · rw [if_pos c7]
      exact slice_val g hA hf hs (by rw [← hno]; exact c7)
    · rw [if_neg c7]; trivial
theorem ite_val (g : Gok ns) (hA : AllFit look ns) {n : Nd} (hf : formedF ns.length n = true) (hs : (sortedF ns n).2 = 0) (h1 : ¬ n.op = 1) (h2 : ¬ n.op = 2) (har : arity n.op = 3) : PV look ns n (iteC ns n) := by
  have h9 : n.op = 9 := by
    unfold arity at har
    repeat' split at har
    all_goals omega
  obtain ⟨f1, f2, f3, f4, f5, f6⟩ := formed3 hf har
  have F := node_fit g hA hf hs h1 h2
  have hv := nodeV_op (look := look) (acc := valsV look ns) h1 h2
  rw [kidsV_3 har] at F hv
  rw [h9, mean_ite] at hv
  unfold iteC
  by_cases c : n.b = n.c
  · rw [if_pos c]
    refine ⟨f3, f4, ?_⟩
    rw [hv, c]; simp
  · rw [if_neg c]
    cases hc : conF ns n.a with
    | none => trivial
    | some v =>
      simp only
      have hva := con_all g hA hc
      rw [hva] at hv
      have hy : v.yes = decide (lo v.n = 1#64) := rfl
      by_cases d : lo v.n = 1#64
      · rw [if_pos d]
        exact ⟨f3, f4, by rw [hv, hy, decide_eq_true d]; rfl⟩
      · rw [if_neg d]
        exact ⟨f5, f6, by rw [hv, hy, decide_eq_false d]; rfl⟩
end
end Go.Proofs.Ytiobohfiaapgeaa
end
section
namespace Go.Proofs.Ytiobohfiaapgeaa
set_option maxRecDepth 100000
set_option maxHeartbeats 4000000
theorem of_zero {n : Nat} : Vl.of (0#n) = ⟨n, 0#128⟩ := by
  unfold Vl.of E
  simp
theorem two_word {op p q : Int} (h1 : 12 ≤ op) (h2 : op ≤ 28) {n : Nat} (hn : n ≤ 128) (x y : BitVec n) : meanV op p q [Vl.of x, Vl.of y] = Vl.of (wordV op x y) := by
  rw [mean_two h1 (by omega) hn]
  unfold twoV
  rw [if_pos h2]
theorem two_cmp {op p q : Int} (h1 : 29 ≤ op) (h2 : op ≤ 36) {n : Nat} (hn : n ≤ 128) (x y : BitVec n) : meanV op p q [Vl.of x, Vl.of y] = Vl.bool (cmpF op x y) := by
  rw [mean_two (by omega) (by omega) hn]
  unfold twoV
  rw [if_neg (by omega), if_pos h2]
section
variable {look : ByteArray → Option Vl} {ns : List Nd}
theorem isF_val (g : Gok ns) (hA : AllFit look ns) {k : Int} {c : BitVec 64} (h : isF ns k c = true) {n : Nat} {x : BitVec n} (hv : V look ns k = Vl.of x) : lo (E x) = c ∧ hi (E x) = 0#64 := by
  unfold isF at h
  cases hc : conF ns k with
  | none => rw [hc] at h; cases h
  | some v =>
    rw [hc] at h
    simp only [Bool.and_eq_true, decide_eq_true_eq] at h
    have h2 := con_all g hA hc
    rw [h2] at hv
    subst hv
    exact ⟨h.1.2, h.2⟩
theorem isF0 (g : Gok ns) (hA : AllFit look ns) {k : Int} (h : isF ns k 0#64 = true) {n : Nat} (hn : n ≤ 128) {x : BitVec n} (hv : V look ns k = Vl.of x) : x = 0#n := by
  obtain ⟨h1, h2⟩ := isF_val g hA h hv
  refine E_inj hn (pair_ext ?_ ?_)
  · rw [h1]; unfold E lo; simp
  · rw [h2]; unfold E hi; simp
theorem isF1 (g : Gok ns) (hA : AllFit look ns) {k : Int} (h : isF ns k 1#64 = true) {n : Nat} (h1n : 1 ≤ n) (hn : n ≤ 128) {x : BitVec n} (hv : V look ns k = Vl.of x) : x = 1#n := by
  obtain ⟨h1, h2⟩ := isF_val g hA h hv
  have e : E (1#n) = 1#128 := by
    apply BitVec.eq_of_toNat_eq
    unfold E
    have : (1 : Nat) % 2 ^ n = 1 := Nat.mod_eq_of_lt (Nat.one_lt_two_pow (by omega))
    simp [BitVec.toNat_setWidth, this]
  refine E_inj hn (pair_ext ?_ ?_)
  · rw [h1, e]; rfl
  · rw [h2, e]; rfl
theorem pv_not {n : Nd} {b : Int} (h1 : 1 ≤ b) (h2 : b ≤ ns.length) (hs : (ndF ns b).sort = 0) (hS : (sortedF ns n).1.sort = 0) (hv : meanV 3 0 0 [V look ns b] = nodeV look (valsV look ns) n) : PV look ns n (.again (nodeO 3 b 0 0 0 0)) := by
  obtain ⟨s1, s2⟩ := sorted_not h1 h2 hs
  refine ⟨by simp [nodeO], by simp [nodeO], s1, by rw [s2, hS], ?_⟩
  rw [nodeV_op (by simp [nodeO]) (by simp [nodeO]), kidsV_1 (n := nodeO 3 b 0 0 0 0) (by show arity 3 = 1; decide)]
  exact hv
theorem logicC_val {n : Nd} {v : Vl} {a b : Int} {c : Ch} (hb : n.op = 4 ∨ n.op = 5 ∨ n.op = 6 ∨ n.op = 7 ∨ n.op = 8) (h : logicC n.op v a b = some c) (hva : v.ok = true) (a1 : 1 ≤ a) (a2 : a ≤ ns.length) (b1 : 1 ≤ b) (b2 : b ≤ ns.length) (hVa : V look ns a = v) (hwb : (V look ns b).w = 0 → (V look ns b).ok = true ∧ (ndF ns b).sort = 0) (hw : v.w = (V look ns b).w)
    (hS : (sortedF ns n).1.sort = 0) (hn : nodeV look (valsV look ns) n = Vl.bool (boolV n.op v (V look ns b))) : PV look ns n c := by
  unfold logicC at h
  by_cases c0 : 0 < v.w
  · rw [if_pos c0] at h; cases h
  rw [if_neg c0] at h
  have hv0 : v.w = 0 := by
    unfold Vl.ok rightF at hva
    by_cases c : v.w = 0
    · exact c
    · rw [if_neg c] at hva
      simp at hva
      omega
  obtain ⟨x, rfl⟩ := Vl.of_bool hva hv0
  obtain ⟨hbo, hbs⟩ := hwb (by omega)
  obtain ⟨y, hy⟩ := Vl.of_bool hbo (by omega)
  rw [hy] at hn
  have hyes : ∀ t, (Vl.bool t).yes = t := fun t => by cases t <;> rfl
  obtain ⟨o, ho⟩ : ∃ o, o = n.op := ⟨_, rfl⟩
  rw [← ho] at hb h hn
  have pn : meanV 3 0 0 [V look ns b] = Vl.bool (!y) := by rw [hy]; cases y <;> rfl
  rcases hb with rfl | rfl | rfl | rfl | rfl <;> cases x <;> simp [hyes] at h <;> subst h
  · exact ⟨a1, a2, by rw [hVa, hn]; cases y <;> rfl⟩
  · exact ⟨b1, b2, by rw [hy, hn]; cases y <;> rfl⟩
  · exact ⟨b1, b2, by rw [hy, hn]; cases y <;> rfl⟩
  · exact ⟨a1, a2, by rw [hVa, hn]; cases y <;> rfl⟩
  · exact ⟨b1, b2, by rw [hy, hn]; cases y <;> rfl⟩
  · exact pv_not b1 b2 hbs hS (by rw [pn, hn]; cases y <;> rfl)
  · show nodeV look (valsV look ns) n = _
    rw [hn]; cases y <;> rfl
  · exact ⟨b1, b2, by rw [hy, hn]; cases y <;> rfl⟩
  · exact pv_not b1 b2 hbs hS (by rw [pn, hn]; cases y <;> rfl)
  · exact ⟨b1, b2, by rw [hy, hn]; cases y <;> rfl⟩
end
end Go.Proofs.Ytiobohfiaapgeaa
end
section
namespace Go.Proofs.Ytiobohfiaapgeaa
set_option maxRecDepth 100000
set_option maxHeartbeats 4000000
section
variable {look : ByteArray → Option Vl} {ns : List Nd}
theorem bool_inj {a b : Bool} (h : Vl.bool a = Vl.bool b) : a = b := by cases a <;> cases b <;> first | rfl | (exact absurd (congrArg Vl.n h) (by decide))
theorem powF_val {v : Vl} {i : Nat} (h : powF v = some i) : i < v.w.toNat ∧ v.n = 1#128 <<< i := by
  unfold powF at h
  have h1 := List.find?_some h
  have h2 := List.mem_of_find?_eq_some h
  exact ⟨List.mem_range.1 h2, of_decide_eq_true h1⟩
theorem pow_word {n i : Nat} (hn : n ≤ 128) (_hi : i < n) {x : BitVec n} (h : E x = 1#128 <<< i) : x = 1#n <<< i := by
  rw [← E_set hn x, h]
  apply BitVec.eq_of_getLsbD_eq
  intro t ht
  rw [BitVec.getLsbD_setWidth, BitVec.getLsbD_shiftLeft, BitVec.getLsbD_shiftLeft]
  have h1 : t < 128 := by omega
  have h2 : 0 < n := by omega
  simp [ht, h1, h2]
theorem double_val (g : Gok ns) (hA : AllFit look ns) {n : Nd} {N : Nat} {x y : BitVec N} (hN1 : 1 ≤ N) (hN : N ≤ 128) (f1 : 1 ≤ n.a) (f2 : n.a ≤ ns.length) (f3 : 1 ≤ n.b) (f4 : n.b ≤ ns.length) (ha : V look ns n.a = Vl.of x) (hb : V look ns n.b = Vl.of y) (hsa : (ndF ns n.a).sort = N) (hsb : (ndF ns n.b).sort = N)
    (hS : (sortedF ns n).1.sort = N) (hv : nodeV look (valsV look ns) n = Vl.of (wordV 20 x y)) : PV look ns n (doubleF ns n) := by
  have shl_ok : ∀ (k : Int) (i : Nat) (z : BitVec N), i < N → 1 ≤ k → k ≤ ns.length → (ndF ns k).sort = N → V look ns k = Vl.of z → wordV 20 x y = wordV 26 z (BitVec.ofNat N i) → PV look ns n (.shl k ⟨N, BitVec.ofNat 128 i⟩) := fun k i z hi k1 k2 ks kv kw => by
    have e : (⟨(N : Int), BitVec.ofNat 128 i⟩ : Vl) = Vl.of (BitVec.ofNat N i) := by
      unfold Vl.of E
      congr 1
      apply BitVec.eq_of_toNat_eq
      have hlt : i < 2 ^ N := Nat.lt_trans hi Nat.lt_two_pow_self
      have hlt2 : i < 2 ^ 128 := Nat.lt_trans (by omega : i < 128) (by decide)
      rw [BitVec.toNat_setWidth, BitVec.toNat_ofNat, BitVec.toNat_ofNat, Nat.mod_eq_of_lt hlt, Nat.mod_eq_of_lt hlt2]
    rw [e]
    refine ⟨Vl.of_ok hN1 hN _, hS.symm, by rw [of_w]; omega, k1, k2, by rw [ks, of_w], ?_⟩
    rw [kv, two_word (by omega) (by omega) hN, hv, kw]
  unfold doubleF
  cases hcb : (conF ns n.b).bind powF with
  | some i =>
    simp only
    obtain ⟨v, hc, hp⟩ := Option.bind_eq_some_iff.1 hcb
    obtain ⟨p1, p2⟩ := powF_val hp
    have hvb := con_all g hA hc
    rw [hb] at hvb
    rw [hc]
    subst hvb
    rw [of_w] at p1
    have hw := w_double (x := x) (y := y) (i := i) (by omega) (pow_word hN (by omega) p2)
    exact shl_ok n.a i x (by omega) f1 f2 hsa ha hw.1
  | none =>
    simp only
    cases hca : (conF ns n.a).bind powF with
    | some i =>
      simp only
      obtain ⟨v, hc, hp⟩ := Option.bind_eq_some_iff.1 hca
      obtain ⟨p1, p2⟩ := powF_val hp
      have hva := con_all g hA hc
      rw [ha] at hva
      rw [hc]
      subst hva
      rw [of_w] at p1
      have hw := w_double (x := y) (y := x) (i := i) (by omega) (pow_word hN (by omega) p2)
      exact shl_ok n.b i y (by omega) f3 f4 hsb hb hw.2
    | none => trivial
theorem beside_val (g : Gok ns) (hA : AllFit look ns) {n : Nd} {N : Nat} {x y : BitVec N} (hN1 : 1 ≤ N) (hN : N ≤ 128) (_h12 : 12 ≤ n.op) (_h28 : n.op ≤ 28) (f1 : 1 ≤ n.a) (f2 : n.a ≤ ns.length) (f3 : 1 ≤ n.b) (f4 : n.b ≤ ns.length) (ha : V look ns n.a = Vl.of x) (hb : V look ns n.b = Vl.of y) (hsa : (ndF ns n.a).sort = N) (hsb : (ndF ns n.b).sort = N)
    (hS : (sortedF ns n).1.sort = N) (hv : nodeV look (valsV look ns) n = Vl.of (wordV n.op x y)) : PV look ns n (besideF ns n) := by
  unfold besideF
  split
  · rename_i c
    show nodeV look (valsV look ns) n = _
    rw [hv, hsa, ← of_zero]
    rcases c with ⟨c, d | d⟩ | ⟨c, d⟩
    · rw [isF0 g hA d hN ha, (w_zero c y).2]
    · rw [isF0 g hA d hN hb, (w_zero c x).1]
    · rw [isF0 g hA d hN ha, w_shift0 c y]
  · split
    · rename_i c
      refine ⟨f1, f2, ?_⟩
      rw [hv, ha]
      rcases c with ⟨c, d⟩ | ⟨c, d⟩
      · rw [isF0 g hA d hN hb, w_right hN1 c x]
      · rw [isF1 g hA d hN1 hN hb, w_one hN1 c x]
    · split
      · rename_i c
        refine ⟨f3, f4, ?_⟩
        rw [hv, hb]
        rcases c with ⟨c, d⟩ | ⟨c, d⟩
        · rw [isF0 g hA d hN ha, w_left c y]
        · rw [isF1 g hA d hN1 hN ha, c]
          have := w_one hN1 (op := 20) (.inl rfl) y
          simp only [wordV] at this ⊢
          simp at this ⊢
      · split
        · rename_i c
          rw [c] at hv
          exact double_val g hA hN1 hN f1 f2 f3 f4 ha hb hsa hsb hS hv
        · trivial
theorem beside_none {n : Nd} (h : n.op < 12 ∨ 28 < n.op) : besideF ns n = .mk := by
  unfold besideF
  rw [if_neg (by omega), if_neg (by omega), if_neg (by omega), if_neg (by omega)]
theorem bin_val (g : Gok ns) (hA : AllFit look ns) {n : Nd} (hf : formedF ns.length n = true) (hs : (sortedF ns n).2 = 0) (h1 : ¬ n.op = 1) (h2 : ¬ n.op = 2) (har : arity n.op = 2) : PV look ns n (binC ns n) := by
  unfold binC
  cases hfo : foldF ns n with
  | some v => exact fold_val g hA h1 h2 hfo
  | none =>
    simp only
    obtain ⟨f1, f2, f3, f4, f5⟩ := formed2 hf har
    have KA := kid_ok g hA f1 f2
    have KB := kid_ok g hA f3 f4
    have F := node_fit g hA hf hs h1 h2
    have hv := nodeV_op (look := look) (acc := valsV look ns) h1 h2
    rw [kidsV_2 har] at F hv
    obtain ⟨s, hse⟩ : ∃ s, s = (sortedF ns n).1.sort := ⟨_, rfl⟩
    rw [← hse] at F
    have hka := KA.w
    have hkb := KB.w
    obtain ⟨A, hAe⟩ : ∃ A, A = V look ns n.a := ⟨_, rfl⟩
    obtain ⟨B', hBe⟩ : ∃ B', B' = V look ns n.b := ⟨_, rfl⟩
    have hAB : n.a = n.b → A = B' := fun h => by rw [hAe, hBe, h]
    rw [← hAe, ← hBe] at F hv
    rw [← hAe] at hka
    rw [← hBe] at hkb
    obtain ⟨no, hno⟩ : ∃ x, x = n.op := ⟨_, rfl⟩
    obtain ⟨np, hnp⟩ : ∃ x, x = n.p := ⟨_, rfl⟩
    obtain ⟨nq, hnq⟩ : ∃ x, x = n.q := ⟨_, rfl⟩
    rw [← hno, ← hnp, ← hnq] at F hv
    have lg : ∀ c, logicF ns n = some c → no = 4 ∨ no = 5 ∨ no = 6 ∨ no = 7 ∨ no = 8 := fun c hc => by
      unfold logicF at hc
      by_cases d : n.op < 4 ∨ 8 < n.op
      · rw [if_pos d] at hc; cases hc
      · omega
    have logic_ok : ∀ c, logicF ns n = some c → A.ok = true → B'.ok = true → A.w = B'.w → (sortedF ns n).1.sort = 0 → nodeV look (valsV look ns) n = Vl.bool (boolV n.op A B') → PV look ns n c := fun c hc oa ob hw hS hn => by
      have hop := lg c hc
      rw [hno] at hop
      unfold logicF at hc
      rw [if_neg (by omega)] at hc
      cases hca : conF ns n.a with
      | some v =>
        rw [hca] at hc
        simp only at hc
        have hva := con_all g hA hca
        rw [← hAe] at hva
        subst hva
        refine logicC_val hop hc oa f1 f2 f3 f4 hAe.symm (fun h => ?_) (by rw [← hBe]; exact hw) hS (by rw [← hBe]; exact hn)
        rw [← hBe] at h ⊢
        exact ⟨ob, by omega⟩
      | none =>
        rw [hca] at hc
        simp only at hc
        by_cases d : n.op = 7
        · rw [if_pos d] at hc; cases hc
        rw [if_neg d] at hc
        cases hcb : conF ns n.b with
        | none => rw [hcb] at hc; cases hc
        | some v =>
          rw [hcb] at hc
          simp only at hc
          have hvb := con_all g hA hcb
          rw [← hBe] at hvb
          subst hvb
          refine logicC_val hop hc ob f3 f4 f1 f2 hBe.symm (fun h => ?_) (by rw [← hAe]; exact hw.symm) hS ?_
          · rw [← hAe] at h ⊢
            exact ⟨oa, by omega⟩
          · rw [← hAe, hn]
            congr 1
            rcases hop with h | h | h | h | h
            · rw [h]; simp [boolV, Bool.and_comm]
            · rw [h]; simp [boolV, Bool.or_comm]
            · rw [h]; simp [boolV, Bool.xor_comm]
            · exact absurd h d
            · rw [h]; simp only [boolV]; simp; exact ⟨Eq.symm, Eq.symm⟩
    rw [← hno]
    by_cases c1 : n.a = n.b ∧ (no = 4 ∨ no = 5 ∨ no = 12 ∨ no = 13)
    · rw [if_pos c1]
      refine ⟨f1, f2, ?_⟩
      obtain ⟨c0, c1⟩ := c1
      have hab := hAB c0
      rw [← hAe, hv]
      have hyes : ∀ t, (Vl.bool t).yes = t := fun t => by cases t <;> rfl
      cases F with
      | two a b q1 q2 q3 q4 =>
        obtain rfl := bool_inj hab
        rw [mean_bool (by omega)]
        rcases (by omega : no = 4 ∨ no = 5) with rfl | rfl <;> simp [boolV, hyes]
      | word N x y q1 q2 q3 q4 q5 q6 =>
        obtain rfl := of_inj q2 hab
        rw [two_word q3 q4 q2, w_same (by omega)]
      | _ => omega
    rw [if_neg c1]
    by_cases c2 : n.a = n.b ∧ (no = 6 ∨ no = 29 ∨ no = 31 ∨ no = 33 ∨ no = 35 ∨ no = 14 ∨ no = 19)
    · rw [if_pos c2]
      show nodeV look (valsV look ns) n = _
      obtain ⟨c0, c2⟩ := c2
      have hab := hAB c0
      rw [hv]
      cases F with
      | two a b q1 q2 q3 q4 =>
        obtain rfl := bool_inj hab
        rw [mean_bool (by omega), if_neg (by omega)]
        obtain rfl : no = 6 := by omega
        simp [boolV]
      | word N x y q1 q2 q3 q4 q5 q6 =>
        obtain rfl := of_inj q2 hab
        rw [two_word q3 q4 q2, w_none (by omega), if_pos (by omega), ← hka, of_w, of_zero]
      | cmp N x y q1 q2 q3 q4 q5 q6 =>
        obtain rfl := of_inj q2 hab
        rw [two_cmp q3 q4 q2, c_same no q3 q4, if_neg (by omega), decide_eq_false (by omega)]
      | _ => omega
    rw [if_neg c2]
    by_cases c3 : n.a = n.b ∧ (no = 8 ∨ no = 30 ∨ no = 32 ∨ no = 34 ∨ no = 36 ∨ no = 7)
    · rw [if_pos c3]
      show nodeV look (valsV look ns) n = _
      obtain ⟨c0, c3⟩ := c3
      have hab := hAB c0
      rw [hv]
      cases F with
      | two a b q1 q2 q3 q4 =>
        obtain rfl := bool_inj hab
        rw [mean_bool (by omega)]
        obtain rfl : no = 7 := by omega
        simp [boolV]
      | eq _ _ q1 q2 q3 q4 q5 q6 =>
        subst q1
        rw [mean_bool (by omega), hab]
        simp [boolV]
      | cmp N x y q1 q2 q3 q4 q5 q6 =>
        obtain rfl := of_inj q2 hab
        rw [two_cmp q3 q4 q2, c_same no q3 q4, decide_eq_true (by omega)]
      | _ => omega
    rw [if_neg c3]
    have getF : ∀ (a b : Vl), [a, b].getD 0 Vl.zero = a ∧ [a, b].getD 1 Vl.zero = b := fun a b => ⟨rfl, rfl⟩
    cases hlo : logicF ns n with
    | some c =>
      simp only
      have hop := lg c hlo
      have hb8 : no ≤ 8 := by omega
      rw [mean_bool hb8, (getF A B').1, (getF A B').2] at hv
      rw [hno] at hv
      cases F with
      | two a b q1 q2 q3 q4 => exact logic_ok c hlo (Vl.bool_ok _) (Vl.bool_ok _) rfl hse.symm hv
      | eq _ _ q1 q2 q3 q4 q5 q6 => exact logic_ok c hlo q4 q5 q6 hse.symm hv
      | _ => omega
    | none =>
      simp only
      by_cases hw : 12 ≤ no ∧ no ≤ 28
      · cases F with
        | word N x y q1 q2 q3 q4 q5 q6 =>
          rw [two_word q3 q4 q2] at hv
          rw [of_w] at hka hkb
          rw [hno] at q3 q4 hv
          exact beside_val g hA q1 q2 q3 q4 f1 f2 f3 f4 hAe.symm hBe.symm hka.symm hkb.symm hse.symm hv
        | _ => omega
      · rw [beside_none (by omega)]; trivial
theorem path_val (g : Gok ns) (hA : AllFit look ns) {n : Nd} (hf : formedF ns.length n = true) (hs : (sortedF ns n).2 = 0) (h1 : ¬ n.op = 1) (h2 : ¬ n.op = 2) : PV look ns n (pathF ns n) := by
  have h0 := (formed_arity hf).2
  have h3 := arity_le n.op
  unfold pathF
  by_cases c0 : arity n.op = 0
  · rw [if_pos c0]; trivial
  rw [if_neg c0]
  by_cases c1 : arity n.op = 1
  · rw [if_pos c1]; exact un_val g hA hf hs h1 h2 c1
  rw [if_neg c1]
  by_cases c3 : arity n.op = 3
  · rw [if_pos c3]; exact ite_val g hA hf hs h1 h2 c3
  rw [if_neg c3]
  exact bin_val g hA hf hs h1 h2 (by omega)
end
end Go.Proofs.Ytiobohfiaapgeaa
end
section
namespace Go.Proofs.Ytiobohfiaapgeaa
set_option maxRecDepth 100000
set_option maxHeartbeats 2000000
theorem mak_ok {most : Int} {ns : List Nd} {n : Nd} (g : Gok ns) (hf : formedF ns.length n = true) (hs : (sortedF ns n).2 = 0) : Gok (makT most ns n).1 ∧
    ((makT most ns n).2.2 = 0 ∧ (∃ t, (makT most ns n).1 = ns ++ t ∧ ∀ m, m ∈ t → m = (sortedF ns n).1) ∧ 1 ≤ (makT most ns n).2.1 ∧ (makT most ns n).2.1 ≤ (makT most ns n).1.length ∧ ndF (makT most ns n).1 (makT most ns n).2.1 = (sortedF ns n).1 ∨
    (makT most ns n).2.2 = 33 ∧ (makT most ns n).1 = ns ∧ (makT most ns n).2.1 = 0) := by
  refine ⟨g.make, ?_⟩
  unfold makT
  rw [if_neg (by rw [hf]; simp), if_neg (by rw [hs]; simp)]
  cases hi : idx ns (sortedF ns n).1 with
  | some i =>
    simp only
    unfold idx at hi
    obtain ⟨h1, h2, -⟩ := List.findIdx?_eq_some_iff_getElem.1 hi
    have h2 := of_decide_eq_true h2
    refine .inl ⟨by first | trivial | rfl, ⟨[], by simp, by simp⟩, by omega, by omega, ?_⟩
    unfold ndF nodeS
    rw [if_neg (by omega), show ((i : Int) + 1 - 1).toNat = i by omega, List.getElem?_eq_getElem h1, h2]
    rfl
  | none =>
    simp only
    by_cases c : most ≤ ns.length
    · rw [if_pos c]; exact .inr ⟨rfl, rfl, rfl⟩
    · rw [if_neg c]
      refine .inl ⟨rfl, ⟨_, rfl, by simp⟩, (by show (1 : Int) ≤ (ns.length : Int) + 1; omega), by simp, ?_⟩
      unfold ndF nodeS
      rw [if_neg (by simp; omega), show ((ns.length : Int) + 1 - 1).toNat = ns.length by omega]
      simp
theorem ndF_more {ns t : List Nd} {k : Int} (h1 : 1 ≤ k) (h2 : k ≤ ns.length) : ndF (ns ++ t) k = ndF ns k := by
  unfold ndF nodeS
  rw [if_neg (by simp; omega), if_neg (by omega), List.getElem?_append_left (by omega)]
theorem AllFit.appends {look : ByteArray → Option Vl} {ns t : List Nd} (h : AllFit look ns) (ht : ∀ m, m ∈ t → ¬ m.op = 2) : AllFit look (ns ++ t) := by
  intro i n hn h2
  by_cases c : i < ns.length
  · rw [List.getElem?_append_left c] at hn; exact h i n hn h2
  · rw [List.getElem?_append_right (by omega)] at hn
    exact absurd h2 (ht n (List.mem_of_getElem? hn))
theorem sorted_parts {ns : List Nd} {n : Nd} (h1 : ¬ n.op = 2) : (sortedF ns n).1.op = n.op ∧ (sortedF ns n).1.p = n.p ∧ (sortedF ns n).1.q = n.q ∧ (sortedF ns n).1.a = n.a ∧ (sortedF ns n).1.b = n.b ∧ (sortedF ns n).1.c = n.c ∧ (sortedF ns n).1.v = n.v ∧ (sortedF ns n).1.name = n.name := by
  unfold sortedF
  by_cases c : n.op = 1
  · rw [if_pos c]; exact ⟨rfl, rfl, rfl, rfl, rfl, rfl, rfl, rfl⟩
  · rw [if_neg c, if_neg h1]; exact ⟨rfl, rfl, rfl, rfl, rfl, rfl, rfl, rfl⟩
theorem nodeV_sorted {look : ByteArray → Option Vl} {acc : List Vl} {ns : List Nd} {n : Nd} (h2 : ¬ n.op = 2) : nodeV look acc (sortedF ns n).1 = nodeV look acc n := by
  obtain ⟨h1, hp, hq, ha, hb, hc, hv, hn⟩ := sorted_parts (ns := ns) h2
  unfold nodeV kidsV
  rw [h1, hp, hq, ha, hb, hc, hv, hn]
structure NV (ns : List Nd) (n : Nd) (s : Int) (x : List Nd × Int × Int) : Prop where
  more : ∃ t, x.1 = ns ++ t ∧ ∀ m, m ∈ t → ¬ m.op = 2
  gok : Gok x.1
  lo : 1 ≤ x.2.1
  hi : x.2.1 ≤ x.1.length
  srt : (ndF x.1 x.2.1).sort = s
  val : ∀ look, AllFit look ns → V look x.1 x.2.1 = nodeV look (valsV look ns) n
theorem NV.made {most : Int} {ns : List Nd} {n : Nd} (g : Gok ns) (hf : formedF ns.length n = true) (hs : (sortedF ns n).2 = 0) (h2 : ¬ n.op = 2) (h0 : (makT most ns n).2.2 = 0) : NV ns n (sortedF ns n).1.sort (makT most ns n) := by
  obtain ⟨g1, hm⟩ := mak_ok (most := most) g hf hs
  rcases hm with ⟨-, ⟨t, ht, hmt⟩, l1, l2, hn⟩ | ⟨he, -⟩
  rotate_left
  · rw [he] at h0; cases h0
  have hop := (sorted_parts (ns := ns) h2).1
  have hno : ∀ m, m ∈ t → ¬ m.op = 2 := fun m hm => by rw [hmt m hm, hop]; exact h2
  refine ⟨⟨t, ht, hno⟩, g1, l1, l2, by rw [hn], fun look hA => ?_⟩
  obtain ⟨i, hi, hni⟩ := nd_at l1 l2
  rw [hi, V_node g1.kok hni, hn, nodeV_sorted h2]
  obtain ⟨u, hu⟩ := valsV_more look ns t
  rw [ht, hu]
  obtain ⟨k1, k2, k3⟩ := formed_kids hf
  exact (nodeV_more (by rw [valsV_len]; exact k1) (by rw [valsV_len]; exact k2) (by rw [valsV_len]; exact k3)).1
theorem look_any {ns : List Nd} (g : Gok ns) : ∃ look, AllFit look ns := ⟨_, full_fit (look := fun _ => none) g⟩
theorem con_formed {ns : List Nd} {v : Vl} (hv : v.ok = true) : formedF ns.length (constN v) = true ∧ sortedF ns (constN v) = (constN v, 0) := by
  have har : arity 1 = 0 := by decide
  refine ⟨?_, ?_⟩
  · unfold formedF constN
    simp [kidsOK, kidOK, har]
  · unfold sortedF constN
    have h : rightF v.w (lo v.n) (hi v.n) = true := hv
    simp [h]
theorem con_val {look : ByteArray → Option Vl} {acc : List Vl} {v : Vl} : nodeV look acc (constN v) = v := by
  unfold nodeV constN Nd.v
  simp only [if_true]
  have : mkN (lo v.n) (hi v.n) = v.n := pair_ext (by rw [lo_mk]) (by rw [hi_mk])
  rw [this]
theorem sorted_shl {ns : List Nd} {x c s : Int} (h1 : 1 ≤ x) (h2 : x ≤ ns.length) (h3 : 1 ≤ c) (h4 : c ≤ ns.length) (hx : (ndF ns x).sort = s) (hc : (ndF ns c).sort = s) (hs : 0 < s) (hs2 : s ≤ 128) : formedF ns.length (nodeO 26 x c 0 0 0) = true ∧ sortedF ns (nodeO 26 x c 0 0 0) = ({ nodeO 26 x c 0 0 0 with sort := s }, 0) := by
  obtain ⟨i, rfl, hi⟩ := nd_at h1 h2
  obtain ⟨j, rfl, hj⟩ := nd_at h3 h4
  have hk : ksort ns ((i : Int) + 1) = [s] := by rw [ksort_pos (by omega) (m := ndF ns ((i : Int) + 1)) (by rw [show ((i : Int) + 1 - 1).toNat = i by omega]; exact hi), hx]
  have hk2 : ksort ns ((j : Int) + 1) = [s] := by rw [ksort_pos (by omega) (m := ndF ns ((j : Int) + 1)) (by rw [show ((j : Int) + 1 - 1).toNat = j by omega]; exact hj), hc]
  have hk0 : ksort ns 0 = [] := ksort_none rfl
  have har : arity 26 = 2 := by decide
  refine ⟨?_, ?_⟩
  · unfold formedF nodeO
    simp [kidsOK, kidOK, har]
    omega
  · have h6 : isSort s = true := by unfold isSort; simp; omega
    have hss : sortS 26 0 0 [s, s] = (s, 0) := by
      unfold sortS toldB toldV
      simp [har, h6]
      rw [if_neg (by omega), if_neg (by omega)]
    unfold sortedF nodeO
    simp only [hk, hk2, hk0, List.append_nil, List.singleton_append, hss]
    simp
theorem norm_val {most : Int} : ∀ (f : Nat) {ns : List Nd} {n : Nd}, Gok ns → formedF ns.length n = true → (sortedF ns n).2 = 0 → ¬ n.op = 1 → ¬ n.op = 2 → (normF most f ns n).2.2 ≠ -1 →
    ((normF most f ns n).2.2 = 0 → NV ns n (sortedF ns n).1.sort (normF most f ns n)) ∧ ((normF most f ns n).2.2 = 0 ∨ (normF most f ns n).2.2 = 33)
  | 0, _, _, _, _, _, _, _, h => absurd rfl h
  | f + 1, ns, n, g, hf, hs, h1, h2, hne => by
    have mk2 : ∀ m : Nd, formedF ns.length m = true → (sortedF ns m).2 = 0 → (makT most ns m).2.2 = 0 ∨ (makT most ns m).2.2 = 33 := fun m a b => by
      obtain ⟨-, h | h⟩ := mak_ok (most := most) g a b
      · exact .inl h.1
      · exact .inr h.1
    obtain ⟨look0, hA0⟩ := look_any g
    have hfit0 := node_fit g hA0 hf hs h1 h2
    have hgood0 := hfit0.good
    have hpv := fun look (hA : AllFit look ns) => path_val g hA hf hs h1 h2
    unfold normF at hne ⊢
    cases hp : pathF ns n with
    | «at» k =>
      simp only [hp] at hne hpv ⊢
      obtain ⟨k1, k2, k3⟩ := hpv look0 hA0
      refine ⟨fun _ => ⟨⟨[], by simp, by simp⟩, g, k1, k2, ?_, fun look hA => (hpv look hA).2.2⟩, by simp⟩
      have K := kid_ok g hA0 k1 k2
      show (ndF ns k).sort = _
      rw [← K.w, k3, nodeV_op h1 h2]
      exact hgood0.2
    | con v =>
      simp only [hp] at hne hpv ⊢
      have hv0 := hpv look0 hA0
      change nodeV look0 (valsV look0 ns) n = v at hv0
      rw [nodeV_op h1 h2] at hv0
      have hvo : v.ok = true := by rw [← hv0]; exact hgood0.1
      have hvw : v.w = (sortedF ns n).1.sort := by rw [← hv0]; exact hgood0.2
      obtain ⟨c1, c2⟩ := con_formed (ns := ns) hvo
      refine ⟨fun h0 => ?_, mk2 _ c1 (by rw [c2])⟩
      have M := NV.made (n := constN v) g c1 (by rw [c2]) (by simp [constN]) h0
      rw [c2] at M
      exact ⟨M.more, M.gok, M.lo, M.hi, M.srt.trans hvw, fun look hA => by rw [M.val look hA, con_val]; exact (hpv look hA).symm⟩
    | mk =>
      simp only [hp] at hne ⊢
      exact ⟨fun h0 => NV.made g hf hs h2 h0, mk2 n hf hs⟩
    | again m =>
      simp only [hp] at hne hpv ⊢
      obtain ⟨m1, m2, m3, m4, -⟩ := hpv look0 hA0
      obtain ⟨r1, r2⟩ := norm_val f g m3 (by rw [m4]) m1 m2 hne
      refine ⟨fun h0 => ?_, r2⟩
      have M := r1 h0
      rw [m4] at M
      exact ⟨M.more, M.gok, M.lo, M.hi, M.srt, fun look hA => by rw [M.val look hA]; exact (hpv look hA).2.2.2.2⟩
    | shl x v =>
      simp only [hp] at hne hpv ⊢
      obtain ⟨v1, v2, v3, x1, x2, x3, -⟩ := hpv look0 hA0
      obtain ⟨c1, c2⟩ := con_formed (ns := ns) v1
      by_cases h0 : (makT most ns (constN v)).2.2 = 0
      · rw [if_pos h0] at hne ⊢
        have M := NV.made (n := constN v) g c1 (by rw [c2]) (by simp [constN]) h0
        rw [c2] at M
        obtain ⟨X, hX⟩ : ∃ X, X = makT most ns (constN v) := ⟨_, rfl⟩
        rw [← hX] at M hne ⊢
        obtain ⟨t, ht, hno⟩ := M.more
        have hle : ns.length ≤ X.1.length := by rw [ht]; simp
        have hxs : (ndF X.1 x).sort = v.w := by rw [ht, ndF_more x1 x2]; exact x3
        have hw128 : v.w ≤ 128 := by
          unfold Vl.ok rightF at v1
          rw [if_neg (by omega)] at v1
          simp at v1
          omega
        obtain ⟨s1, s2⟩ := sorted_shl (x := x) (c := X.2.1) x1 (by omega) M.lo M.hi hxs (by rw [M.srt]; rfl) v3 hw128
        obtain ⟨r1, r2⟩ := norm_val f M.gok s1 (by rw [s2]) (by simp [nodeO]) (by simp [nodeO]) hne
        refine ⟨fun h0 => ?_, r2⟩
        have Q := r1 h0
        rw [s2] at Q
        obtain ⟨t2, ht2, hno2⟩ := Q.more
        refine ⟨⟨t ++ t2, by rw [ht2, ht, List.append_assoc], fun m hm => ?_⟩, Q.gok, Q.lo, Q.hi, Q.srt.trans v2, fun look hA => ?_⟩
        · rcases List.mem_append.1 hm with h | h
          · exact hno m h
          · exact hno2 m h
        · have hA2 : AllFit look X.1 := by rw [ht]; exact hA.appends hno
          rw [Q.val look hA2, nodeV_op (by simp [nodeO]) (by simp [nodeO]), kidsV_2 (n := nodeO 26 x X.2.1 0 0 0) (by show arity 26 = 2; decide)]
          have e1 : V look X.1 x = V look ns x := by rw [ht]; exact V_more x2
          have e2 : V look X.1 X.2.1 = v := by rw [M.val look hA, con_val]
          show meanV 26 0 0 [V look X.1 x, V look X.1 X.2.1] = _
          rw [e1, e2]
          exact (hpv look hA).2.2.2.2.2.2
      · rw [if_neg h0] at hne ⊢
        refine ⟨fun h => absurd h h0, ?_⟩
        rcases mk2 (constN v) c1 (by rw [c2]) with h | h
        · exact absurd h h0
        · exact .inr h
end Go.Proofs.Ytiobohfiaapgeaa
end
section
namespace Go.Proofs.Ytiobohfiaapgeaa
set_option maxRecDepth 100000
set_option maxHeartbeats 2000000
def rankF (n : Nd) : Nat := if n.op = 39 then n.a.toNat + 1 else if (4 ≤ n.op ∧ n.op ≤ 8) ∨ n.op = 20 then 2 else 1
theorem rank_pos (n : Nd) : 1 ≤ rankF n := by
  unfold rankF
  split
  · omega
  · split <;> omega
def downF (n : Nd) : Ch → Prop
  | .again m => rankF m < rankF n
  | .shl _ _ => n.op = 20
  | _ => True
theorem slice_down {ns : List Nd} (kok : Kok ns) {n : Nd} (h39 : n.op = 39) (h1 : 1 ≤ n.a) (h2 : n.a ≤ ns.length) : downF n (sliceF ns n (ndF ns n.a)) := by
  obtain ⟨i, hi, hn⟩ := nd_at h1 h2
  obtain ⟨⟨a0, a1⟩, ⟨b0, b1⟩, -⟩ := kok i _ hn
  have ex : ∀ k p q : Int, k ≤ i → rankF (nodeO 39 k 0 0 p q) < rankF n := fun k p q hk => by
    unfold rankF nodeO
    simp only [h39, if_true]
    omega
  unfold sliceF
  split
  · exact ex _ _ _ a1
  · split
    · split
      · exact ex _ _ _ a1
      · split
        · exact ex _ _ _ b1
        · trivial
    · split
      · split
        · exact ex _ _ _ a1
        · trivial
      · trivial
theorem logicC_down {n : Nd} {v : Vl} {a b : Int} {c : Ch} (h4 : 4 ≤ n.op) (h8 : n.op ≤ 8) (h : logicC n.op v a b = some c) : downF n c := by
  have hr : rankF (nodeO 3 b 0 0 0 0) < rankF n := by
    unfold rankF nodeO
    simp
    rw [if_neg (by omega), if_pos (by omega)]
    omega
  unfold logicC at h
  split at h
  · cases h
  · split at h
    · cases h; split <;> trivial
    · split at h
      · cases h; split <;> trivial
      · split at h
        · cases h; split <;> trivial
        · split at h
          · cases h
            split
            · exact hr
            · trivial
          · cases h
            split
            · trivial
            · exact hr
theorem path_down {ns : List Nd} (kok : Kok ns) {n : Nd} (hf : formedF ns.length n = true) : downF n (pathF ns n) := by
  unfold pathF
  split
  · trivial
  · split
    · rename_i h1
      obtain ⟨f1, f2, -⟩ := formed1 hf h1
      unfold unC
      split
      · trivial
      · simp only
        split
        · trivial
        · split
          · trivial
          · split
            · trivial
            · split
              · trivial
              · split
                · trivial
                · split
                  · rename_i h39
                    exact slice_down kok h39 f1 f2
                  · trivial
    · split
      · unfold iteC
        split
        · trivial
        · split
          · split <;> trivial
          · trivial
      · unfold binC
        split
        · trivial
        · split
          · trivial
          · split
            · trivial
            · split
              · trivial
              · split
                · rename_i c hc
                  unfold logicF at hc
                  split at hc
                  · cases hc
                  · rename_i ho
                    split at hc
                    · exact logicC_down (by omega) (by omega) hc
                    · split at hc
                      · cases hc
                      · split at hc
                        · exact logicC_down (by omega) (by omega) hc
                        · cases hc
                · unfold besideF
                  split
                  · trivial
                  · split
                    · trivial
                    · split
                      · trivial
                      · split
                        · rename_i h20
                          unfold doubleF
                          split
                          · exact h20
                          · split
                            · exact h20
                            · trivial
                        · trivial
theorem norm_fuel {most : Int} : ∀ (f : Nat) {ns : List Nd} {n : Nd}, Gok ns → formedF ns.length n = true → (sortedF ns n).2 = 0 → ¬ n.op = 1 → ¬ n.op = 2 → rankF n ≤ f → (normF most f ns n).2.2 ≠ -1
  | 0, _, n, _, _, _, _, _, h => by have := rank_pos n; omega
  | f + 1, ns, n, g, hf, hs, h1, h2, hr => by
    have mk2 : ∀ m : Nd, formedF ns.length m = true → (sortedF ns m).2 = 0 → (makT most ns m).2.2 ≠ -1 := fun m a b => by
      obtain ⟨-, h | h⟩ := mak_ok (most := most) g a b
      · rw [h.1]; decide
      · rw [h.1]; decide
    obtain ⟨look0, hA0⟩ := look_any g
    have hgood0 := (node_fit g hA0 hf hs h1 h2).good
    have hpv := path_val g hA0 hf hs h1 h2
    have hd := path_down g.kok hf
    unfold normF
    cases hp : pathF ns n with
    | «at» k => simp
    | con v =>
      rw [hp] at hpv
      change nodeV look0 (valsV look0 ns) n = v at hpv
      rw [nodeV_op h1 h2] at hpv
      obtain ⟨c1, c2⟩ := con_formed (ns := ns) (v := v) (by rw [← hpv]; exact hgood0.1)
      exact mk2 _ c1 (by rw [c2])
    | mk => exact mk2 _ hf hs
    | again m =>
      rw [hp] at hpv hd
      obtain ⟨m1, m2, m3, m4, -⟩ := hpv
      change rankF m < rankF n at hd
      exact norm_fuel f g m3 (by rw [m4]) m1 m2 (by omega)
    | shl x v =>
      rw [hp] at hpv hd
      obtain ⟨v1, v2, v3, x1, x2, x3, -⟩ := hpv
      change n.op = 20 at hd
      obtain ⟨c1, c2⟩ := con_formed (ns := ns) v1
      simp only
      by_cases h0 : (makT most ns (constN v)).2.2 = 0
      · rw [if_pos h0]
        have M := NV.made (n := constN v) g c1 (by rw [c2]) (by simp [constN]) h0
        rw [c2] at M
        obtain ⟨X, hX⟩ : ∃ X, X = makT most ns (constN v) := ⟨_, rfl⟩
        rw [← hX] at M ⊢
        obtain ⟨t, ht, hno⟩ := M.more
        have hle : ns.length ≤ X.1.length := by rw [ht]; simp
        have hxs : (ndF X.1 x).sort = v.w := by rw [ht, ndF_more x1 x2]; exact x3
        have hw128 : v.w ≤ 128 := by
          unfold Vl.ok rightF at v1
          rw [if_neg (by omega)] at v1
          simp at v1
          omega
        obtain ⟨s1, s2⟩ := sorted_shl (x := x) (c := X.2.1) x1 (by omega) M.lo M.hi hxs (by rw [M.srt]; rfl) v3 hw128
        refine norm_fuel f M.gok s1 (by rw [s2]) (by simp [nodeO]) (by simp [nodeO]) ?_
        have : rankF n = 2 := by unfold rankF; rw [if_neg (by omega), if_pos (by omega)]
        have : rankF (nodeO 26 x X.2.1 0 0 0) = 1 := by unfold rankF nodeO; simp
        omega
      · rw [if_neg h0]
        exact mk2 _ c1 (by rw [c2])
end Go.Proofs.Ytiobohfiaapgeaa
end
