/- Sorts of terms: what the program's functions and the document's tell. -/
import Derived.Test.YtiaoojghohfkjaaALC
import Derived.Test.YtiaoojghohfkjaaAT
namespace Go.Proofs.Ytiaoojghohfkjaa
set_option maxRecDepth 100000

/-- A slice of numbers. -/
def RI (H : AHeap) (v : AV) (l : List Int) : Prop := Reads H v 1 l.length (l.map (.int .i64))
theorem RI.len {H : AHeap} {v : AV} {l : List Int} (h : RI H v l) : sliceLen v = some l.length := Reads.len h
theorem RI.keep {H H' : AHeap} {v : AV} {l : List Int} (h : RI H v l) (k : Keeps H H') : RI H' v l := Reads.keep h k
def IL (l : List Int) : AV := .lst 1 l.length (l.map (.int .i64))
theorem RI.lst {H : AHeap} {l : List Int} : RI H (IL l) l := Reads.lst (by simp)
theorem RI.nils {H : AHeap} : RI H .nils [] := Reads.nils
theorem RI.row {H : AHeap} {o n : Nat} {full : Bool} {l : List Int} (ho : o < H.size) (h : H.obj o = .cells (l.map (.int .i64))) (hl : n = l.length) : RI H (.row o 0 1 n full) l := by
  subst hl; exact Reads.row' ho h (by simp)
theorem RI.ix {P : Program} {H : AHeap} {v : AV} {l : List Int} (h : RI H v l) {t : TypeId} (ht : eszS P t = some 1) {i : Nat} (hi : i < l.length) : aindexAddr P t v (i : Int) = some (ixp v 1 i) := Reads.addr h ht hi
theorem RI.at {P : Program} {H : AHeap} {v : AV} {l : List Int} (h : RI H v l) {t : TypeId} (hl : ldS P t = some none) {i : Nat} {x : Int} (hi : l[i]? = some x) : aload P H t (ixp v 1 i) = some (.int .i64 x) := by
  have hlt := (List.getElem?_eq_some_iff.1 hi).1
  rw [Reads.at h hl rfl hlt]; simp [hi]
theorem RI.at0 {P : Program} {H : AHeap} {v : AV} {l : List Int} (h : RI H v l) {t s : TypeId} (ht : eszS P t = some 1) (hl : ldS P s = some none) {i : Nat} {x : Int} (hi : l[i]? = some x) : aindexAddr P t v (i : Int) = some (ixp v 1 i) ∧ aload P H s (ixp v 1 i) = some (.int .i64 x) :=
  ⟨h.ix ht (List.getElem?_eq_some_iff.1 hi).1, h.at hl hi⟩

/-! Arity -/
def arity (op : Int) : Int := if op < 1 ∨ 44 < op then -1 else if op ≤ 2 then 0 else if op = 3 ∨ op = 10 ∨ op = 11 ∨ 39 ≤ op then 1 else if op = 9 then 3 else 2
theorem arity_run {op : Int} {H : AHeap} : R f_term_Arity [.int .i64 op] H = some (.int .i64 (arity op), H) := by
  rw [e_term_Arity]
  unfold arity
  by_cases a1 : op < 1
  · simp [c_term_Arity, a1]
  by_cases a2 : 44 < op
  · simp [c_term_Arity, a1, a2]
  by_cases a3 : op ≤ 2
  · simp [c_term_Arity, a1, a2, a3]
  by_cases a4 : op = 3
  · simp [c_term_Arity, a4]
  by_cases a5 : op = 10
  · simp [c_term_Arity, a5]
  by_cases a6 : op = 11
  · simp [c_term_Arity, a6]
  by_cases a7 : 39 ≤ op
  · simp [c_term_Arity, a1, a2, a3, a4, a5, a6, a7]
  by_cases a8 : op = 9
  · simp [c_term_Arity, a8]
  · simp [c_term_Arity, a1, a2, a3, a4, a5, a6, a7, a8]
theorem arityR_run {op : Int} {H : AHeap} : R f_plaitref3_Arity [.int .i64 op] H = some (.int .i64 (arity op), H) := by
  rw [e_plaitref3_Arity]
  by_cases a1 : op = 1
  · subst a1; simp [c_plaitref3_Arity, arity]
  by_cases a2 : op = 2
  · subst a2; simp [c_plaitref3_Arity, arity]
  by_cases a3 : op = 3
  · subst a3; simp [c_plaitref3_Arity, arity]
  by_cases a4 : op = 10
  · subst a4; simp [c_plaitref3_Arity, arity]
  by_cases a5 : op = 11
  · subst a5; simp [c_plaitref3_Arity, arity]
  by_cases b1 : op = 39
  · subst b1; simp [c_plaitref3_Arity, arity]
  by_cases b2 : op = 40
  · subst b2; simp [c_plaitref3_Arity, arity]
  by_cases b3 : op = 41
  · subst b3; simp [c_plaitref3_Arity, arity]
  by_cases b4 : op = 42
  · subst b4; simp [c_plaitref3_Arity, arity]
  by_cases b5 : op = 43
  · subst b5; simp [c_plaitref3_Arity, arity]
  by_cases b6 : op = 44
  · subst b6; simp [c_plaitref3_Arity, arity]
  by_cases b7 : op = 9
  · subst b7; simp [c_plaitref3_Arity, arity]
  by_cases c1 : op < 1
  · simp [c_plaitref3_Arity, arity, a1, a2, a3, a4, a5, b1, b2, b3, b4, b5, b6, b7, c1]
  by_cases c2 : 44 < op
  · simp [c_plaitref3_Arity, arity, a1, a2, a3, a4, a5, b1, b2, b3, b4, b5, b6, b7, c1, c2]
  · have d1 : ¬ op ≤ 2 := by omega
    have d2 : ¬ 39 ≤ op := by omega
    simp [c_plaitref3_Arity, arity, a1, a2, a3, a4, a5, b1, b2, b3, b4, b5, b6, b7, c1, c2, d1, d2]

/-! A sort -/
def isSort (n : Int) : Bool := decide (0 ≤ n ∧ n ≤ 128)
theorem sort_run {n : Int} {H : AHeap} : R f_term_sort [.int .i64 n] H = some (.bool (isSort n), H) := by
  rw [e_term_sort]
  unfold isSort
  by_cases a : 0 ≤ n <;> simp [c_term_sort, a]
theorem isR_run {n : Int} {H : AHeap} : R f_plaitref3_Is [.int .i64 n] H = some (.bool (isSort n), H) := by
  rw [e_plaitref3_Is]
  unfold isSort
  by_cases a : 0 ≤ n <;> simp [c_plaitref3_Is, a]
theorem notsort_run {n : Int} {H : AHeap} : R f_term_Sort_1 [.int .i64 n] H = some (.bool (!isSort n), H) := by
  rw [e_term_Sort_1]
  simp [c_term_Sort_1, sort_run]
theorem wide_run {n : Int} {H : AHeap} : R f_plaitref3_wide [.int .i64 n] H = some (.tup [.int .i64 (if 128 < n then 0 else n), .int .i64 (if 128 < n then 31 else 0)], H) := by
  rw [e_plaitref3_wide]
  by_cases a : 128 < n <;> simp [c_plaitref3_wide, a]

/-! Operators with numbers -/
def numV (op p q w : Int) : Int := if op = 39 then p - q + 1 else if op = 42 ∨ op = 43 then w else if op = 44 then w * min p 129 else w + min (max p 0) 128
def numB (op p q w : Int) : Bool := if op = 39 then decide (0 ≤ q ∧ q ≤ p ∧ p < w) else if op = 44 then decide (1 ≤ p ∧ q = 0) else decide (0 ≤ p ∧ q = 0)
theorem num_run {op p q w : Int} {H : AHeap} : ∃ n, (numB op p q w = true → 0 ≤ w → w ≤ 128 → n = numV op p q w) ∧ R f_term_numbered [.int .i64 op, .int .i64 p, .int .i64 q, .int .i64 w] H = some (.tup [.int .i64 n, .bool (numB op p q w)], H) := by
  unfold numB numV
  rw [e_term_numbered]
  by_cases a1 : op = 39
  · subst a1
    by_cases b1 : 0 ≤ q
    · by_cases b2 : q ≤ p
      · by_cases b3 : p < w
        · simp [c_term_numbered, b1, b2, b3]
          intro h0 h1
          rw [i64w (n := p - q) (by omega) (by omega), i64w (by omega) (by omega)]
        · simp [c_term_numbered, b1, b2, b3]
      · simp [c_term_numbered, b1, b2]
    · simp [c_term_numbered, b1]
  by_cases a2 : op = 42
  · subst a2
    by_cases b1 : 0 ≤ p <;> simp [c_term_numbered, b1]
  by_cases a3 : op = 43
  · subst a3
    by_cases b1 : 0 ≤ p <;> simp [c_term_numbered, b1]
  by_cases a4 : op = 44
  · subst a4
    by_cases b1 : 1 ≤ p
    · simp [c_term_numbered, b1]
      intro _ h0 h1
      have h2 : 0 ≤ w * min p 129 := Int.mul_nonneg h0 (by omega)
      have h3 : w * min p 129 ≤ 128 * 129 := Int.mul_le_mul h1 (by omega) (by omega) (by omega)
      exact i64w (by omega) (by omega)
    · simp [c_term_numbered, b1]
  · by_cases b1 : 0 ≤ p
    · simp [c_term_numbered, a1, a2, a3, a4, b1]
      intro _ h0 h1
      exact i64w (by omega) (by omega)
    · simp [c_term_numbered, a1, a2, a3, a4, b1]
end Go.Proofs.Ytiaoojghohfkjaa
