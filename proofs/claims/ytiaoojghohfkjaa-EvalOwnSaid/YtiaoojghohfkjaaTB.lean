/- Sorts of terms: told, Sort; and the document's. Written by gen_tb.py. -/
import Derived.Test.YtiaoojghohfkjaaTA
namespace Go.Proofs.Ytiaoojghohfkjaa
set_option maxRecDepth 100000

theorem index_loop {H : AHeap} {v : AV} {l : List Int} (hv : RI H v l) (hm : l.length ≤ 9223372036854775807) {e : Env} {r : Rn} (hL : loopL Go.Proofs.Try.prog KT R l_slices_IndexFunc_int_int_0 e H = r)
    (e0 : e 0 = some v) (e1 : e 1 = some (.fn (.func f_term_Sort_1) [] [])) (e7 : e 7 = some (.int .i64 l.length)) (e8 : e 8 = some (.int .i64 0)) :
    ∃ y e' H', r = some (y, e', H') ∧ (H' = H ∧ ((y = .exit 0 ∧ l.all isSort = true) ∨ (y = .ret ∧ l.all isSort = false ∧ ∃ n, 0 ≤ n ∧ e' 4 = some (.int .i64 n)))) ∧ ∀ t, t ∉ defs l_slices_IndexFunc_int_int_0 → e' t = e t := by
  refine loop_count l_slices_IndexFunc_int_int_0.eq_1 hL l.length (fun i e1 H1 => e1 8 = some (.int .i64 i) ∧ H1 = H ∧ (l.take i).all isSort = true) _ 0 (by omega) ⟨e8, rfl, by simp⟩ ?_ ?_
  · rintro i f H1 hf - hi ⟨f8, rfl, hall⟩
    have hw1 := i64w (n := (i : Int) + 1) (by omega) (by omega)
    obtain ⟨x, hx⟩ : ∃ x, l[i]? = some x := ⟨l[i], by simp [hi]⟩
    obtain ⟨a1, a2⟩ := hv.at0 (P := Go.Proofs.Try.prog) (t := T_s_int) (s := T_int) (by simp) (by simp) hx
    have hc : (i : Int) < l.length := by omega
    have ht : l.take (i + 1) = l.take i ++ [x] := by rw [List.take_add_one, hx]; rfl
    cases hs : isSort x with
    | true =>
      have hall' : (l.take (i + 1)).all isSort = true := by rw [ht, List.all_append, hall]; simp [hs]
      simp [hf, e0, e1, e7, f8, a1, a2, hc, notsort_run, hs, hw1, hall']
    | false =>
      have hall' : l.all isSort = false := by
        rw [Bool.eq_false_iff]
        intro h
        rw [List.all_eq_true] at h
        have := h x (List.mem_of_getElem? hx)
        rw [hs] at this; cases this
      simp [hf, e0, e1, e7, f8, a1, a2, hc, notsort_run, hs, hall']
  · rintro f H1 hf ⟨f8, rfl, hall⟩
    simp [hf, e7, f8]
    simpa using hall

theorem contains_run {H : AHeap} {v : AV} {l : List Int} (hv : RI H v l) (hm : l.length ≤ 9223372036854775807) : R f_slices_ContainsFunc_int_int [v, .fn (.func f_term_Sort_1) [] []] H = some (.bool (!l.all isSort), H) := by
  have h : ∃ n, R f_slices_IndexFunc_int_int [v, .fn (.func f_term_Sort_1) [] []] H = some (.int .i64 n, H) ∧ (decide (0 ≤ n) = !l.all isSort) := by
    rw [e_slices_IndexFunc_int_int]
    simp [c_slices_IndexFunc_int_int, hv.len]
    generalize hL : loopL _ _ _ _ _ _ = q
    obtain ⟨y, e1, H1, rfl, ⟨rfl, h⟩, fr⟩ := index_loop hv hm hL (by simp) (by simp) (by simp) (by simp)
    rcases h with ⟨rfl, h⟩ | ⟨rfl, h, n, h1, h2⟩
    · simp [h]
    · simp [h, h1, h2]
  obtain ⟨n, h1, h2⟩ := h
  rw [e_slices_ContainsFunc_int_int]
  simp [c_slices_ContainsFunc_int_int, h1, h2]

/-- What 'told' tells: of the first and the last sort, and the one in the middle. -/
def toldB (op p q a z m : Int) : Bool :=
  if op ≤ 7 then decide (p = 0 ∧ q = 0 ∧ a = 0 ∧ z = 0) else if op = 8 then decide (p = 0 ∧ q = 0 ∧ a = z) else if op = 9 then decide (p = 0 ∧ q = 0 ∧ a = 0 ∧ m = z) else if op = 38 then decide (p = 0 ∧ q = 0 ∧ 0 < a ∧ 0 < z)
  else if 39 ≤ op then numB op p q a && decide (0 < a) else decide (p = 0 ∧ q = 0 ∧ a = z ∧ 0 < a)
def toldV (op p q a z : Int) : Int :=
  if op ≤ 7 then 0 else if op = 8 then 0 else if op = 9 then z else if op = 38 then a + z else if 39 ≤ op then numV op p q a else if op = 37 then 1 else if 29 ≤ op then 0 else a

set_option maxHeartbeats 8000000 in
theorem told_run {H : AHeap} {v : AV} {l : List Int} (hv : RI H v l) {a z m : Int} (h0 : l[0]? = some a) (hz : l[l.length - 1]? = some z) {op p q : Int} (h1 : op = 9 → l[1]? = some m) (ha : 0 ≤ a ∧ a ≤ 128) (hzz : 0 ≤ z ∧ z ≤ 128) (hl : l.length ≤ 9223372036854775807) :
    ∃ n, (toldB op p q a z m = true → n = toldV op p q a z) ∧ R f_term_told [.int .i64 op, .int .i64 p, .int .i64 q, v] H = some (.tup [.int .i64 n, .bool (toldB op p q a z m)], H) := by
  have hpos : 0 < l.length := (List.getElem?_eq_some_iff.1 h0).1
  obtain ⟨x0, y0⟩ := hv.at0 (P := Go.Proofs.Try.prog) (t := T_s_int) (s := T_int) (by simp) (by simp) h0
  obtain ⟨xz, yz⟩ := hv.at0 (P := Go.Proofs.Try.prog) (t := T_s_int) (s := T_int) (by simp) (by simp) hz
  have x0' : aindexAddr Go.Proofs.Try.prog T_s_int v 0 = some (ixp v 1 0) := x0
  have w1 : IntKind.i64.wrap ((l.length : Int) - 1) = ((l.length - 1 : Nat) : Int) := by rw [i64w (by omega) (by omega)]; omega
  have hlen := hv.len
  have w2 : IntKind.i64.wrap (a + z) = a + z := i64w (by omega) (by omega)
  unfold toldB toldV
  rw [e_term_told]
  by_cases c1 : op ≤ 7
  · skip
    by_cases d0 : p = 0
    rotate_left
    · simp [c_term_told, hlen, x0', y0, xz, yz, w1, c1, d0]
    by_cases d1 : q = 0
    rotate_left
    · simp [c_term_told, hlen, x0', y0, xz, yz, w1, c1, d0, d1]
    by_cases d2 : a = 0
    rotate_left
    · simp [c_term_told, hlen, x0', y0, xz, yz, w1, c1, d0, d1, d2]
    by_cases d3 : z = 0
    rotate_left
    · simp [c_term_told, hlen, x0', y0, xz, yz, w1, c1, d0, d1, d2, d3]
    simp [c_term_told, hlen, x0', y0, xz, yz, w1, c1, d0, d1, d2, d3]
  by_cases c2 : op = 8
  · skip
    by_cases d0 : p = 0
    rotate_left
    · simp [c_term_told, hlen, x0', y0, xz, yz, w1, c2, d0]
    by_cases d1 : q = 0
    rotate_left
    · simp [c_term_told, hlen, x0', y0, xz, yz, w1, c2, d0, d1]
    by_cases d2 : a = z
    rotate_left
    · simp [c_term_told, hlen, x0', y0, xz, yz, w1, c2, d0, d1, d2]
    simp [c_term_told, hlen, x0', y0, xz, yz, w1, c2, d0, d1, d2]
  by_cases c3 : op = 9
  · obtain ⟨x1, y1⟩ := hv.at0 (P := Go.Proofs.Try.prog) (t := T_s_int) (s := T_int) (by simp) (by simp) (h1 c3)
    have x1' : aindexAddr Go.Proofs.Try.prog T_s_int v 1 = some (ixp v 1 1) := x1
    by_cases d0 : p = 0
    rotate_left
    · simp [c_term_told, hlen, x0', y0, xz, yz, w1, c3, d0]
    by_cases d1 : q = 0
    rotate_left
    · simp [c_term_told, hlen, x0', y0, xz, yz, w1, c3, d0, d1]
    by_cases d2 : a = 0
    rotate_left
    · simp [c_term_told, hlen, x0', y0, xz, yz, w1, c3, d0, d1, d2]
    by_cases d3 : m = z
    rotate_left
    · simp [c_term_told, hlen, x0', y0, xz, yz, w1, c3, x1', y1, d0, d1, d2, d3]
    simp [c_term_told, hlen, x0', y0, xz, yz, w1, c3, x1', y1, d0, d1, d2, d3]
  by_cases c4 : op = 38
  · skip
    by_cases d0 : p = 0
    rotate_left
    · simp [c_term_told, hlen, x0', y0, xz, yz, w1, w2, c4, d0]
    by_cases d1 : q = 0
    rotate_left
    · simp [c_term_told, hlen, x0', y0, xz, yz, w1, w2, c4, d0, d1]
    by_cases d2 : 0 < a
    rotate_left
    · simp [c_term_told, hlen, x0', y0, xz, yz, w1, w2, c4, d0, d1, d2]
    by_cases d3 : 0 < z
    rotate_left
    · simp [c_term_told, hlen, x0', y0, xz, yz, w1, w2, c4, d0, d1, d2, d3]
    simp [c_term_told, hlen, x0', y0, xz, yz, w1, w2, c4, d0, d1, d2, d3]
  by_cases c5 : 39 ≤ op
  · obtain ⟨n, hn1, hn2⟩ := num_run (op := op) (p := p) (q := q) (w := a) (H := H)
    have d4 : ¬ op = 38 := c4
    cases hb : numB op p q a with
    | false =>
      rw [hb] at hn2
      by_cases dp : p = 0
      · by_cases dq : q = 0
        · simp [c_term_told, hlen, x0', y0, xz, yz, w1, c1, c2, c3, c4, c5, hn2, eq_true dp, eq_true dq]
        · simp [c_term_told, hlen, x0', y0, xz, yz, w1, c1, c2, c3, c4, c5, hn2, eq_true dp, dq]
      · simp [c_term_told, hlen, x0', y0, xz, yz, w1, c1, c2, c3, c4, c5, hn2, dp]
    | true =>
      have hn := hn1 hb ha.1 ha.2
      rw [hb, hn] at hn2
      by_cases dp : p = 0
      · by_cases dq : q = 0
        · by_cases da : 0 < a <;> simp [c_term_told, hlen, x0', y0, xz, yz, w1, c1, c2, c3, c4, c5, hn2, eq_true dp, eq_true dq, da]
        · by_cases da : 0 < a <;> simp [c_term_told, hlen, x0', y0, xz, yz, w1, c1, c2, c3, c4, c5, hn2, eq_true dp, dq, da]
      · by_cases da : 0 < a <;> simp [c_term_told, hlen, x0', y0, xz, yz, w1, c1, c2, c3, c4, c5, hn2, dp, da]
  by_cases c6 : op = 37
  · skip
    by_cases d0 : p = 0
    rotate_left
    · simp [c_term_told, hlen, x0', y0, xz, yz, w1, c6, d0]
    by_cases d1 : q = 0
    rotate_left
    · simp [c_term_told, hlen, x0', y0, xz, yz, w1, c6, d0, d1]
    by_cases d2 : a = z
    rotate_left
    · simp [c_term_told, hlen, x0', y0, xz, yz, w1, c6, d0, d1, d2]
    by_cases d3 : 0 < a
    rotate_left
    · simp [c_term_told, hlen, x0', y0, xz, yz, w1, c6, d0, d1, d2]
    simp [c_term_told, hlen, x0', y0, xz, yz, w1, c6, d0, d1, d2]
  by_cases c7 : 29 ≤ op
  · skip
    by_cases d0 : p = 0
    rotate_left
    · simp [c_term_told, hlen, x0', y0, xz, yz, w1, c1, c2, c3, c4, c5, c6, c7, d0]
    by_cases d1 : q = 0
    rotate_left
    · simp [c_term_told, hlen, x0', y0, xz, yz, w1, c1, c2, c3, c4, c5, c6, c7, d0, d1]
    by_cases d2 : a = z
    rotate_left
    · simp [c_term_told, hlen, x0', y0, xz, yz, w1, c1, c2, c3, c4, c5, c6, c7, d0, d1, d2]
    by_cases d3 : 0 < a
    rotate_left
    · simp [c_term_told, hlen, x0', y0, xz, yz, w1, c1, c2, c3, c4, c5, c6, c7, d0, d1, d2]
    simp [c_term_told, hlen, x0', y0, xz, yz, w1, c1, c2, c3, c4, c5, c6, c7, d0, d1, d2]
  · skip
    by_cases d0 : p = 0
    rotate_left
    · simp [c_term_told, hlen, x0', y0, xz, yz, w1, c1, c2, c3, c4, c5, c6, c7, d0]
    by_cases d1 : q = 0
    rotate_left
    · simp [c_term_told, hlen, x0', y0, xz, yz, w1, c1, c2, c3, c4, c5, c6, c7, d0, d1]
    by_cases d2 : a = z
    rotate_left
    · simp [c_term_told, hlen, x0', y0, xz, yz, w1, c1, c2, c3, c4, c5, c6, c7, d0, d1, d2]
    by_cases d3 : 0 < a
    rotate_left
    · simp [c_term_told, hlen, x0', y0, xz, yz, w1, c1, c2, c3, c4, c5, c6, c7, d0, d1, d2]
    simp [c_term_told, hlen, x0', y0, xz, yz, w1, c1, c2, c3, c4, c5, c6, c7, d0, d1, d2]
end Go.Proofs.Ytiaoojghohfkjaa
