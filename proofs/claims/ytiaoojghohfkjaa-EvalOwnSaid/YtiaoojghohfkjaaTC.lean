/- Sort, by the program and by the document. -/
import Derived.Test.YtiaoojghohfkjaaTB
namespace Go.Proofs.Ytiaoojghohfkjaa
set_option maxRecDepth 100000

/-- The sort of a term, or the error. -/
def sortS (op p q : Int) (l : List Int) : Int × Int :=
  if arity op < 1 then (0, 32) else if ¬ (l.length : Int) = arity op then (0, 30) else if l.all isSort = false then (0, 30) else
    if toldB op p q (l.getD 0 0) (l.getD (l.length - 1) 0) (l.getD 1 0) = false then (0, 30) else if 128 < toldV op p q (l.getD 0 0) (l.getD (l.length - 1) 0) then (0, 31) else (toldV op p q (l.getD 0 0) (l.getD (l.length - 1) 0), 0)

theorem arity_le (op : Int) : arity op ≤ 3 := by unfold arity; repeat' split <;> omega
theorem arity9 : arity 9 = 3 := by decide
theorem all_at {l : List Int} (h : l.all isSort = true) {i : Nat} (hi : i < l.length) : 0 ≤ l.getD i 0 ∧ l.getD i 0 ≤ 128 := by
  rw [List.all_eq_true] at h
  have := h (l.getD i 0) (by simp [hi])
  simpa [isSort] using this

theorem getD_some {l : List Int} {i : Nat} (h : i < l.length) : l[i]? = some (l.getD i 0) := by simp [h]
theorem termSort_run {H : AHeap} {v : AV} {l : List Int} (hv : RI H v l) (hl : l.length ≤ 9223372036854775807) {op p q : Int} : R f_term_Sort [.int .i64 op, .int .i64 p, .int .i64 q, v] H = some (.tup [.int .i64 (sortS op p q l).1, .int .i64 (sortS op p q l).2], H) := by
  unfold sortS
  rw [e_term_Sort]
  by_cases a1 : arity op < 1
  · simp [c_term_Sort, arity_run, a1]
  by_cases a2 : (l.length : Int) = arity op
  · cases a3 : l.all isSort with
    | false => simp [c_term_Sort, arity_run, a1, a2, hv.len, contains_run hv hl, a3]
    | true =>
      have hp : 0 < l.length := by omega
      have h3 := arity_le op
      obtain ⟨n, h4, h5⟩ := told_run hv (a := l.getD 0 0) (z := l.getD (l.length - 1) 0) (m := l.getD 1 0) (op := op) (p := p) (q := q) (getD_some hp) (getD_some (by omega)) (fun h => by
        subst h; rw [arity9] at a2
        exact getD_some (by omega)) (all_at a3 hp) (all_at a3 (by omega)) hl
      generalize l.getD 0 0 = a at *
      generalize l.getD (l.length - 1) 0 = z at *
      generalize l.getD 1 0 = m at *
      cases b1 : toldB op p q a z m with
      | false =>
        rw [b1] at h5
        simp [c_term_Sort, arity_run, a1, a2, hv.len, contains_run hv hl, a3, h5]
      | true =>
        rw [b1, h4 b1] at h5
        by_cases b2 : 128 < toldV op p q a z <;> simp [c_term_Sort, arity_run, a1, a2, hv.len, contains_run hv hl, a3, h5, b2]
  · simp [c_term_Sort, arity_run, a1, a2, hv.len]

/-! The document's. -/
def alikeF (l : List Int) : Bool := l.all fun x => x == l.getD 0 0
theorem alike_run {H : AHeap} {v : AV} {l : List Int} (hv : RI H v l) (hp : 0 < l.length) (hm : l.length ≤ 9223372036854775807) : R f_plaitref3_alike [v] H = some (.bool (alikeF l), H) := by
  obtain ⟨a, ha⟩ : ∃ a, l[0]? = some a := ⟨l[0], by simp [hp]⟩
  have hg : l.getD 0 0 = a := by simp [List.getD_eq_getElem?_getD, ha]
  obtain ⟨x0, y0⟩ := hv.at0 (P := Go.Proofs.Try.prog) (t := T_s_int) (s := T_int) (by simp) (by simp) ha
  have x0' : aindexAddr Go.Proofs.Try.prog T_s_int v 0 = some (ixp v 1 0) := x0
  have L : ∀ (e : Env) (r : Rn), loopL Go.Proofs.Try.prog KT R l_plaitref3_alike_0 e H = r → e 0 = some v → e 3 = some (.int .i64 1) →
      ∃ y e' H', r = some (y, e', H') ∧ (H' = H ∧ ((y = .exit 0 ∧ alikeF l = true) ∨ (y = .ret ∧ alikeF l = false ∧ e' 2 = some (.bool false)))) ∧ ∀ t, t ∉ defs l_plaitref3_alike_0 → e' t = e t := by
    intro e r hL e0 e3
    refine loop_count l_plaitref3_alike_0.eq_1 hL l.length (fun i e1 H1 => e1 3 = some (.int .i64 i) ∧ H1 = H ∧ ((l.take i).all fun x => x == a) = true) _ 1 (by omega) ⟨e3, rfl, ?_⟩ ?_ ?_
    · have : l.take 1 = [a] := by
        cases l with
        | nil => simp at hp
        | cons b l => simp at ha; simp [ha]
      rw [this]; simp
    · rintro i f H1 hf h1i hi ⟨f3, rfl, hall⟩
      have hw1 := i64w (n := (i : Int) + 1) (by omega) (by omega)
      obtain ⟨x, hx⟩ : ∃ x, l[i]? = some x := ⟨l[i], by simp [hi]⟩
      obtain ⟨b1, b2⟩ := hv.at0 (P := Go.Proofs.Try.prog) (t := T_s_int) (s := T_int) (by simp) (by simp) hx
      have hc : (i : Int) < l.length := by omega
      have ht : l.take (i + 1) = l.take i ++ [x] := by rw [List.take_add_one, hx]; rfl
      by_cases hxa : x = a
      · have hall' : ((l.take (i + 1)).all fun x => x == a) = true := by rw [ht, List.all_append, hall]; simp [hxa]
        simp [hf, e0, f3, hv.len, b1, b2, x0', y0, hc, hxa, hw1, hall']
      · have hal : alikeF l = false := by
          unfold alikeF
          rw [hg, Bool.eq_false_iff]
          intro h
          rw [List.all_eq_true] at h
          have := h x (List.mem_of_getElem? hx)
          exact hxa (by simpa using this)
        simp [hf, e0, f3, hv.len, b1, b2, x0', y0, hc, hxa, hal]
    · rintro f H1 hf ⟨f3, rfl, hall⟩
      have hal : alikeF l = true := by
        unfold alikeF
        rw [hg]
        rwa [List.take_length] at hall
      simp [hf, e0, f3, hv.len, hal]
  rw [e_plaitref3_alike]
  simp [c_plaitref3_alike]
  generalize hL : loopL _ _ _ _ _ _ = q
  obtain ⟨y, e1, H1, rfl, ⟨rfl, h⟩, fr⟩ := L _ _ hL (by simp) (by simp)
  rcases h with ⟨rfl, h⟩ | ⟨rfl, h, h2⟩
  · simp [h]
  · simp [h, h2]

def numR (op p q w : Int) : Int × Int :=
  if w = 0 then (0, 30) else if op = 39 then (if q < 0 ∨ p < q ∨ w ≤ p then (0, 30) else (p - q + 1, 0)) else if ¬ q = 0 ∨ p < 0 ∨ (op = 44 ∧ p < 1) then (0, 30)
  else if op = 40 ∨ op = 41 then (if 128 < p then (0, 31) else if 128 < w + p then (0, 31) else (w + p, 0)) else if op = 44 then (if 128 < p then (0, 31) else if 128 < w * p then (0, 31) else (w * p, 0)) else (w, 0)
set_option maxHeartbeats 8000000 in
theorem numR_run {op p q w : Int} (hw : 0 ≤ w ∧ w ≤ 128) {H : AHeap} : R f_plaitref3_numbered [.int .i64 op, .int .i64 p, .int .i64 q, .int .i64 w] H = some (.tup [.int .i64 (numR op p q w).1, .int .i64 (numR op p q w).2], H) := by
  unfold numR
  rw [e_plaitref3_numbered]
  by_cases w0 : w = 0
  · simp [c_plaitref3_numbered, w0]
  by_cases a1 : op = 39
  · subst a1
    by_cases b1 : q < 0
    · simp [c_plaitref3_numbered, w0, b1]
    by_cases b2 : p < q
    · simp [c_plaitref3_numbered, w0, b1, b2]
    by_cases b3 : w ≤ p
    · simp [c_plaitref3_numbered, w0, b1, b2, b3]
    · have w1 : IntKind.i64.wrap (p - q) = p - q := i64w (by omega) (by omega)
      have w2 : IntKind.i64.wrap (p - q + 1) = p - q + 1 := i64w (by omega) (by omega)
      simp [c_plaitref3_numbered, w0, b1, b2, b3, w1, w2]
  by_cases b1 : q = 0
  rotate_left
  · simp [c_plaitref3_numbered, w0, a1, b1]
  by_cases b2 : p < 0
  · simp [c_plaitref3_numbered, w0, a1, b1, b2]
  have wa : p ≤ 128 → IntKind.i64.wrap (w + p) = w + p := fun h => i64w (by omega) (by omega)
  have wm : p ≤ 128 → IntKind.i64.wrap (w * p) = w * p := fun h => by
    have h2 : 0 ≤ w * p := Int.mul_nonneg hw.1 (by omega)
    have h3 : w * p ≤ 128 * 128 := Int.mul_le_mul hw.2 (by omega) (by omega) (by omega)
    exact i64w (by omega) (by omega)
  by_cases a2 : op = 44
  · subst a2
    by_cases b3 : p < 1
    · simp [c_plaitref3_numbered, w0, b1, b2, b3]
    by_cases b4 : 128 < p
    · simp [c_plaitref3_numbered, w0, b1, b2, b3, b4]
    · simp [c_plaitref3_numbered, w0, b1, b2, b3, b4, wide_run, wm (by omega)]
      split <;> simp [*]
  by_cases a3 : op = 40
  · subst a3
    by_cases b4 : 128 < p
    · simp [c_plaitref3_numbered, w0, b1, b2, b4]
    · simp [c_plaitref3_numbered, w0, b1, b2, b4, wide_run, wa (by omega)]
      split <;> simp [*]
  by_cases a4 : op = 41
  · subst a4
    by_cases b4 : 128 < p
    · simp [c_plaitref3_numbered, w0, b1, b2, b4]
    · simp [c_plaitref3_numbered, w0, b1, b2, b4, wide_run, wa (by omega)]
      split <;> simp [*]
  · simp [c_plaitref3_numbered, w0, a1, a2, a3, a4, b1, b2]

theorem num_same {op p q w : Int} (h0 : 39 ≤ op) (h1 : op ≤ 44) (hw : 0 ≤ w ∧ w ≤ 128) : numR op p q w = if (numB op p q w && decide (0 < w)) = true then (if 128 < numV op p q w then (0, 31) else (numV op p q w, 0)) else (0, 30) := by
  have hm : 0 < w → 128 < p → 128 < w * 129 := fun h _ => by omega
  have hmin : 128 < p → min p 129 = 129 := fun h => by omega
  have hmin2 : ¬ 128 < p → min p 129 = p := fun h => by omega
  unfold numR numB numV
  by_cases w0 : w = 0
  · subst w0; simp
  have hp : 0 < w := by omega
  rw [if_neg w0]
  simp only [hp, decide_true, Bool.and_true]
  by_cases c1 : op = 39
  · subst c1
    simp only [if_true, decide_eq_true_eq]
    by_cases d : q < 0 ∨ p < q ∨ w ≤ p
    · rw [if_pos d, if_neg (by omega)]
    · rw [if_neg d, if_pos (by omega), if_neg (by omega)]
  rw [if_neg c1, if_neg c1]
  by_cases c2 : op = 44
  · subst c2
    simp only [show ¬ (44 : Int) = 40 from by decide, show ¬ (44 : Int) = 41 from by decide, show ¬ (44 : Int) = 42 from by decide, show ¬ (44 : Int) = 43 from by decide, show ¬ (44 : Int) = 39 from by decide, or_self, if_true, if_false, true_and, decide_eq_true_eq]
    by_cases d : ¬ q = 0 ∨ p < 0 ∨ p < 1
    · rw [if_pos d, if_neg (by omega)]
    · have hb : 1 ≤ p ∧ q = 0 := by omega
      rw [if_neg d, if_pos hb]
      by_cases e : 128 < p
      · have he := hm hp e
        rw [if_pos e, hmin e, if_pos he]
      · rw [if_neg e, hmin2 e]
  rw [if_neg c2]
  simp only [c2, c1, false_and, or_false, if_false]
  by_cases d : ¬ q = 0 ∨ p < 0
  · rw [if_pos d, if_neg (by simp; omega)]
  have hb : decide (0 ≤ p ∧ q = 0) = true := by simp; omega
  rw [if_neg d, if_pos hb]
  by_cases c3 : op = 40 ∨ op = 41
  · have n3 : ¬ (op = 42 ∨ op = 43) := by omega
    rw [if_pos c3, if_neg n3]
    by_cases e : 128 < p
    · rw [if_pos e, if_pos (by omega)]
    · rw [if_neg e, show min (max p 0) 128 = p from by omega]
  · have n3 : op = 42 ∨ op = 43 := by omega
    rw [if_neg c3, if_pos n3, if_neg (by omega)]

theorem sortsR_loop {H : AHeap} {v : AV} {l : List Int} (hv : RI H v l) (hm : l.length ≤ 9223372036854775807) {e : Env} {r : Rn} (hL : loopL Go.Proofs.Try.prog KT R l_plaitref3_Sort_0 e H = r)
    (e3 : e 3 = some v) (e10 : e 10 = some (.int .i64 l.length)) (e11 : e 11 = some (.int .i64 0)) :
    ∃ y e' H', r = some (y, e', H') ∧ (H' = H ∧ ((y = .exit 0 ∧ l.all isSort = true) ∨ (y = .ret ∧ l.all isSort = false ∧ e' 8 = some (.int .i64 0) ∧ e' 9 = some (.int .i64 30)))) ∧ ∀ t, t ∉ defs l_plaitref3_Sort_0 → e' t = e t := by
  refine loop_count l_plaitref3_Sort_0.eq_1 hL l.length (fun i e1 H1 => e1 11 = some (.int .i64 i) ∧ H1 = H ∧ (l.take i).all isSort = true) _ 0 (by omega) ⟨e11, rfl, by simp⟩ ?_ ?_
  · rintro i f H1 hf - hi ⟨f11, rfl, hall⟩
    have hw1 := i64w (n := (i : Int) + 1) (by omega) (by omega)
    obtain ⟨x, hx⟩ : ∃ x, l[i]? = some x := ⟨l[i], by simp [hi]⟩
    obtain ⟨a1, a2⟩ := hv.at0 (P := Go.Proofs.Try.prog) (t := T_s_int) (s := T_int) (by simp) (by simp) hx
    have hc : (i : Int) < l.length := by omega
    have ht : l.take (i + 1) = l.take i ++ [x] := by rw [List.take_add_one, hx]; rfl
    cases hs : isSort x with
    | true =>
      have hall' : (l.take (i + 1)).all isSort = true := by rw [ht, List.all_append, hall]; simp [hs]
      simp [hf, e3, e10, f11, a1, a2, hc, isR_run, hs, hw1, hall']
    | false =>
      have hall' : l.all isSort = false := by
        rw [Bool.eq_false_iff]
        intro h
        rw [List.all_eq_true] at h
        have := h x (List.mem_of_getElem? hx)
        rw [hs] at this; cases this
      simp [hf, e3, e10, f11, a1, a2, hc, isR_run, hs, hall']
  · rintro f H1 hf ⟨f11, rfl, hall⟩
    simp [hf, e10, f11]
    simpa using hall


theorem alike1 (a : Int) : alikeF [a] = true := by simp [alikeF]
theorem alike2 (a b : Int) : alikeF [a, b] = decide (b = a) := by simp [alikeF]; rfl

def pair (x : Int × Int) : AV := .tup [.int .i64 x.1, .int .i64 x.2]
set_option maxHeartbeats 16000000 in
theorem refSort1 {H : AHeap} {v : AV} {a : Int} (hv : RI H v [a]) {op p q : Int} (ho : arity op = 1) : R f_plaitref3_Sort [.int .i64 op, .int .i64 p, .int .i64 q, v] H = some (pair (sortS op p q [a]), H) := by
  obtain ⟨x0, y0⟩ := hv.at0 (P := Go.Proofs.Try.prog) (t := T_s_int) (s := T_int) (i := 0) (x := a) (by simp) (by simp) rfl
  have x0' : aindexAddr Go.Proofs.Try.prog T_s_int v 0 = some (ixp v 1 0) := x0
  have hal := alike_run hv (by simp) (by simp)
  have hlen : sliceLen v = some 1 := hv.len
  have len1 : ([a] : List Int).length = 1 := rfl
  obtain ⟨S, hS⟩ : ∃ S, S = sortS op p q [a] := ⟨_, rfl⟩
  rw [e_plaitref3_Sort, ← hS]
  simp [c_plaitref3_Sort, arityR_run, ho, hlen]
  generalize hL : loopL _ _ _ _ _ _ = r
  obtain ⟨y, e1, H1, rfl, ⟨rfl, h⟩, fr⟩ := sortsR_loop hv (by simp) hL (by simp) (by simp) (by simp)
  rcases h with ⟨rfl, h⟩ | ⟨rfl, h, h4, h5⟩
  rotate_left
  · have : S = (0, 30) := by rw [hS]; unfold sortS; rw [if_neg (by omega), if_neg (by rw [ho, len1]; simp), if_pos h]
    simp [h4, h5, this, pair]
  have r0 : 0 ≤ a ∧ a ≤ 128 := by have := all_at h (i := 0) (by simp); simpa using this
  have hS2 : S = if toldB op p q a a 0 = false then (0, 30) else if 128 < toldV op p q a a then (0, 31) else (toldV op p q a a, 0) := by
    rw [hS]; unfold sortS; rw [if_neg (by omega), if_neg (by rw [ho, len1]; simp), if_neg (by rw [h]; simp)]; rfl
  clear hS
  have hops : op = 3 ∨ op = 10 ∨ op = 11 ∨ (39 ≤ op ∧ op ≤ 44) := by
    unfold arity at ho
    repeat' split at ho
    all_goals omega
  rw [alike1] at hal
  rcases hops with rfl | rfl | rfl | ⟨g1, g2⟩
  · by_cases c2 : p = 0
    · by_cases c3 : q = 0
      · by_cases c4 : a = 0 <;> simp [fr, hS2, toldB, toldV, hal, x0', y0, c2, c3, c4, pair]
      · simp [fr, hS2, toldB, c2, c3, pair]
    · simp [fr, hS2, toldB, c2, pair]
  · by_cases c2 : p = 0
    · by_cases c3 : q = 0
      · by_cases c4 : a = 0
        · simp [fr, hS2, toldB, hal, x0', y0, c2, c3, c4, pair]
        · have c5 : 0 < a := by omega
          have c6 : ¬ 128 < a := by omega
          simp [fr, hS2, toldB, toldV, hal, x0', y0, c2, c3, c4, c5, c6, pair]
      · simp [fr, hS2, toldB, c2, c3, pair]
    · simp [fr, hS2, toldB, c2, pair]
  · by_cases c2 : p = 0
    · by_cases c3 : q = 0
      · by_cases c4 : a = 0
        · simp [fr, hS2, toldB, hal, x0', y0, c2, c3, c4, pair]
        · have c5 : 0 < a := by omega
          have c6 : ¬ 128 < a := by omega
          simp [fr, hS2, toldB, toldV, hal, x0', y0, c2, c3, c4, c5, c6, pair]
      · simp [fr, hS2, toldB, c2, c3, pair]
    · simp [fr, hS2, toldB, c2, pair]
  · have hn := fun H => numR_run (op := op) (p := p) (q := q) r0 (H := H)
    have hns := num_same (p := p) (q := q) g1 g2 r0
    have hSn : S = numR op p q a := by
      have hB : toldB op p q a a 0 = (numB op p q a && decide (0 < a)) := by
        unfold toldB; rw [if_neg (by omega), if_neg (by omega), if_neg (by omega), if_neg (by omega), if_pos g1]
      have hV : toldV op p q a a = numV op p q a := by
        unfold toldV; rw [if_neg (by omega), if_neg (by omega), if_neg (by omega), if_neg (by omega), if_pos g1]
      rw [hS2, hns, hB, hV]
      cases (numB op p q a && decide (0 < a)) <;> simp
    simp [fr, g1, x0', y0, hn, hSn, pair]

set_option maxHeartbeats 16000000 in
theorem refSort2 {H : AHeap} {v : AV} {a b : Int} (hv : RI H v [a, b]) {op p q : Int} (ho : arity op = 2) : R f_plaitref3_Sort [.int .i64 op, .int .i64 p, .int .i64 q, v] H = some (pair (sortS op p q [a, b]), H) := by
  obtain ⟨x0, y0⟩ := hv.at0 (P := Go.Proofs.Try.prog) (t := T_s_int) (s := T_int) (i := 0) (x := a) (by simp) (by simp) rfl
  have x0' : aindexAddr Go.Proofs.Try.prog T_s_int v 0 = some (ixp v 1 0) := x0
  obtain ⟨x1, y1⟩ := hv.at0 (P := Go.Proofs.Try.prog) (t := T_s_int) (s := T_int) (i := 1) (x := b) (by simp) (by simp) rfl
  have x1' : aindexAddr Go.Proofs.Try.prog T_s_int v 1 = some (ixp v 1 1) := x1
  have hal := alike_run hv (by simp) (by simp)
  have hlen : sliceLen v = some 2 := hv.len
  have len1 : ([a, b] : List Int).length = 2 := rfl
  obtain ⟨S, hS⟩ : ∃ S, S = sortS op p q [a, b] := ⟨_, rfl⟩
  rw [e_plaitref3_Sort, ← hS]
  simp [c_plaitref3_Sort, arityR_run, ho, hlen]
  generalize hL : loopL _ _ _ _ _ _ = r
  obtain ⟨y, e1, H1, rfl, ⟨rfl, h⟩, fr⟩ := sortsR_loop hv (by simp) hL (by simp) (by simp) (by simp)
  rcases h with ⟨rfl, h⟩ | ⟨rfl, h, h4, h5⟩
  rotate_left
  · have : S = (0, 30) := by rw [hS]; unfold sortS; rw [if_neg (by omega), if_neg (by rw [ho, len1]; simp), if_pos h]
    simp [h4, h5, this, pair]
  have r0 : 0 ≤ a ∧ a ≤ 128 := by have := all_at h (i := 0) (by simp); simpa using this
  have r1 : 0 ≤ b ∧ b ≤ 128 := by have := all_at h (i := 1) (by simp); simpa using this
  have hS2 : S = if toldB op p q a b b = false then (0, 30) else if 128 < toldV op p q a b then (0, 31) else (toldV op p q a b, 0) := by
    rw [hS]; unfold sortS; rw [if_neg (by omega), if_neg (by rw [ho, len1]; simp), if_neg (by rw [h]; simp)]; rfl
  clear hS
  have hops : 4 ≤ op ∧ op ≤ 7 ∨ op = 8 ∨ 12 ≤ op ∧ op ≤ 28 ∨ 29 ≤ op ∧ op ≤ 36 ∨ op = 37 ∨ op = 38 := by
    unfold arity at ho
    repeat' split at ho
    all_goals omega
  rw [alike2] at hal
  by_cases c2 : p = 0
  rotate_left
  · have e1 : ¬ 39 ≤ op := by omega
    have e2 : toldB op p q a b b = false := by
      unfold toldB
      repeat' split
      all_goals first | omega | simp [c2]
    have hS3 : S = (0, 30) := by rw [hS2, if_pos e2]
    simp [fr, hS3, e1, c2, pair]
  by_cases c3 : q = 0
  rotate_left
  · have e1 : ¬ 39 ≤ op := by omega
    have e2 : toldB op p q a b b = false := by
      unfold toldB
      repeat' split
      all_goals first | omega | simp [c3]
    have hS3 : S = (0, 30) := by rw [hS2, if_pos e2]
    simp [fr, hS3, e1, c2, c3, pair]
  subst c2; subst c3
  rcases hops with ⟨g1, g2⟩ | rfl | ⟨g1, g2⟩ | ⟨g1, g2⟩ | rfl | rfl
  · have e1 : ¬ 39 ≤ op := by omega
    have e2 : 3 ≤ op := by omega
    by_cases c4 : b = a
    · subst c4
      by_cases c5 : b = 0 <;> simp [fr, hS2, toldB, toldV, hal, x0', y0, c5, e1, e2, g2, pair]
    · have c6 : ¬ (a = 0 ∧ b = 0) := by omega
      simp [fr, hS2, toldB, hal, c4, c6, e1, e2, g2, pair]
  · by_cases c4 : b = a
    · subst c4; simp [fr, hS2, toldB, toldV, hal, pair]
    · have c6 : ¬ a = b := fun e => c4 e.symm
      simp [fr, hS2, toldB, hal, c4, c6, pair]
  · have e1 : ¬ 39 ≤ op := by omega
    have e2 : ¬ op ≤ 7 := by omega
    have e3 : ¬ op = 8 := by omega
    have e4 : ¬ op = 9 := by omega
    have e5 : ¬ op = 38 := by omega
    have e6 : ¬ op = 37 := by omega
    have e7 : ¬ 29 ≤ op := by omega
    have e8 : 10 ≤ op := by omega
    have e9 : 3 ≤ op := by omega
    by_cases c4 : b = a
    · subst c4
      by_cases c5 : b = 0
      · simp [fr, hS2, toldB, hal, x0', y0, c5, e1, e2, e3, e4, e5, e9, pair]
      · have c7 : 0 < b := by omega
        have c8 : ¬ 128 < b := by omega
        simp [fr, hS2, toldB, toldV, hal, x0', y0, c5, c7, c8, e1, e2, e3, e4, e5, e6, e7, e8, e9, g2, pair]
    · have c6 : ¬ a = b := fun e => c4 e.symm
      simp [fr, hS2, toldB, hal, c4, c6, e1, e2, e3, e4, e5, e9, pair]
  · have e1 : ¬ 39 ≤ op := by omega
    have e2 : ¬ op ≤ 7 := by omega
    have e3 : ¬ op = 8 := by omega
    have e4 : ¬ op = 9 := by omega
    have e5 : ¬ op = 38 := by omega
    have e6 : ¬ op = 37 := by omega
    have e7 : ¬ op ≤ 28 := by omega
    have e8 : 10 ≤ op := by omega
    have e9 : 3 ≤ op := by omega
    by_cases c4 : b = a
    · subst c4
      by_cases c5 : b = 0
      · simp [fr, hS2, toldB, hal, x0', y0, c5, e1, e2, e3, e4, e5, e9, pair]
      · have c7 : 0 < b := by omega
        simp [fr, hS2, toldB, toldV, hal, x0', y0, c5, c7, e1, e2, e3, e4, e5, e6, e7, e8, e9, g1, pair]
    · have c6 : ¬ a = b := fun e => c4 e.symm
      simp [fr, hS2, toldB, hal, c4, c6, e1, e2, e3, e4, e5, e9, pair]
  · by_cases c4 : b = a
    · subst c4
      by_cases c5 : b = 0
      · simp [fr, hS2, toldB, hal, x0', y0, c5, pair]
      · have c7 : 0 < b := by omega
        simp [fr, hS2, toldB, toldV, hal, x0', y0, c5, c7, pair]
    · have c6 : ¬ a = b := fun e => c4 e.symm
      simp [fr, hS2, toldB, hal, c4, c6, pair]
  · have w1 : IntKind.i64.wrap (a + b) = a + b := i64w (by omega) (by omega)
    by_cases c4 : a = 0
    · simp [fr, hS2, toldB, x0', y0, c4, pair]
    by_cases c5 : b = 0
    · simp [fr, hS2, toldB, x0', y0, x1', y1, c4, c5, pair]
    · have c6 : 0 < a := by omega
      have c7 : 0 < b := by omega
      by_cases c8 : 128 < a + b <;> simp [fr, hS2, toldB, toldV, x0', y0, x1', y1, c4, c5, c6, c7, c8, w1, wide_run, pair]

set_option maxHeartbeats 16000000 in
theorem refSort3 {H : AHeap} {v : AV} {a b c : Int} (hv : RI H v [a, b, c]) {op p q : Int} (ho : arity op = 3) : R f_plaitref3_Sort [.int .i64 op, .int .i64 p, .int .i64 q, v] H = some (pair (sortS op p q [a, b, c]), H) := by
  obtain ⟨x0, y0⟩ := hv.at0 (P := Go.Proofs.Try.prog) (t := T_s_int) (s := T_int) (i := 0) (x := a) (by simp) (by simp) rfl
  have x0' : aindexAddr Go.Proofs.Try.prog T_s_int v 0 = some (ixp v 1 0) := x0
  obtain ⟨x1, y1⟩ := hv.at0 (P := Go.Proofs.Try.prog) (t := T_s_int) (s := T_int) (i := 1) (x := b) (by simp) (by simp) rfl
  have x1' : aindexAddr Go.Proofs.Try.prog T_s_int v 1 = some (ixp v 1 1) := x1
  obtain ⟨x2, y2⟩ := hv.at0 (P := Go.Proofs.Try.prog) (t := T_s_int) (s := T_int) (i := 2) (x := c) (by simp) (by simp) rfl
  have x2' : aindexAddr Go.Proofs.Try.prog T_s_int v 2 = some (ixp v 1 2) := x2
  have hal := alike_run hv (by simp) (by simp)
  have hlen : sliceLen v = some 3 := hv.len
  have len1 : ([a, b, c] : List Int).length = 3 := rfl
  obtain ⟨S, hS⟩ : ∃ S, S = sortS op p q [a, b, c] := ⟨_, rfl⟩
  rw [e_plaitref3_Sort, ← hS]
  simp [c_plaitref3_Sort, arityR_run, ho, hlen]
  generalize hL : loopL _ _ _ _ _ _ = r
  obtain ⟨y, e1, H1, rfl, ⟨rfl, h⟩, fr⟩ := sortsR_loop hv (by simp) hL (by simp) (by simp) (by simp)
  rcases h with ⟨rfl, h⟩ | ⟨rfl, h, h4, h5⟩
  rotate_left
  · have : S = (0, 30) := by rw [hS]; unfold sortS; rw [if_neg (by omega), if_neg (by rw [ho, len1]; simp), if_pos h]
    simp [h4, h5, this, pair]
  have r0 : 0 ≤ a ∧ a ≤ 128 := by have := all_at h (i := 0) (by simp); simpa using this
  have r1 : 0 ≤ b ∧ b ≤ 128 := by have := all_at h (i := 1) (by simp); simpa using this
  have r2 : 0 ≤ c ∧ c ≤ 128 := by have := all_at h (i := 2) (by simp); simpa using this
  have hS2 : S = if toldB op p q a c b = false then (0, 30) else if 128 < toldV op p q a c then (0, 31) else (toldV op p q a c, 0) := by
    rw [hS]; unfold sortS; rw [if_neg (by omega), if_neg (by rw [ho, len1]; simp), if_neg (by rw [h]; simp)]; rfl
  clear hS
  have hops : op = 9 := by
    unfold arity at ho
    repeat' split at ho
    all_goals omega
  subst hops
  by_cases c2 : p = 0
  rotate_left
  · simp [fr, hS2, toldB, c2, pair]
  by_cases c3 : q = 0
  rotate_left
  · simp [fr, hS2, toldB, c2, c3, pair]
  subst c2; subst c3
  by_cases c4 : a = 0
  rotate_left
  · simp [fr, hS2, toldB, x0', y0, c4, pair]
  by_cases c5 : b = c
  · have c6 : ¬ 128 < c := by omega
    simp [fr, hS2, toldB, toldV, x0', y0, x1', y1, x2', y2, c4, c5, c6, pair]
  · simp [fr, hS2, toldB, x0', y0, x1', y1, x2', y2, c4, c5, pair]


theorem refSort_run {H : AHeap} {v : AV} {l : List Int} (hv : RI H v l) {op p q : Int} : R f_plaitref3_Sort [.int .i64 op, .int .i64 p, .int .i64 q, v] H = some (pair (sortS op p q l), H) := by
  by_cases a1 : arity op < 1
  · have hS : sortS op p q l = (0, 32) := by unfold sortS; rw [if_pos a1]
    rw [hS, e_plaitref3_Sort]
    simp [c_plaitref3_Sort, arityR_run, a1, pair]
  by_cases a2 : (l.length : Int) = arity op
  rotate_left
  · have hS : sortS op p q l = (0, 30) := by unfold sortS; rw [if_neg a1, if_pos a2]
    rw [hS, e_plaitref3_Sort]
    simp [c_plaitref3_Sort, arityR_run, a1, a2, hv.len, pair]
  have h3 := arity_le op
  match l, hv, a2 with
  | [], _, a2 => simp at a2; omega
  | [a], hv, a2 => exact refSort1 hv a2.symm
  | [a, b], hv, a2 => exact refSort2 hv a2.symm
  | [a, b, c], hv, a2 => exact refSort3 hv a2.symm
  | a :: b :: c :: d :: r, _, a2 => simp at a2; omega
theorem termSort_pair {H : AHeap} {v : AV} {l : List Int} (hv : RI H v l) (hl : l.length ≤ 9223372036854775807) {op p q : Int} : R f_term_Sort [.int .i64 op, .int .i64 p, .int .i64 q, v] H = some (pair (sortS op p q l), H) := termSort_run hv hl
end Go.Proofs.Ytiaoojghohfkjaa
