/- The evaluator's Apply. -/
import Derived.Test.YtiaoojghohfkjaaED
import Derived.Test.YtiaoojghohfkjaaBRT
namespace Go.Proofs.Ytiaoojghohfkjaa
set_option maxRecDepth 100000
set_option maxHeartbeats 2000000

/-- What Apply tells. -/
def applyS (op p q : Int) (l : List Vl) : Vl × Int := if (sortS op p q (l.map Vl.sort)).2 = 0 then (meanV op p q l, 0) else (Vl.zero, (sortS op p q (l.map Vl.sort)).2)
theorem sort_ok {v : Vl} (h : v.ok = true) : v.sort = v.w := by unfold Vl.sort; rw [if_pos h]
theorem sorts_ok {l : List Vl} (h : ∀ v, v ∈ l → v.ok = true) : l.map Vl.sort = l.map Vl.w := List.map_congr_left fun v hv => sort_ok (h v hv)
theorem sort_all {op p q : Int} {l : List Int} (h : (sortS op p q l).2 = 0) : l.all isSort = true := by
  unfold sortS at h
  split at h
  · simp at h
  split at h
  · simp at h
  split at h
  · simp at h
  · rename_i a h3; clear h; cases h4 : l.all isSort <;> first | rfl | exact absurd h4 h3
theorem apply_fit {op p q : Int} {l : List Vl} (h : (sortS op p q (l.map Vl.sort)).2 = 0) : Fit op p q l (sortS op p q (l.map Vl.sort)).1 := by
  have hok : ∀ v, v ∈ l → v.ok = true := fun v hv => by
    have h1 := List.all_eq_true.1 (sort_all h) v.sort (List.mem_map_of_mem hv)
    cases hv : v.ok with
    | true => rfl
    | false =>
      rw [Vl.sort, hv] at h1
      simp [isSort] at h1
  rw [sorts_ok hok] at h ⊢
  exact fit_of (by rw [← h]) hok

theorem apply_loop {H0 H : AHeap} {s : AV} {l : List Vl} (hs : RV H0 s l) (hm : l.length ≤ 1000) (k0 : Keeps H0 H) (z : H0.size + 1 < H.size) {Z : List AV} (oz : H.obj H0.size = .cells Z) (ob : H.obj (H0.size + 1) = .cells (List.replicate l.length (.int .i64 0)))
    {e : Env} {r : Rn} (hL : loopL Go.Proofs.Try.prog KT R l_eval_Apply_0 e H = r) (e10 : e 10 = some (.row (H0.size + 1) 0 1 l.length true)) (e20 : e 20 = some s) (e21 : e 21 = some (.int .i64 l.length)) (e22 : e 22 = some (.int .i64 0)) :
    ∃ y e' H', r = some (y, e', H') ∧ (y = .exit 0 ∧ Keeps H0 H' ∧ H0.size + 1 < H'.size ∧ H'.obj H0.size = .cells Z ∧ H'.obj (H0.size + 1) = .cells ((l.map Vl.sort).map (.int .i64))) ∧ ∀ t, t ∉ defs l_eval_Apply_0 → e' t = e t := by
  obtain ⟨F, F0, Fs, Fl, Fw⟩ := fills (fun i => .int .i64 (l.getD i Vl.zero).sort) (.int .i64 0) l.length
  have hFw : F l.length = (l.map Vl.sort).map (.int .i64) := by
    rw [Fw]
    apply List.ext_getElem (by simp)
    intro i h1 h2
    simp at h1
    simp [List.getD_eq_getElem?_getD, h1]
  rw [← F0] at ob
  rw [← hFw]
  refine loop_count l_eval_Apply_0.eq_1 hL l.length (fun i e1 H1 => e1 22 = some (.int .i64 i) ∧ Keeps H0 H1 ∧ H0.size + 1 < H1.size ∧ H1.obj H0.size = .cells Z ∧ H1.obj (H0.size + 1) = .cells (F i)) _ 0 (by omega) ⟨e22, k0, z, oz, ob⟩ ?_ ?_
  · rintro i f H1 hf - hlt ⟨f22, k, z1, o1, o2⟩
    have w1 := i64w (n := (i : Int) + 1) (by omega) (by omega)
    have c1 : (i : Int) < l.length := by omega
    have hs1 := Fs i hlt
    have hl : i < (F i).length := by rw [Fl i (by omega)]; exact hlt
    obtain ⟨v, hv⟩ : ∃ v, l[i]? = some v := ⟨l[i], by simp [hlt]⟩
    have hg : l.getD i Vl.zero = v := by simp [List.getD_eq_getElem?_getD, hv]
    rw [hg] at hs1
    obtain ⟨x0, y0⟩ := hs.at hv
    have y1 := y0 H1 k
    have hr := fun H => right_run (v := v) (H := H)
    have n1 : ¬ H0.size + 1 = H1.size := Nat.ne_of_lt z1
    have n2 : ¬ H0.size = H1.size := by omega
    have n3 : ¬ H1.size = H0.size + 1 := by omega
    have n4 : ¬ H1.size = H0.size := by omega
    have z2 : H0.size ≤ H1.size := by omega
    cases hv : v.ok with
    | true =>
      have hsv : v.sort = v.w := sort_ok hv
      rw [hsv] at hs1
      rw [hv] at hr
      simp (maxDischargeDepth := 20) [hf, e10, e20, e21, f22, c1, x0, y1, o1, o2, hl, w1, hr, n1, n2, n3, hs1, k, z2]
      omega
    | false =>
      have hsv : v.sort = -1 := by rw [Vl.sort, hv]; rfl
      rw [hsv] at hs1
      rw [hv] at hr
      simp (maxDischargeDepth := 20) [hf, e10, e20, e21, f22, c1, x0, y1, o1, o2, hl, w1, hr, n1, n2, n3, hs1, k, z2]
      omega
  · rintro f H1 hf ⟨f22, k, z1, o1, o2⟩
    simp [hf, e21, f22]
    exact ⟨k, z1, o1, o2⟩

/-- What 'bools' and 'logic' come to. -/
theorem logic_told {H : AHeap} {s : AV} {l : List Vl} {op p q s' : Int} (hs : RV H s l) (hf : Fit op p q l s') (h3 : 3 ≤ op) (h8 : op ≤ 8) {o : Nat} (ho : o < H.size) (ob : H.obj o = .cells [.fn (.func (boolF op)) [] []]) :
    ∀ H', Keeps H H' → R f_eval_logic_1 [.int .i64 p, .int .i64 q, s, .ptr o 0] H' = some (.tup [(meanV op p q l).av, .int .i64 0], H') := by
  intro H' k
  have hs' := hs.keep k
  have ob' : H'.obj o = .cells [.fn (.func (boolF op)) [] []] := (k.obj _ ho).trans ob
  rw [mean_bool h8]
  refine logic1_run (k.lt ho) ob' fun H2 k2 => ?_
  have hs2 := hs'.keep k2
  cases hf with
  | not a h1 => subst h1; exact bools1_run hs2
  | two a b h1 h2 => exact boolsB_run h1 (by omega) hs2
  | eq a b h1 => exact boolsB_run (by omega) (by omega) hs2
  | ite c a b h1 => omega
  | one => omega
  | word => omega
  | cmp => omega
  | comp => omega
  | concat => omega
  | extract => omega
  | ext => omega
  | rot => omega
  | rep => omega

theorem words_told {H : AHeap} {s : AV} {l : List Vl} {op p q s' : Int} (hs : RV H s l) (hf : Fit op p q l s') (h10 : 10 ≤ op) {o : Nat} (ho : o < H.size) (ob : H.obj o = .cells [.int .i64 op]) :
    ∀ H', Keeps H H' → R f_eval_words_1 [.int .i64 p, .int .i64 q, s, .ptr o 0] H' = some (.tup [(meanV op p q l).av, .int .i64 0], H') := by
  intro H' k
  have hs' := hs.keep k
  have ob' : H'.obj o = .cells [.int .i64 op] := (k.obj _ ho).trans ob
  have ho' := k.lt ho
  cases hf with
  | not a h1 => omega
  | two a b h1 h2 => omega
  | eq a b h1 => omega
  | ite c a b h1 => omega
  | one n x h1 h2 h3 h4 h5 h6 =>
    refine words1_one hs' ho' ob' h3 h4 fun H2 => ?_
    have r := (one_run h1 h2 (n := op) (a := x) (H := H2)).run
    rcases (by omega : op = 10 ∨ op = 11) with rfl | rfl
    · rw [mean_not h2]; exact r
    · rw [mean_neg h2]; exact r
  | word n x y h1 h2 h3 h4 h5 h6 =>
    refine words1_two hs' ho' ob' h3 (by omega) fun H2 => ?_
    have r := (two_run h1 h2 (n := op) (a := x) (b := y) (H := H2)).run
    rw [twoF_word h2 ⟨h3, h4⟩, twoE, if_pos (by omega)] at r
    rw [mean_two h3 (by omega) h2, twoV, if_pos h4]
    exact r
  | cmp n x y h1 h2 h3 h4 h5 h6 =>
    refine words1_two hs' ho' ob' (by omega) (by omega) fun H2 => ?_
    have r := (two_run h1 h2 (n := op) (a := x) (b := y) (H := H2)).run
    rw [twoF, if_neg (by omega), if_neg (by omega), if_neg (by omega), if_pos (by omega), twoE, if_pos (by omega)] at r
    rw [mean_two (by omega) (by omega) h2, twoV, if_neg (by omega), if_pos h4]
    exact r
  | comp n x y h1 h2 h3 h4 h5 =>
    subst h3
    refine words1_two hs' ho' ob' (by omega) (by omega) fun H2 => ?_
    have r := (two_run h1 h2 (n := 37) (a := x) (b := y) (H := H2)).run
    rw [two_comp, show twoE 37 = 0 from rfl] at r
    rw [mean_two (by omega) (by omega) h2, twoV, if_neg (by omega), if_neg (by omega)]
    exact r
  | concat n m x y h1 h2 h3 h4 h5 h6 =>
    subst h4
    refine words1_concat hs' ho' ob' fun H2 => ?_
    rw [mean_concat (by omega) (by omega)]
    exact (concat_run h1 h2 rfl h3 (a := x) (b := y) (H := H2)).run
  | extract n i j x h1 h2 h3 h4 h5 h6 h7 =>
    subst h3; subst h4; subst h5
    refine words1_extract hs' ho' ob' fun H2 => ?_
    rw [mean_extract h2 h6]
    exact (extract_run h1 h2 (d := i - j) (by omega) h7 rfl (a := x) (H := H2)).run
  | ext n k x h1 h2 h3 h4 h5 h6 =>
    subst h5
    refine words1_ext hs' ho' ob' h3 h4 fun H2 => ?_
    have r := (extend_run h1 (n := k) rfl h2 (a := x) (sg := decide (op = 41)) (H := H2)).run
    rcases (by omega : op = 40 ∨ op = 41) with rfl | rfl
    · rw [mean_zext (by omega)]
      rw [show decide ((40 : Int) = 41) = false from rfl] at r ⊢
      simp only [Bool.false_and, Bool.false_eq_true, if_false] at r
      exact r
    · rw [mean_sext (by omega)]
      rw [show decide ((41 : Int) = 41) = true from rfl] at r ⊢
      simp only [Bool.true_and] at r
      exact r
  | rot n k x h1 h2 h3 h4 h5 h6 =>
    subst h5
    refine words1_rot hs' ho' ob' h3 h4 fun H2 => ?_
    rcases (by omega : op = 42 ∨ op = 43) with rfl | rfl
    · rw [mean_rotl h2]
      exact (rotate_left h1 h2 (n := k) rfl rfl (a := x) (H := H2)).run
    · rw [mean_rotr h2]
      exact (rotate_right h1 h2 (n := k) rfl rfl rfl rfl (a := x) (H := H2)).run
  | rep n k x h1 h2 h3 h4 h5 h6 =>
    subst h4; subst h5
    have hn : n ≤ 128 := Nat.le_trans (Nat.le_mul_of_pos_right n h2) h3
    refine words1_rep hs' ho' ob' fun H2 => ?_
    rw [mean_rep hn]
    exact (repeat_run h1 h3 h2 (x := x) (H := H2)).run

theorem Fit.op {op p q s : Int} {l : List Vl} (h : Fit op p q l s) : 3 ≤ op := by cases h <;> omega
theorem apply_run {op p q : Int} {H : AHeap} {s : AV} {l : List Vl} (hs : RV H s l) (hm : l.length ≤ 1000) : R f_eval_Apply [.int .i64 op, .int .i64 p, .int .i64 q, s] H = some (.tup [(applyS op p q l).1.av, .int .i64 (applyS op p q l).2], H) := by
  have c1 : (l.length : Int) * 8 ≤ 140737488355328 := by omega
  have c2 : (l.length : Int) ≤ 9223372036854775807 := by omega
  have hlen := hs.len
  obtain ⟨N, hN⟩ : ∃ N, N = l.length := ⟨_, rfl⟩
  rw [← hN] at c1 c2 hlen
  rw [e_eval_Apply]
  simp (maxDischargeDepth := 40) [c_eval_Apply, hlen, c1, c2]
  generalize hL : loopL _ _ _ _ _ _ = y
  rw [hN] at hL
  obtain ⟨y, e1, H1, rfl, ⟨rfl, k1, z1, oz, ob⟩, fr⟩ := apply_loop hs hm (Z := [.int .i64 0, u 0#64, u 0#64]) (by simp) (by simp) (by simp) (by simp) hL (by simp) (by simp) (by simp) (by simp)
  have hS : RI H1 (.row (H.size + 1) 0 1 l.length true) (l.map Vl.sort) := RI.row z1 ob (by simp)
  have hsort := termSort_run hS (by simp; omega) (op := op) (p := p) (q := q)
  have n1 : ¬ H.size = H1.size := by omega
  have n2 : H.size ≤ H1.size := by omega
  unfold applyS
  generalize hT : sortS op p q (l.map Vl.sort) = T at hsort ⊢
  by_cases c : T.2 = 0
  · have hfit : Fit op p q l T.1 := hT ▸ apply_fit (by rw [hT]; exact c)
    rw [if_pos c]
    rw [c] at hsort
    have hs1 := hs.keep k1
    by_cases c3 : op ≤ 8
    · have g3 : 3 ≤ op := hfit.op
      obtain ⟨o, H2, hb, k2, ho, hf⟩ := (bools_run (H := H1) (op := op)).1 g3 c3
      have hl := logic_told (hs1.keep k2) hfit g3 c3 ho hf
      have kk := k1.trans k2
      have oz2 : H2.obj H.size = .cells [.int .i64 0, u 0#64, u 0#64] := (k2.obj _ (by omega)).trans oz
      have n3 : ¬ H.size = H2.size := by have := k2.size; omega
      have n4 : H.size ≤ H2.size := by have := k2.size; omega
      generalize meanV op p q l = v at *
      simp (maxDischargeDepth := 40) [fr, hsort, hb, hl, kk, n3, n4, oz2]
    · by_cases c9 : op = 9
      · subst c9
        have hb := (bools_run (H := H1) (op := 9)).2.1 rfl
        have hl : ∀ H', Keeps H1 H' → R f_eval_bools_7 [.int .i64 p, .int .i64 q, s] H' = some (.tup [(meanV 9 p q l).av, .int .i64 0], H') := by
          generalize T.1 = t1 at hfit
          intro H' k
          cases hfit <;> first | omega | skip
          rw [mean_ite]
          exact ite_run (hs1.keep k)
        generalize meanV 9 p q l = v at *
        simp (maxDischargeDepth := 40) [fr, hsort, hb, hl, k1, n1, n2, oz]
      · have g10 : 10 ≤ op := by omega
        have hb := (bools_run (H := H1) (op := op)).2.2 (by omega)
        obtain ⟨o, H2, hw, k2, ho, hf⟩ := words_run (H := (H1.new (.cells [.nilf])).set H1.size (.cells [.nilf])) (op := op)
        have ka : Keeps H1 ((H1.new (.cells [.nilf])).set H1.size (.cells [.nilf])) := (Keeps.new _ _).set (Nat.le_refl _) _
        have kk := k1.trans (ka.trans k2)
        have sz := k2.size
        simp only [set_size, new_size] at sz
        have om : H2.obj H1.size = .cells [.nilf] := (k2.obj _ (by simp)).trans (by simp)
        have oz2 : H2.obj H.size = .cells [.int .i64 0, u 0#64, u 0#64] := ((ka.trans k2).obj _ (by omega)).trans oz
        have n3 : H1.size < H2.size := by omega
        have n4 : ¬ H.size = H2.size := by omega
        have n5 : H.size ≤ H2.size := by omega
        have n6 : ¬ H1.size = H.size := by omega
        have no : o ≠ H1.size := by
          rintro rfl
          rw [om] at hf
          cases hf
        have hl := words_told (H := H2.set H1.size (.cells [.fn (.func f_eval_words_1) [] [.ptr o 0]])) (hs1.keep ((ka.trans k2).set (Nat.le_refl _) _)) hfit g10 (by simpa using ho) (by rw [set_old no]; exact hf)
        generalize meanV op p q l = v at *
        simp (maxDischargeDepth := 40) [fr, hsort, hb, hw, hl, kk, n1, n2, oz2, om]
  · rw [if_neg c]
    simp (maxDischargeDepth := 40) [fr, hsort, c, k1, oz, Vl.zero]
end Go.Proofs.Ytiaoojghohfkjaa
