/- Terms: Ints, and the laws' own known. -/
import Derived.Test.YtphkkcocimmmfaaTJ
namespace Go.Proofs.Ytphkkcocimmmfaa
set_option maxRecDepth 100000
set_option maxHeartbeats 4000000

theorem loadi_of {H : AHeap} {v : AV} {l : List Int} (hv : Reads H v 1 l.length (l.map (.int .i64))) {i : Nat} (hi : i < l.length) : aindexAddr Go.Proofs.Try.prog T_s_int v (i : Int) = some (ixp v 1 i) ∧ ∀ H', Keeps H H' → aload Go.Proofs.Try.prog H' T_int (ixp v 1 i) = some (.int .i64 (l.getD i 0)) := by
  refine ⟨hv.addr (by simp) hi, fun H' k => ?_⟩
  rw [(hv.keep k).at (by simp) rfl hi]
  simp [List.getD_eq_getElem?_getD, hi]

theorem ints_loop {H : AHeap} {v w : AV} {a b : List Int} (hv : Reads H v 1 a.length (a.map (.int .i64))) (hw : Reads H w 1 b.length (b.map (.int .i64))) (hm : a.length ≤ 1000000) (hl : a.length = b.length)
    {e : Env} {r : Rn} (hL : loopL Go.Proofs.Try.prog KT R l_plaithelp_Ints_0 e H = r) (e0 : e 0 = some v) (e1 : e 1 = some w) (e5 : e 5 = some (.int .i64 0)) :
    ∃ x e' H', r = some (x, e', H') ∧ (H' = H ∧ ((x = .exit 0 ∧ a = b) ∨ (x = .ret ∧ e' 4 = some (.bool false) ∧ a ≠ b))) ∧ ∀ t, t ∉ defs l_plaithelp_Ints_0 → e' t = e t := by
  have hl' : (a.length : Int) = b.length := by omega
  refine loop_count l_plaithelp_Ints_0.eq_1 hL a.length (fun i e1 H1 => H1 = H ∧ e1 5 = some (.int .i64 i) ∧ a.take i = b.take i) _ 0 (Nat.zero_le _) ⟨rfl, e5, rfl⟩ ?_ ?_
  · rintro i e1 H1 hf - hi ⟨rfl, f5, ht⟩
    obtain ⟨a1, a2⟩ := loadi_of hv hi
    obtain ⟨b1, b2⟩ := loadi_of hw (i := i) (by omega)
    have w1 : IntKind.i64.wrap ((i : Int) + 1) = (i : Int) + 1 := i64w (by omega) (by omega)
    have c1 : (i : Int) < b.length := by omega
    have hib : i < b.length := by omega
    have ta : a.take (i + 1) = a.take i ++ [a.getD i 0] := by rw [List.take_add_one]; simp [List.getD_eq_getElem?_getD, hi]
    have tb : b.take (i + 1) = b.take i ++ [b.getD i 0] := by rw [List.take_add_one]; simp [List.getD_eq_getElem?_getD, hib]
    rw [ta, tb, ht]
    generalize hx : a.getD i 0 = x at *
    generalize hy : b.getD i 0 = y at *
    by_cases hab : x = y
    · subst hab
      simp [hf, f5, e0, ‹e 1 = some w›, hv.len, hl', c1, a1, b1, a2, b2, w1]
    · simp [hf, f5, e0, ‹e 1 = some w›, hv.len, hl', c1, a1, b1, a2, b2, hab]
      intro e
      subst e
      exact hab (hx.symm.trans hy)
  · rintro e1 H1 hf ⟨rfl, f5, ht⟩
    simp [hf, f5, e0, hv.len, hl']
    rw [List.take_of_length_le (Nat.le_refl _), List.take_of_length_le (by omega)] at ht
    exact ht
theorem ints_run {H : AHeap} {v w : AV} {a b : List Int} (hv : Reads H v 1 a.length (a.map (.int .i64))) (hw : Reads H w 1 b.length (b.map (.int .i64))) (hm : a.length ≤ 1000000) : R f_plaithelp_Ints [v, w] H = some (.bool (decide (a = b)), H) := by
  generalize h : R f_plaithelp_Ints [v, w] H = r
  rw [e_plaithelp_Ints] at h
  by_cases hl : a.length = b.length
  rotate_left
  · have hl' : ¬ (a.length : Int) = b.length := by omega
    have hne : a ≠ b := fun e => hl (by rw [e])
    simp [c_plaithelp_Ints, hv.len, hw.len, hl'] at h
    rw [← h]; simp [hne]
  have hl' : (a.length : Int) = b.length := by omega
  simp [c_plaithelp_Ints, hv.len, hw.len, hl'] at h
  generalize hL : loopL _ _ _ _ _ _ = q at h
  obtain ⟨x, e1, H1, rfl, ⟨rfl, hx⟩, fr⟩ := ints_loop hv hw hm hl hL (by simp) (by simp) (by simp)
  rcases hx with ⟨rfl, hab⟩ | ⟨rfl, h4, hab⟩
  · simp at h
    rw [← h]; simp [hab]
  · simp [h4] at h
    rw [← h]; simp [hab]


def nX : Nd := ⟨2, 4, 0, 0, 0, 0, 0, 0, 0#64, 0#64, ⟨#[120]⟩⟩
def nA : Nd := ⟨18, 0, 1, 1, 0, 0, 0, 0, 0#64, 0#64, .empty⟩
def nA' : Nd := ⟨18, 4, 1, 1, 0, 0, 0, 0, 0#64, 0#64, .empty⟩
def nC : Nd := ⟨38, 0, 2, 2, 0, 0, 0, 0, 0#64, 0#64, .empty⟩
def nC' : Nd := ⟨38, 8, 2, 2, 0, 0, 0, 0, 0#64, 0#64, .empty⟩
def nB : Nd := ⟨29, 0, 1, 3, 0, 0, 0, 0, 0#64, 0#64, .empty⟩
def nR : Nd := ⟨44, 0, 1, 0, 0, 33, 0, 0, 0#64, 0#64, .empty⟩
theorem mk1 : makT 9 [] nX = ([nX], 1, 0) := by decide
theorem mk2 : makT 9 [nX] nA = ([nX, nA'], 2, 0) := by decide
theorem mk3 : makT 9 [nX, nA'] nA = ([nX, nA'], 2, 0) := by decide
theorem mk4 : makT 9 [nX, nA'] nC = ([nX, nA', nC'], 3, 0) := by decide
theorem mk5 : makT 9 [nX, nA', nC'] nB = ([nX, nA', nC'], 0, 30) := by decide
theorem mk6 : makT 9 [nX, nA', nC'] nR = ([nX, nA', nC'], 0, 31) := by decide
theorem cone1 : coneT [nX, nA', nC'] 3 = [1, 2, 3] := by decide
theorem vars1 : varsT [nX, nA', nC'] 3 = [1] := by decide
theorem vidx1 : vidx [nX, nA', nC'] ⟨#[120]⟩ = some 0 := by decide
theorem sort1 : sortS 39 3 1 [4] = (3, 0) := by decide

theorem GvT.go {H : AHeap} {g : Nat} {most : Int} {F : List Nat} {ns js : List Nd} {n : Nd} {l e : Int} (G : GT H g most ns F) (hx : makT most ns n = (js, l, e)) {r : Option (AV × AHeap)} (h : R f_plait_term_Graph_Make [.ptr g 0, .agg n.cs] H = r) :
    ∃ H' F', r = some (.tup [.int .i64 l, .int .i64 e], H') ∧ GT H' g most js F' ∧ MvT F H F' H' := by
  have := mk_run G h
  rw [hx] at this
  exact this

theorem known_run {H : AHeap} : R f_plaitlaw3_known [] H = some (.bool true, H) := by
  generalize h : R f_plaitlaw3_known [] H = r
  rw [e_plaitlaw3_known] at h
  simp (maxDischargeDepth := 40) [c_plaitlaw3_known] at h
  generalize hN : R f_term_New _ _ = q at h
  obtain ⟨H1, g, F1, rfl, g1, k1, f1⟩ := tnew_run hN
  rw [show min (max (9 : Int) 1) 4096 = 9 from by decide] at g1
  simp (maxDischargeDepth := 40) at h
  generalize hN : R f_plait_term_Graph_Make _ _ = q at h
  obtain ⟨H2, F2, rfl, g2, m2⟩ := GvT.go (n := nX) g1 mk1 hN
  simp (maxDischargeDepth := 40) at h
  generalize hN : R f_plait_term_Graph_Make _ _ = q at h
  obtain ⟨H3, F3, rfl, g3, m3⟩ := GvT.go (n := nA) g2 mk2 hN
  simp (maxDischargeDepth := 40) at h
  generalize hN : R f_plait_term_Graph_Make _ _ = q at h
  obtain ⟨H4, F4, rfl, g4, m4⟩ := GvT.go (n := nA) g3 mk3 hN
  simp (maxDischargeDepth := 40) at h
  generalize hN : R f_plait_term_Graph_Make _ _ = q at h
  obtain ⟨H5, F5, rfl, g5, m5⟩ := GvT.go (n := nC) g4 mk4 hN
  simp (maxDischargeDepth := 40) at h
  generalize hN : R f_plait_term_Graph_Make _ _ = q at h
  obtain ⟨H6, F6, rfl, g6, m6⟩ := GvT.go (n := nB) g5 mk5 hN
  simp (maxDischargeDepth := 40) at h
  generalize hN : R f_plait_term_Graph_Make _ _ = q at h
  obtain ⟨H7, F7, rfl, g7, m7⟩ := GvT.go (n := nR) g6 mk6 hN
  simp (maxDischargeDepth := 40) at h
  have n7 : nodeS [nX, nA', nC'] 3 = some nC' := by decide
  have hnode : ∀ H', Keeps H7 H' → R f_plait_term_Graph_Node [.ptr g 0, .int .i64 3] H' = some (.tup [.agg [.int .i64 38, .int .i64 8, .int .i64 2, .int .i64 2, .int .i64 0, .int .i64 0, .int .i64 0, .int .i64 0, u 0#64, u 0#64, .str .empty], .bool true], H') := fun H' k => by
    obtain ⟨o1, o2, o3, t, -, -, -⟩ := g7.keeps k
    have := node_run t (id := 3)
    rw [n7] at this
    exact this
  have hvar : ∀ H', Keeps H7 H' → R f_plait_term_Graph_Var [.ptr g 0, .str ⟨#[120]⟩] H' = some (.tup [.int .i64 1, .bool true], H') := fun H' k => by
    obtain ⟨o1, o2, o3, t, -, -, -⟩ := g7.keeps k
    have := var_run t (s := ⟨#[120]⟩)
    rw [vidx1] at this
    exact this
  have hlen : ∀ H', Keeps H7 H' → R f_plait_term_Graph_Len [.ptr g 0] H' = some (.int .i64 3, H') := fun H' k => by
    obtain ⟨o1, o2, o3, t, -, -, -⟩ := g7.keeps k
    exact len_run t
  have k7 : Keeps H H7 := by
    have M := m2.trans (m3.trans (m4.trans (m5.trans (m6.trans m7))))
    exact M.fr.keeps k1 f1
  have ar9 : arity 9 = 3 := arity9
  simp (maxDischargeDepth := 40) [hnode, hvar] at h
  generalize hH8 : AHeap.new (AHeap.set _ _ _) _ = H8 at h
  have k8 : Keeps H7 H8 := by rw [← hH8]; simp (maxDischargeDepth := 40)
  have z8 : H8.size = H7.size + 2 := by rw [← hH8]; simp
  have o8 : H8.obj (H7.size + 1) = .cells [.int .i64 4] := by rw [← hH8]; simp
  have b8 : H8.obj H7.size = .cells [.int .i64 38, .int .i64 8, .int .i64 2, .int .i64 2, .int .i64 0, .int .i64 0, .int .i64 0, .int .i64 0, u 0#64, u 0#64, .str .empty] := by rw [← hH8]; simp
  clear hH8
  have hsort : R f_term_Sort [.int .i64 39, .int .i64 3, .int .i64 1, .row (H7.size + 1) 0 1 1 true] H8 = some (.tup [.int .i64 3, .int .i64 0], H8) := by
    have := termSort_pair (H := H8) (v := .row (H7.size + 1) 0 1 1 true) (l := [4]) (RI.row (by omega) (by rw [o8]; rfl) rfl) (by simp) (op := 39) (p := 3) (q := 1)
    rw [sort1] at this
    exact this
  obtain ⟨cv, hc1, hc2⟩ := cone_run (g7.keeps k8) (id := 3)
  rw [cone1] at hc2
  have har : ∀ H', R f_term_Arity [.int .i64 9] H' = some (.int .i64 3, H') := fun H' => by rw [arity_run, ar9]
  simp (maxDischargeDepth := 40) (maxSteps := 4000000) [hsort, b8, har, hc1] at h
  have k9 : Keeps H8 (H8.new (.cells [.int .i64 1, .int .i64 2, .int .i64 3])) := Keeps.new _ _
  have hints := ints_run (H := H8.new (.cells [.int .i64 1, .int .i64 2, .int .i64 3])) (a := [1, 2, 3]) (b := [1, 2, 3]) (hc2.keep k9) (w := .row H8.size 0 1 3 true) (RI.row (by simp) (by simp) rfl) (by simp)
  obtain ⟨vv, hv1, hv2⟩ := vars_run (g7.keeps (k8.trans k9))
  have hlen9 := hlen _ (k8.trans k9)
  simp (maxDischargeDepth := 40) (maxSteps := 4000000) [hints, hlen9, hv1] at h
  have k10 : Keeps (H8.new (.cells [.int .i64 1, .int .i64 2, .int .i64 3])) ((H8.new (.cells [.int .i64 1, .int .i64 2, .int .i64 3])).new (.cells [.int .i64 1])) := Keeps.new _ _
  have hints2 := ints_run (H := (H8.new (.cells [.int .i64 1, .int .i64 2, .int .i64 3])).new (.cells [.int .i64 1])) (a := varsT [nX, nA', nC'] 3) (b := [1]) (hv2.keep k10) (w := .row (H8.size + 1) 0 1 1 true) (RI.row (by simp) (by simp) rfl) (by rw [vars1]; simp)
  rw [vars1] at hints2
  have hK8 : Keeps H H8 := k7.trans k8
  simp (maxDischargeDepth := 40) [hints2, hK8] at h
  exact h.symm
end Go.Proofs.Ytphkkcocimmmfaa
