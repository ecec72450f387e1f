/- The law TermCones. -/
import Derived.Test.YtphkkcocimmmfaaLTO
import Derived.Test.YtphkkcocimmmfaaTO
namespace Go.Proofs.Ytphkkcocimmmfaa
set_option maxRecDepth 100000
set_option maxHeartbeats 4000000

theorem cones_loop0 {H0 H : AHeap} {g : Nat} {most : Int} {l : List Nd} {F : List Nat} (hl : l.length ≤ 200) (g0 : GT H g most [] F) (k0 : Keeps H0 H) (f0 : ∀ p, p ∈ F → H0.size ≤ p) {e : Env} {r : Rn} (hL : loopL Go.Proofs.Try.prog KT R l_plaitlaw3_TermCones_0 e H = r)
    (e0 : e 0 = some (NL l)) (e3 : e 3 = some (.ptr g 0)) (e4 : e 4 = some (.int .i64 0)) :
    ∃ y e' H', r = some (y, e', H') ∧ (y = .exit 0 ∧ ∃ ns F, GT H' g most ns F ∧ Keeps H0 H') ∧ ∀ t, t ∉ defs l_plaitlaw3_TermCones_0 → e' t = e t := by
  refine loop_count l_plaitlaw3_TermCones_0.eq_1 hL l.length (fun i e1 H1 => e1 4 = some (.int .i64 i) ∧ ∃ ns F, GT H1 g most ns F ∧ Keeps H0 H1 ∧ ∀ p, p ∈ F → H0.size ≤ p) _ 0 (by omega) ⟨e4, [], F, g0, k0, f0⟩ ?_ ?_
  · rintro i f H1 hf - hi ⟨f4, ns, F1, g1, k1, f1⟩
    have w1 : IntKind.i64.wrap ((i : Int) + 1) = (i : Int) + 1 := i64w (by omega) (by omega)
    have c1 : (i : Int) < l.length := by omega
    obtain ⟨n, hn⟩ : ∃ n, l[i]? = some n := ⟨l[i], by simp [hi]⟩
    have hat := flat_at hn
    have hfl := flat_len l
    have hle : i * 11 + 11 ≤ l.length * 11 := by omega
    simp (maxDischargeDepth := 40) [hf, NL, e0, e3, f4, c1, hfl, hle, hat]
    generalize hN : R f_plait_term_Graph_Make _ _ = q
    obtain ⟨js, x, er, hmk⟩ : ∃ js x er, makT most ns n = (js, x, er) := ⟨_, _, _, rfl⟩
    obtain ⟨H2, F2, rfl, g2, m2⟩ := GvT.go g1 hmk hN
    simp (maxDischargeDepth := 40) [f4, w1]
    refine ⟨js, F2, g2, m2.fr.keeps k1 f1, fun p hp => ?_⟩
    rcases m2.new p hp with h | h
    · exact f1 p h
    · exact Nat.le_trans k1.size h
  · rintro f H1 hf ⟨f4, ns, F1, g1, k1, f1⟩
    simp [hf, NL, f4, e0]
    exact ⟨⟨ns, F1, g1⟩, k1⟩

/-- Marks: what stands in the row is what was in the lists. -/
def MkD (L : Nat) (v : List Bool) (p : Nat → Prop) : Prop := v.length = L ∧ ∀ j, j < L → (v.getD j false = true ↔ p j)
theorem MkD.set {L : Nat} {v : List Bool} {p : Nat → Prop} (h : MkD L v p) {i : Nat} : MkD L (v.set i true) (fun j => p j ∨ j = i) := by
  refine ⟨by simpa using h.1, fun j hj => ?_⟩
  rw [set_getD (by rw [h.1]; exact hj), Bool.or_eq_true, decide_eq_true_eq, h.2 j hj]
theorem MkD.iff {L : Nat} {v : List Bool} {p q : Nat → Prop} (h : MkD L v p) (hq : ∀ j, j < L → (p j ↔ q j)) : MkD L v q := ⟨h.1, fun j hj => (h.2 j hj).trans (hq j hj)⟩

theorem back_ints2 {H H' : AHeap} {w : AV} {l : List Int} (k : Keeps H H') (h : OutT H H' w l) : ∃ v, back [0] H w H' = (v, H) ∧ ∀ H2, RI H2 v l := by
  obtain ⟨rd, gr, new⟩ := h
  cases w <;> first | (exact gr.elim) | skip
  · have e : l = [] := by
      have := rd.len
      simp [sliceLen] at this
      cases l with
      | nil => rfl
      | cons a l => simp at this
    subst e
    refine ⟨.nils, ?_, fun _ => RI.nils⟩
    rw [back_cons (by simp [frz]) k.shut, cut_keeps k]
    simp [frz]
  · rename_i o off sz m full
    have rd' := rd
    obtain ⟨g1, g2, g3, g4⟩ := rd
    obtain ⟨rfl, g4⟩ := g4
    simp [sliceLen] at g1
    subst g1
    have ho : ¬ o < H.size := by have := new o (by simp); omega
    unfold sliceCells at g2
    simp only at g2
    split at g2 <;> first | (cases g2; done) | skip
    rename_i all hob
    split at g2 <;> first | (cases g2; done) | skip
    rename_i hle
    simp only [Option.some.injEq] at g2
    have hf : frz H' H.size [0] (.row o off 1 l.length full) = IL l := by
      rw [frz_row, if_neg ho, hob, frzO_cells, if_pos hle, g2, frz_nil', List.map_id]; rfl
    refine ⟨IL l, ?_, fun _ => RI.lst⟩
    rw [back_cons (by rw [hf]; unfold IL; simp only [closed]; rw [closedL_all, List.all_map, List.all_eq_true]; intro x _; rfl) k.shut, cut_keeps k, hf]
/-- Cone, whose list hangs on no heap. -/
theorem cone_run2 {H : AHeap} {g : Nat} {most : Int} {ns : List Nd} {F : List Nat} (G : GT H g most ns F) {id : Int} : ∃ v, R f_plait_term_Graph_Cone [.ptr g 0, .int .i64 id] H = some (v, H) ∧ ∀ H', RI H' v (coneT ns id) := by
  obtain ⟨o1, o2, o3, t, v, kok, rfl⟩ := G
  rw [e_plait_term_Graph_Cone]
  have hlen := slv_len o1 ns
  have lim := t.lim
  have lim2 := t.lim2
  have og := t.og
  unfold coneT
  by_cases c1 : id < 1
  · rw [if_pos (.inl c1)]
    simp (maxDischargeDepth := 40) [c_plait_term_Graph_Cone, c1]
    exact fun _ => RI.nils
  by_cases c2 : (ns.length : Int) < id
  · rw [if_pos (.inr c2)]
    simp (maxDischargeDepth := 40) [c_plait_term_Graph_Cone, c1, c2, og, hlen]
    exact fun _ => RI.nils
  rw [if_neg (by omega)]
  obtain ⟨n, rfl⟩ : ∃ n : Nat, id = (n : Int) := ⟨id.toNat, by omega⟩
  have hnl : n ≤ ns.length := by omega
  have w1 : IntKind.i64.wrap ((n : Int) + 1) = (n : Int) + 1 := i64w (by omega) (by omega)
  have c3 : (n : Int) + 1 ≤ 140737488355328 := by omega
  have c4 : (n : Int) + 1 ≤ 9223372036854775807 := by omega
  have c5 : n < n + 1 := by omega
  have c6 : (n : Int) < (n : Int) + 1 := by omega
  have c7 : (0 : Int) ≤ (n : Int) + 1 := by omega
  simp (maxDischargeDepth := 40) [c_plait_term_Graph_Cone, c1, c2, og, hlen, w1, c3, c4, c5, c6, c7]
  generalize hL : loopL _ _ _ _ _ _ = q
  obtain ⟨x, e1, H1, rfl, ⟨rfl, k1, z1, ob1, c, hc, e6⟩, fr1⟩ := tcone_loop0 t kok hL (by simp) (by simp) (n := n) (v := (List.replicate (n + 1) false).set n true) (len := n + 1) (by simp) (by omega) hnl (by rw [List.map_set]; simp) (by simp) (by simp) (by simp) (by simp)
  have d1 : (c : Int) ≤ 140737488355328 := by omega
  have d2 : (c : Int) ≤ 9223372036854775807 := by omega
  have d3 : (c : Int) * 8 ≤ 140737488355328 := by omega
  simp (maxDischargeDepth := 40) [e6, d2, d3]
  generalize hL2 : loopL _ _ _ _ _ _ = q
  have K1 := k1.new' (.cells (List.replicate c (AV.int .i64 0)))
  obtain ⟨x, e2, H2, rfl, ⟨rfl, k2, w, e9, hout⟩, fr2⟩ := tcone_loop1 (v := markT ns n ((List.replicate (n + 1) false).set n true)) (len := n + 1) (by rw [markT_len]; simp) (by omega) (by omega) hL2 K1 (by simp; omega) (by simp [ob1, z1])
    (w0 := .row H1.size 0 1 0 (decide (0 = (c : Int)))) ⟨⟨rfl, by simp [sliceCells], rfl, ⟨rfl, by simp⟩⟩, by simp, by simp; omega⟩ (by simp; omega) (by simp [fr1]) (by simp [fr1]) (by simp) (by simp)
  simp (maxDischargeDepth := 40) [e9]
  exact back_ints2 k2 hout

theorem cones_loop3 {H : AHeap} {L o : Nat} {w : AV} {part : List Int} {p : Nat → Prop} {v : List Bool} (hv : MkD L v p) (hw : ∀ H', RI H' w part) (hp : ∀ x, x ∈ part → ∃ j : Nat, x = j ∧ j < L) (hm : part.length ≤ 10000) (lo : o < H.size) (ob : H.obj o = .cells (v.map .bool)) {e : Env} {r : Rn} (hL : loopL Go.Proofs.Try.prog KT R l_plaitlaw3_TermCones_3 e H = r)
    (e8 : e 8 = some (.row o 0 1 L true)) (e11 : e 11 = some w) (e12 : e 12 = some (.int .i64 0)) :
    ∃ y e' H', r = some (y, e', H') ∧ (y = .exit 6 ∧ Fr [o] H H' ∧ ∃ v', H'.obj o = .cells (v'.map .bool) ∧ MkD L v' (fun j => p j ∨ (j : Int) ∈ part)) ∧ ∀ t, t ∉ defs l_plaitlaw3_TermCones_3 → e' t = e t := by
  refine loop_count l_plaitlaw3_TermCones_3.eq_1 hL part.length (fun i e1 H1 => e1 12 = some (.int .i64 i) ∧ Fr [o] H H1 ∧ ∃ v1, H1.obj o = .cells (v1.map .bool) ∧ MkD L v1 (fun j => p j ∨ (j : Int) ∈ part.take i)) _ 0 (by omega) ⟨e12, Fr.refl _ _, v, ob, hv.iff fun j hj => by simp⟩ ?_ ?_
  · rintro i f H1 hf - hi ⟨f12, k1, v1, ob1, d1⟩
    have w1 : IntKind.i64.wrap ((i : Int) + 1) = (i : Int) + 1 := i64w (by omega) (by omega)
    have c1 : (i : Int) < part.length := by omega
    obtain ⟨a1, a2⟩ := loadi_of (hw H1) hi
    replace a2 := a2 H1 (Keeps.refl _)
    have hx : part.getD i 0 ∈ part := by simp [List.getD_eq_getElem?_getD, hi]
    obtain ⟨j, hj, hjL⟩ := hp _ hx
    rw [hj] at a2
    have hlen := (hw H1).len
    have c2 : (j : Int) < L := by omega
    have hl1 := d1.1
    have lo1 : o < H1.size := Nat.lt_of_lt_of_le lo k1.size
    have tk : part.take (i + 1) = part.take i ++ [(j : Int)] := by rw [List.take_add_one, ← hj]; simp [List.getD_eq_getElem?_getD, hi]
    rw [tk]
    simp (maxDischargeDepth := 40) [-List.map_set, hf, e8, e11, f12, c1, hlen, a1, a2, c2, hjL, ob1, hl1, marks_set, w1, lo1]
    refine ⟨k1.set (.inl (by simp)) _, _, rfl, d1.set.iff fun i hi => ?_⟩
    constructor
    · rintro ((h | h) | h)
      · exact .inl h
      · exact .inr (.inl h)
      · exact .inr (.inr (by omega))
    · rintro (h | h | h)
      · exact .inl (.inl h)
      · exact .inl (.inr h)
      · exact .inr (by omega)
  · rintro f H1 hf ⟨f12, k1, v1, ob1, d1⟩
    have hlen := (hw H1).len
    simp [hf, f12, e11, hlen]
    rw [List.take_of_length_le (Nat.le_refl _)] at d1
    exact ⟨k1, v1, ob1, d1⟩

theorem cones_loop2 {H0 H : AHeap} {g o q : Nat} {most : Int} {ns : List Nd} {F : List Nat} (G : GT H0 g most ns F) (k0 : Keeps H0 H) (ho : H0.size ≤ o) (oq : o ≠ q) (lq : q < H.size) {kids : List Int} (h3 : kids.length = 3) (obq : H.obj q = .cells (kids.map (.int .i64))) {v : List Bool} (hv : MkD (ns.length + 1) v (fun _ => False)) (lo : o < H.size) (ob : H.obj o = .cells (v.map .bool)) {e : Env} {r : Rn} (hL : loopL Go.Proofs.Try.prog KT R l_plaitlaw3_TermCones_2 e H = r)
    (e3 : e 3 = some (.ptr g 0)) (e8 : e 8 = some (.row o 0 1 (ns.length + 1) true)) (e9 : e 9 = some (.row q 0 1 3 true)) (e10 : e 10 = some (.int .i64 0)) :
    ∃ y e' H', r = some (y, e', H') ∧ (y = .exit 4 ∧ Fr [o] H H' ∧ ∃ v', H'.obj o = .cells (v'.map .bool) ∧ MkD (ns.length + 1) v' (fun j => ∃ x, x ∈ kids ∧ (j : Int) ∈ coneT ns x)) ∧ ∀ t, t ∉ defs l_plaitlaw3_TermCones_2 → e' t = e t := by
  obtain ⟨o1, o2, o3, t, -, -, -⟩ := id G
  have lim := t.lim
  have lim2 := t.lim2
  refine loop_count l_plaitlaw3_TermCones_2.eq_1 hL 3 (fun i e1 H1 => e1 10 = some (.int .i64 i) ∧ Fr [o] H H1 ∧ ∃ v1, H1.obj o = .cells (v1.map .bool) ∧ MkD (ns.length + 1) v1 (fun j => ∃ x, x ∈ kids.take i ∧ (j : Int) ∈ coneT ns x)) _ 0 (by omega) ⟨e10, Fr.refl _ _, v, ob, hv.iff fun j hj => by simp⟩ ?_ ?_
  · rintro i f H1 hf - hi ⟨f10, k1, v1, ob1, d1⟩
    have w1 : IntKind.i64.wrap ((i : Int) + 1) = (i : Int) + 1 := i64w (by omega) (by omega)
    have c1 : (i : Int) < 3 := by omega
    have K1 : Keeps H0 H1 := k1.keeps k0 (fun p hp => by simp at hp; omega)
    obtain ⟨w, hc1, hc2⟩ := cone_run2 (G.keeps K1) (id := kids.getD i 0)
    have lo1 : o < H1.size := Nat.lt_of_lt_of_le lo k1.size
    have lq1 : q < H1.size := Nat.lt_of_lt_of_le lq k1.size
    have obq1 : H1.obj q = .cells (kids.map (.int .i64)) := (k1.obj q lq (by simp; omega)).trans obq
    have hik : i < kids.length := by omega
    have hget : kids[i] = kids.getD i 0 := by simp [List.getD_eq_getElem?_getD, hik]
    have tk : kids.take (i + 1) = kids.take i ++ [kids.getD i 0] := by rw [List.take_add_one]; simp [List.getD_eq_getElem?_getD, hik]
    rw [tk]
    generalize kids.getD i 0 = x at *
    simp (maxDischargeDepth := 40) [hf, e3, e9, f10, c1, hi, obq1, h3, hget, hc1]
    generalize hL3 : loopL _ _ _ _ _ _ = q3
    have hcl : (coneT ns x).length ≤ 10000 := by
      unfold coneT
      split
      · simp
      · exact Nat.le_trans (outT_len _ _) (by omega)
    obtain ⟨y, e4, H4, rfl, ⟨rfl, k4, v4, ob4, d4⟩, fr⟩ := cones_loop3 d1 hc2 (fun x hx => by obtain ⟨j, h1, -, h2⟩ := cone_mem hx; exact ⟨j, h1, by omega⟩) hcl lo1 ob1 hL3 (by simp [hf, e8]) (by simp) (by simp)
    simp (maxDischargeDepth := 40) [fr, f10, w1]
    refine ⟨k1.trans k4 (fun p hp => .inl hp), v4, ob4, d4.iff fun j hj => ?_⟩
    simp only [List.mem_append, List.mem_singleton]
  · rintro f H1 hf ⟨f10, k1, v1, ob1, d1⟩
    simp [f10]
    rw [List.take_of_length_le (by omega)] at d1
    exact ⟨k1, v1, ob1, d1⟩

theorem cones_loop4 {H0 : AHeap} {g : Nat} {most : Int} {ns : List Nd} {F : List Nat} (G : GT H0 g most ns F) {v : List Bool} (hlv : v.length = ns.length + 1)
    {e : Env} {H : AHeap} {r : Rn} (hL : loopL Go.Proofs.Try.prog KT R l_plaitlaw3_TermCones_4 e H = r) (k0 : Keeps H0 H) (z : H0.size < H.size) (hv : H.obj H0.size = .cells (v.map .bool))
    (e3 : e 3 = some (.ptr g 0)) (e8 : e 8 = some (.row H0.size 0 1 (ns.length + 1) true)) (e13 : e 13 = some .nils) (e14 : e 14 = some (.int .i64 1)) :
    ∃ x e' H', r = some (x, e', H') ∧ (x = .exit 8 ∧ Keeps H0 H' ∧ ∃ w, e' 13 = some w ∧ OutT H0 H' w (outT v (ns.length + 1))) ∧ ∀ t, t ∉ defs l_plaitlaw3_TermCones_4 → e' t = e t := by
  obtain ⟨o1, o2, o3, t, -, -, -⟩ := id G
  have lim := t.lim
  have lim2 := t.lim2
  have hw0 : OutT H0 H .nils [] := ⟨RI.nils, by simp, by simp⟩
  refine loop_count l_plaitlaw3_TermCones_4.eq_1 hL (ns.length + 1) (fun i e1 H1 => ∃ w, e1 13 = some w ∧ e1 14 = some (.int .i64 i) ∧ Keeps H0 H1 ∧ H0.size < H1.size ∧ H1.obj H0.size = .cells (v.map .bool) ∧ (∀ p, p ∈ objs w → H0.size < p) ∧ OutT H0 H1 w (outT v i)) _ 1 (by omega)
    ⟨.nils, e13, e14, k0, z, hv, by simp, by rw [outT_one]; exact hw0⟩ ?_ ?_
  · rintro i e1 H1 hf hi1 hi ⟨w, f13, f14, k1, z1, ho, hob, hout⟩
    have w1 : IntKind.i64.wrap ((i : Int) + 1) = (i : Int) + 1 := i64w (by omega) (by omega)
    have c2 : (i : Int) < (ns.length : Int) + 1 := by omega
    have c3 : (i : Int) ≤ ns.length := by omega
    have hlen := len_run (t.keep k1)
    have mk := marks_at (v := v) (j := i) (by omega)
    have hlo := outT_len v i
    rw [outT_succ v hi1]
    cases hx : v.getD i false with
    | false =>
      rw [hx] at mk
      simp (maxDischargeDepth := 20) [hf, f13, f14, e3, e8, c2, c3, w1, ho, mk, k1, z1, hlen, hi]
      exact ⟨hob, hout⟩
    | true =>
      rw [hx] at mk
      simp (maxDischargeDepth := 20) [hf, f13, f14, e3, e8, c2, c3, ho, mk, hlen, hi]
      generalize hA : appU _ _ _ _ = q
      obtain ⟨w', H2, rfl, h2, k2, b2, z2, o2⟩ := hout.push2 hob k1 z1 (by omega) hA
      simp [f14, w1, k2, z2, o2, ho]
      exact ⟨b2, h2⟩
  · rintro e1 H1 hf ⟨w, f13, f14, k1, z1, ho, hob, hout⟩
    have c3 : ¬ (ns.length : Int) + 1 ≤ ns.length := by omega
    have hlen := len_run (t.keep k1)
    simp [hf, e3, f13, f14, c3, hlen]
    exact ⟨k1, hout⟩

theorem cones_loop1 {H0 : AHeap} {g : Nat} {most : Int} {ns : List Nd} {F : List Nat} (G : GT H0 g most ns F) 
    {e : Env} {r : Rn} (hL : loopL Go.Proofs.Try.prog KT R l_plaitlaw3_TermCones_1 e H0 = r) (e3 : e 3 = some (.ptr g 0)) (e5 : e 5 = some (.int .i64 1)) :
    ∃ x e' H', r = some (x, e', H') ∧ (x = .exit 2 ∧ Keeps H0 H') ∧ ∀ t, t ∉ defs l_plaitlaw3_TermCones_1 → e' t = e t := by
  obtain ⟨o1, o2, o3, t, -, kok, -⟩ := id G
  have lim := t.lim
  have lim2 := t.lim2
  refine loop_count l_plaitlaw3_TermCones_1.eq_1 hL ns.length (fun k e1 H1 => e1 5 = some (.int .i64 ((k : Int) + 1)) ∧ Keeps H0 H1) _ 0 (by omega) ⟨e5, Keeps.refl _⟩ ?_ ?_
  · rintro i f H1 hf - hi ⟨f5, k1⟩
    have w1 : IntKind.i64.wrap ((i : Int) + 1 + 1) = (i : Int) + 1 + 1 := i64w (by omega) (by omega)
    have w2 : IntKind.i64.wrap ((ns.length : Int) + 1) = (ns.length : Int) + 1 := i64w (by omega) (by omega)
    have c1 : (i : Int) + 1 ≤ ns.length := by omega
    have c2 : (i : Int) < ns.length := by omega
    have c3 : (ns.length : Int) + 1 ≤ 140737488355328 := by omega
    have c4 : (ns.length : Int) + 1 ≤ 9223372036854775807 := by omega
    obtain ⟨n, hn⟩ : ∃ n, ns[i]? = some n := ⟨ns[i], by simp [hi]⟩
    have hlen : ∀ H2, Keeps H1 H2 → R f_plait_term_Graph_Len [.ptr g 0] H2 = some (.int .i64 ns.length, H2) := fun H2 k => len_run (t.keep (k1.trans k))
    have hnode : R f_plait_term_Graph_Node [.ptr g 0, .int .i64 ((i : Int) + 1)] H1 = some (.tup [.agg n.cs, .bool true], H1) := by
      have := node_run (t.keep k1) (id := (i : Int) + 1)
      rw [show nodeS ns ((i : Int) + 1) = some n from by unfold nodeS; rw [if_neg (by omega), show ((i : Int) + 1 - 1).toNat = i from by omega, hn]] at this
      exact this
    have hlaw := fun v h => cone_law kok hn (v := v) h
    obtain ⟨op, sort, a, b, c, p, q, vw, vl, vh, name⟩ := n
    simp only [Nd.cs] at hnode
    simp only at hlaw
    simp (maxDischargeDepth := 40) (maxSteps := 4000000) [hf, hlen, hnode, e3, f5, c1, c2, c3, c4, w2]
    generalize hL2 : loopL _ _ _ l_plaitlaw3_TermCones_2 _ _ = q2
    obtain ⟨Ha, hHa⟩ : ∃ Ha, Ha = (H1.new (.cells [.int .i64 0, .int .i64 0, .int .i64 0, .int .i64 0, .int .i64 0, .int .i64 0, .int .i64 0, .int .i64 0, u 0#64, u 0#64, .str .empty])).set H1.size (.cells [.int .i64 op, .int .i64 sort, .int .i64 a, .int .i64 b, .int .i64 c, .int .i64 p, .int .i64 q, .int .i64 vw, u vl, u vh, .str name]) := ⟨_, rfl⟩
    have ka : Keeps H1 Ha := by rw [hHa]; exact (Keeps.new _ _).set (Nat.le_refl _) _
    have za : Ha.size = H1.size + 1 := by rw [hHa]; simp
    rw [← hHa] at hL2
    clear hHa
    have Ga := G.keeps (k1.trans ka)
    have zz : 0 < ns.length + 1 := by omega
    obtain ⟨y2, e2, H2, rfl, ⟨rfl, fr2, v2, ob2, d2⟩, fs2⟩ := cones_loop2 (o := Ha.size) (q := Ha.size + 1) (kids := [a, b, c]) (v := List.replicate (ns.length + 1) false) Ga ((Keeps.new _ _).trans (Keeps.new _ _)) (Nat.le_refl _) (by omega) (by simp) rfl (by simp) ⟨by simp, fun j hj => by simp [List.getD_eq_getElem?_getD, List.getElem?_replicate, hj]⟩ (by simp) (by simp) hL2 (by simp [hf, e3]) (by simp [za]) (by simp [za]) (by simp)
    have k2 : Keeps Ha H2 := fr2.keeps ((Keeps.new _ _).trans (Keeps.new _ _)) (fun p hp => by simp at hp; omega)
    have z2 : Ha.size < H2.size := Nat.lt_of_lt_of_le (by simp) fr2.size
    have hl2 := d2.1
    have c5 : i + 1 < ns.length + 1 := by omega
    have c6 : (i : Int) + 1 < (ns.length : Int) + 1 := by omega
    have t1 : ((i : Int) + 1).toNat = i + 1 := by omega
    rw [za] at ob2 z2
    simp (maxDischargeDepth := 40) (maxSteps := 4000000) [-List.map_set, hf, fs2, e3, f5, ob2, z2, hl2, c5, c6, t1, marks_set]
    generalize hL4 : loopL _ _ _ l_plaitlaw3_TermCones_4 _ _ = q4
    have k3 : Keeps Ha (H2.set (H1.size + 1) (.cells ((v2.set (i + 1) true).map .bool))) := k2.set (by omega) _
    obtain ⟨y4, e4, H4, rfl, ⟨rfl, k4, w, e13, hout⟩, fs4⟩ := cones_loop4 (v := v2.set (i + 1) true) Ga (by simpa using hl2) hL4 k3 (by simp [za, z2]) (by simp [za]) (by simp [hf, fs2, e3]) (by simp [fs2, za]) (by simp) (by simp)
    obtain ⟨cv, hc1, hc2⟩ := cone_run2 (Ga.keeps k4) (id := (i : Int) + 1)
    have hol := outT_len (v2.set (i + 1) true) (ns.length + 1)
    have hcl : (coneT ns ((i : Int) + 1)).length ≤ 1000000 := by
      unfold coneT
      split
      · simp
      · exact Nat.le_trans (outT_len _ _) (by omega)
    have hints := ints_run (hc2 H4) hout.rd hcl
    rw [hlaw (v2.set (i + 1) true) (fun j h1 h2 => by
      rw [d2.set.2 j (by omega)]
      simp only [List.mem_cons, List.not_mem_nil, or_false]
      constructor
      · rintro (⟨x, rfl | rfl | rfl, h⟩ | h)
        · exact .inr (.inl h)
        · exact .inr (.inr (.inl h))
        · exact .inr (.inr (.inr h))
        · exact .inl h
      · rintro (h | h | h | h)
        · exact .inr h
        · exact .inl ⟨_, .inl rfl, h⟩
        · exact .inl ⟨_, .inr (.inl rfl), h⟩
        · exact .inl ⟨_, .inr (.inr rfl), h⟩)] at hints
    simp (maxDischargeDepth := 40) (maxSteps := 4000000) [hf, fs2, fs4, e3, f5, e13, hc1, hints, w1]
    exact k1.trans (ka.trans k4)
  · rintro f H1 hf ⟨f5, k1⟩
    have hlen := len_run (t.keep k1)
    have c1 : ¬ (ns.length : Int) + 1 ≤ ns.length := by omega
    simp (maxDischargeDepth := 40) [hf, f5, e3, hlen, c1]
    exact k1

theorem cones_run {H : AHeap} {l : List Nd} : R f_plaitlaw3_TermCones [NL l] H = some (.bool true, H) := by
  generalize h : R f_plaitlaw3_TermCones _ _ = r
  have hk := fun H => known_run (H := H)
  obtain ⟨b, hli, hb⟩ := light_run (H := H) (l := l)
  have hnl : sliceLen (NL l) = some l.length := rfl
  rw [e_plaitlaw3_TermCones] at h
  cases b with
  | false => simp (maxDischargeDepth := 40) [c_plaitlaw3_TermCones, hk, hli] at h; exact h.symm
  | true =>
    have hl := hb rfl
    by_cases c0 : (80 : Int) < l.length
    · simp (maxDischargeDepth := 40) [c_plaitlaw3_TermCones, hk, hli, hnl, c0] at h
      exact h.symm
    simp (maxDischargeDepth := 40) [c_plaitlaw3_TermCones, hk, hli, hnl, c0] at h
    generalize hN : R f_term_New _ _ = q at h
    obtain ⟨H1, g, F1, rfl, g1, k1, f1⟩ := tnew_run hN
    simp (maxDischargeDepth := 40) at h
    generalize hL : loopL _ _ _ _ _ _ = q at h
    obtain ⟨y, e2, H2, rfl, ⟨rfl, ns, F2, g2, k2⟩, fr⟩ := cones_loop0 hl g1 k1 f1 hL (by simp) (by simp) (by simp)
    simp (maxDischargeDepth := 40) [fr] at h
    generalize hL : loopL _ _ _ _ _ _ = q at h
    obtain ⟨y, e3, H3, rfl, ⟨rfl, k3⟩, fr3⟩ := cones_loop1 g2 hL (by simp [fr]) (by simp)
    have g3 := g2.keeps k3
    have kp := k2.trans k3
    obtain ⟨o1, o2, o3, t, -, -, -⟩ := id g3
    have lim := t.lim
    have lim2 := t.lim2
    have hlen := len_run t
    have w2 : IntKind.i64.wrap ((ns.length : Int) + 1) = (ns.length : Int) + 1 := i64w (by omega) (by omega)
    obtain ⟨v0, hv0, hr0⟩ := cone_run2 g3 (id := 0)
    obtain ⟨v1, hv1, hr1⟩ := cone_run2 g3 (id := (ns.length : Int) + 1)
    have z0 : sliceLen v0 = some 0 := by have := (hr0 H3).len; rwa [show coneT ns 0 = [] from by unfold coneT; rw [if_pos (by omega)]] at this
    have z1 : sliceLen v1 = some 0 := by have := (hr1 H3).len; rwa [show coneT ns ((ns.length : Int) + 1) = [] from by unfold coneT; rw [if_pos (by omega)]] at this
    simp (maxDischargeDepth := 40) [fr, fr3, hlen, hv0, hv1, z0, z1, kp, w2] at h
    exact h.symm

theorem TermCones_law {a0 : AV} (y0 : TV Go.Proofs.Try.prog 8 83 a0) : ∃ H', R f_plaitlaw3_TermCones [a0] H0 = some (.bool true, H') := by
  obtain ⟨l, rfl⟩ := tv_nodes (d := 4) y0
  exact ⟨_, cones_run⟩
end Go.Proofs.Ytphkkcocimmmfaa
