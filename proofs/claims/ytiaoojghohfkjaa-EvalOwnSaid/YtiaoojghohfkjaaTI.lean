/- Graphs of terms: New, Vars. -/
import Derived.Test.YtiaoojghohfkjaaTH
namespace Go.Proofs.Ytiaoojghohfkjaa
set_option maxRecDepth 100000
set_option maxHeartbeats 4000000

theorem back_open {H H' : AHeap} {v : AV} (hc : closed H.size v = false) : back [] H v H' = (v, H') := by
  unfold back
  rw [if_neg]
  rintro ⟨h, -⟩
  have : frz H' H.size [] v = v := by cases v <;> rfl
  rw [this, hc] at h
  cases h
theorem tnew_run {n : Int} {H : AHeap} {r : Option (AV × AHeap)} (h : R f_term_New [.int .i64 n] H = r) : ∃ H' g F, r = some (.ptr g 0, H') ∧ GT H' g (min (max n 1) 4096) [] F ∧ Keeps H H' ∧ ∀ p, p ∈ F → H.size ≤ p := by
  rw [e_term_New] at h
  simp [c_term_New] at h
  rw [back_open (by simp [closed])] at h
  subst h
  refine ⟨_, H.size + 2, [H.size + 2, H.size, H.size + 1], rfl, ⟨0, H.size, H.size + 1, ⟨by simp, by simp, by simp, by simp, by simp [slv], by simp, ⟨[], 0, by simp [shN'], fun n => by simp [findE, idx]⟩, ⟨[], 0, by simp, fun n => by simp [findE, vidx]⟩, by simp, by omega, by omega, by simp, by simp, by omega, by show (0 : Int) ≤ _; omega, by omega⟩, (fun n hn => by cases hn), (fun i n hn => by rw [List.getElem?_nil] at hn; cases hn), by simp [slv]⟩, by simp (maxDischargeDepth := 40), fun p hp => by simp at hp; omega⟩

/-- The numbers of the variables. -/
def varsT (ns : List Nd) (i : Nat) : List Int := ((List.range i).filter fun j => decide ((ns.getD j Nd.zero).op = 2)).map fun (j : Nat) => (j : Int) + 1
theorem varsT_succ (ns : List Nd) (i : Nat) : varsT ns (i + 1) = varsT ns i ++ (if (ns.getD i Nd.zero).op = 2 then [(i : Int) + 1] else []) := by
  simp only [varsT, List.range_succ, List.filter_append, List.map_append]
  congr 1
  by_cases h : (ns.getD i Nd.zero).op = 2
  · simp only [List.filter_cons, List.filter_nil, h, decide_true, if_true, List.map_cons, List.map_nil]
  · simp only [List.filter_cons, List.filter_nil, h, decide_false, if_false, Bool.false_eq_true, List.map_nil]
theorem varsT_len (ns : List Nd) (i : Nat) : (varsT ns i).length ≤ i := by
  unfold varsT
  rw [List.length_map]
  exact Nat.le_trans (List.length_filter_le _ _) (by simp)

theorem OutT.keep {H0 H H' : AHeap} {v : AV} {l : List Int} (h : OutT H0 H v l) (k : Keeps H H') : OutT H0 H' v l := ⟨h.rd.keep k, h.gr, h.new⟩
theorem vars_loop {H : AHeap} {g : Nat} {most : Int} {ns : List Nd} {o1 o2 o3 : Nat} (h : TG H g most ns o1 o2 o3) {e : Env} {r : Rn} (hL : loopL Go.Proofs.Try.prog KT R l_plait_term_Graph_Vars_0 e H = r)
    (e3 : e 3 = some .nils) (e9 : e 9 = some (slv o1 ns)) (e10 : e 10 = some (.int .i64 ns.length)) (e11 : e 11 = some (.int .i64 0)) :
    ∃ y' e' H', r = some (y', e', H') ∧ (y' = .exit 0 ∧ Keeps H H' ∧ ∃ w, e' 3 = some w ∧ OutT H H' w (varsT ns ns.length)) ∧ ∀ t, t ∉ defs l_plait_term_Graph_Vars_0 → e' t = e t := by
  have hl := h.lim
  have hl2 := h.lim2
  refine loop_count l_plait_term_Graph_Vars_0.eq_1 hL ns.length (fun i e1 H1 => ∃ w, e1 3 = some w ∧ e1 11 = some (.int .i64 i) ∧ Keeps H H1 ∧ OutT H H1 w (varsT ns i)) _ 0 (by omega) ⟨.nils, e3, e11, Keeps.refl _, ⟨by simpa [varsT] using RI.nils, by simp, by simp⟩⟩ ?_ ?_
  · rintro i f H1 hf - hi ⟨w, f3, f11, k1, hout⟩
    have hw1 := i64w (n := (i : Int) + 1) (by omega) (by omega)
    have hc : (i : Int) < ns.length := by omega
    have hne : ns ≠ [] := by rintro rfl; simp at hi
    have hle := varsT_len ns i
    have hs := slv_row (o := o1) hi
    have hb := h.b1 hne
    have lt1 := h.l1 hne
    have hb1 : ∀ H2, Keeps H H2 → H2.obj o1 = .cells (flat ns) := fun H2 k => (k.obj _ lt1).trans hb
    rw [hs] at e9
    obtain ⟨n, hn⟩ : ∃ n, ns[i]? = some n := ⟨ns[i], by simp [hi]⟩
    have hat := flat_at hn
    have hfl := flat_len ns
    have hle2 : i * 11 + 11 ≤ ns.length * 11 := by omega
    have hg : ns.getD i Nd.zero = n := by simp [List.getD_eq_getElem?_getD, hn]
    rw [varsT_succ, hg]
    obtain ⟨op, sort, a, b, c, p, q, vw, vl, vh, name⟩ := n
    simp only [Nd.cs] at hat
    by_cases c2 : op = 2
    · simp (maxDischargeDepth := 40) [hf, f3, f11, e9, e10, hc, hb1, k1, hfl, hle2, hat, c2, hw1]
      generalize hH2 : AHeap.set _ _ _ = H2
      have K1 : Keeps H1 H2 := by rw [← hH2]; simp (maxDischargeDepth := 40)
      have z2 : H2.size = H1.size + 1 := by rw [← hH2]; simp
      clear hH2
      generalize hA : appU _ _ _ _ = q1
      rw [← z2] at hA
      obtain ⟨w', H3, rfl, h3, k3⟩ := (hout.keep K1).push (k1.trans K1) (by omega) hA
      simp [f11, hw1, k3]
      exact h3
    · simp (maxDischargeDepth := 40) [hf, f3, f11, e9, e10, hc, hb1, k1, hfl, hle2, hat, c2, hw1]
      generalize hH2 : AHeap.set _ _ _ = H2
      have K1 : Keeps H1 H2 := by rw [← hH2]; simp (maxDischargeDepth := 40)
      exact ⟨k1.trans K1, hout.keep K1⟩
  · rintro f H1 hf ⟨w, f3, f11, k1, hout⟩
    simp [hf, f3, f11, e10, k1]
    exact hout

/-- A new slice of numbers, frozen. -/
theorem back_ints {H H' : AHeap} {w : AV} {l : List Int} (k : Keeps H H') (h : OutT H H' w l) : ∃ v, back [0] H w H' = (v, H) ∧ RI H v l := by
  obtain ⟨rd, gr, new⟩ := h
  cases w <;> first | (exact gr.elim) | skip
  · have e : l = [] := by
      have := rd.len
      simp [sliceLen] at this
      cases l with
      | nil => rfl
      | cons a l => simp at this
    subst e
    refine ⟨.nils, ?_, RI.nils⟩
    rw [back_cons (by simp [frz]) k.shut, cut_keeps k]
    simp [frz]
  · rename_i o off sz m full
    have rd' := rd
    obtain ⟨g1, g2, g3, g4⟩ := rd
    obtain ⟨rfl, g4⟩ := g4
    simp [sliceLen] at g1
    subst g1
    have ho : ¬ o < H.size := by have := new o (by simp); omega
    unfold sliceCells at g2
    simp only at g2
    split at g2 <;> first | (cases g2; done) | skip
    rename_i all hob
    split at g2 <;> first | (cases g2; done) | skip
    rename_i hle
    simp only [Option.some.injEq] at g2
    have hf : frz H' H.size [0] (.row o off 1 l.length full) = IL l := by
      rw [frz_row, if_neg ho, hob, frzO_cells, if_pos hle, g2, frz_nil', List.map_id]; rfl
    refine ⟨IL l, ?_, RI.lst⟩
    rw [back_cons (by rw [hf]; unfold IL; simp only [closed]; rw [closedL_all, List.all_map, List.all_eq_true]; intro x _; rfl) k.shut, cut_keeps k, hf]

theorem vars_run {H : AHeap} {g : Nat} {most : Int} {ns : List Nd} {F : List Nat} (G : GT H g most ns F) : ∃ v, R f_plait_term_Graph_Vars [.ptr g 0] H = some (v, H) ∧ RI H v (varsT ns ns.length) := by
  obtain ⟨o1, o2, o3, t, v, kok, rfl⟩ := id G
  rw [e_plait_term_Graph_Vars]
  have hlen := slv_len o1 ns
  simp (maxDischargeDepth := 40) [c_plait_term_Graph_Vars, t.og, hlen]
  generalize hL : loopL _ _ _ _ _ _ = r
  obtain ⟨y, e1, H1, rfl, ⟨rfl, k1, w, e7, hw⟩, fr⟩ := vars_loop t hL (by simp) (by simp) (by simp) (by simp)
  simp (maxDischargeDepth := 40) [e7]
  obtain ⟨v', h1, h2⟩ := back_ints k1 hw
  exact ⟨v', h1, h2⟩
end Go.Proofs.Ytiaoojghohfkjaa
