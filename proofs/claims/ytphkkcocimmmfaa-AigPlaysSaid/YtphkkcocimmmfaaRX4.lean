/- And-inverter graphs: the document's own Eval, Cone; both in a script's step. -/
import Derived.Test.YtphkkcocimmmfaaRX3
namespace Go.Proofs.Ytphkkcocimmmfaa
set_option maxRecDepth 100000

theorem rvals_run {H : AHeap} {o : Nat} {m : Int} {ks : Kd} {F : List Nat} (g : RAt H o m ks F) (hr : Rt m ks) {w : AV} {inp : List Bool} (hw : Reads H w 1 inp.length (inp.map .bool)) (hin : inp.length = (insF ks 0).length) : R f_plait_plaitref8_Graph_Values [.ptr o 0, w] H = some (.lst 1 (ks.length + 1) ((valsF inp ks 0 [false]).map .bool), H) := by
  obtain ⟨lv, g, rfl⟩ := g
  have hm := hr.most
  have hl := hr.le
  generalize h : R f_plait_plaitref8_Graph_Values _ _ = r
  rw [e_plait_plaitref8_Graph_Values] at h
  have c1 : (ks.length : Int) + 1 ≤ 140737488355328 := by omega
  have c2 : (ks.length : Int) + 1 ≤ 9223372036854775807 := by omega
  have w1 : IntKind.i64.wrap ((ks.length : Int) + 1) = (ks.length : Int) + 1 := i64w (by omega) (by omega)
  simp [c_plait_plaitref8_Graph_Values, g.self, g.rk.len, w1, c1, c2] at h
  generalize hL : loopL _ _ _ _ _ _ = q at h
  obtain ⟨x, e1, H1, rfl, ⟨rfl, k1, z1, o1⟩, fr⟩ := rvals_loop g hr hw hin hL (by simp) (by simp) (by simp) (by simp) (by simp) (by simp) (by simp) (by simp)
  simp [fr] at h
  have hlen : ((valsF inp ks 0 [false]).map AV.bool).length = ks.length + 1 := by rw [List.length_map, valsF_len]; simp; omega
  have hfz : frz H1 H.size [0] (.row H.size 0 1 (ks.length + 1) true) = .lst 1 (ks.length + 1) ((valsF inp ks 0 [false]).map .bool) := by
    rw [frz_row, if_neg (Nat.lt_irrefl _), o1, frzO_cells, if_pos (by rw [hlen]; omega), frz_nil', List.map_id, List.drop_zero, List.take_of_length_le (by rw [hlen]; omega)]
  rw [back_cons (by rw [hfz]; simp only [closed]; rw [closedL_all, List.all_map, List.all_eq_true]; intro x _; rfl) k1.shut, cut_keeps k1, hfz] at h
  exact h.symm

theorem reval_run {H : AHeap} {o : Nat} {m : Int} {ks : Kd} {F : List Nat} (g : RAt H o m ks F) (hr : Rt m ks) {l : Int} (bl : l ≤ 9223372036854775807) {w : AV} {inp : List Bool} (hw : Reads H w 1 inp.length (inp.map .bool)) : R f_plait_plaitref8_Graph_Eval [.ptr o 0, .int .i64 l, w] H = some (.tup [.bool (evalF ks l inp).1, .int .i64 (evalF ks l inp).2], H) := by
  have his := is8_run g bl
  rw [e_plait_plaitref8_Graph_Eval]
  by_cases ha : isL ks.length l
  rotate_left
  · simp [c_plait_plaitref8_Graph_Eval, his, ha, evalF]
  obtain ⟨v, hv, rd⟩ := rinputs_run g hr rfl
  have hvl := (rd H).len
  by_cases hi : inp.length = (insF ks 0).length
  rotate_left
  · have hi' : ¬ (inp.length : Int) = (insF ks 0).length := by omega
    simp [c_plait_plaitref8_Graph_Eval, his, ha, hw.len, hv, hvl, hi', evalF, hi]
  have hi' : (inp.length : Int) = (insF ks 0).length := by omega
  have il := isL_i64 hr ha
  have hla := ha
  rw [isL_lt] at hla
  have q0 : 0 ≤ l / 2 := by omega
  have q1 : (l / 2).toNat < (valsF inp ks 0 [false]).length := by rw [valsF_len]; simp; omega
  have q2 : l / 2 < (ks.length : Int) + 1 := by omega
  have r1 := vals_at (z := []) q1
  rw [List.append_nil] at r1
  have hvs := rvals_run g hr hw hi
  simp [c_plait_plaitref8_Graph_Eval, his, ha, hw.len, hv, hvl, hvs, hla.1, il.2, q0, q2, r1, evalF, hi, litV, bne]

set_option maxHeartbeats 1000000 in
theorem rcone_loop0 {H0 : AHeap} {m : Int} {ks : Kd} (hr : Rt m ks) {lv : AV} {o len : Nat} (g : RRep H0 o m ks lv)
    {e : Env} {H : AHeap} {r : Rn} (hL : loopL Go.Proofs.Try.prog KT R l_plait_plaitref8_Graph_Cone_0 e H = r) (k0 : Keeps H0 H) (z : H0.size < H.size) {n : Nat} {v : List Bool} (hl : v.length = len) (hn : n < len) (hnk : n ≤ ks.length) (hv : H.obj H0.size = .cells (v.map .bool))
    (e0 : e 0 = some (.ptr o 0)) (e5 : e 5 = some (.row H0.size 0 1 len true)) (e6 : e 6 = some (.int .i64 n)) :
    ∃ x e' H', r = some (x, e', H') ∧ (x = .exit 0 ∧ Keeps H0 H' ∧ H0.size < H'.size ∧ H'.obj H0.size = .cells ((markF ks n v).map .bool)) ∧ ∀ t, t ∉ defs l_plait_plaitref8_Graph_Cone_0 → e' t = e t := by
  have hm := hr.most
  have hle := hr.le
  refine loop_rule l_plait_plaitref8_Graph_Cone_0.eq_1 hL (fun i e1 H1 => ∃ v1, i < len ∧ i ≤ ks.length ∧ v1.length = len ∧ e1 6 = some (.int .i64 i) ∧ Keeps H0 H1 ∧ H0.size < H1.size ∧ H1.obj H0.size = .cells (v1.map .bool) ∧ markF ks i v1 = markF ks n v) _ n ⟨v, hn, hnk, hl, e6, k0, z, hv, rfl⟩ ?_
  rintro i e1 H1 hf ⟨v1, hi, hik, hl1, f6, k1, z1, ho, hmk⟩
  cases i with
  | zero =>
    simp [f6]
    exact ⟨k1, z1, by rw [ho, ← hmk]; rfl⟩
  | succ i =>
    have hik' : i < ks.length := hik
    obtain ⟨k, hk2⟩ : ∃ k, ks[i]? = some k := ⟨ks[i], List.getElem?_eq_getElem hik'⟩
    obtain ⟨po, off, all, a1, a2, a3, a4, c0, c1', c2', c3⟩ := loadn_of g.rk g.gk hk2
    have hself : ∀ H', Keeps H0 H' → H'.obj o = .cells [lv, .int .i64 m] := fun H' k => (k.obj o g.lo).trans g.self
    have w1 : IntKind.i64.wrap (i : Int) = (i : Int) := i64w (by omega) (by omega)
    have z2 : H0.size ≤ H1.size := Nat.le_of_lt z1
    have c1 : ¬ ((i : Int) + 1 ≤ 0) := by omega
    have c2 : (i : Int) + 1 < len := by omega
    have t1 : ((i : Int) + 1).toNat = i + 1 := by omega
    have p1 : (0 : Int) < (i : Int) + 1 := by omega
    have np : ¬ po = H0.size := Nat.ne_of_lt a4
    have mk := marks_at (v := v1) (j := i + 1) (by omega)
    rw [markF] at hmk
    cases hx : v1.getD (i + 1) false with
    | false =>
      rw [hx] at mk
      rw [mark1, hx] at hmk
      simp (maxDischargeDepth := 20) [hf, f6, e5, w1, z1, k1, c2, t1, p1, ho, mk]
      exact ⟨i, by omega, by omega, by omega, v1, hl1, rfl, rfl, by simpa using hmk⟩
    | true =>
      rw [hx] at mk
      by_cases h3 : k = (0, 0)
      · subst h3
        rw [mark1, hx, hk2] at hmk
        simp at c2'
        simp (maxDischargeDepth := 20) [hf, f6, e0, e5, hself, a1, a2, c2', w1, z1, k1, c2, t1, p1, ho, mk]
        exact ⟨i, by omega, by omega, by omega, v1, hl1, rfl, rfl, by simpa using hmk⟩
      · have hb := hr.kids i k hk2 h3
        have hbf : decide (k = (0, 0)) = false := by simpa using h3
        rw [hbf] at c2'
        rw [mark1, hx, hk2] at hmk
        have q1 : 0 ≤ k.1 := by omega
        have q2 : 0 ≤ k.2 := by omega
        have b2 : k.1 ≤ 9223372036854775807 := by omega
        have b4 : k.2 ≤ 9223372036854775807 := by omega
        have q3 : 0 ≤ k.1 / 2 := by omega
        have q4 : 0 ≤ k.2 / 2 := by omega
        have q5 : k.1 / 2 < (len : Int) := by omega
        have q6 : k.2 / 2 < (len : Int) := by omega
        have q7 : (k.1 / 2).toNat < v1.length := by omega
        have q8 : (k.2 / 2).toNat < v1.length := by omega
        have r1 := marks_at q7
        have r2 := marks_at q8
        have r3 := marks_at (v := v1.set (k.1 / 2).toNat true) (j := (k.2 / 2).toNat) (by simp; omega)
        simp (maxDischargeDepth := 20) [-List.map_set, hf, f6, e0, e5, hself, a1, a2, c0, c1', c2', w1, z1, k1, c2, t1, p1, ho, mk, q1, q2, b2, b4, q3, q4, q5, q6, marks_set, hl1]
        rw [if_pos rfl] at hmk
        simp only [if_neg h3] at hmk
        exact ⟨i, by omega, by omega, by omega, _, by simp [hl1], rfl, rfl, hmk⟩

set_option maxHeartbeats 1000000 in
theorem rcone_loop1 {H0 : AHeap} {len n : Nat} {l : Int} {v : List Bool} (hlv : v.length = len) (hn : l / 2 = n) (l0 : 0 ≤ l) (hnl : n < len) (hm : len ≤ 1000000)
    {e : Env} {H : AHeap} {r : Rn} (hL : loopL Go.Proofs.Try.prog KT R l_plait_plaitref8_Graph_Cone_1 e H = r) (k0 : Keeps H0 H) (z : H0.size < H.size) (hv : H.obj H0.size = .cells (v.map .bool))
    (e1' : e 1 = some (.int .i64 l)) (e5 : e 5 = some (.row H0.size 0 1 len true)) (e7 : e 7 = some .nils) (e8 : e 8 = some (.int .i64 1)) :
    ∃ x e' H', r = some (x, e', H') ∧ (x = .exit 2 ∧ Keeps H0 H' ∧ ∃ w, e' 7 = some w ∧ OutAt H0 H' w (outF v (n + 1))) ∧ ∀ t, t ∉ defs l_plait_plaitref8_Graph_Cone_1 → e' t = e t := by
  have b1 : l ≤ 9223372036854775807 := by omega
  refine loop_count l_plait_plaitref8_Graph_Cone_1.eq_1 hL (n + 1) (fun i e1 H1 => ∃ w, e1 7 = some w ∧ e1 8 = some (.int .i64 i) ∧ Keeps H0 H1 ∧ H0.size < H1.size ∧ H1.obj H0.size = .cells (v.map .bool) ∧ OutAt H0 H1 w (outF v i)) _ 1 (by omega)
    ⟨.nils, e7, e8, k0, z, hv, ⟨by rw [outF_one]; exact Reads.nils, by simp, by simp⟩⟩ ?_ ?_
  · rintro i e1 H1 hf hi1 hi ⟨w, f8, f9, k1, z1, ho, hout⟩
    have w1 : IntKind.i64.wrap ((i : Int) + 1) = (i : Int) + 1 := i64w (by omega) (by omega)
    have c2 : (i : Int) < len := by omega
    have c3 : (i : Int) ≤ n := by omega
    have mk := marks_at (v := v) (j := i) (by omega)
    have hlo := outF_len v i
    rw [outF_succ v hi1]
    cases hx : v.getD i false with
    | false =>
      rw [hx] at mk
      simp (maxDischargeDepth := 9) [hf, f8, f9, e1', e5, l0, b1, hn, c2, c3, w1, ho, mk, k1, z1]
      simpa using hout
    | true =>
      rw [hx] at mk
      simp (maxDischargeDepth := 9) [hf, f8, f9, e1', e5, l0, b1, hn, c2, c3, ho, mk]
      generalize hA : appU _ _ _ _ = q
      obtain ⟨w', H2, rfl, h2, k2, z2, o2⟩ := hout.push k1 z1 (by omega) hA
      simp [f9, w1, k2, z2, o2, ho]
      exact h2
  · rintro e1 H1 hf ⟨w, f8, f9, k1, z1, ho, hout⟩
    obtain ⟨n1, hn1⟩ : ∃ n1, n1 = n + 1 := ⟨_, rfl⟩
    rw [← hn1] at f9 hout ⊢
    have c3 : ¬ (n1 : Int) ≤ n := by omega
    simp [hf, f9, f8, e1', l0, b1, hn, c3]
    exact ⟨k1, hout⟩

theorem rcone_run {H : AHeap} {o : Nat} {m : Int} {ks : Kd} {F : List Nat} (g : RAt H o m ks F) (hr : Rt m ks) {l : Int} (bl : l ≤ 9223372036854775807) {r : Option (AV × AHeap)} (h : R f_plait_plaitref8_Graph_Cone [.ptr o 0, .int .i64 l] H = r) : RetI H (coneF ks l) r := by
  have his := is8_run g bl
  obtain ⟨lv, g, rfl⟩ := g
  rw [e_plait_plaitref8_Graph_Cone] at h
  have hm := hr.most
  have hle := hr.le
  by_cases ha : isL ks.length l
  rotate_left
  · simp [c_plait_plaitref8_Graph_Cone, his, ha] at h
    subst h
    exact ⟨_, rfl, fun _ => by simp [coneF, ha]⟩
  obtain ⟨n, hn⟩ : ∃ n : Nat, l / 2 = n := ⟨(l / 2).toNat, by have := ha.1; omega⟩
  have l0 := ha.1
  have hnl : n ≤ ks.length := by have := ha.2; omega
  have w1 : IntKind.i64.wrap ((ks.length : Int) + 1) = (ks.length : Int) + 1 := i64w (by omega) (by omega)
  have c1 : (ks.length : Int) + 1 ≤ 140737488355328 := by omega
  have c2 : (ks.length : Int) + 1 ≤ 9223372036854775807 := by omega
  have c3 : n < ks.length + 1 := by omega
  have c4 : (n : Int) < (ks.length : Int) + 1 := by omega
  simp [c_plait_plaitref8_Graph_Cone, his, ha, g.self, g.rk.len, l0, bl, hn, w1, c1, c2, c3, c4] at h
  generalize hL : loopL _ _ _ _ _ _ = q at h
  obtain ⟨x, e1, H1, rfl, ⟨rfl, k1, z1, o1⟩, fr1⟩ := rcone_loop0 hr g hL (by simp) (by simp) (n := n) (v := (List.replicate (ks.length + 1) false).set n true) (len := ks.length + 1) (by simp) (by omega) hnl (by rw [List.map_set]; simp) (by simp) (by simp) (by simp)
  simp at h
  generalize hL2 : loopL _ _ _ _ _ _ = q at h
  obtain ⟨x, e2, H2, rfl, ⟨rfl, k2, w, f8, rd⟩, fr2⟩ := rcone_loop1 (v := markF ks n ((List.replicate (ks.length + 1) false).set n true)) (len := ks.length + 1) (by rw [markF_len]; simp) hn l0 (by omega) (by omega) hL2 k1 z1 o1 (by simp [fr1]) (by simp [fr1]) (by simp) (by simp)
  obtain ⟨w', hb, hw'⟩ := back_reads k2 rd.rd rd.gr (fun p hp => Nat.le_of_lt (rd.new p hp))
  simp [f8, hb] at h
  subst h
  refine ⟨_, rfl, ?_⟩
  rw [coneF, if_pos ha, coneM, hn, Int.toNat_natCast]
  have e1 : (List.replicate (ks.length + 1) false).set n true = (List.replicate (n + 1) false).set n true ++ List.replicate (ks.length - n) false := by
    rw [← List.set_append_left _ _ (by simp), List.replicate_append_replicate, show n + 1 + (ks.length - n) = ks.length + 1 from by omega]
  rw [e1, markF_more hr (by simp), outF_more (by rw [markF_len]; simp)] at hw'
  exact hw'

theorem rdoes_run {H : AHeap} {o : Nat} {m : Int} {ks : Kd} {F : List Nat} (g : RAt H o m ks F) (hr : Rt m ks) {w a b c : Int} (ba : a ≤ 9223372036854775807) (bb : b ≤ 9223372036854775807) (bc : c ≤ 9223372036854775807) {r : Option (AV × AHeap)} (h : R f_plaitlaw8_doesRef [.ptr o 0, .int .i64 w, .int .i64 a, .int .i64 b, .int .i64 c] H = r) : Rv H o m F (doesF m ks w a b c) r := by
  rw [e_plaitlaw8_doesRef] at h
  by_cases h0 : w = 0
  · subst h0
    simp [c_plaitlaw8_doesRef] at h
    generalize hN : R f_plait_plaitref8_Graph_Input _ _ = q at h
    obtain ⟨H1, F1, rfl, g1, m1⟩ := rinput_run g hr hN
    simp at h
    exact Rv.mkB g h (by simp [doesF]) F1 g1 m1
  by_cases h1 : w = 1 ∨ w = 2 ∨ w = 3
  · have hd : doesF m ks w a b c = andF m ks a b := by simp [doesF, h0, h1]
    rw [hd]
    rcases h1 with rfl | rfl | rfl <;>
    · simp [c_plaitlaw8_doesRef] at h
      generalize hN : R f_plait_plaitref8_Graph_And _ _ = q at h
      obtain ⟨H1, F1, rfl, g1, m1⟩ := rand_run g hr ba bb hN
      simp at h
      exact Rv.mkB g h (by simp) F1 g1 m1
  simp only [not_or] at h1
  by_cases h4 : w = 4
  · subst h4
    simp [c_plaitlaw8_doesRef] at h
    generalize hN : R f_plait_plaitref8_Graph_Or _ _ = q at h
    obtain ⟨H1, F1, rfl, g1, m1⟩ := ror_run g hr ba bb hN
    simp at h
    exact Rv.mkB g h (by simp [doesF]) F1 g1 m1
  by_cases h5 : w = 5
  · subst h5
    simp [c_plaitlaw8_doesRef] at h
    generalize hN : R f_plait_plaitref8_Graph_Xor _ _ = q at h
    obtain ⟨H1, F1, rfl, g1, m1⟩ := rxor_run g hr ba bb hN
    simp at h
    exact Rv.mkB g h (by simp [doesF]) F1 g1 m1
  by_cases h6 : w = 6
  · subst h6
    simp [c_plaitlaw8_doesRef] at h
    generalize hN : R f_plait_plaitref8_Graph_Mux _ _ = q at h
    obtain ⟨H1, F1, rfl, g1, m1⟩ := rmux_run g hr bc ba bb hN
    simp at h
    exact Rv.mkB g h (by simp [doesF]) F1 g1 m1
  simp [c_plaitlaw8_doesRef, h0, h1, h4, h5, h6] at h
  exact Rv.mk h (by simp [doesF, h0, h1, h4, h5, h6]) F g (Mv.refl _ _)
end Go.Proofs.Ytphkkcocimmmfaa
