/- And-inverter graphs: the document's own Or, Xor, Mux, Kids. -/
import Derived.Test.YtphkkcocimmmfaaRX
namespace Go.Proofs.Ytphkkcocimmmfaa
set_option maxRecDepth 100000

theorem ror_run {H : AHeap} {o : Nat} {m : Int} {ks : Kd} {F : List Nat} (g : RAt H o m ks F) (hr : Rt m ks) {a b : Int} (ba : a ≤ 9223372036854775807) (bb : b ≤ 9223372036854775807) {r : Option (AV × AHeap)} (h : R f_plait_plaitref8_Graph_Or [.ptr o 0, .int .i64 a, .int .i64 b] H = r) : Rv H o m F (orF m ks a b) r := by
  rw [e_plait_plaitref8_Graph_Or] at h
  have h1 := is8_run g ba
  have h2 := is8_run g bb
  by_cases ha : isL ks.length a
  rotate_left
  · simp [c_plait_plaitref8_Graph_Or, h1, ha] at h
    exact Rv.mk h (by simp [orF, ha]) F g (Mv.refl _ _)
  by_cases hb : isL ks.length b
  rotate_left
  · simp [c_plait_plaitref8_Graph_Or, h1, h2, ha, hb] at h
    exact Rv.mk h (by simp [orF, hb]) F g (Mv.refl _ _)
  have ia := isL_i64 hr ha
  have ib := isL_i64 hr hb
  simp [c_plait_plaitref8_Graph_Or, h1, h2, ha, hb, ia.1, ia.2, ib.1, ib.2] at h
  generalize hN : R f_plait_plaitref8_Graph_And _ _ = q at h
  obtain ⟨H1, F1, rfl, g1, m1⟩ := rand_run g hr (isL_i64 hr (flip_bounds ha)).2 (isL_i64 hr (flip_bounds hb)).2 hN
  have hf := hr.and (flip1 a) (flip1 b)
  have hi := isL_i64 hf.rt hf.lit
  by_cases he : (andF m ks (flip1 a) (flip1 b)).e = 0
  · simp [he, hi.1, hi.2] at h
    exact Rv.mkB g h (js := (andF m ks (flip1 a) (flip1 b)).ks) (by simp [orF, ha, hb, turnF, he]) F1 g1 m1
  · simp [he] at h
    exact Rv.mkB g h (js := (andF m ks (flip1 a) (flip1 b)).ks) (by simp [orF, ha, hb, turnF, he]) F1 g1 m1

theorem rxor_run {H : AHeap} {o : Nat} {m : Int} {ks : Kd} {F : List Nat} (g : RAt H o m ks F) (hr : Rt m ks) {a b : Int} (ba : a ≤ 9223372036854775807) (bb : b ≤ 9223372036854775807) {r : Option (AV × AHeap)} (h : R f_plait_plaitref8_Graph_Xor [.ptr o 0, .int .i64 a, .int .i64 b] H = r) : Rv H o m F (xorF m ks a b) r := by
  rw [e_plait_plaitref8_Graph_Xor] at h
  have h1 := is8_run g ba
  have h2 := is8_run g bb
  by_cases ha : isL ks.length a
  rotate_left
  · simp [c_plait_plaitref8_Graph_Xor, h1, ha] at h
    exact Rv.mk h (by simp [xorF, ha]) F g (Mv.refl _ _)
  by_cases hb : isL ks.length b
  rotate_left
  · simp [c_plait_plaitref8_Graph_Xor, h1, h2, ha, hb] at h
    exact Rv.mk h (by simp [xorF, hb]) F g (Mv.refl _ _)
  have ia := isL_i64 hr ha
  have ib := isL_i64 hr hb
  have ja := (isL_i64 hr (flip_bounds ha)).2
  have jb := (isL_i64 hr (flip_bounds hb)).2
  simp [c_plait_plaitref8_Graph_Xor, h1, h2, ha, hb, ib.1, ib.2] at h
  generalize hN : R f_plait_plaitref8_Graph_And _ _ = q at h
  obtain ⟨H1, F1, rfl, g1, m1⟩ := rand_run g hr ia.2 jb hN
  have hf := hr.and a (flip1 b)
  by_cases he : (andF m ks a (flip1 b)).e = 0
  rotate_left
  · simp [he] at h
    exact Rv.mkB g h (by simp [xorF, eitherF, ha, hb, he]) F1 g1 m1
  simp [he, ia.1, ia.2] at h
  generalize hN : R f_plait_plaitref8_Graph_And _ _ = q at h
  obtain ⟨H2, F2, rfl, g2, m2⟩ := rand_run g1 hf.rt ja ib.2 hN
  have hf2 := hf.rt.and (flip1 a) b
  by_cases he2 : (andF m (andF m ks a (flip1 b)).ks (flip1 a) b).e = 0
  rotate_left
  · simp [he2] at h
    exact Rv.mkB g h (by simp [xorF, eitherF, ha, hb, he, he2]) F2 g2 (m1.trans m2)
  simp [he2] at h
  generalize hN : R f_plait_plaitref8_Graph_Or _ _ = q at h
  have hl := isL_mono hf.lit hf2.len
  obtain ⟨H3, F3, rfl, g3, m3⟩ := ror_run g2 hf2.rt (isL_i64 hf2.rt hl).2 (isL_i64 hf2.rt hf2.lit).2 hN
  simp at h
  exact Rv.mkB g h (by simp [xorF, eitherF, ha, hb, he, he2]) F3 g3 ((m1.trans m2).trans m3)

theorem rmux_run {H : AHeap} {o : Nat} {m : Int} {ks : Kd} {F : List Nat} (g : RAt H o m ks F) (hr : Rt m ks) {c a b : Int} (bc : c ≤ 9223372036854775807) (ba : a ≤ 9223372036854775807) (bb : b ≤ 9223372036854775807) {r : Option (AV × AHeap)} (h : R f_plait_plaitref8_Graph_Mux [.ptr o 0, .int .i64 c, .int .i64 a, .int .i64 b] H = r) : Rv H o m F (muxF m ks c a b) r := by
  rw [e_plait_plaitref8_Graph_Mux] at h
  have h0 := is8_run g bc
  have h1 := is8_run g ba
  have h2 := is8_run g bb
  by_cases ha : isL ks.length a
  rotate_left
  · simp [c_plait_plaitref8_Graph_Mux, h1, ha] at h
    exact Rv.mk h (by simp [muxF, ha]) F g (Mv.refl _ _)
  by_cases hb : isL ks.length b
  rotate_left
  · simp [c_plait_plaitref8_Graph_Mux, h1, h2, ha, hb] at h
    exact Rv.mk h (by simp [muxF, hb]) F g (Mv.refl _ _)
  by_cases hc : isL ks.length c
  rotate_left
  · simp [c_plait_plaitref8_Graph_Mux, h0, h1, h2, ha, hb, hc] at h
    exact Rv.mk h (by simp [muxF, hc]) F g (Mv.refl _ _)
  have ia := isL_i64 hr ha
  have ib := isL_i64 hr hb
  have ic := isL_i64 hr hc
  have jc := (isL_i64 hr (flip_bounds hc)).2
  simp [c_plait_plaitref8_Graph_Mux, h0, h1, h2, ha, hb, hc] at h
  generalize hN : R f_plait_plaitref8_Graph_And _ _ = q at h
  obtain ⟨H1, F1, rfl, g1, m1⟩ := rand_run g hr ic.2 ia.2 hN
  have hf := hr.and c a
  by_cases he : (andF m ks c a).e = 0
  rotate_left
  · simp [he] at h
    exact Rv.mkB g h (by simp [muxF, eitherF, ha, hb, hc, he]) F1 g1 m1
  simp [he, ic.1, ic.2] at h
  generalize hN : R f_plait_plaitref8_Graph_And _ _ = q at h
  obtain ⟨H2, F2, rfl, g2, m2⟩ := rand_run g1 hf.rt jc ib.2 hN
  have hf2 := hf.rt.and (flip1 c) b
  by_cases he2 : (andF m (andF m ks c a).ks (flip1 c) b).e = 0
  rotate_left
  · simp [he2] at h
    exact Rv.mkB g h (by simp [muxF, eitherF, ha, hb, hc, he, he2]) F2 g2 (m1.trans m2)
  simp [he2] at h
  generalize hN : R f_plait_plaitref8_Graph_Or _ _ = q at h
  have hl := isL_mono hf.lit hf2.len
  obtain ⟨H3, F3, rfl, g3, m3⟩ := ror_run g2 hf2.rt (isL_i64 hf2.rt hl).2 (isL_i64 hf2.rt hf2.lit).2 hN
  simp at h
  exact Rv.mkB g h (by simp [muxF, eitherF, ha, hb, hc, he, he2]) F3 g3 ((m1.trans m2).trans m3)

theorem rnew_run {n : Int} {H : AHeap} {r : Option (AV × AHeap)} (h : R f_plaitref8_New [.int .i64 n] H = r) : ∃ H' o F, r = some (.ptr o 0, H') ∧ RAt H' o (min (max n 1) 32768) [] F ∧ Keeps H H' ∧ ∀ p, p ∈ F → H.size ≤ p := by
  rw [e_plaitref8_New] at h
  have fin : ∀ x : Int, min (max n 1) 32768 = x → some (back [] H (.ptr H.size 0) (H.new (.cells [.nils, .int .i64 x]))) = r → ∃ H' o F, r = some (.ptr o 0, H') ∧ RAt H' o (min (max n 1) 32768) [] F ∧ Keeps H H' ∧ ∀ p, p ∈ F → H.size ≤ p := by
    intro x hx h
    rw [back_open (by simp [closed])] at h
    subst h
    exact ⟨_, H.size, [H.size], rfl, ⟨.nils, ⟨by simp [hx], by simp, Reads.nils, by simp, by simp⟩, by simp⟩, by simp, by simp⟩
  by_cases h1 : n < 1
  · simp [c_plaitref8_New, h1] at h
    exact fin _ (by omega) h
  · simp [c_plaitref8_New, h1] at h
    exact fin _ (by omega) h

theorem rkids_run {H : AHeap} {o : Nat} {m : Int} {ks : Kd} {F : List Nat} (g : RAt H o m ks F) (hr : Rt m ks) {n : Int} : R f_plait_plaitref8_Graph_Kids [.ptr o 0, .int .i64 n] H = some (.tup [.int .i64 (kidsF ks n).1, .int .i64 (kidsF ks n).2.1, .bool (kidsF ks n).2.2], H) := by
  obtain ⟨lv, g, rfl⟩ := g
  have hm := hr.most
  have hl := hr.le
  rw [e_plait_plaitref8_Graph_Kids]
  by_cases h1 : 1 ≤ n
  rotate_left
  · have h1' : n < 1 := by omega
    simp [c_plait_plaitref8_Graph_Kids, h1', kidsF, h1]
  obtain ⟨i, rfl⟩ : ∃ i : Nat, n = i + 1 := ⟨(n - 1).toNat, by omega⟩
  have h1' : ¬ (i : Int) + 1 < 1 := by omega
  by_cases h2 : i < ks.length
  rotate_left
  · have h2' : (ks.length : Int) < (i : Int) + 1 := by omega
    simp [c_plait_plaitref8_Graph_Kids, h1', h2', kidsF, g.self, g.rk.len]
    rw [List.getElem?_eq_none (by omega)]
    simp
  obtain ⟨k, hk⟩ : ∃ k, ks[i]? = some k := ⟨ks[i], List.getElem?_eq_getElem h2⟩
  have w : IntKind.i64.wrap (i : Int) = i := i64w (by omega) (by omega)
  have h2' : ¬ (ks.length : Int) < (i : Int) + 1 := by omega
  obtain ⟨po, off, all, a1, a2, a3, a4, c0, c1, c2, -⟩ := loadn_of g.rk g.gk hk
  have a2 := a2 H (Keeps.refl H)
  by_cases h3 : k = (0, 0)
  · subst h3
    simp at c2
    simp [c_plait_plaitref8_Graph_Kids, h1', h2', kidsF, g.self, g.rk.len, hk, w, a1, a2, c2]
  · have hb : decide (k = (0, 0)) = false := by simpa using h3
    rw [hb] at c2
    simp [c_plait_plaitref8_Graph_Kids, h1', h2', kidsF, g.self, g.rk.len, hk, w, a1, a2, c0, c1, c2, h3]
    simp only [if_pos h1, and_self]
end Go.Proofs.Ytphkkcocimmmfaa
