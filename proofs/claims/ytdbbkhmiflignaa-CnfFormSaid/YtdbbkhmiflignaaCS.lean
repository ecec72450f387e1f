/- The encoder of clauses in the heap: a root. -/
import Derived.Test.YtdbbkhmiflignaaCQ
namespace Go.Proofs.Ytdbbkhmiflignaa
set_option maxRecDepth 100000

theorem and_self {m : Int} {ks : Kd} {l : Int} (h : isL ks.length l) : andF m ks l l = ⟨l, 0, ks⟩ := by
  have h1 : flip1 l ≠ l := by unfold flip1; split <;> omega
  unfold andF and2
  rw [if_pos ⟨h, h⟩, if_neg (by omega)]
  by_cases c : l = 0
  · subst c; simp
  · rw [if_neg (by simp [c, h1]), if_pos (.inr rfl)]
theorem cone_len (ks : Kd) (l : Int) : (coneF ks l).length ≤ ks.length := by
  have := len_sub (l := coneF ks l) (m := (List.range ks.length).map fun (i : Nat) => ((i : Int) + 1)) ((coneF_rises ks l).imp fun h => by omega) fun x hx => by
    have := cone_pos hx
    simp only [List.mem_map, List.mem_range]
    exact ⟨(x - 1).toNat, by omega, by omega⟩
  simpa using this
theorem need_len (ks : Kd) (E : En) (l : Int) : (needF ks E l).length ≤ ks.length + 1 := by
  have := cone_len ks l
  unfold needF
  refine Nat.le_trans (List.length_filter_le _ _) ?_
  simp; omega
/-- What is asked first, and what holds then. -/
theorem root_st {m : Int} {ks : Kd} {E : En} {C : List (List Int)} (hr : Rt m ks) (hV : EnV ks E) (hC : EnC ks E C []) {l : Int} (hl : isL ks.length l) : StOK ks ((giveF (needF ks E l) E []).1, C ++ (giveF (needF ks E l) E []).2, [asksF l]) := by
  have hg := give_all hr (ns := needF ks E l) (E := E) (C := C) hV hC need_rises (fun n hn => by
    obtain ⟨h1, h2, -⟩ := need_mem.1 hn
    refine ⟨h2, ?_⟩
    rcases h1 with h1 | h1
    · have := cone_pos h1; omega
    · omega) (fun n hn h1 k hk hk0 => by
    obtain ⟨h2, -, -⟩ := need_mem.1 hn
    rcases h2 with h2 | h2
    · have hc := cone_kids hr h2 hk hk0
      have put : ∀ y, y ∈ coneF ks l → E.vr y ≠ none ∨ y ∈ needF ks E l := fun y hy => by
        by_cases c : E.vr y = none
        · exact .inr (need_mem.2 ⟨.inl hy, c, .inl (by have := cone_pos hy; omega)⟩)
        · exact .inl c
      exact ⟨put _ hc.1, put _ hc.2⟩
    · omega)
  have hap := giveF_app (ns := needF ks E l) (E := E) (C := C) (D := [])
  rw [List.append_nil] at hap
  rw [hap] at hg
  simp only at hg
  obtain ⟨g1, g2, g3⟩ := hg
  refine ⟨g1, g2.mem, g2.nodup, fun t ht => ?_, fun n s hs hn t ht => ?_⟩
  · simp at ht
    rw [ht]
    refine ⟨asks_side l, ?_⟩
    show ∃ v, (giveF (needF ks E l) E []).1.vr (l / 2) = some v
    cases hv : E.vr (l / 2) with
    | some v => exact ⟨v, g3.old _ v hv⟩
    | none =>
      refine g3.new _ (need_mem.2 ⟨?_, hv, ?_⟩)
      · by_cases c : 1 ≤ l / 2
        · exact .inl (cone_self hl c)
        · have := hl.1; exact .inr (by omega)
      · have := hl.1; omega
  · rcases g2.asked n s hs hn t ht with h | h
    · exact .inl h
    · cases h
theorem root_eq {m : Int} {ks : Kd} {E : En} {C : List (List Int)} (hr : Rt m ks) (hV : EnV ks E) (hC : EnC ks E C []) {l : Int} (hl : isL ks.length l) {n : Nat} {E' : En} {D : List (List Int)} (h : stepsF ks n ((giveF (needF ks E l) E []).1, (giveF (needF ks E l) E []).2, [asksF l]) = (E', D, [])) : rootF ks E l = (E', D) := by
  have h0 := root_st hr hV hC hl
  have hm : measF ks ((giveF (needF ks E l) E []).1, C ++ (giveF (needF ks E l) E []).2, [asksF l]) ≤ fuelF ks := by
    have := leftN_le (giveF (needF ks E l) E []).1 (ks.length + 1)
    unfold measF fuelF
    simp only [List.length_singleton]
    omega
  obtain ⟨s1, s2, -⟩ := StOK.steps hr (fuelF ks) h0 hm
  rw [stepsF_app] at s2
  simp only at s2
  unfold rootF
  simp only
  obtain ⟨⟨X, Y, Z⟩, hX⟩ : ∃ X, X = stepsF ks (fuelF ks) ((giveF (needF ks E l) E []).1, (giveF (needF ks E l) E []).2, [asksF l]) := ⟨_, rfl⟩
  rw [← hX] at s2 ⊢
  simp only at s2
  subst s2
  exact steps_stop hX.symm h
theorem needF_eq (ks : Kd) (E : En) (l : Int) : needF ks E l = (coneF ks l ++ [0]).filter (needP E l) := rfl
set_option maxHeartbeats 1000000 in
theorem eroot_run {H : AHeap} {e g : Nat} {E : En} {mo to : Nat} {m : Int} {ks : Kd} {G : List Nat} {Cp : List (List Int)} (h : ERep H e g E mo to .nils [] []) (gg : GAt H g m ks G) (hr : Rt m ks) (hG : ∀ p, p ∈ G → p ≠ e ∧ p ≠ mo ∧ p ≠ to)
    (hV : EnV ks E) (hC : EnC ks E Cp []) {l : Int} (hl : isL ks.length l) (hb : E.last + ks.length + 1 ≤ 60000) {r : Option (AV × AHeap)} (hR : R f_plait_cnf_Encoder_Root [.ptr e 0, .int .i64 l] H = r) :
    ∃ H' v vs G', r = some (.tup [.int .i64 ((rootF ks E l).1.lit l), v, .int .i64 0], H') ∧ ERep H' e g (rootF ks E l).1 mo to .nils [] [] ∧ CR H' v vs (rootF ks E l).2 ∧ GAt H' g m ks G' ∧ Fr (e :: mo :: to :: G) H H' ∧
      (∀ p, p ∈ G' → p ∈ G ∨ H.size ≤ p) ∧ ∀ p, p ∈ crO v vs → H.size ≤ p ∧ p ∉ G' ∧ p ≠ e ∧ p ≠ mo ∧ p ≠ to := by
  rw [e_plait_cnf_Encoder_Root] at hR
  have hmo := hr.most
  have hle := hr.le
  have il := isL_i64 hr hl
  simp [c_plait_cnf_Encoder_Root, h.self] at hR
  generalize hA : R f_plait_aig_Graph_And _ _ = q at hR
  obtain ⟨H1, G1, rfl, g1, m1⟩ := and_run gg hr hA
  rw [and_self hl] at g1 hR
  simp only at g1 hR
  have r1 : ERep H1 e g E mo to .nils [] [] := h.keep m1.fr fun p hp => by
    simp [crO] at hp
    intro hg
    have := hG p hg
    omega
  simp [r1.self] at hR
  generalize hB : R f_plait_aig_Graph_Cone _ _ = q at hR
  obtain ⟨w, H2, rfl, k2, rd2, gr2, nw2⟩ := cone_runC g1 hr hB
  have hcl := cone_len ks l
  simp at hR
  generalize hD : appU _ _ _ _ = q at hR
  obtain ⟨H3, rfl, f3, s3, o3, rd3⟩ := app_of hD (rd2.keep (by simp)) gr2 (Reads.row' (all := [.int .i64 0]) (by simp) (by simp) (by simp)) (by omega) rfl (by omega) (by omega) (by omega) (by simp)
  have k3 : Keeps H1 H3 := (f3.keeps (k2.new' _) nw2)
  simp at hR
  generalize hL : loopL _ _ _ _ _ _ = q at hR
  have r3 := r1.keeps k3
  have rd3' : Reads H3 (.row (H2.new (.cells [.int .i64 0])).size 0 1 ((coneF ks l).length + 1) false) 1 (coneF ks l ++ [0]).length ((coneF ks l ++ [0]).map (.int .i64)) := by simpa using rd3
  obtain ⟨x, ev1, H4, rfl, ⟨rfl, k4, v4, e9, o4⟩, fr1⟩ := need_loop (l := l) r3 rd3' (by simp; omega) hL (by simp) (by simp) (by simp) (by simp) (by simp) (by simp)
  rw [← needF_eq] at o4
  have r4 := r3.keeps k4
  have hnl := need_len ks E l
  have hp0 : 0 ≤ E.last := by have := hV.pos; have := hV.le; omega
  have hmin : min E.last 65536 = E.last := by omega
  have w1 : IntKind.i64.wrap (65536 - E.last) = 65536 - E.last := i64w (by omega) (by omega)
  have c1 : ¬ 65536 - E.last < ((needF ks E l).length : Int) := by omega
  simp [fr1, e9, r4.self, o4.rd.len, hmin, w1, c1] at hR
  generalize hH5 : H4.set e (.cells [.ptr g 0, .int .i64 E.last, .map mo, .map to, .nils]) = H5 at hR
  have F5 : Fr [e] H4 H5 := by rw [← hH5]; exact (Fr.refl _ H4).set (.inl (by simp)) _
  have r5 : ERep H5 e g E mo to .nils [] [] := by
    rw [← hH5]
    refine r4.move (fun p hp => ⟨r4.lt' hp, ?_⟩) r4.lg
    by_cases c : p = e
    · subst c; simp [r4.self]
    · simp [c]
  have hs5 : H5.size = H4.size := by rw [← hH5]; rfl
  have hnew4 : ∀ p, p ∈ objs v4 → H3.size ≤ p := o4.new
  have rd5 : Reads H5 v4 1 (needF ks E l).length ((needF ks E l).map (.int .i64)) := o4.rd.frO F5 fun p hp => by
    have := hnew4 p hp
    have := r3.lo
    simp
    omega
  generalize hL2 : loopL _ _ _ _ _ _ = q at hR
  obtain ⟨x, ev2, H6, rfl, ⟨rfl, fv6, vs6, k6⟩, fr2⟩ := give_loop (H0 := H5) ⟨r5, Fr.refl _ _, by simp [crO]⟩ rd5 (fun p hp => by
    have := hnew4 p hp
    have := r3.lo
    have := r3.lm
    simp [crO]
    omega) (by omega) hp0 (by omega) hL2 (by simp [fr1]) (by simp) (by simp) (by simp)
  have asA : ∀ H : AHeap, R f_cnf_asks [.int .i64 l] H = _ := fun H => asks_run il.1 il.2
  simp [fr1, fr2, asA] at hR
  generalize hL3 : loopL _ _ _ _ _ _ = q at hR
  have kn := Keeps.new H6 (.cells [.int .i64 (asksF l).1, .int .i64 (asksF l).2])
  have g5 : GAt H5 g m ks G1 := (((g1.keeps k3).keeps k4).keep F5 fun p hp => by
    simp
    rcases m1.new p hp with h1 | h1
    · exact (hG p h1).1
    · have := h.lo; omega)
  have hG1 : ∀ p, p ∈ G1 → p ≠ e ∧ p ≠ mo ∧ p ≠ to := fun p hp => by
    rcases m1.new p hp with h1 | h1
    · exact hG p h1
    · have := h.lo
      have := h.lm
      have := h.lt
      omega
  have gl := give_last (ns := needF ks E l) (E := E) (C := [])
  have z6 := k6.fr.size
  obtain ⟨x, ev3, H7, rfl, ⟨rfl, n, E', D', fv7, vs7, hst, k7⟩, fr3⟩ := todo_loop g5 hr hG1 (Cp := Cp) (H0 := H5) (v := .row H6.size 0 2 1 true) ⟨k6.r.keeps kn, k6.fr.then kn, k6.new⟩ (root_st hr hV hC hl) (by omega) (by simp)
    ⟨r5.lo, r5.lm, r5.lt⟩ (Reads.row' (by simp) (by simp [kc]) (by simp [kc])) (by simp) (fun p hp => by simp at hp; subst hp; exact ⟨z6, fun h => by have := k6.r.cr.lt h; omega⟩) hL3 (by simp [fr1, fr2]) (by simp)
  have hroot := root_eq hr hV hC hl hst
  have hok := root_ok hr hV hC hl
  have hlast := hok.last
  have hV' := hok.v
  rw [hroot] at hlast hV' ⊢
  simp only at hlast hV' ⊢
  generalize hH8 : H7.set e (.cells [.ptr g 0, .int .i64 E'.last, .map mo, .map to, .nils]) = H8 at *
  have F8 : Fr [e] H7 H8 := by rw [← hH8]; exact (Fr.refl _ H7).set (.inl (by simp)) _
  have h7 := k7.r
  have r8 : ERep H8 e g E' mo to .nils [] [] := by
    obtain ⟨es, c, h1, h2⟩ := h7.vars
    obtain ⟨et, d, h3, h4⟩ := h7.told
    refine ⟨by rw [← hH8]; simp, F8.lt h7.lo, F8.lt h7.lg, F8.lt h7.lm, F8.lt h7.lt, h7.ne1, h7.ne2, h7.ne3, ⟨es, c, ?_, h2⟩, ⟨et, d, ?_, h4⟩, CR.nil, by simp [crO]⟩
    · rw [F8.obj _ h7.lm (by simpa using h7.ne1.symm)]; exact h1
    · rw [F8.obj _ h7.lt (by simpa using h7.ne2.symm)]; exact h3
  have hlit := elit_run r8 (hV'.hb (by omega)) il.1 il.2
  simp [fr1, fr2, fr3, h7.self, hH8, hlit] at hR
  have c8 : CR H8 fv7 vs7 D' := h7.cr.keep F8 fun p hp => by simpa using (h7.off p hp).1
  have g8 : GAt H8 g m ks G1 := (g5.keep k7.fr fun p hp => by have := hG1 p hp; simp; exact this).keep F8 fun p hp => by simpa using (hG1 p hp).1
  have z0 := m1.fr.size
  have z1 := k3.size
  have z2 := k4.size
  have FA : Fr (e :: mo :: to :: G) H H5 := ((((m1.fr.weak (G := e :: mo :: to :: G) fun p hp => .inl (by simp [hp])).then k3).then k4).trans F5 fun p hp => .inl (by simp at hp; simp [hp]))
  have FB : Fr (e :: mo :: to :: G) H H8 := (FA.trans k7.fr fun p hp => .inl (by simp at hp ⊢; rcases hp with h1 | h1 | h1 <;> simp [h1])).trans F8 fun p hp => .inl (by simp at hp; simp [hp])
  have hlG : ∀ p, p ∈ G1 → p < H1.size := fun p hp => g1.lt hp
  have hoff := h7.off
  cases hgr : fv7 <;> first | (exact absurd c8.gr (by rw [hgr]; exact fun h => h)) | skip
  · rw [hgr] at hR c8
    have hD : D' = [] := by
      have := c8.rd.len
      simp [sliceLen] at this
      exact List.eq_nil_of_length_eq_zero this.symm
    have hvs : vs7 = [] := by
      have := c8.len
      rw [hD] at this
      exact List.eq_nil_of_length_eq_zero this
    subst hD; subst hvs
    by_cases hs : Shut H H8
    · rw [back_nil (by simp [closedL]) hs] at hR
      subst hR
      obtain ⟨gc1, gc2⟩ := gg.cut g8 hs
      refine ⟨_, _, [], G1, rfl, r8.move (fun p hp => ?_) h.lg, CR.nil, gc1, FB.cutF, m1.new, by simp [crO]⟩
      have hlt : p < H.size := by
        simp [crO] at hp
        rcases hp with rfl | rfl | rfl
        · exact h.lo
        · exact h.lm
        · exact h.lt
      exact ⟨hlt, cut_obj hlt⟩
    · rw [back_not hs] at hR
      subst hR
      exact ⟨_, _, [], G1, rfl, r8, CR.nil, g8, FB, m1.new, by simp [crO]⟩
  · rename_i o off sz n f
    rw [hgr] at hR c8
    have ho : H5.size ≤ o := k7.new o (by rw [hgr]; simp [crO])
    rw [back_open (by simp [closedL]; omega)] at hR
    subst hR
    exact ⟨H8, _, vs7, G1, rfl, r8, c8, g8, FB, m1.new, fun p hp => by
      have h1 := k7.new p (by rw [hgr]; exact hp)
      have h2 := hoff p (by rw [hgr]; exact hp)
      exact ⟨by omega, fun h => by have := hlG p h; omega, h2⟩⟩
end Go.Proofs.Ytdbbkhmiflignaa
