/- The encoder of clauses in the heap: one node's clauses. -/
import Derived.Test.YtdbbkhmiflignaaCN
namespace Go.Proofs.Ytdbbkhmiflignaa
set_option maxRecDepth 100000

theorem IM.updM {es : List AEnt} {f : Int → Option Int} (h : IM es f) (k v : Int) (H : AHeap) (o : Nat) (c : Nat) (ho : H.obj o = .map (.one (.i .i64)) es c) :
    ∃ es' c', updM (.int .i64 k) (.int .i64 v) (.map o) H (some (.one (.i .i64))) = some (H.set o (.map (.one (.i .i64)) es' c')) ∧ IM es' (fun x => if x = k then some v else f x) := by
  obtain ⟨es', c', h1, h2⟩ := h.upd k v H o (.one (.i .i64)) c
  refine ⟨es', c', ?_, h2⟩
  rw [← h1, updM_map]
  simp only [fits_one, fits_int, decide_true, if_true, ho]
  cases findE (.int .i64 k) es <;> rfl
theorem told_tf (E : En) (n : Int) : (E.tf n).getD 0 = E.told n := by
  unfold En.tf
  split
  · rename_i h; rw [h]; rfl
  · rfl
theorem told_and (E : En) (n : Int) {s : Int} (hs : s = 1 ∨ s = 2) : abin Go.Proofs.Try.prog KT .and T_int (.int .i64 (E.told n)) (.int .i64 s) = some (.int .i64 (if E.is (n, s) = true then s else 0)) := by
  unfold En.told En.is
  rw [bin_and]
  rcases hs with rfl | rfl <;> cases h1 : E.t1 n <;> cases h2 : E.t2 n <;> simp <;> rfl
theorem told_or (E : En) (n : Int) {s : Int} (hs : s = 1 ∨ s = 2) (h : E.is (n, s) = false) : abin Go.Proofs.Try.prog KT .or T_int (.int .i64 (E.told n)) (.int .i64 s) = some (.int .i64 ((E.tell (n, s)).told n)) := by
  unfold En.is at h
  unfold En.told En.tell
  rw [bin_or]
  rcases hs with rfl | rfl <;> cases h1 : E.t1 n <;> cases h2 : E.t2 n <;> simp [h1, h2] at h ⊢ <;> rfl
theorem tell_tf (E : En) (n s : Int) (hs : s = 1 ∨ s = 2) : (E.tell (n, s)).tf = fun x => if x = n then some ((E.tell (n, s)).told n) else E.tf x := by
  funext x
  by_cases c : x = n
  · subst c
    rw [if_pos rfl]
    unfold En.tf
    rw [if_neg]
    unfold En.told En.tell
    rcases hs with rfl | rfl <;> cases h1 : E.t1 x <;> cases h2 : E.t2 x <;> simp [h1, h2]
  · rw [if_neg c]
    unfold En.tf En.told En.tell
    simp only [c, false_and, if_false]
section
variable {H : AHeap} {e g : Nat} {E : En} {mo to : Nat} {fv : AV} {vs : List AV} {C : List (List Int)}
theorem ERep.tell (h : ERep H e g E mo to fv vs C) {n s : Int} (hs : s = 1 ∨ s = 2) {es : List AEnt} {c : Nat} (hm : IM es (fun x => if x = n then some ((E.tell (n, s)).told n) else E.tf x)) {H2 : AHeap} {x : AObj} (hX : H2 = (H.new x).set to (.map (.one (.i .i64)) es c)) : ERep H2 e g (E.tell (n, s)) mo to fv vs C := by
  have k : Fr [to] H H2 := by rw [hX]; exact ((Fr.refl _ H).new _).set (.inl (by simp)) _
  obtain ⟨ev, cv, h1, h2⟩ := h.vars
  refine ⟨?_, k.lt h.lo, k.lt h.lg, k.lt h.lm, k.lt h.lt, h.ne1, h.ne2, h.ne3, ⟨ev, cv, ?_, h2⟩, ⟨es, c, ?_, ?_⟩, h.cr.keep k fun p hp => ?_, h.off⟩
  · rw [k.obj _ h.lo (by simpa using h.ne2)]; exact h.self
  · rw [k.obj _ h.lm (by simpa using h.ne3)]; exact h1
  · rw [hX]; simp
  · rw [tell_tf E n s hs]; exact hm
  · simpa using (h.off p hp).2.2
theorem Reads.move {A B : AHeap} {v : AV} {sz n : Nat} {cs : List AV} (h : Reads A v sz n cs) (hm : ∀ p, p ∈ objs v → p < B.size ∧ B.obj p = A.obj p) : Reads B v sz n cs := by
  obtain ⟨h1, h2, h3, h4⟩ := h
  refine ⟨h1, ?_, h3, ?_⟩
  · cases v <;> try exact h2
    rename_i o off s m full
    rw [← h2]
    simp only [sliceCells]
    rw [(hm o (by simp)).2]
  · cases v <;> try exact h4
    rename_i o off s m full
    exact ⟨h4.1, (hm o (by simp)).1⟩
theorem CR.move {A B : AHeap} {v : AV} {vs : List AV} {C : List (List Int)} (h : CR A v vs C) (hm : ∀ p, p ∈ crO v vs → p < B.size ∧ B.obj p = A.obj p) : CR B v vs C := by
  refine ⟨h.rd.move fun p hp => hm p (by simp [crO, hp]), h.gr, fun i w c hw hc => ?_⟩
  obtain ⟨o, f, rfl, h1, h2, h3⟩ := h.row i w c hw hc
  have := hm o (by unfold crO; exact List.mem_append_right _ (List.mem_flatMap.2 ⟨_, List.mem_of_getElem? hw, by simp⟩))
  exact ⟨o, f, rfl, this.1, by rw [this.2]; exact h2, h3⟩
theorem ERep.move {B : AHeap} (h : ERep H e g E mo to fv vs C) (hm : ∀ p, p ∈ e :: mo :: to :: crO fv vs → p < B.size ∧ B.obj p = H.obj p) (hg : g < B.size) : ERep B e g E mo to fv vs C := by
  obtain ⟨es, c, h1, h2⟩ := h.vars
  obtain ⟨et, d, h3, h4⟩ := h.told
  have m1 := hm e (by simp)
  have m2 := hm mo (by simp)
  have m3 := hm to (by simp)
  exact ⟨by rw [m1.2]; exact h.self, m1.1, hg, m2.1, m3.1, h.ne1, h.ne2, h.ne3, ⟨es, c, by rw [m2.2]; exact h1, h2⟩, ⟨et, d, by rw [m3.2]; exact h3, h4⟩, h.cr.move fun p hp => hm p (by simp [hp]), h.off⟩
theorem ERep.lt' (h : ERep H e g E mo to fv vs C) {p : Nat} (hp : p ∈ e :: mo :: to :: crO fv vs) : p < H.size := by
  simp only [List.mem_cons] at hp
  rcases hp with rfl | rfl | rfl | hp
  · exact h.lo
  · exact h.lm
  · exact h.lt
  · exact h.cr.lt hp
theorem back_two {A B : AHeap} {v : AV} (hc : closed A.size v = true) (hs : A.size ≤ B.size) : ∃ D, back [] A v B = (v, D) ∧ A.size ≤ D.size ∧ ∀ p, p < A.size → D.obj p = B.obj p ∧ D.wr p = B.wr p := by
  by_cases h : Shut A B
  · rw [back_nil hc h]
    exact ⟨_, rfl, by simp, fun p hp => ⟨cut_obj hp, cut_wr hp⟩⟩
  · rw [back_not h]
    exact ⟨_, rfl, hs, fun p hp => ⟨rfl, rfl⟩⟩
theorem Fr.two {F : List Nat} {A B D : AHeap} (k : Fr F A B) (h1 : A.size ≤ D.size) (h2 : ∀ p, p < A.size → D.obj p = B.obj p ∧ D.wr p = B.wr p) : Fr F A D :=
  ⟨h1, fun o ho hF => by rw [(h2 o ho).1]; exact k.obj o ho hF, fun o ho hF => by rw [(h2 o ho).2]; exact k.wr o ho hF⟩
theorem En.lit_bd (hb : ∀ n, 0 ≤ E.v n ∧ E.v n ≤ 1000000) (l : Int) : -1000000 ≤ E.lit l ∧ E.lit l ≤ 1000000 := by
  have := hb (l / 2)
  unfold En.v at this
  unfold En.lit En.nl
  split <;> split <;> omega
/-- A node's clauses. -/
theorem enode_run {m : Int} {ks : Kd} {G : List Nat} (h : ERep H e g E mo to fv vs C) (gg : GAt H g m ks G) (hr : Rt m ks) (hG : to ∉ G) (hb : ∀ n, 0 ≤ E.v n ∧ E.v n ≤ 1000000) {n s : Int} (hs : s = 1 ∨ s = 2) (hC : C.length ≤ 999990)
    {r : Option (AV × AHeap)} (hR : R f_plait_cnf_Encoder_node [.ptr e 0, .agg [.int .i64 n, .int .i64 s]] H = r) :
    ∃ H' v fv' vs', r = some (v, H') ∧ ERep H' e g (if E.is (n, s) = true then E else E.tell (n, s)) mo to fv' vs' (C ++ (if E.is (n, s) = true then [] else clausesF ks E (n, s))) ∧ Fr (e :: to :: objs fv) H H' ∧ (∀ p, p ∈ crO fv' vs' → p ∈ crO fv vs ∨ H.size ≤ p) ∧
      Reads H' v 2 (if E.is (n, s) = true then [] else moreF ks (n, s)).length (kc (if E.is (n, s) = true then [] else moreF ks (n, s))) := by
  rw [e_plait_cnf_Encoder_node] at hR
  obtain ⟨et, ct, h3, h4⟩ := h.told
  have hand := told_and E n hs
  have htf := told_tf E n
  have hs0 : ¬ s = 0 := by omega
  by_cases his : E.is (n, s) = true
  · simp [-bin_and, -and1, c_plait_cnf_Encoder_node, h.self, h.lo, h.lt, h3, h4.look, htf, hand, his, hs0] at hR
    subst hR
    refine ⟨H, .nils, fv, vs, rfl, by simpa [his] using h, Fr.refl _ _, fun p hp => .inl hp, by simp [his, kc]⟩
  have his' : E.is (n, s) = false := by simpa using his
  have hor := told_or E n hs his'
  obtain ⟨es', c', hupd, him⟩ := h4.updM n ((E.tell (n, s)).told n) (H.new (.cells [.int .i64 n, .int .i64 s])) to ct (by simp [h3, h.lt])
  obtain ⟨H2, hH2⟩ : ∃ H2, H2 = (H.new (.cells [.int .i64 n, .int .i64 s])).set to (.map (.one (.i .i64)) es' c') := ⟨_, rfl⟩
  rw [← hH2] at hupd
  have r2 := h.tell hs him hH2
  have f2 : Fr [to] H H2 := by rw [hH2]; exact ((Fr.refl _ H).new _).set (.inl (by simp)) _
  have ob : H2.obj H.size = .cells [.int .i64 n, .int .i64 s] := by rw [hH2]; have := h.lt; simp; omega
  have sz2 : H2.size = H.size + 1 := by rw [hH2]; simp
  have g2 : GAt H2 g m ks G := gg.keep f2 fun p hp => by simp; rintro rfl; exact hG hp
  have hkids := kids_run g2 hr (n := n)
  unfold Pure at hkids
  obtain ⟨ev, cv, hv1, hv2⟩ := r2.vars
  have hvn : (E.vr n).getD 0 = E.v n := rfl
  have hvE : (E.tell (n, s)).vr = E.vr := rfl
  rw [hvE] at hv2
  have hb2 : ∀ x, 0 ≤ (E.tell (n, s)).v x ∧ (E.tell (n, s)).v x ≤ 1000000 := hb
  have hbn := hb n
  simp only [his', Bool.false_eq_true, if_false]
  rcases kidsF_cases ks n with ⟨k, k1, k2, k3, k4⟩ | k4
  rotate_left
  · rw [k4] at hkids
    have hcl := clauses_none (ks := ks) (E := E) (n := n) (s := s) (by rw [k4])
    simp [-bin_and, -and1, -bin_or, -updM_map, c_plait_cnf_Encoder_node, h.self, h.lo, h.lt, h3, h4.look, htf, hand, his', hor, hupd, r2.self, ob, hkids, hv1, hv2.look, hvn] at hR
    obtain ⟨D, hD, d1, d2⟩ := back_two (A := H) (B := H2) (v := .nils) (by simp) f2.size
    rw [hD] at hR
    subst hR
    refine ⟨D, .nils, fv, vs, rfl, ?_, ?_, fun p hp => .inl hp, ?_⟩
    · rw [hcl.1, List.append_nil]
      exact r2.move (fun p hp => ⟨Nat.lt_of_lt_of_le (h.lt' hp) d1, (d2 p (h.lt' hp)).1⟩) (Nat.lt_of_lt_of_le h.lg d1)
    · exact (f2.weak fun p hp => .inl (by simp at hp; simp [hp])).two d1 d2
    · rw [hcl.2]; simp [kc]
  rw [k4] at hkids
  have hkb := hr.kids _ k k2 k3
  have hle := hr.le
  have hmo := hr.most
  have hlen := (List.getElem?_eq_some_iff.1 k2).1
  have hlitA := elit_run r2 hb2 (l := k.1) (by omega) (by omega)
  have hlitB := elit_run r2 hb2 (l := k.2) (by omega) (by omega)
  have eA : (E.tell (n, s)).lit k.1 = E.lit k.1 := rfl
  have eB : (E.tell (n, s)).lit k.2 = E.lit k.2 := rfl
  rw [eA] at hlitA
  rw [eB] at hlitB
  have bA := En.lit_bd hb k.1
  have bB := En.lit_bd hb k.2
  have w0 : IntKind.i64.wrap (-(E.v n)) = -(E.v n) := i64w (by omega) (by omega)
  have wA : IntKind.i64.wrap (-(E.lit k.1)) = -(E.lit k.1) := i64w (by omega) (by omega)
  have wB : IntKind.i64.wrap (-(E.lit k.2)) = -(E.lit k.2) := i64w (by omega) (by omega)
  have asA : ∀ H : AHeap, R f_cnf_asks [.int .i64 k.1] H = _ := fun H => asks_run (by omega) (by omega)
  have asB : ∀ H : AHeap, R f_cnf_asks [.int .i64 k.2] H = _ := fun H => asks_run (by omega) (by omega)
  have fA : -9223372036854775808 ≤ flip1 k.1 ∧ flip1 k.1 ≤ 9223372036854775807 := by unfold flip1; split <;> omega
  have fB : -9223372036854775808 ≤ flip1 k.2 ∧ flip1 k.2 ≤ 9223372036854775807 := by unfold flip1; split <;> omega
  have afA : ∀ H : AHeap, R f_cnf_asks [.int .i64 (flip1 k.1)] H = _ := fun H => asks_run fA.1 fA.2
  have afB : ∀ H : AHeap, R f_cnf_asks [.int .i64 (flip1 k.2)] H = _ := fun H => asks_run fB.1 fB.2
  have bk : ∀ (o sz m : Nat) (f : Bool) (D : AHeap), ¬ o < H.size → back [] H (.row o 0 sz m f) D = (.row o 0 sz m f, D) := fun o sz m f D ho => back_open (by simpa using ho)
  have hk1 : -9223372036854775808 ≤ k.1 := by omega
  have hk2 : k.1 ≤ 9223372036854775807 := by omega
  have hk3 : -9223372036854775808 ≤ k.2 := by omega
  have hk4 : k.2 ≤ 9223372036854775807 := by omega
  have f2' : Fr (e :: to :: objs fv) H H2 := f2.weak fun p hp => .inl (by simp at hp; simp [hp])
  rcases hs with rfl | rfl
  · simp [-bin_and, -and1, -bin_or, -updM_map, c_plait_cnf_Encoder_node, h.self, h.lo, h.lt, h3, h4.look, htf, hand, his', hor, hupd, r2.self, ob, hkids, hv1, hv2.look, hvn, hlitA, w0] at hR
    have hcl : clausesF ks E (n, 1) = [[-(E.v n), E.lit k.1], [-(E.v n), E.lit k.2]] := by unfold clausesF; simp [k4]
    have hmr : moreF ks (n, 1) = [asksF k.1, asksF k.2] := by unfold moreF; simp [k4]
    rw [hcl, hmr]
    generalize hA : R f_plait_cnf_Encoder_lays _ _ = q at hR
    have kn := Keeps.new H2 (.cells [.int .i64 (-(E.v n)), .int .i64 (E.lit k.1)])
    obtain ⟨H3, fv3, rfl, r3, k3', n3⟩ := lays_run (c := [-(E.v n), E.lit k.1]) (r2.keeps kn) (o := H2.size) (by simp) (by simp) (fun p hp => by have := r2.lt' hp; omega) (by omega) hA
    have hlit3 := elit_run r3 hb2 (l := k.2) (by omega) (by omega)
    rw [eB] at hlit3
    simp [hlit3, w0] at hR
    generalize hA2 : R f_plait_cnf_Encoder_lays _ _ = q at hR
    have kn3 := Keeps.new H3 (.cells [.int .i64 (-(E.v n)), .int .i64 (E.lit k.2)])
    obtain ⟨H4, fv4, rfl, r4, k4', n4⟩ := lays_run (c := [-(E.v n), E.lit k.2]) (r3.keeps kn3) (o := H3.size) (by simp) (by simp) (fun p hp => by have := r3.lt' hp; omega) (by simp; omega) hA2
    have z3 : H.size + 1 ≤ H3.size := by have := k3'.size; simp at this; omega
    have z4 : H.size + 2 ≤ H4.size := by have := k4'.size; simp at this; omega
    simp [asA, asB, bk, show ¬ H4.size < H.size by omega] at hR
    subst hR
    have F3 : Fr (e :: to :: objs fv) H H3 := (f2'.then kn).trans k3' fun p hp => .inl (by simp at hp ⊢; rcases hp with h1 | h1 <;> simp [h1])
    have F4 : Fr (e :: to :: objs fv) H H4 := (F3.then kn3).trans k4' fun p hp => by
      simp only [List.mem_cons] at hp
      rcases hp with rfl | hp
      · exact .inl (by simp)
      · have := n3 p hp
        simp at this
        exact .inr (by omega)
    refine ⟨_, _, fv4, _, rfl, by simpa using r4.keeps (Keeps.new H4 _), F4.then (Keeps.new H4 _), fun p hp => ?_, ?_⟩
    · unfold crO at hp ⊢
      simp only [List.flatMap_append, List.flatMap_cons, List.flatMap_nil, List.mem_append, objs_row, List.append_nil, List.mem_singleton] at hp ⊢
      rcases hp with hp | hp | rfl | rfl
      · have := n4 p hp
        simp at this
        exact .inr (by omega)
      · exact .inl (.inr hp)
      · exact .inr (by omega)
      · exact .inr (by omega)
    · refine Reads.row' (by simp) ?_ (by simp [kc])
      simp [kc]
  · simp [-bin_and, -and1, -bin_or, -updM_map, c_plait_cnf_Encoder_node, h.self, h.lo, h.lt, h3, h4.look, htf, hand, his', hor, hupd, r2.self, ob, hkids, hv1, hv2.look, hvn, hlitA, hlitB, wA, wB] at hR
    have hcl : clausesF ks E (n, 2) = [[E.v n, -(E.lit k.1), -(E.lit k.2)]] := by unfold clausesF; simp [k4]
    have hmr : moreF ks (n, 2) = [asksF (flip1 k.1), asksF (flip1 k.2)] := by unfold moreF; simp [k4]
    rw [hcl, hmr]
    generalize hA : R f_plait_cnf_Encoder_lays _ _ = q at hR
    have kn := Keeps.new H2 (.cells [.int .i64 (E.v n), .int .i64 (-(E.lit k.1)), .int .i64 (-(E.lit k.2))])
    obtain ⟨H3, fv3, rfl, r3, k3', n3⟩ := lays_run (c := [E.v n, -(E.lit k.1), -(E.lit k.2)]) (r2.keeps kn) (o := H2.size) (by simp) (by simp) (fun p hp => by have := r2.lt' hp; omega) (by omega) hA
    have z3 : H.size + 1 ≤ H3.size := by have := k3'.size; simp at this; omega
    simp [hk1, hk2, hk3, hk4, afA, afB, bk, show ¬ H3.size < H.size by omega] at hR
    subst hR
    have F3 : Fr (e :: to :: objs fv) H H3 := (f2'.then kn).trans k3' fun p hp => .inl (by simp at hp ⊢; rcases hp with h1 | h1 <;> simp [h1])
    refine ⟨_, _, fv3, _, rfl, by simpa using r3.keeps (Keeps.new H3 _), F3.then (Keeps.new H3 _), fun p hp => ?_, ?_⟩
    · unfold crO at hp ⊢
      simp only [List.flatMap_append, List.flatMap_cons, List.flatMap_nil, List.mem_append, objs_row, List.append_nil, List.mem_singleton] at hp ⊢
      rcases hp with hp | hp | rfl
      · have := n3 p hp
        simp at this
        exact .inr (by omega)
      · exact .inl (.inr hp)
      · exact .inr (by omega)
    · refine Reads.row' (by simp) ?_ (by simp [kc])
      simp [kc]
end
end Go.Proofs.Ytdbbkhmiflignaa
