/- The statements' own script of an encoder in the heap: a root is asked for twice. -/
import Derived.Test.YtdbbkhmiflignaaCV
namespace Go.Proofs.Ytdbbkhmiflignaa
set_option maxRecDepth 100000
set_option maxHeartbeats 2000000

theorem EnC.bd {m : Int} {ks : Kd} {E : En} {C D : List (List Int)} (hr : Rt m ks) (hV : EnV ks E) (h : EnC ks E (C ++ D) []) : (C.length + D.length ≤ 3 * ks.length + 1) ∧ ∀ c, c ∈ C ++ D → c ≠ [] ∧ c.length ≤ 1000000 := by
  refine ⟨by simpa using h.few hr hV, fun c hc => ?_⟩
  have h1 := (h.ok hr hV hc).len
  refine ⟨?_, by omega⟩
  rintro rfl
  cases h.shape hr hV hc <;> simp at *
theorem grows_one {v : AV} (h : grows v) : v.one = true := by cases v <;> first | (exact h.elim) | rfl
theorem xroot_run {Hb H : AHeap} {x g e mo to : Nat} {av lv rv : AV} {vs : List AV} {G : List Nat} {s : PS} {first : Int} {k : Nat} (X : XR Hb H x g e mo to av lv rv vs G s) (P : PI first s k) (hk : k ≤ 1000) (hf1 : first ≤ 1000) {l : Int} (hl : isL s.ks.length l) {r : Option (AV × AHeap)}
    (h : R f_plait_plaitlaw10_run_root [.ptr x 0, .int .i64 l] H = r) : ∃ H' av' lv' rv' vs' G', r = some (.tup [], H') ∧ XR Hb H' x g e mo to av' lv' rv' vs' G' (s.root l) := by
  rw [e_plait_plaitlaw10_run_root] at h
  obtain ⟨t, t0, t1, t2, t3, t4, t5, t6, t7⟩ := X.tg
  have hlb := P.lastB
  have hle := P.le
  have hll := P.lk
  have hrl := P.lr
  have hG : ∀ p, p ∈ G → p ≠ e ∧ p ≠ mo ∧ p ≠ to := fun p hp => by
    have := t4 p hp
    refine ⟨?_, ?_, ?_⟩ <;> (rintro rfl; omega)
  have ok := root_ok P.rt P.ev P.ec hl
  have bd := EnC.bd P.rt ok.v ok.c
  obtain ⟨D, hD⟩ : ∃ D, D = (rootF s.ks s.E l).2 := ⟨_, rfl⟩
  obtain ⟨E', hE'⟩ : ∃ E', E' = (rootF s.ks s.E l).1 := ⟨_, rfl⟩
  rw [← hD] at bd
  have hC0 : s.C.length ≤ 1000 := by omega
  have hD0 : D.length ≤ 1000 := by omega
  have hDn : ∀ c, c ∈ D → c ≠ [] ∧ c.length ≤ 1000000 := fun c hc => bd.2 c (by simp [hc])
  simp [c_plait_plaitlaw10_run_root, X.self] at h
  generalize hA : R f_plait_cnf_Encoder_Root _ _ = q at h
  obtain ⟨H1, w, ws, G1, rfl, er1, cr1, ga1, F1, nG1, nw1⟩ := eroot_run X.er X.ga P.rt hG P.ev P.ec hl (by omega) hA
  rw [← hE'] at er1 h
  rw [← hD] at cr1
  have hx1 : x ∉ e :: mo :: to :: G := fun hm => by
    simp only [List.mem_cons] at hm
    rcases hm with rfl | rfl | rfl | hm
    · omega
    · omega
    · omega
    · have := t4 x hm; omega
  have o1 : H1.obj x = .cells [.ptr g 0, .ptr e 0, av, lv, rv, .bool true] := by rw [F1.obj x X.lo hx1]; exact X.self
  simp [o1] at h
  generalize hB : R f_plaithelp_CopyLists _ _ = q at h
  obtain ⟨w2, ws2, H2, rfl, k2, cr2, nw2⟩ := copies_run cr1 hDn (by omega) hB
  have xlo := X.lo
  have elo := X.er.lo
  have mlo := X.er.lm
  have tlo := X.er.lt
  have alo : ∀ p, p ∈ crO av vs → p < H.size := fun p hp => X.cr.lt hp
  have alo' : ∀ p, p ∈ objs av → p < H.size ∧ t p = 3 := fun p hp => ⟨alo p (by simp [crO, hp]), t5 p (by simp [crO, hp])⟩
  have llo : ∀ p, p ∈ objs lv → p < H.size ∧ t p = 4 := fun p hp => ⟨X.lr.lt hp, t6 p hp⟩
  have rlo : ∀ p, p ∈ objs rv → p < H.size ∧ t p = 5 := fun p hp => ⟨X.rr.lt hp, t7 p hp⟩
  have glo : ∀ p, p ∈ G → p < H.size ∧ t p = 2 := fun p hp => ⟨X.ga.lt hp, t4 p hp⟩
  have z1 := F1.size
  have z2 := k2.size
  have notE : ∀ p, t p = 3 ∨ t p = 4 ∨ t p = 5 → p ∉ e :: mo :: to :: G := fun p hp hm => by
    simp only [List.mem_cons] at hm
    rcases hm with rfl | rfl | rfl | hm
    · omega
    · omega
    · omega
    · have := t4 p hm; omega
  have crA : CR H2 av vs s.C := (X.cr.keep F1 fun p hp => notE p (.inl (t5 p hp))).keeps k2
  have lrA : Reads H2 lv 1 s.lits.length (s.lits.map (.int .i64)) := (X.lr.frO F1 fun p hp => notE p (.inr (.inl (t6 p hp)))).keep k2
  have rrA : Reads H2 rv 1 s.roots.length (s.roots.map (.int .i64)) := (X.rr.frO F1 fun p hp => notE p (.inr (.inr (t7 p hp)))).keep k2
  simp [k2] at h
  generalize hC : appU _ _ _ _ = q at h
  obtain ⟨av', H3, rfl, gv3, F3, ov3, rd3⟩ := app_any hC crA.rd crA.gr cr2.rd rfl (by omega) (by omega) (by omega) (cr_one cr2)
  have crB : CR H3 av' (vs ++ ws2) (s.C ++ D) := crA.app cr2 F3 (fun p hp hq => by
    have h1 := nw2 p (by unfold crO; exact List.mem_append_right _ hp)
    have h2 := alo' p hq
    omega) rd3 gv3 ov3
  have z3 := F3.size
  have hA' : ∀ p, p ∈ crO av' (vs ++ ws2) → p ∈ crO av vs ∨ (H1.size ≤ p ∧ p < H3.size) := fun p hp => by
    have hlt := crB.lt hp
    unfold crO at hp ⊢
    simp only [List.flatMap_append, List.mem_append] at hp ⊢
    rcases hp with hp | hp | hp
    · rcases ov3 p hp with h1 | ⟨h1, -⟩
      · exact .inl (.inl h1)
      · exact .inr ⟨by omega, hlt⟩
    · exact .inl (.inr hp)
    · exact .inr ⟨nw2 p (by unfold crO; exact List.mem_append_right _ hp), hlt⟩
  have o3 : H3.obj x = .cells [.ptr g 0, .ptr e 0, av, lv, rv, .bool true] := by
    rw [F3.obj x (by omega) (fun hm => by have := alo' x hm; omega), k2.obj x (by omega)]; exact o1
  have hone := grows_one gv3
  simp [o3, hone] at h
  generalize hH4 : H3.set x (.cells [.ptr g 0, .ptr e 0, av', lv, rv, .bool true]) = H4 at h
  have F4 : Fr [x] H3 H4 := by rw [← hH4]; exact (Fr.refl _ H3).set (.inl (by simp)) _
  have s4 : H4.size = H3.size := by rw [← hH4]; rfl
  have o4 : H4.obj x = .cells [.ptr g 0, .ptr e 0, av', lv, rv, .bool true] := by rw [← hH4]; simp
  have F24 : Fr (x :: objs av) H2 H4 := (F3.weak fun p hp => .inl (by simp [hp])).trans F4 fun p hp => .inl (by simp at hp; simp [hp])
  have n24 : ∀ p, t p = 4 ∨ t p = 5 → p < H.size → p ∉ x :: objs av := fun p hp hl hm => by
    simp only [List.mem_cons] at hm
    rcases hm with rfl | hm
    · omega
    · have := alo' p hm; omega
  have lr4 := lrA.frO F24 fun p hp => n24 p (.inl (llo p hp).2) (llo p hp).1
  have rr4 := rrA.frO F24 fun p hp => n24 p (.inr (rlo p hp).2) (rlo p hp).1
  have xl4 : x < H4.size := by omega
  generalize hE : appU _ _ _ _ = q at h
  obtain ⟨H5, rfl, F5, s5, o5, rd5⟩ := app_of hE (lr4.keep (by simp)) X.lg (Reads.row' (all := [.int .i64 l]) (by simp [s4]) (by simp [s4]) (by simp)) (by omega) rfl (by omega) (by omega) (by omega) (by simp)
  simp only [new_size] at s5 o5 rd5
  have ox5 : H5.obj x = .cells [.ptr g 0, .ptr e 0, av', lv, rv, .bool true] := by
    rw [F5.obj x (by simp; omega) (fun hm => by have := llo x hm; omega)]; simp [o4]; omega
  have hsep : sepT [8, 12, 14, 998, 1000] = some 0 := rfl
  have hsl : ∀ y, sepL [8, 12, 14, 998, 1000] y y = true := fun y => by simp [sepL]
  have hap : ∀ ev : Env, ev 0 = some (.ptr x 0) → markApp [8, 12, 14, 998, 1000] ev (H4.new (.cells [.int .i64 l])) H5 = true := fun ev h0 => markApp_one (by rfl) (by rfl) h0 (by rw [ox5]; simp [o4]; omega)
  simp (maxDischargeDepth := 40) [hap, hsep, hsl, objOf, ox5] at h
  generalize hF : appU _ _ _ _ = q at h
  have rr5 : Reads H5 rv 1 s.roots.length (s.roots.map (.int .i64)) := (rr4.keep (Keeps.new H4 (.cells [.int .i64 l]))).frO F5 fun p hp hm => by
    have := (rlo p hp).2
    have := (llo p hm).2
    omega
  obtain ⟨H6, rfl, F6, s6, o6, rd6⟩ := app_of hF (rr5.keep (by simp)) X.rg (Reads.row' (all := [.int .i64 (E'.lit l)]) (by simp) (by simp) (by simp)) (by omega) rfl (by omega) (by omega) (by omega) (by simp)
  simp only [new_size] at s6 o6 rd6
  have ox6 : H6.obj x = .cells [.ptr g 0, .ptr e 0, av', lv, rv, .bool true] := by
    rw [F6.obj x (by simp; omega) (fun hm => by have := rlo x hm; omega)]; simp [ox5]; omega
  simp (maxDischargeDepth := 40) [ox6] at h
  generalize hH7 : (H6.set x (.cells [.ptr g 0, .ptr e 0, av', .row (H4.size + 1) 0 1 (s.lits.length + 1) false, rv, .bool true])).set x (.cells [.ptr g 0, .ptr e 0, av', .row (H4.size + 1) 0 1 (s.lits.length + 1) false, .row (H5.size + 1) 0 1 (s.roots.length + 1) false, .bool true]) = H7 at h
  have F7 : Fr [x] H6 H7 := by rw [← hH7]; exact ((Fr.refl _ H6).set (.inl (by simp)) _).set (.inl (by simp)) _
  have s7 : H7.size = H6.size := by rw [← hH7]; rfl
  have o7 : H7.obj x = .cells [.ptr g 0, .ptr e 0, av', .row (H4.size + 1) 0 1 (s.lits.length + 1) false, .row (H5.size + 1) 0 1 (s.roots.length + 1) false, .bool true] := by rw [← hH7]; simp
  have F57 : Fr (x :: (objs lv ++ objs rv)) H4 H7 := by
    have a1 : Fr (x :: (objs lv ++ objs rv)) H4 H5 := ((Keeps.new H4 _).fr _).trans F5 fun p hp => .inl (by simp [hp])
    have a2 : Fr (x :: (objs lv ++ objs rv)) H4 H6 := (a1.then (Keeps.new H5 _)).trans F6 fun p hp => .inl (by simp [hp])
    exact a2.trans F7 fun p hp => .inl (by simp at hp; simp [hp])
  have F17 : Fr (x :: (objs av ++ objs lv ++ objs rv)) H1 H7 := by
    have a1 : Fr (x :: (objs av ++ objs lv ++ objs rv)) H1 H4 := (k2.fr _).trans F24 fun p hp => .inl (by simp at hp; rcases hp with h1 | h1 <;> simp [h1])
    exact a1.trans F57 fun p hp => .inl (by simp at hp; rcases hp with h1 | h1 | h1 <;> simp [h1])
  have tX : ∀ p, p ∈ x :: (objs av ++ objs lv ++ objs rv) → p < H.size ∧ (t p = 0 ∨ t p = 3 ∨ t p = 4 ∨ t p = 5) := fun p hp => by
    simp only [List.mem_cons, List.mem_append] at hp
    rcases hp with rfl | (hp | hp) | hp
    · exact ⟨xlo, .inl t0⟩
    · have := alo' p hp; exact ⟨this.1, by omega⟩
    · have := llo p hp; exact ⟨this.1, by omega⟩
    · have := rlo p hp; exact ⟨this.1, by omega⟩
  have er7 : ERep H7 e g E' mo to .nils [] [] := er1.keep F17 fun p hp hm => by
    have := (tX p hm).2
    simp [crO] at hp
    rcases hp with rfl | rfl | rfl <;> omega
  have hG1' : ∀ p, p ∈ G1 → p < H1.size ∧ (p ∈ G ∨ H.size ≤ p) := fun p hp => ⟨ga1.lt hp, nG1 p hp⟩
  have gX : ∀ p, p ∈ G1 → p ∉ x :: (objs av ++ objs lv ++ objs rv) := fun p hp hm => by
    have h1 := tX p hm
    rcases nG1 p hp with h2 | h2
    · have := t4 p h2; omega
    · omega
  have ga7 : GAt H7 g 60 s.ks G1 := ga1.keep F17 gX
  have hG1 : ∀ p, p ∈ G1 → p ≠ e ∧ p ≠ mo ∧ p ≠ to := fun p hp => by
    rcases nG1 p hp with h1 | h1
    · exact hG p h1
    · omega
  generalize hR2 : R f_plait_cnf_Encoder_Root _ _ = q at h
  have ok' := ok
  have hlast := ok'.last
  have hnl := need_len s.ks s.E l
  have okv := ok'.v
  have okc := ok'.c
  rw [← hE'] at hlast okv okc
  rw [← hD] at okc
  obtain ⟨H8, w8, ws8, G8, rfl, er8, cr8, ga8, F8, nG8, nw8⟩ := eroot_run er7 ga7 P.rt hG1 okv okc hl (by
    have h1 := (P.root hl).lastB
    have : (s.root l).E.last = E'.last := by rw [hE']; rfl
    rw [this] at h1
    omega) hR2
  have hag := root_again P.rt P.ev P.ec hl
  rw [← hE'] at hag
  rw [hag] at er8 cr8
  simp only at er8 cr8
  have hle8 := cr8.rd.len
  simp at hle8
  have z57 := F57.size
  have o8 : H8.obj x = .cells [.ptr g 0, .ptr e 0, av', .row (H4.size + 1) 0 1 (s.lits.length + 1) false, .row (H5.size + 1) 0 1 (s.roots.length + 1) false, .bool true] := by
    rw [F8.obj x (by omega) (fun hm => by
      simp only [List.mem_cons] at hm
      rcases hm with hm | hm | hm | hm
      · subst hm; omega
      · subst hm; omega
      · subst hm; omega
      · rcases nG1 x hm with h1 | h1
        · have := t4 x h1; omega
        · omega)]
    exact o7
  have hlit0 : E'.lit l ≠ 0 := by
    obtain ⟨v, hv⟩ := ok'.self
    rw [← hE'] at hv
    have := okv.rng _ v hv
    have := okv.pos
    rcases En.lit_of hv with h1 | h1 <;> omega
  simp (maxDischargeDepth := 40) [hag, o8, hle8, hlit0] at h
  generalize hH9 : H8.set x (.cells [.ptr g 0, .ptr e 0, av', .row (H4.size + 1) 0 1 (s.lits.length + 1) false, .row (H5.size + 1) 0 1 (s.roots.length + 1) false, .bool true]) = H9 at h
  have F9 : Fr [x] H8 H9 := by rw [← hH9]; exact (Fr.refl _ H8).set (.inl (by simp)) _
  have o9 : H9.obj x = .cells [.ptr g 0, .ptr e 0, av', .row (H4.size + 1) 0 1 (s.lits.length + 1) false, .row (H5.size + 1) 0 1 (s.roots.length + 1) false, .bool true] := by rw [← hH9]; simp
  generalize hL : loopL _ _ _ _ _ _ = q at h
  have wX : ∀ p, p ∈ crO w ws → p ∉ x :: (objs av ++ objs lv ++ objs rv) := fun p hp hm => by
    have h1 := tX p hm
    have h2 := nw1 p hp
    omega
  have nE8 : ∀ p, p ∉ G1 → p ≠ e → p ≠ mo → p ≠ to → p ∉ e :: mo :: to :: G1 := fun p h1 h2 h3 h4 => by
    simp only [List.mem_cons, not_or]
    exact ⟨h2, h3, h4, h1⟩
  have cr9 : CR H9 w ws D := ((cr1.keep F17 wX).keep F8 fun p hp => by
    have h2 := nw1 p hp
    exact nE8 p h2.2.1 h2.2.2.1 h2.2.2.2.1 h2.2.2.2.2).keep F9 fun p hp => by
    have h2 := nw1 p hp
    simp
    omega
  obtain ⟨y, ev9, H10, rfl, ⟨rfl, F10⟩, fr9⟩ := spoil_loop cr9 (by omega) (fun c hc => (hDn c hc).2) hL (by simp) (by simp)
  simp at h
  have hws : ∀ p, p ∈ ws.flatMap objs → H.size ≤ p ∧ p < H1.size ∧ p ∉ G1 := fun p hp => by
    have hp' : p ∈ crO w ws := by unfold crO; exact List.mem_append_right _ hp
    have := nw1 p hp'
    exact ⟨this.1, cr1.lt hp', this.2.1⟩
  have hxw : x ∉ ws.flatMap objs := fun hm => by have := hws x hm; omega
  have z8 := F8.size
  have z9 := F9.size
  have z10 := F10.size
  have ox10 : H10.obj x = .cells [.ptr g 0, .ptr e 0, av', .row (H4.size + 1) 0 1 (s.lits.length + 1) false, .row (H5.size + 1) 0 1 (s.roots.length + 1) false, .bool true] := by
    rw [F10.obj x (by omega) hxw]; exact o9
  have hns : ¬ Shut H H10 := fun hsh => by
    rcases hsh.obj x xlo with e1 | e1
    · rw [X.self, ox10] at e1
      simp at e1
      have := (llo (H4.size + 1) (by rw [← e1.2.1]; simp)).1
      omega
    · rw [ox10] at e1
      simp [closedO, closedL, closed] at e1
      omega
  rw [back_not hns] at h
  subst h
  have hG8 : ∀ p, p ∈ G8 → p ∈ G1 ∨ H7.size ≤ p := nG8
  have F810 : Fr (x :: ws.flatMap objs) H8 H10 := (F9.weak fun p hp => .inl (by simp at hp; simp [hp])).trans F10 fun p hp => .inl (by simp only [List.mem_cons]; exact .inr hp)
  have nws : ∀ p, (p < H.size ∨ H1.size ≤ p ∨ p ∈ G1) → p ≠ x → p ∉ x :: ws.flatMap objs := fun p hp hx hm => by
    simp only [List.mem_cons] at hm
    rcases hm with rfl | hm
    · exact hx rfl
    · have := hws p hm
      rcases hp with h1 | h1 | h1
      · omega
      · omega
      · exact this.2.2 h1
  have F310 : ∀ p, (t p = 3 ∧ p < H.size ∨ H1.size ≤ p ∧ p < H3.size) → p ∉ [x] ∧ p ∉ x :: (objs lv ++ objs rv) ∧ p ∉ e :: mo :: to :: G1 ∧ p ∉ x :: ws.flatMap objs := fun p hp => by
    have hpx : p ≠ x := by rintro rfl; omega
    refine ⟨by simpa using hpx, fun hm => ?_, nE8 p (fun hm => ?_) ?_ ?_ ?_, nws p (by omega) hpx⟩
    · simp only [List.mem_cons, List.mem_append] at hm
      rcases hm with rfl | hm | hm
      · exact hpx rfl
      · have := llo p hm; omega
      · have := rlo p hm; omega
    · have h1 := hG1' p hm
      rcases h1.2 with h2 | h2
      · have := glo p h2; omega
      · omega
    · rintro rfl; omega
    · rintro rfl; omega
    · rintro rfl; omega
  have hcA : ∀ p, p ∈ crO av' (vs ++ ws2) → (t p = 3 ∧ p < H.size ∨ H1.size ≤ p ∧ p < H3.size) := fun p hp => by
    rcases hA' p hp with h1 | h1
    · exact .inl ⟨t5 p h1, alo p h1⟩
    · exact .inr h1
  have crF : CR H10 av' (vs ++ ws2) (s.C ++ D) := (((crB.keep F4 fun p hp => (F310 p (hcA p hp)).1).keep F57 fun p hp => (F310 p (hcA p hp)).2.1).keep F8 fun p hp => (F310 p (hcA p hp)).2.2.1).keep F810 fun p hp => (F310 p (hcA p hp)).2.2.2
  have hx' : ∀ p, H4.size ≤ p → p ∉ e :: mo :: to :: G1 ∧ p ∉ x :: ws.flatMap objs ∧ p ≠ x := fun p hp => by
    refine ⟨nE8 p (fun hm => ?_) (by omega) (by omega) (by omega), nws p (by omega) (by omega), by omega⟩
    have := (hG1' p hm).1
    omega
  have rl6 : Reads H6 (.row (H4.size + 1) 0 1 (s.lits.length + 1) false) 1 (s.lits.length + 1) (s.lits.map (.int .i64) ++ [.int .i64 l]) := (rd5.keep (Keeps.new H5 (.cells [.int .i64 (E'.lit l)]))).frO F6 fun p hp hm => by
    have := rlo p hm
    simp at hp
    omega
  have kp : ∀ {v : AV} {n : Nat} {cs : List AV}, Reads H6 v 1 n cs → (∀ p, p ∈ objs v → H4.size ≤ p) → Reads H10 v 1 n cs := fun rd hp => ((rd.frO F7 fun p h1 => by simpa using (hx' p (hp p h1)).2.2).frO F8 fun p h1 => (hx' p (hp p h1)).1).frO F810 fun p h1 => (hx' p (hp p h1)).2.1
  have nb := X.nb
  have zb := X.kb.size
  have kb4 : Keeps Hb H4 := F4.keeps (F3.keeps ((F1.keeps X.kb fun p hp => nb p (by simp only [List.mem_cons] at hp; rcases hp with h1 | h1 | h1 | h1 <;> simp [h1])).trans k2) fun p hp => nb p (by simp [crO, hp])) fun p hp => nb p (by simp at hp; simp [hp])
  have kb7 : Keeps Hb H7 := F57.keeps kb4 fun p hp => nb p (by simp only [List.mem_cons, List.mem_append] at hp; rcases hp with h1 | h1 | h1 <;> simp [h1])
  have kb8 : Keeps Hb H8 := F8.keeps kb7 fun p hp => by
    simp only [List.mem_cons] at hp
    rcases hp with h1 | h1 | h1 | h1
    · exact nb p (by simp [h1])
    · exact nb p (by simp [h1])
    · exact nb p (by simp [h1])
    · rcases (hG1' p h1).2 with h2 | h2
      · exact nb p (by simp [h2])
      · omega
  have kb10 : Keeps Hb H10 := F810.keeps kb8 fun p hp => by
    simp only [List.mem_cons] at hp
    rcases hp with h1 | h1
    · exact nb p (by simp [h1])
    · have := hws p h1; omega
  have nbF : ∀ p, p = x ∨ p = e ∨ p = mo ∨ p = to ∨ p ∈ G8 ∨ p ∈ crO av' (vs ++ ws2) ∨ p ∈ objs (.row (H4.size + 1) 0 1 (s.lits.length + 1) false) ∨ p ∈ objs (.row (H5.size + 1) 0 1 (s.roots.length + 1) false) → Hb.size ≤ p := fun p hp => by
    rcases hp with h1 | h1 | h1 | h1 | h1 | h1 | h1 | h1
    · exact nb p (by simp [h1])
    · exact nb p (by simp [h1])
    · exact nb p (by simp [h1])
    · exact nb p (by simp [h1])
    · rcases hG8 p h1 with h2 | h2
      · rcases (hG1' p h2).2 with h3 | h3
        · exact nb p (by simp [h3])
        · omega
      · omega
    · rcases hA' p h1 with h2 | h2
      · exact nb p (by simp [h2])
      · omega
    · simp at h1; omega
    · simp at h1; omega
  refine ⟨H10, av', _, _, vs ++ ws2, G8, rfl, ⟨ox10, by omega, ?_, ?_, by rw [hD] at crF; exact crF, ?_, by simp, ?_, by simp, kb10, nbF, ?_⟩⟩
  · have : (s.root l).E = E' := by rw [hE']; rfl
    rw [this]
    refine er8.keep F810 fun p hp => ?_
    simp [crO] at hp
    refine nws p (by omega) ?_
    rcases hp with rfl | rfl | rfl <;> (rintro rfl; omega)
  · refine ga8.keep F810 fun p hp => ?_
    rcases hG8 p hp with h1 | h1
    · refine nws p (.inr (.inr h1)) ?_
      rintro rfl
      rcases (hG1' p h1).2 with h2 | h2
      · have := glo p h2; omega
      · omega
    · exact nws p (by omega) (by omega)
  · have := kp rl6 (by simp)
    simpa [PS.root] using this
  · have := kp rd6 (by simp; omega)
    rw [hE'] at this
    simpa [PS.root] using this
  · refine ⟨fun p => if p < H.size then t p else if p ∈ G8 then 2 else if p ∈ crO av' (vs ++ ws2) then 3 else if p = H4.size + 1 then 4 else 5, by simp [xlo, t0], by simp [elo, t1], by simp [mlo, t2], by simp [tlo, t3], fun p hp => ?_, fun p hp => ?_, fun p hp => ?_, fun p hp => ?_⟩
    · show ite _ _ _ = _
      by_cases c : p < H.size
      · rw [if_pos c]
        rcases hG8 p hp with h1 | h1
        · rcases (hG1' p h1).2 with h2 | h2
          · exact t4 p h2
          · omega
        · omega
      · rw [if_neg c, if_pos hp]
    · show ite _ _ _ = _
      rcases hcA p hp with h1 | h1
      · rw [if_pos h1.2]; exact h1.1
      · rw [if_neg (by omega), if_neg, if_pos hp]
        intro hm
        rcases hG8 p hm with h2 | h2
        · have := (hG1' p h2).1; omega
        · omega
    · simp at hp
      subst hp
      show ite _ _ _ = _
      rw [if_neg (by omega), if_neg, if_neg, if_pos rfl]
      · intro hm
        rcases hcA _ hm with h1 | h1 <;> omega
      · intro hm
        rcases hG8 _ hm with h2 | h2
        · have := (hG1' _ h2).1; omega
        · omega
    · simp at hp
      subst hp
      show ite _ _ _ = _
      rw [if_neg (by omega), if_neg, if_neg, if_neg (by omega)]
      · intro hm
        rcases hcA _ hm with h1 | h1 <;> omega
      · intro hm
        rcases hG8 _ hm with h2 | h2
        · have := (hG1' _ h2).1; omega
        · omega
end Go.Proofs.Ytdbbkhmiflignaa
