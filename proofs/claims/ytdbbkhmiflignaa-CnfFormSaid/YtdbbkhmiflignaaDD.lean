/- The law CnfForm. -/
import Derived.Test.YtdbbkhmiflignaaDC
namespace Go.Proofs.Ytdbbkhmiflignaa
set_option maxRecDepth 100000
set_option maxHeartbeats 2000000

theorem setF_inj {m : Int} {ks : Kd} {E : En} {C : List (List Int)} (hr : Rt m ks) (hV : EnV ks E) (h : EnC ks E C []) {c d : List Int} (hc : c ∈ C) (hd : d ∈ C) (he : setF c = setF d) : c = d :=
  (h.shape hr hV hc).inj hV (h.shape hr hV hd) fun x => by rw [← setF_mem, he, setF_mem]
section
variable {Hb H0 : AHeap} {x g e mo to : Nat} {av lv rv : AV} {vs : List AV} {G : List Nat} {s : PS} {first : Int} {k : Nat}
theorem XR.keeps {H H' : AHeap} (X : XR Hb H x g e mo to av lv rv vs G s) (k : Keeps H H') : XR Hb H' x g e mo to av lv rv vs G s :=
  ⟨by rw [k.obj x X.lo]; exact X.self, k.lt X.lo, X.er.keeps k, X.ga.keeps k, X.cr.keeps k, X.lr.keep k, X.lg, X.rr.keep k, X.rg, X.kb.trans k, X.nb, X.tg⟩
/-- No literal of a set has its opposite in it, and all are within bounds. -/
theorem form_loop1 {H : AHeap} (X : XR Hb H x g e mo to av lv rv vs G s) {c : List Int} (hc : ClOK s.E c) (hfs : s.E.first = first) (hlast : s.E.last ≤ 2000) (_hf0 : 1 ≤ first) {w : AV} (hrd : Reads H w 1 (setF c).length ((setF c).map (.int .i64))) {ev : Env} {r : Rn}
    (hL : loopL Go.Proofs.Try.prog KT R l_plaitlaw10_CnfForm_1 ev H = r) (e1 : ev 1 = some (.int .i64 first)) (e5 : ev 5 = some (.ptr x 0)) (e8 : ev 8 = some w) (e10 : ev 10 = some (.int .i64 0)) :
    ∃ y e' H', r = some (y, e', H') ∧ (y = .exit 2 ∧ H' = H) ∧ ∀ t, t ∉ defs l_plaitlaw10_CnfForm_1 → e' t = ev t := by
  have hle := setF_le c
  have hlen := hc.len
  refine loop_count l_plaitlaw10_CnfForm_1.eq_1 hL (setF c).length (fun i f1 H1 => H1 = H ∧ f1 10 = some (.int .i64 i)) _ 0 (Nat.zero_le _) ⟨rfl, e10⟩ ?_ ?_
  · rintro i f1 H1 hf - hi ⟨rfl, f10⟩
    have w1 : IntKind.i64.wrap ((i : Int) + 1) = (i : Int) + 1 := i64w (by omega) (by omega)
    have c1 : (i : Int) < (setF c).length := by omega
    obtain ⟨a1, a2⟩ := loadi_of hrd hi
    have a3 := a2 H1 (Keeps.refl _)
    have hm : (setF c).getD i 0 ∈ setF c := by simp [List.getD_eq_getElem?_getD, hi]
    have hmc := setF_mem.1 hm
    generalize (setF c).getD i 0 = y at *
    have hopp := hc.opp y hmc
    obtain ⟨r1, r2, r3⟩ := hc.rng y hmc
    rw [hfs] at r2
    have w2 : IntKind.i64.wrap (-y) = -y := i64w (by omega) (by omega)
    have hhas := has_run hrd (by omega) (x := -y)
    have hno : ¬ (-y) ∈ setF c := fun h => hopp (setF_mem.1 h)
    have hev := evars_run X.er
    have d1 : ¬ max y (-y) < first := by omega
    have d2 : ¬ s.E.last < max y (-y) := by omega
    simp (maxDischargeDepth := 40) [hf, f10, e1, e5, e8, hrd.len, c1, a1, a3, w2, hhas, hno, hev, d1, d2, w1, X.self]
  · rintro f1 H1 hf ⟨rfl, f10⟩
    simp [hf, f10, e8, hrd.len]
/-- No set is told twice. -/
theorem form_loop2 {H : AHeap} {c : List Int} {S : List (List Int)} (_hlen : c.length ≤ 1000000) (hS : S.length ≤ 1000000) (hne : ∀ d, d ∈ S → d ≠ c) {w sv : AV} {ws : List AV} (hrd : Reads H w 1 c.length (c.map (.int .i64))) (hs : CR H sv ws S) (hd : ∀ d, d ∈ S → d.length ≤ 1000000) {ev : Env} {r : Rn}
    (hL : loopL Go.Proofs.Try.prog KT R l_plaitlaw10_CnfForm_2 ev H = r) (e6 : ev 6 = some sv) (e8 : ev 8 = some w) (e11 : ev 11 = some (.int .i64 0)) :
    ∃ y e' H', r = some (y, e', H') ∧ (y = .exit 4 ∧ H' = H) ∧ ∀ t, t ∉ defs l_plaitlaw10_CnfForm_2 → e' t = ev t := by
  refine loop_count l_plaitlaw10_CnfForm_2.eq_1 hL S.length (fun i f1 H1 => H1 = H ∧ f1 11 = some (.int .i64 i)) _ 0 (Nat.zero_le _) ⟨rfl, e11⟩ ?_ ?_
  · rintro i f1 H1 hf - hi ⟨rfl, f11⟩
    have w1 : IntKind.i64.wrap ((i : Int) + 1) = (i : Int) + 1 := i64w (by omega) (by omega)
    have c1 : (i : Int) < S.length := by omega
    obtain ⟨o, f, a1, a2, a3, a4, -, -⟩ := hs.ldr hi
    have hm : S.getD i [] ∈ S := by simp [List.getD_eq_getElem?_getD, hi]
    generalize S.getD i [] = d at *
    have hint := ints_run (H := H1) (v := .row o 0 1 d.length f) (w := w) (a := d) (b := c) (Reads.row' a3 a4 (by simp)) hrd (hd d hm)
    have hdc := hne d hm
    simp (maxDischargeDepth := 40) [hf, f11, e6, e8, hs.rd.len, c1, a1, a2, hint, hdc, w1]
  · rintro f1 H1 hf ⟨rfl, f11⟩
    simp [hf, f11, e6, hs.rd.len]
/-- Every clause is fine. -/
theorem form_loop0 {Hb H0 : AHeap} (X : XR Hb H0 x g e mo to av lv rv vs G s) (P : PI first s k) (hk : k ≤ 60) (hf0 : 1 ≤ first) (hf1 : first ≤ 1000) {ev : Env} {r : Rn}
    (hL : loopL Go.Proofs.Try.prog KT R l_plaitlaw10_CnfForm_0 ev H0 = r) (e1 : ev 1 = some (.int .i64 first)) (e5 : ev 5 = some (.ptr x 0)) (e6 : ev 6 = some .nils) (e7 : ev 7 = some (.int .i64 0)) :
    ∃ y e' H', r = some (y, e', H') ∧ (y = .exit 0 ∧ Keeps H0 H') ∧ ∀ t, t ∉ defs l_plaitlaw10_CnfForm_0 → e' t = ev t := by
  have hle := P.le
  have bd := EnC.bd (D := []) P.rt P.ev (by simpa using P.ec)
  have hlb := P.lastB
  simp only [List.length_nil, List.append_nil] at bd
  refine loop_count l_plaitlaw10_CnfForm_0.eq_1 hL s.C.length (fun i f1 H1 => f1 7 = some (.int .i64 i) ∧ Keeps H0 H1 ∧ ∃ sv ws, f1 6 = some sv ∧ CR H1 sv ws ((s.C.take i).map setF) ∧ ∀ p, p ∈ crO sv ws → H0.size ≤ p) _ 0 (Nat.zero_le _) ⟨e7, Keeps.refl _, .nils, [], e6, by simpa using CR.nil, by simp [crO]⟩ ?_ ?_
  · rintro i f1 H1 hf - hi ⟨f7, k1, sv, ws, f6, cs, new⟩
    have w1 : IntKind.i64.wrap ((i : Int) + 1) = (i : Int) + 1 := i64w (by omega) (by omega)
    have c1 : (i : Int) < s.C.length := by omega
    have Xk := X.keeps k1
    obtain ⟨o, f, a1, a2, a3, a4, -, -⟩ := Xk.cr.ldr hi
    have ta : s.C.take (i + 1) = s.C.take i ++ [s.C.getD i []] := by rw [List.take_add_one]; simp [List.getD_eq_getElem?_getD, hi]
    have hm : s.C.getD i [] ∈ s.C := by simp [List.getD_eq_getElem?_getD, hi]
    have hne : ∀ d, d ∈ (s.C.take i).map setF → d ≠ setF (s.C.getD i []) := fun d hd he => by
      obtain ⟨d', hd', rfl⟩ := List.mem_map.1 hd
      have h1 := setF_inj P.rt P.ev P.ec (List.mem_of_mem_take hd') hm he
      have hn := P.ec.nodup
      rw [← List.take_append_drop i s.C, List.nodup_append] at hn
      refine hn.2.2 d' hd' (s.C.getD i []) ?_ h1
      have e : s.C.getD i [] = s.C[i] := by simp [List.getD_eq_getElem?_getD, hi]
      rw [e, List.drop_eq_getElem_cons hi]
      exact List.mem_cons_self
    rw [ta, List.map_append, List.map_cons, List.map_nil]
    obtain ⟨hcn, hcl⟩ := bd.2 _ hm
    have hok := P.ec.ok P.rt P.ev hm
    generalize s.C.getD i [] = c at *
    have hsl := setF_len hok.nodup
    have hl3 := hok.len
    have hsn : ∀ y, y ∈ c → y ≠ 0 ∧ -2147483647 ≤ y ∧ y ≤ 2147483647 := fun y hy => by
      have := hok.rng y hy
      rw [P.fs] at this
      omega
    simp (maxDischargeDepth := 40) [hf, f7, e5, Xk.self, Xk.cr.rd.len, c1, a1, a2]
    generalize hA : R f_plaitref12_Set _ _ = q
    obtain ⟨o2, H2, rfl, k2, n2, l2, ob2⟩ := set_run (c := c) (Reads.row' a3 a4 (by simp)) (by omega) hcn hsn hA
    have X2 := Xk.keeps k2
    obtain ⟨w, hw⟩ : ∃ w, w = AV.row o2 0 1 (setF c).length false := ⟨_, rfl⟩
    have hrw : Reads H2 w 1 (setF c).length ((setF c).map (.int .i64)) := by rw [hw]; exact Reads.row' l2 ob2 (by simp)
    have hwc : w.cells = [w] := by rw [hw]; rfl
    have hwo : w.one = true := by rw [hw]; rfl
    rw [← hw]
    have a1k := X2.cr.rd.addr (P := Go.Proofs.Try.prog) (t := T_s_s_int) (by simp) hi
    have a2k : aload Go.Proofs.Try.prog H2 T_s_int (ixp av 1 i) = some (.row o 0 1 c.length f) := by
      rw [X2.cr.rd.at (by simp) rfl hi, ← Xk.cr.rd.at (P := Go.Proofs.Try.prog) (t := T_s_int) (by simp) rfl hi]
      exact a2
    have hsl' : ((setF c).length : Int) = c.length := by omega
    simp (maxDischargeDepth := 40) [hrw.len, X2.self, a1k, a2k, hsl', hf, e5, f7]
    generalize hB : loopL _ _ _ _ _ _ = q
    obtain ⟨y1, e9, H3, rfl, ⟨rfl, rfl⟩, fr1⟩ := form_loop1 X2 hok P.fs (by omega) hf0 hrw hB (by simp [hf, e1]) (by simp [hf, e5]) (by simp) (by simp)
    simp (maxDischargeDepth := 40)
    generalize hB2 : loopL _ _ _ _ _ _ = q
    have cs2 := cs.keeps k2
    have hti : ((s.C.take i).map setF).length = i := by simp; omega
    obtain ⟨y2, e10, H4, rfl, ⟨rfl, rfl⟩, fr2⟩ := form_loop2 (c := setF c) (by omega) (by omega) hne hrw cs2 (fun d hd => by
      obtain ⟨d', hd', rfl⟩ := List.mem_map.1 hd
      have := (bd.2 d' (List.mem_of_mem_take hd')).2
      have := setF_le d'
      omega) hB2 (by simp [fr1, f6]) (by simp [fr1]) (by simp)
    simp (maxDischargeDepth := 40) [fr1, fr2, f6, hwc]
    generalize hA2 : appU _ _ _ _ = q
    have crd := cs2.rd
    rw [hti] at crd
    obtain ⟨H5, rfl, F5, s5, o5, rd5⟩ := app_of hA2 (crd.keep (Keeps.new H4 _)) cs2.gr (Reads.row' (all := [w]) (by simp) (by simp) (by simp)) (by omega) rfl (by omega) (by omega) (by omega) (by simp [hw])
    simp only [new_size] at s5 o5 rd5
    have F45 : Fr (objs sv) H4 H5 := ((Keeps.new H4 _).fr _).trans F5 fun p hp => .inl hp
    have hsv : ∀ p, p ∈ objs sv → p < H1.size := fun p hp => cs.rd.lt hp
    have z1 := k1.size
    have z2 := k2.size
    simp (maxDischargeDepth := 40) [fr1, fr2, f7, w1]
    refine ⟨F45.keeps (k1.trans k2) fun p hp => new p (by simp [crO, hp]), ws ++ [w], ?_, fun p hp => ?_⟩
    · have := CR.snoc (H := H4) (X := objs sv) (o := o2) (f := false) (c := setF c) cs2 F45 (fun p hp hq => by
        obtain ⟨w', hw', hpw⟩ := List.mem_flatMap.1 hp
        obtain ⟨c', -, o', f', rfl, -, -, hno⟩ := cs2.get hw'
        simp at hpw
        subst hpw; exact hno hq) (by rw [hti]; exact rd5) (by simp) hw l2 (by rw [F45.obj _ l2 (fun hm => by have := hsv _ hm; omega)]; exact ob2) (by simp)
      simpa [hti] using this
    · unfold crO at hp
      rw [hw] at hp
      simp only [List.flatMap_append, List.flatMap_cons, List.flatMap_nil, List.mem_append, objs_row, List.append_nil, List.mem_singleton] at hp
      rcases hp with rfl | hp | rfl
      · omega
      · exact new p (by unfold crO; exact List.mem_append_right _ hp)
      · omega
  · rintro f1 H1 hf ⟨f7, k1, sv, ws, f6, cs, new⟩
    have Xk := X.keeps k1
    simp (maxDischargeDepth := 40) [hf, f7, e5, Xk.self, Xk.cr.rd.len, k1]
end
end Go.Proofs.Ytdbbkhmiflignaa
