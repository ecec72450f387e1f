/- Texts SV SX TDV SW SY EQ SZ RRD RRE RRF RWM RRG TVB RRGV of this claim, one behind the other. -/
import Derived.Test.YtiobohfiaapgeaaK7
section
namespace Go.Proofs.Ytiobohfiaapgeaa
set_option maxRecDepth 100000
set_option maxHeartbeats 4000000
theorem sim_step {most L : Int} {f : Nat} {ns0 : List Nd} {id : Int} (g0 : Gok ns0) (h1 : 1 ≤ id) (h2 : id ≤ ns0.length) (hL : most ≤ L) (hf : L + 2 ≤ f) {pre l : List Int} {j : Int} {ns : List Nd} {d : Int → Int} (hc : coneT ns0 id = pre ++ j :: l) (hd : Did ns0 ns d (fun x => x ∈ pre)) (hl : (ns.length : Int) ≤ L)
    {n : Nd} (hn : n = { ndF ns j with a := d (ndF ns j).a, b := d (ndF ns j).b, c := d (ndF ns j).c }) :
    formedF ns.length n = true ∧ (sortedF ns n).2 = 0 ∧ ((normF most f ns n).2.2 = 0 ∨ (normF most f ns n).2.2 = 33) ∧ ((normF most f ns n).2.2 = 0 → Did ns0 (normF most f ns n).1 (fun x => if x = j then (normF most f ns n).2.1 else d x) (fun x => x ∈ pre ++ [j])) ∧ (((normF most f ns n).1).length : Int) ≤ L := by
  have hk : j ∈ coneT ns0 id := by rw [hc]; simp
  obtain ⟨j, rfl, j1, j2⟩ := cone_mem hk
  have hrise := cone_rises ns0 id
  rw [hc] at hrise
  have k1 : (1 : Int) ≤ (j : Int) := by omega
  have k2 : (j : Int) ≤ ns0.length := by omega
  obtain ⟨i, hi, hni⟩ := nd_at k1 k2
  have N := next_ok g0 hd k1 k2 fun y hy h0 => by
    have := cone_kid g0.kok h1 h2 (j := i) (n := ndF ns0 j) (by rw [← hi]; exact hk) hni hy h0
    rw [← hi] at this
    refine mem_pre hrise ?_ this.2
    rw [← hc]; exact this.1
  obtain ⟨r1, r2⟩ := norm_next (most := most) (f := f) g0 hd k1 k2 N hn (by omega)
  have hlen := norm_len hL f (n := n) hl
  refine ⟨by rw [hn]; exact N.form, by rw [hn, N.srt], r1, fun h0 => ?_, hlen⟩
  have D := r2 h0
  exact ⟨D.more, D.gok, D.zero, fun x hx => D.did x (by simpa using hx)⟩
theorem simF_cons {most : Int} {f : Nat} {k : Int} {l : List Int} {ns : List Nd} {d : Int → Int} : simF most f (k :: l) ns d =
    if (normF most f ns { ndF ns k with a := d (ndF ns k).a, b := d (ndF ns k).b, c := d (ndF ns k).c }).2.2 = 0 then simF most f l (normF most f ns { ndF ns k with a := d (ndF ns k).a, b := d (ndF ns k).b, c := d (ndF ns k).c }).1 (fun x => if x = k then (normF most f ns { ndF ns k with a := d (ndF ns k).a, b := d (ndF ns k).b, c := d (ndF ns k).c }).2.1 else d x)
    else ((normF most f ns { ndF ns k with a := d (ndF ns k).a, b := d (ndF ns k).b, c := d (ndF ns k).c }).1, d, (normF most f ns { ndF ns k with a := d (ndF ns k).a, b := d (ndF ns k).b, c := d (ndF ns k).c }).2.2) := by
  conv => lhs; unfold simF
def MapAt (H : AHeap) (dn : Nat) (d : Int → Int) : Prop := ∃ es c fm, H.obj dn = .map (.one (.i .i64)) es c ∧ IM es fm ∧ ∀ x, d x = (fm x).getD 0
theorem MapAt.same {H H' : AHeap} {dn : Nat} {d : Int → Int} (h : MapAt H dn d) (e : H'.obj dn = H.obj dn) : MapAt H' dn d := by
  obtain ⟨es, c, fm, h1, h2, h3⟩ := h
  exact ⟨es, c, fm, by rw [e]; exact h1, h2, h3⟩
section
variable {H0 : AHeap} {w dn g : Nat} {most : Int} {ns : List Nd} {F : List Nat}
theorem sim_loop {H : AHeap} (hw : H0.size ≤ w) (hdn : H0.size ≤ dn) (h : WG H w dn g most ns F 0) (_hF : ∀ p, p ∈ F → p < H0.size) (kH : Keeps H0 H) (gk : Gok ns) {id : Int} (h1 : 1 ≤ id) (h2 : id ≤ ns.length) {f : Nat} (hf : most + 2 ≤ f) (hmap : H.obj dn = .map (.one (.i .i64)) [] 0) {v : AV} (hv : ∀ H, RI H v (coneT ns id)) (hcl : (coneT ns id).length ≤ 100000) {ev : Env} {r : Rn}
    (hL : loopL Try.prog KT R Zcm ev H = r) (e0 : ev 0 = some (.ptr g 0)) (e8 : ev 8 = some (.ptr w 0)) (e27 : ev 27 = some v) (e28 : ev 28 = some (.int .i64 (coneT ns id).length)) (e29 : ev 29 = some (.int .i64 0)) :
    ∃ x ev' H', r = some (x, ev', H') ∧ ((x = .exit 0 ∧ ∃ ns1 d F1, WG H' w dn g most ns1 F1 0 ∧ MapAt H' dn d ∧ simF most f (coneT ns id) ns (fun _ => 0) = (ns1, d, 0) ∧ Fr F H0 H' ∧ ∀ p, p ∈ F1 → p ∈ F ∨ H0.size ≤ p) ∨
      (x = .ret ∧ ∃ e ns1 F1, ¬ e = 0 ∧ e = (simF most f (coneT ns id) ns fun _ => 0).2.2 ∧ ev' 4 = some (.int .i64 0) ∧ ev' 5 = some (.int .i64 e) ∧ WG H' w dn g most ns1 F1 e ∧ Fr F H0 H' ∧ ∀ p, p ∈ F1 → p ∈ F ∨ H0.size ≤ p)) ∧ ∀ t, t ∉ defs Zcm → ev' t = ev t := by
  obtain ⟨cone, hcone⟩ : ∃ cone, cone = coneT ns id := ⟨_, rfl⟩
  rw [← hcone] at hv hcl e28 ⊢
  have D0 : Did ns ns (fun _ => 0) (fun x => x ∈ ([] : List Int)) := ⟨⟨[], by simp, by simp⟩, gk, fun _ _ => rfl, fun x hx => by cases hx⟩
  have frF : ∀ {A B : AHeap} {F1 : List Nat}, (∀ p, p ∈ F1 → p ∈ F ∨ H0.size ≤ p) → Fr F H0 A → Fr (w :: F1) A B → Fr F H0 B := fun {A B F1} hn a b => a.trans b fun p hp => by
    rcases List.mem_cons.1 hp with rfl | hp
    · exact .inr hw
    · exact hn p hp
  refine loop_count Zcm.eq_1 hL cone.length (fun i e1 H1 => e1 29 = some (.int .i64 i) ∧ ∃ ns1 d F1, WG H1 w dn g most ns1 F1 0 ∧ MapAt H1 dn d ∧ Did ns ns1 d (fun x => x ∈ cone.take i) ∧ simF most f cone ns (fun _ => 0) = simF most f (cone.drop i) ns1 d ∧ Fr F H0 H1 ∧ ∀ p, p ∈ F1 → p ∈ F ∨ H0.size ≤ p) _ 0 (Nat.zero_le _)
    ⟨e29, ns, fun _ => 0, F, h, ⟨[], 0, fun _ => none, hmap, IM.nil, fun _ => rfl⟩, by simpa using D0, by simp, kH.fr _, fun p hp => .inl hp⟩ ?_ ?_
  · rintro i e1 H1 hfr - hi' ⟨f29, ns1, d, F1, W, M, D, hs, k1, n1⟩
    have w1 : IntKind.i64.wrap ((i : Int) + 1) = (i : Int) + 1 := i64w (by omega) (by omega)
    have c1 : (i : Int) < cone.length := by omega
    have hv1 := hv H1
    obtain ⟨a1, a2⟩ := loadi_of hv1 hi'
    replace a2 := a2 H1 (Keeps.refl _)
    have hdrop : cone.drop i = cone.getD i 0 :: cone.drop (i + 1) := by
      rw [List.drop_eq_getElem_cons hi', List.getD_eq_getElem?_getD, List.getElem?_eq_getElem hi']; rfl
    have hcut : cone = cone.take i ++ cone.getD i 0 :: cone.drop (i + 1) := by rw [← hdrop, List.take_append_drop]
    have hta : cone.take (i + 1) = cone.take i ++ [cone.getD i 0] := by rw [List.take_add_one]; simp [List.getD_eq_getElem?_getD, hi']
    obtain ⟨k, hk⟩ : ∃ k, k = cone.getD i 0 := ⟨_, rfl⟩
    rw [← hk] at a2 hdrop hcut hta
    have hlim := W.G.lim
    obtain ⟨n, hn⟩ : ∃ n, n = ({ ndF ns1 k with a := d (ndF ns1 k).a, b := d (ndF ns1 k).b, c := d (ndF ns1 k).c } : Nd) := ⟨_, rfl⟩
    obtain ⟨sf, ss, sr, sd, sl⟩ := sim_step gk h1 h2 (Int.le_refl most) hf (by rw [← hcone]; exact hcut) D hlim.1 hn
    rw [hdrop] at hs
    rw [hta]
    have hnode := W.node k
    have hself := W.self
    have hlo := W.lo
    have hld := W.ld
    have hN := fun (HX : AHeap) (kX : Keeps H1 HX) (r : Option (AV × AHeap)) => norm_runs f (W.keeps kX) D.gok sf ss (by rcases sr with h | h <;> omega) (r := r)
    rw [simF_cons, ← hn] at hs
    obtain ⟨es, c, fm, om, im, dm⟩ := M
    have lka := im.look (ndF ns1 k).a
    have lkb := im.look (ndF ns1 k).b
    have lkc := im.look (ndF ns1 k).c
    rw [← dm] at lka lkb lkc
    obtain ⟨x, hx⟩ : ∃ x, x = ndF ns1 k := ⟨_, rfl⟩
    rw [← hx] at hnode lka lkb lkc
    have hcs : n.cs = [.int .i64 x.op, .int .i64 x.sort, .int .i64 (d x.a), .int .i64 (d x.b), .int .i64 (d x.c), .int .i64 x.p, .int .i64 x.q, .int .i64 x.vw, u x.vl, u x.vh, .str x.name] := by rw [hn, ← hx]; rfl
    simp only [hcs] at hN
    simp only [Nd.parts'] at hnode
    obtain ⟨HX, hX⟩ : ∃ HX, HX = ((((H1.new (.cells [.int .i64 0, .int .i64 0, .int .i64 0, .int .i64 0, .int .i64 0, .int .i64 0, .int .i64 0, .int .i64 0, u 0#64, u 0#64, .str .empty])).set H1.size (.cells [.int .i64 x.op, .int .i64 x.sort, .int .i64 x.a, .int .i64 x.b, .int .i64 x.c, .int .i64 x.p, .int .i64 x.q, .int .i64 x.vw, u x.vl, u x.vh, .str x.name])).set H1.size (.cells [.int .i64 x.op, .int .i64 x.sort, .int .i64 (d x.a), .int .i64 x.b, .int .i64 x.c, .int .i64 x.p, .int .i64 x.q, .int .i64 x.vw, u x.vl, u x.vh, .str x.name])).set H1.size (.cells [.int .i64 x.op, .int .i64 x.sort, .int .i64 (d x.a), .int .i64 (d x.b), .int .i64 x.c, .int .i64 x.p, .int .i64 x.q, .int .i64 x.vw, u x.vl, u x.vh, .str x.name])).set H1.size (.cells [.int .i64 x.op, .int .i64 x.sort, .int .i64 (d x.a), .int .i64 (d x.b), .int .i64 (d x.c), .int .i64 x.p, .int .i64 x.q, .int .i64 x.vw, u x.vl, u x.vh, .str x.name]) := ⟨_, rfl⟩
    have kX : Keeps H1 HX := by rw [hX]; ((repeat (first | exact Keeps.refl _ | assumption | refine Keeps.new' ?_ _ | refine Keeps.set ?_ ?_ _)) <;> (first | assumption | (simp; done) | (simp; omega)))
    have obX : HX.obj H1.size = (.cells [.int .i64 x.op, .int .i64 x.sort, .int .i64 (d x.a), .int .i64 (d x.b), .int .i64 (d x.c), .int .i64 x.p, .int .i64 x.q, .int .i64 x.vw, u x.vl, u x.vh, .str x.name]) := by rw [hX]; simp
    have lX : H1.size < HX.size := by rw [hX]; simp
    have WX := W.keeps kX
    have selfX := WX.self
    have loX := WX.lo
    have ldX := WX.ld
    obtain ⟨H3, F3, ns3, id3, e3, hA, W3, k3, n3, ok, bad⟩ := hN HX kX _ rfl
    have hld' : ∀ ev : Env, ev 8 = some (.ptr w 0) → ev 65 = some (.ptr w 1) → markLd [3, 7, 801, 997, 1008] ev (.tmp 65) (.map dn) = true := fun ev q1 q2 => markLd_one (s := 8) (d := 1) (o := w) (off := 0) (by rfl) (by rfl) q1 q2 (by rfl)
    have hcl' : ∀ ev : Env, ev 8 = some (.ptr w 0) → markCl [3, 7, 801, 997, 1008] ev HX H3 = true := fun ev q1 => markCl_one (s := 8) (d := 1) (o := w) (off := 0) (by rfl) (by rfl) q1 (by rw [W3.self, selfX]; rfl)
    have hdF : dn ∉ w :: F1 := fun hp => by
      rcases List.mem_cons.1 hp with hp | hp
      · exact W.ne hp.symm
      · exact (W.off dn hp).2 rfl
    have om3 : H3.obj dn = .map (.one (.i .i64)) es c := by rw [k3.obj dn ldX hdF, kX.obj dn hld, om]
    obtain ⟨es', c', hup, im'⟩ := im.updM k id3 H3 dn c om3
    have hX3 := kX.size
    have hk1 := k1.size
    have nn3 : ∀ p, p ∈ F3 → p ∈ F ∨ H0.size ≤ p := fun p hp => by
      rcases n3 p hp with h | h
      · exact n1 p h
      · exact .inr (by omega)
    obtain ⟨H4, hH4⟩ : ∃ H4, H4 = H3.set dn (.map (.one (.i .i64)) es' c') := ⟨_, rfl⟩
    have k4 : Fr [dn] H3 H4 := by rw [hH4]; exact (Fr.refl _ H3).set (.inl (by simp)) _
    have W4 : WG H4 w dn g most ns3 F3 e3 := ⟨by rw [k4.obj w W3.lo (by simpa using W.ne)]; exact W3.self, k4.lt W3.lo, k4.lt W3.ld, W3.G.frame k4 fun p hp => by simpa using (W3.off p hp).2, W3.off, W3.ne⟩
    have kf : Fr F H0 H4 := ((frF (B := H3) n1 k1 ((kX.fr _).trans k3 fun p hp => .inl hp))).trans k4 fun p hp => by
      simp at hp; subst hp; exact .inr hdn
    have M4 : MapAt H4 dn (fun y => if y = k then id3 else d y) := ⟨es', c', _, by rw [hH4]; simp, im', fun y => by
      by_cases c : y = k
      · simp only [c, if_true]; rfl
      · simp only [c, if_false]; exact dm y⟩
    have self4 := W4.self
    have lo4 := W4.lo
    rw [← hH4] at hup
    simp (maxDischargeDepth := 40) (maxSteps := 1000000) [-updM_map, hfr, f29, e0, e8, e27, e28, c1, a1, a2, hnode, hself, hlo, hld, om, lka, lkb, lkc, ← hX]
    simp (maxDischargeDepth := 40) (maxSteps := 1000000) [-updM_map, hfr, e8, obX, selfX, hld', hcl', hA, hup, self4]
    by_cases h0 : (normF most f ns1 n).2.2 = 0
    · obtain ⟨rfl, rfl, rfl⟩ := ok h0
      rw [if_pos h0] at hs
      simp (maxDischargeDepth := 40) [f29, w1]
      have D3 := sd h0
      exact ⟨_, _, F3, W4, M4, ⟨D3.more, D3.gok, D3.zero, fun y hy => D3.did y (by simpa using hy)⟩, hs, kf, nn3⟩
    · have he := bad h0
      have he3 : ¬ e3 = 0 := by rw [he]; exact h0
      rw [if_neg h0] at hs
      simp (maxDischargeDepth := 40) [hfr, e8, self4, he3]
      exact ⟨e3, he3, by rw [hs]; exact he, rfl, ns3, F3, W4, kf, nn3⟩
  · rintro e1 H1 hfr ⟨f29, ns1, d, F1, W, M, D, hs, k1, n1⟩
    simp [hfr, f29, e28]
    refine ⟨ns1, d, F1, W, M, ?_, k1, n1⟩
    rw [hs, List.drop_length]
    rfl
theorem GT.back2 {H' : AHeap} {js : List Nd} {F' : List Nat} (g0 : GT H0 g most ns F) (g1 : GT H' g most js F') (k : Fr F H0 H') (a b : Int) :
    ∃ D, back [] H0 (.tup [.int .i64 a, .int .i64 b]) H' = (.tup [.int .i64 a, .int .i64 b], D) ∧ GT D g most js F' ∧ Fr F H0 D := by
  by_cases hs : Shut H0 H'
  · rw [back_nil (by simp) hs]
    obtain ⟨g2, -⟩ := g0.cut g1 hs
    exact ⟨_, rfl, g2, k.cutF⟩
  · rw [back_not hs]
    exact ⟨_, rfl, g1, k⟩
theorem simplify_run (G : GT H0 g most ns F) (gk : Gok ns) {id : Int} {f : Nat} (hf : most + 2 ≤ f) {r : Option (AV × AHeap)} (hr : R Zx [.ptr g 0, .int .i64 id] H0 = r) :
    ∃ H' F' ns', r = some (.tup [.int .i64 (simT most f ns id).2.1, .int .i64 (simT most f ns id).2.2], H') ∧ GT H' g most ns' F' ∧ Fr F H0 H' ∧ (∀ p, p ∈ F' → p ∈ F ∨ H0.size ≤ p) ∧ ((simT most f ns id).2.2 = 0 → ns' = (simT most f ns id).1) := by
  rw [Zgq] at hr
  have hnode : ∀ id, R Zp [.ptr g 0, .int .i64 id] H0 = some (.tup [.agg (ndF ns id).cs, .bool (nodeS ns id).isSome], H0) := fun id => by
    obtain ⟨o1, o2, o3, t, -⟩ := G
    exact node_run t
  have hn := hnode id
  have hF : ∀ p, p ∈ F → p < H0.size := fun p hp => G.ltF hp
  obtain ⟨x, hx⟩ : ∃ x, x = ndF ns id := ⟨_, rfl⟩
  rw [← hx] at hn
  simp only [Nd.parts'] at hn
  by_cases c : id < 1 ∨ (ns.length : Int) < id
  · have hno : nodeS ns id = none := by
      unfold nodeS
      by_cases c1 : id < 1
      · first | rw [if_pos c1] | rw [if_pos (Or.inl c1)] | simp [c1]
      · first | (rw [if_neg (by omega)]; exact List.getElem?_eq_none (by omega)) | (rw [if_pos (by omega)])
    rw [hno] at hn
    have hs : simT most f ns id = (ns, 0, 70) := by unfold simT; rw [if_pos c]
    rw [hs]
    simp (maxDischargeDepth := 40) [Zei, hn] at hr
    exact ⟨H0, F, ns, hr.symm, G, Fr.refl _ _, fun p hp => .inl hp, fun h => by cases h⟩
  · obtain ⟨i, hi, hni⟩ := nd_at (ns := ns) (k := id) (by omega) (by omega)
    have hyes : (nodeS ns id).isSome = true := by
      unfold nodeS
      rw [if_neg (by omega), show (id - 1).toNat = i by omega, hni]
      rfl
    rw [hyes] at hn
    obtain ⟨v, hc, hv⟩ := cone_run2 (G.keeps (((((Keeps.refl H0).new' (.cells Nd.zero.cs)).set (o := H0.size) (Nat.le_refl _) (.cells x.cs)).new' (.map (.one (.i .i64)) [] 0)).new' (.cells [.ptr g 0, .map (H0.size + 1), .int .i64 0]))) (id := id)
    have hlen := (hv H0).len
    simp only [Nd.parts'] at hc
    simp (maxDischargeDepth := 40) [Nd.zero] at hc
    obtain ⟨HX, hX⟩ : ∃ HX, HX = (((H0.new (.cells [.int .i64 0, .int .i64 0, .int .i64 0, .int .i64 0, .int .i64 0, .int .i64 0, .int .i64 0, .int .i64 0, u 0#64, u 0#64, .str .empty])).set H0.size (.cells [.int .i64 x.op, .int .i64 x.sort, .int .i64 x.a, .int .i64 x.b, .int .i64 x.c, .int .i64 x.p, .int .i64 x.q, .int .i64 x.vw, u x.vl, u x.vh, .str x.name])).new (.map (.one (.i .i64)) [] 0)).new (.cells [.ptr g 0, .map (H0.size + 1), .int .i64 0]) := ⟨_, rfl⟩
    have kX : Keeps H0 HX := by rw [hX]; ((repeat (first | exact Keeps.refl _ | assumption | refine Keeps.new' ?_ _ | refine Keeps.set ?_ ?_ _)) <;> (first | assumption | (simp; done) | (simp; omega)))
    have sX : HX.size = H0.size + 3 := by rw [hX]; simp
    have hmap : HX.obj (H0.size + 1) = .map (.one (.i .i64)) [] 0 := by rw [hX]; simp
    have WX : WG HX (H0.size + 1 + 1) (H0.size + 1) g most ns F 0 := ⟨by rw [hX]; simp, by omega, by omega, G.keeps kX, fun p hp => by have := hF p hp; omega, by omega⟩
    have hcl : (coneT ns id).length ≤ 100000 := by
      have hlim := G.lim
      unfold coneT
      rw [if_neg (by omega)]
      have := outT_len (coneM ns id.toNat) (id.toNat + 1)
      omega
    rw [← hX] at hc
    simp (maxDischargeDepth := 40) [Zei, hn, ← hX, hc, hlen] at hr
    generalize hL : loopL _ _ _ _ _ _ = q at hr
    obtain ⟨xx, ev, H3, rfl, hx3, fr⟩ := sim_loop (by omega) (by omega) WX hF kX gk (by omega) (by omega) hf hmap hv hcl hL (by simp) (by simp) (by simp) (by simp) (by simp)
    rcases hx3 with ⟨rfl, ns1, d, F1, W1, ⟨es, c2, fm, om, im, dm⟩, hsim, kf, n1⟩ | ⟨rfl, e, ns1, F1, he, hes, f4, f5, W1, kf, n1⟩
    · have hs : simT most f ns id = (ns1, d id, 0) := by
        unfold simT
        rw [if_neg (by omega), hsim]
        rfl
      have lk := im.look id
      rw [← dm] at lk
      rw [hs]
      simp (maxDischargeDepth := 40) [fr, W1.self, om, lk] at hr
      obtain ⟨D, hD, g4, k4⟩ := G.back2 W1.G kf (d id) 0
      rw [hD] at hr
      exact ⟨D, F1, ns1, hr.symm, g4, k4, n1, fun _ => rfl⟩
    · have hs : simT most f ns id = ((simF most f (coneT ns id) ns fun _ => 0).1, 0, e) := by
        unfold simT
        rw [if_neg (by omega), if_neg (by rw [← hes]; exact he), ← hes]
      rw [hs]
      simp (maxDischargeDepth := 40) [f4, f5] at hr
      obtain ⟨D, hD, g4, k4⟩ := G.back2 W1.G kf 0 e
      rw [hD] at hr
      exact ⟨D, F1, ns1, hr.symm, g4, k4, n1, fun h => absurd h he⟩
end
end Go.Proofs.Ytiobohfiaapgeaa
end
section
namespace Go.Proofs.Ytiobohfiaapgeaa
set_option maxRecDepth 100000
end Go.Proofs.Ytiobohfiaapgeaa
end
section
namespace Go.Proofs.Ytiobohfiaapgeaa
set_option maxRecDepth 100000
set_option maxHeartbeats 4000000
theorem len_run {H : AHeap} {g : Nat} {most : Int} {ns : List Nd} {o1 o2 o3 : Nat} (h : TG H g most ns o1 o2 o3) : R Z9 [.ptr g 0] H = some (.int .i64 ns.length, H) := by
  rw [Zf0]
  simp (maxDischargeDepth := 40) [Zel, h.og, slv_len]
end Go.Proofs.Ytiobohfiaapgeaa
end
section
namespace Go.Proofs.Ytiobohfiaapgeaa
set_option maxRecDepth 100000
set_option maxHeartbeats 4000000
theorem made7_loop {H0 H : AHeap} {g : Nat} {l : List Nd} {F : List Nat} (hl : l.length ≤ 60) (G0 : GT H g 4096 [] F) (k0 : Keeps H0 H) (f0 : ∀ p, p ∈ F → H0.size ≤ p) {e : Env} {r : Rn} (hL : loopL Try.prog KT R Zc1 e H = r)
    (e0 : e 0 = some (NL l)) (e4 : e 4 = some (.ptr g 0)) (e5 : e 5 = some (.int .i64 0)) :
    ∃ y e' H', r = some (y, e', H') ∧ (Keeps H0 H' ∧ ((y = .exit 0 ∧ ∃ ns F, GT H' g 4096 ns F ∧ (∀ p, p ∈ F → H0.size ≤ p) ∧ Gok ns ∧ ns.length ≤ l.length) ∨ (y = .ret ∧ e' 2 = some .nilp ∧ e' 3 = some (.bool false)))) ∧ ∀ t, t ∉ defs Zc1 → e' t = e t := by
  refine loop_count Zc1.eq_1 hL l.length (fun i e1 H1 => e1 5 = some (.int .i64 i) ∧ Keeps H0 H1 ∧ ∃ ns F, GT H1 g 4096 ns F ∧ (∀ p, p ∈ F → H0.size ≤ p) ∧ Gok ns ∧ ns.length ≤ i) _ 0 (by omega) ⟨e5, k0, [], F, G0, f0, Gok.nil, Nat.le_refl _⟩ ?_ ?_
  · rintro i f H1 hf - hi ⟨f5, k1, ns, F1, G1, f1, gok, hnl⟩
    have w1 : IntKind.i64.wrap ((i : Int) + 1) = (i : Int) + 1 := i64w (by omega) (by omega)
    have c1 : (i : Int) < l.length := by omega
    obtain ⟨n, hn⟩ : ∃ n, l[i]? = some n := ⟨l[i], by simp [hi]⟩
    have hat := flat_at hn
    have hfl := flat_len l
    have hle : i * 11 + 11 ≤ l.length * 11 := by omega
    have hle10 : i * 11 + 10 < l.length * 11 := by omega
    have hat10 : (flat l)[i * 11 + 8 + 2]? = some (.str n.name) := by
      rw [show i * 11 + 8 + 2 = i * 11 + 10 from by omega, flat_get hn (by omega)]; rfl
    by_cases c2 : (60 : Int) < n.name.size
    · simp (maxDischargeDepth := 40) [hf, NL, e0, f5, c1, hat10, c2]
      exact k1
    · simp (maxDischargeDepth := 40) [hf, NL, e0, e4, f5, c1, hfl, hle, hat, hat10, c2]
      generalize hN : R Zi _ _ = qq
      obtain ⟨js, x, er, hmk⟩ : ∃ js x er, makT 4096 ns n = (js, x, er) := ⟨_, _, _, rfl⟩
      have gk : Gok js := by have := gok.make (most := 4096) (n := n); rw [hmk] at this; exact this
      have hjl : js.length ≤ ns.length + 1 := by have := makT_len (most := 4096) (ns := ns) (n := n); rw [hmk] at this; exact this
      obtain ⟨H2, F2, rfl, g2, m2⟩ := GvT.go G1 hmk hN
      simp (maxDischargeDepth := 40) [f5, w1]
      have hsz := k1.size
      refine ⟨m2.fr.keeps k1 f1, js, F2, g2, fun p hp => ?_, gk, by omega⟩
      rcases m2.new p hp with h | h
      · exact f1 p h
      · omega
  · rintro f H1 hf ⟨f5, k1, ns, F1, G1, f1, gok, hnl⟩
    simp [hf, NL, f5, e0]
    exact ⟨k1, ns, F1, G1, f1, gok, by omega⟩
theorem made7_run {H : AHeap} {l : List Nd} {r : Option (AV × AHeap)} (h : R Zde [NL l] H = r) :
    (∃ p, r = some (.tup [p, .bool false], H)) ∨ ∃ g ns F H', r = some (.tup [.ptr g 0, .bool (decide (0 < ns.length))], H') ∧ GT H' g 4096 ns F ∧ Keeps H H' ∧ (∀ p, p ∈ F → H.size ≤ p) ∧ Gok ns ∧ ns.length ≤ 60 := by
  rw [Zg8] at h
  by_cases c1 : (60 : Int) < l.length
  · simp (maxDischargeDepth := 40) [Ze2, NL, c1] at h
    exact .inl ⟨_, h.symm⟩
  · have hl : l.length ≤ 60 := by omega
    simp (maxDischargeDepth := 40) [Ze2, NL, c1] at h
    generalize hN : R Zem _ _ = q at h
    obtain ⟨H1, g, F1, rfl, g1, k1, f1⟩ := tnew_run hN
    rw [show min (max (4096 : Int) 1) 4096 = 4096 from by decide] at g1
    simp (maxDischargeDepth := 40) at h
    generalize hL : loopL _ _ _ _ _ _ = q2 at h
    obtain ⟨y, e3, H3, rfl, ⟨k3, hy⟩, fr⟩ := made7_loop hl g1 k1 f1 hL (by simp [NL]) (by simp) (by simp)
    rcases hy with ⟨rfl, ns, F3, G3, f3, gok, hnl⟩ | ⟨rfl, a2, a3⟩
    · right
      have hl3 : R Z9 [.ptr g 0] H3 = some (.int .i64 ns.length, H3) := by
        obtain ⟨p1, p2, p3, t, -⟩ := G3
        exact len_run t
      simp (maxDischargeDepth := 40) [fr, hl3] at h
      have hg : H.size ≤ g := f3 g G3.mem
      rw [back_open (by simp [closed]; omega)] at h
      exact ⟨g, ns, F3, H3, h.symm, G3, k3, f3, gok, by omega⟩
    · left
      simp (maxDischargeDepth := 40) [a2, a3, k3] at h
      exact ⟨_, h.symm⟩
end Go.Proofs.Ytiobohfiaapgeaa
end
section
namespace Go.Proofs.Ytiobohfiaapgeaa
set_option maxRecDepth 100000
def r1 : Nd := ⟨2, 4, 0, 0, 0, 0, 0, 0, 0#64, 0#64, ⟨#[120]⟩⟩
def r2 : Nd := ⟨1, 4, 0, 0, 0, 0, 0, 4, 3#64, 0#64, .empty⟩
def r3 : Nd := ⟨1, 4, 0, 0, 0, 0, 0, 4, 0#64, 0#64, .empty⟩
def r4 : Nd := ⟨20, 0, 2, 3, 0, 0, 0, 0, 0#64, 0#64, .empty⟩
def r4' : Nd := ⟨20, 4, 2, 3, 0, 0, 0, 0, 0#64, 0#64, .empty⟩
def r5 : Nd := ⟨18, 0, 1, 4, 0, 0, 0, 0, 0#64, 0#64, .empty⟩
def r5' : Nd := ⟨18, 4, 1, 4, 0, 0, 0, 0, 0#64, 0#64, .empty⟩
def r6 : Nd := ⟨8, 0, 1, 1, 0, 0, 0, 0, 0#64, 0#64, .empty⟩
def r7 : Nd := ⟨1, 0, 0, 0, 0, 0, 0, 0, 1#64, 0#64, .empty⟩
theorem rmk1 : makT 50 [] r1 = ([r1], 1, 0) := by decide
theorem rmk2 : makT 50 [r1] r2 = ([r1, r2], 2, 0) := by decide
theorem rmk3 : makT 50 [r1, r2] r3 = ([r1, r2, r3], 3, 0) := by decide
theorem rmk4 : makT 50 [r1, r2, r3] r4 = ([r1, r2, r3, r4'], 4, 0) := by decide
theorem rmk5 : makT 50 [r1, r2, r3, r4'] r5 = ([r1, r2, r3, r4', r5'], 5, 0) := by decide
theorem rmk6 : makT 50 [r1, r2, r3, r4', r5'] r6 = ([r1, r2, r3, r4', r5', r6], 6, 0) := by decide
theorem rsim5 : simT 50 60 [r1, r2, r3, r4', r5', r6] 5 = ([r1, r2, r3, r4', r5', r6], 1, 0) := by decide
theorem rsim6 : simT 50 60 [r1, r2, r3, r4', r5', r6] 6 = ([r1, r2, r3, r4', r5', r6, r7], 7, 0) := by decide
theorem rsim99 : simT 50 60 [r1, r2, r3, r4', r5', r6, r7] 99 = ([r1, r2, r3, r4', r5', r6, r7], 0, 70) := by decide
theorem rcone5 : coneT [r1, r2, r3, r4', r5', r6, r7] 5 = [1, 2, 3, 4, 5] := by decide
theorem rnode7 : ndF [r1, r2, r3, r4', r5', r6, r7] 7 = r7 := by decide
theorem rgok6 : Gok [r1, r2, r3, r4', r5', r6] := by
  have a1 := Gok.nil.make (most := 50) (n := r1)
  rw [rmk1] at a1
  have a2 := a1.make (most := 50) (n := r2)
  rw [rmk2] at a2
  have a3 := a2.make (most := 50) (n := r3)
  rw [rmk3] at a3
  have a4 := a3.make (most := 50) (n := r4)
  rw [rmk4] at a4
  have a5 := a4.make (most := 50) (n := r5)
  rw [rmk5] at a5
  have a6 := a5.make (most := 50) (n := r6)
  rw [rmk6] at a6
  exact a6
theorem rgok7 : Gok [r1, r2, r3, r4', r5', r6, r7] := by
  have a6 := rgok6.make (most := 50) (n := r7)
  rw [show makT 50 [r1, r2, r3, r4', r5', r6] r7 = ([r1, r2, r3, r4', r5', r6, r7], 7, 0) by decide] at a6
  exact a6
end Go.Proofs.Ytiobohfiaapgeaa
end
section
namespace Go.Proofs.Ytiobohfiaapgeaa
set_option maxRecDepth 100000
set_option maxHeartbeats 2000000
theorem tmod_cases (k n : Int) (hn : 0 < n) : (k.tmod n < 0 → k % n = k.tmod n + n) ∧ (¬ k.tmod n < 0 → k % n = k.tmod n) ∧ k.tmod n < n ∧ - n < k.tmod n := by
  have h := Int.tmod_eq_emod (a := k) (b := n)
  have h1 := Int.emod_nonneg k (by omega : n ≠ 0)
  have h2 := Int.emod_lt_of_pos k hn
  rw [h]
  split
  · simp; omega
  · rename_i hh
    have : (n.natAbs : Int) = n := by omega
    rw [this]
    refine ⟨by omega, ?_, by omega, ?_⟩
    · intro hx; omega
    · have : ¬ k % n = 0 := by
        intro h0; exact hh (Or.inr (Int.dvd_of_emod_eq_zero h0))
      omega
theorem place_run {k n : Int} (hn : 0 < n) (hn2 : n ≤ 1000000) {H : AHeap} : R Zc6 [.int .i64 k, .int .i64 n] H = some (.int .i64 (k % n), H) := by
  rw [Zgy]
  obtain ⟨q1, q2, q3, q4⟩ := tmod_cases k n hn
  have h0 : ¬ n = 0 := by omega
  by_cases c : k.tmod n < 0
  · have hw2 : IntKind.i64.wrap (k.tmod n + n) = k.tmod n + n := i64w (by omega) (by omega)
    simp (maxDischargeDepth := 40) [Zeo, h0, c, hw2, q1 c]
  · simp (maxDischargeDepth := 40) [Zeo, h0, c, q2 c]
end Go.Proofs.Ytiobohfiaapgeaa
end
section
namespace Go.Proofs.Ytiobohfiaapgeaa
set_option maxRecDepth 100000
set_option maxHeartbeats 4000000
structure Sg (H H' : AHeap) (g : Nat) (most : Int) (ns : List Nd) (F : List Nat) : Prop where
  G : GT H' g most ns F
  k : Keeps H H'
  new : ∀ p, p ∈ F → H.size ≤ p
section
variable {H H1 : AHeap} {g : Nat} {most : Int} {ns : List Nd} {F : List Nat}
theorem Sg.keep {H2 : AHeap} (S : Sg H H1 g most ns F) (k : Keeps H1 H2) : Sg H H2 g most ns F := ⟨S.G.keeps k, S.k.trans k, S.new⟩
theorem Sg.make (S : Sg H H1 g most ns F) {n : Nd} {js : List Nd} {x er : Int} (hmk : makT most ns n = (js, x, er)) {q : Option (AV × AHeap)} (hN : R Zi [.ptr g 0, .agg n.cs] H1 = q) :
    ∃ H2 F2, q = some (.tup [.int .i64 x, .int .i64 er], H2) ∧ Sg H H2 g most js F2 := by
  obtain ⟨H2, F2, rfl, g2, m2⟩ := GvT.go S.G hmk hN
  refine ⟨H2, F2, rfl, g2, m2.fr.keeps S.k S.new, fun p hp => ?_⟩
  have := S.k.size
  rcases m2.new p hp with h | h
  · exact S.new p h
  · omega
theorem Sg.simp (S : Sg H H1 g most ns F) (gk : Gok ns) {f : Nat} (hf : most + 2 ≤ f) {id : Int} {q : Option (AV × AHeap)} (hN : R Zx [.ptr g 0, .int .i64 id] H1 = q) :
    ∃ H2 F2 js, q = some (.tup [.int .i64 (simT most f ns id).2.1, .int .i64 (simT most f ns id).2.2], H2) ∧ Sg H H2 g most js F2 ∧ Fr F H1 H2 ∧ ((simT most f ns id).2.2 = 0 → js = (simT most f ns id).1) := by
  obtain ⟨H2, F2, js, rfl, g2, k2, n2, ok⟩ := simplify_run S.G gk hf hN
  refine ⟨H2, F2, js, rfl, ⟨g2, k2.keeps S.k S.new, fun p hp => ?_⟩, k2, ok⟩
  have := S.k.size
  rcases n2 p hp with h | h
  · exact S.new p h
  · omega
theorem Sg.node (S : Sg H H1 g most ns F) (id : Int) : R Zp [.ptr g 0, .int .i64 id] H1 = some (.tup [.agg (ndF ns id).cs, .bool (nodeS ns id).isSome], H1) := by
  obtain ⟨o1, o2, o3, t, -⟩ := S.G
  exact node_run t
theorem node_yes {ns : List Nd} {id : Int} (h1 : 1 ≤ id) (h2 : id ≤ ns.length) : (nodeS ns id).isSome = true := by
  obtain ⟨i, hi, hni⟩ := nd_at h1 h2
  unfold nodeS
  rw [if_neg (by omega), show (id - 1).toNat = i by omega, hni]
  rfl
theorem weight_run (G : GT H1 g most ns F) {id : Int} (h1 : 1 ≤ id) (h2 : id ≤ ns.length) : R Zd9 [.ptr g 0, .int .i64 id] H1 = some (.tup [.int .i64 (coneT ns id).length, .int .i64 0], H1) := by
  rw [Zg9]
  have hn : R Zp [.ptr g 0, .int .i64 id] H1 = some (.tup [.agg (ndF ns id).cs, .bool true], H1) := by
    have hy := node_yes h1 h2
    obtain ⟨o1, o2, o3, t, -⟩ := G
    rw [← hy]
    exact node_run t
  obtain ⟨x, hx⟩ : ∃ x, x = ndF ns id := ⟨_, rfl⟩
  rw [← hx] at hn
  have kX : Keeps H1 ((H1.new (.cells Nd.zero.cs)).set H1.size (.cells x.cs)) := by ((repeat (first | exact Keeps.refl _ | assumption | refine Keeps.new' ?_ _ | refine Keeps.set ?_ ?_ _)) <;> (first | assumption | (simp; done) | (simp; omega)))
  obtain ⟨v, hc, hv⟩ := cone_run2 (G.keeps kX) (id := id)
  have hlen := (hv H1).len
  simp only [Nd.parts'] at hc hn
  simp (maxDischargeDepth := 40) [Nd.zero] at hc
  simp (maxDischargeDepth := 40) [Zfz, hn, hc, hlen]
end
theorem known7_run {H : AHeap} : R Zc5 [] H = some (.bool true, H) := by
  generalize h : R Zc5 [] H = r
  rw [Zgx] at h
  simp (maxDischargeDepth := 40) [Zfr] at h
  generalize hN : R Zem _ _ = q at h
  obtain ⟨H1, g, F1, rfl, g1, k1, f1⟩ := tnew_run hN
  rw [show min (max (50 : Int) 1) 4096 = 50 from by decide] at g1
  have S1 : Sg H H1 g 50 [] F1 := ⟨g1, k1, f1⟩
  simp (maxDischargeDepth := 40) at h
  generalize hN : R Zi _ _ = q at h
  obtain ⟨H2, F2, rfl, S2⟩ := S1.make (n := r1) rmk1 hN
  simp (maxDischargeDepth := 40) at h
  generalize hN : R Zi _ _ = q at h
  obtain ⟨H3, F3, rfl, S3⟩ := S2.make (n := r2) rmk2 hN
  simp (maxDischargeDepth := 40) at h
  generalize hN : R Zi _ _ = q at h
  obtain ⟨H4, F4, rfl, S4⟩ := S3.make (n := r3) rmk3 hN
  simp (maxDischargeDepth := 40) at h
  generalize hN : R Zi _ _ = q at h
  obtain ⟨H5, F5, rfl, S5⟩ := S4.make (n := r4) rmk4 hN
  simp (maxDischargeDepth := 40) at h
  generalize hN : R Zi _ _ = q at h
  obtain ⟨H6, F6, rfl, S6⟩ := S5.make (n := r5) rmk5 hN
  simp (maxDischargeDepth := 40) at h
  generalize hN : R Zi _ _ = q at h
  obtain ⟨H7, F7, rfl, S7⟩ := S6.make (n := r6) rmk6 hN
  simp (maxDischargeDepth := 40) at h
  generalize hN : R Zx _ _ = q at h
  obtain ⟨H8, F8, js, rfl, S8, -, ok8⟩ := S7.simp rgok6 (f := 60) (by decide) hN
  rw [rsim5] at h ok8
  obtain rfl := ok8 rfl
  simp (maxDischargeDepth := 40) at h
  generalize hN : R Zx _ _ = q at h
  obtain ⟨H9, F9, js, rfl, S9, -, ok9⟩ := S8.simp rgok6 (f := 60) (by decide) hN
  rw [rsim6] at h ok9
  obtain rfl := ok9 rfl
  have hnode := S9.node 7
  rw [rnode7, show (nodeS [r1, r2, r3, r4', r5', r6, r7] 7).isSome = true by decide] at hnode
  simp only [Nd.cs, r7] at hnode
  obtain ⟨HX, hX⟩ : ∃ HX, HX = (H9.new (.cells [.int .i64 0, .int .i64 0, .int .i64 0, .int .i64 0, .int .i64 0, .int .i64 0, .int .i64 0, .int .i64 0, u 0#64, u 0#64, .str .empty])).set H9.size (.cells [.int .i64 1, .int .i64 0, .int .i64 0, .int .i64 0, .int .i64 0, .int .i64 0, .int .i64 0, .int .i64 0, u 1#64, u 0#64, .str .empty]) := ⟨_, rfl⟩
  have kX : Keeps H9 HX := by rw [hX]; ((repeat (first | exact Keeps.refl _ | assumption | refine Keeps.new' ?_ _ | refine Keeps.set ?_ ?_ _)) <;> (first | assumption | (simp; done) | (simp; omega)))
  have oX : HX.obj H9.size = (.cells [.int .i64 1, .int .i64 0, .int .i64 0, .int .i64 0, .int .i64 0, .int .i64 0, .int .i64 0, .int .i64 0, u 1#64, u 0#64, .str .empty]) := by rw [hX]; simp
  have lX : H9.size < HX.size := by rw [hX]; simp
  have S10 := S9.keep kX
  have hwt := weight_run S10.G (id := 5) (by decide) (by decide)
  rw [rcone5] at hwt
  obtain ⟨q, hq⟩ : ∃ q, q = R Zx [.ptr g 0, .int .i64 99] HX := ⟨_, rfl⟩
  obtain ⟨H11, F11, js, hq2, S11, k11, -⟩ := S10.simp rgok7 (f := 60) (by decide) hq.symm
  rw [rsim99] at hq2
  have hsi : R Zx [.ptr g 0, .int .i64 99] HX = some (.tup [.int .i64 0, .int .i64 70], H11) := by rw [← hq]; exact hq2
  have o11 : H11.obj H9.size = (.cells [.int .i64 1, .int .i64 0, .int .i64 0, .int .i64 0, .int .i64 0, .int .i64 0, .int .i64 0, .int .i64 0, u 1#64, u 0#64, .str .empty]) := by
    rw [k11.obj _ lX (fun hp => by have := S9.G.ltF hp; omega)]
    exact oX
  have l11 := k11.lt lX
  simp (maxDischargeDepth := 40) [hnode, ← hX] at h
  simp (maxDischargeDepth := 40) [hwt, hsi, o11, S11.k] at h
  exact h.symm
end Go.Proofs.Ytiobohfiaapgeaa
end
section
namespace Go.Proofs.Ytiobohfiaapgeaa
set_option maxRecDepth 100000
set_option maxHeartbeats 4000000
theorem norm_grow {most : Int} : ∀ (f : Nat) {ns : List Nd} {n : Nd}, (normF most f ns n).1.length ≤ ns.length + (if n.op = 20 then 2 else 1)
  | 0, ns, n => by unfold normF; split <;> simp
  | f + 1, ns, n => by
    have hsrc := path_src (ns := ns) (n := n)
    have hb : 1 ≤ (if n.op = 20 then 2 else 1) := by split <;> omega
    unfold normF
    cases hp : pathF ns n with
    | «at» k => simp
    | con v =>
      simp only
      have := makT_len (most := most) (ns := ns) (n := constN v)
      omega
    | mk =>
      simp only
      have := makT_len (most := most) (ns := ns) (n := n)
      omega
    | again m =>
      rw [hp] at hsrc
      obtain ⟨s1, -⟩ := hsrc
      simp only
      have := norm_grow (most := most) f (ns := ns) (n := m)
      rw [if_neg (by omega)] at this
      omega
    | shl x v =>
      rw [hp] at hsrc
      obtain ⟨s1, -⟩ := hsrc
      simp only
      rw [if_pos s1]
      have h1 := makT_len (most := most) (ns := ns) (n := constN v)
      split
      · have := norm_grow (most := most) f (ns := (makT most ns (constN v)).1) (n := nodeO 26 x (makT most ns (constN v)).2.1 0 0 0)
        rw [if_neg (by simp [nodeO])] at this
        omega
      · simp only
        omega
theorem sorted_no {ns : List Nd} {n : Nd} : ¬ (sortedF ns n).2 = 33 := by
  unfold sortedF sortS
  repeat' split
  all_goals simp
theorem mak_no {most : Int} {ns : List Nd} {n : Nd} (hr : (ns.length : Int) < most) : ¬ (makT most ns n).2.2 = 33 := by
  rcases mak_room (n := n) hr with h | h
  · exact h
  · exact absurd h sorted_no
theorem norm_room {most : Int} : ∀ (f : Nat) {ns : List Nd} {n : Nd}, (ns.length : Int) + (if n.op = 20 then 2 else 1) ≤ most → ¬ (normF most f ns n).2.2 = 33
  | 0, ns, n, _ => by unfold normF; simp
  | f + 1, ns, n, h => by
    have hsrc := path_src (ns := ns) (n := n)
    have hb : 1 ≤ (if n.op = 20 then 2 else 1 : Int) := by split <;> omega
    unfold normF
    cases hp : pathF ns n with
    | «at» k => simp
    | con v => exact mak_no (by omega)
    | mk => exact mak_no (by omega)
    | again m =>
      rw [hp] at hsrc
      obtain ⟨s1, -⟩ := hsrc
      refine norm_room f ?_
      rw [if_neg (by omega)]
      omega
    | shl x v =>
      rw [hp] at hsrc
      obtain ⟨s1, -⟩ := hsrc
      rw [if_pos s1] at h
      simp only
      have h1 := makT_len (most := most) (ns := ns) (n := constN v)
      split
      · refine norm_room f ?_
        rw [if_neg (by simp [nodeO])]
        omega
      · exact mak_no (by omega)
theorem sim_grow {most : Int} {f : Nat} : ∀ (l : List Int) {ns : List Nd} {d : Int → Int}, (simF most f l ns d).1.length ≤ ns.length + 2 * l.length ∧ ((ns.length : Int) + 2 * l.length ≤ most → ¬ (simF most f l ns d).2.2 = 33)
  | [], ns, d => by unfold simF; simp
  | k :: l, ns, d => by
    unfold simF
    obtain ⟨n, hn⟩ : ∃ n, n = ({ ndF ns k with a := d (ndF ns k).a, b := d (ndF ns k).b, c := d (ndF ns k).c } : Nd) := ⟨_, rfl⟩
    rw [← hn]
    have h1 := norm_grow (most := most) f (ns := ns) (n := n)
    have h2 : (if n.op = 20 then 2 else 1) ≤ 2 := by split <;> omega
    have h3 : (if n.op = 20 then 2 else 1 : Int) ≤ 2 := by split <;> omega
    split
    · obtain ⟨g1, g2⟩ := sim_grow (most := most) (f := f) l (ns := (normF most f ns n).1) (d := fun x => if x = k then (normF most f ns n).2.1 else d x)
      refine ⟨by simp only [List.length_cons]; omega, fun h => g2 (by simp only [List.length_cons] at h; omega)⟩
    · refine ⟨by simp only [List.length_cons]; omega, fun h => norm_room f (by simp only [List.length_cons] at h; omega)⟩
theorem cone_len3 (ns : List Nd) (id : Int) : (coneT ns id).length ≤ ns.length := by
  have h1 := cone_rises ns id
  have h2 : ∀ x, x ∈ coneT ns id → x ∈ (List.range ns.length).map fun i : Nat => (i : Int) + 1 := fun x hx => by
    obtain ⟨j, rfl, j1, j2⟩ := cone_mem hx
    simp only [List.mem_map, List.mem_range]
    exact ⟨j - 1, by omega, by omega⟩
  have h3 := sub_len h1 h2
  simpa using h3
theorem simT_grow {most : Int} {f : Nat} {ns : List Nd} {id : Int} (h : 3 * (ns.length : Int) ≤ most) : (simT most f ns id).1.length ≤ 3 * ns.length ∧ ¬ (simT most f ns id).2.2 = 33 := by
  have hc := cone_len3 ns id
  obtain ⟨g1, g2⟩ := sim_grow (most := most) (f := f) (coneT ns id) (ns := ns) (d := fun _ => 0)
  unfold simT
  split
  · simp; omega
  · split
    · simp only; exact ⟨by omega, by decide⟩
    · simp only; exact ⟨by omega, g2 (by omega)⟩
section
variable {H0 H1 : AHeap} {g : Nat} {most : Int} {ns : List Nd} {F : List Nat}
theorem GT.backv {H' : AHeap} {js : List Nd} {F' : List Nat} (g0 : GT H0 g most ns F) (g1 : GT H' g most js F') (k : Fr F H0 H') {v : AV} (hv : (∃ b, v = .bool b) ∨ ∃ i, v = .int .i64 i) :
    ∃ D, back [] H0 v H' = (v, D) ∧ GT D g most js F' ∧ Fr F H0 D := by
  by_cases hs : Shut H0 H'
  · rw [back_nil (by rcases hv with ⟨b, rfl⟩ | ⟨i, rfl⟩ <;> simp) hs]
    obtain ⟨g2, -⟩ := g0.cut g1 hs
    exact ⟨_, rfl, g2, k.cutF⟩
  · rw [back_not hs]
    exact ⟨_, rfl, g1, k⟩
end
structure Mg (A : AHeap) (F : List Nat) (g : Nat) (js : List Nd) (F2 : List Nat) (B : AHeap) : Prop where
  G : GT B g 4096 js F2
  fr : Fr F A B
  new : ∀ p, p ∈ F2 → p ∈ F ∨ A.size ≤ p
section
variable {H1 : AHeap} {g : Nat} {ns : List Nd} {F : List Nat} {S : List Int}
theorem Mg.make (G : GT H1 g 4096 ns F) {n : Nd} {js : List Nd} {x er : Int} (hmk : makT 4096 ns n = (js, x, er)) {q : Option (AV × AHeap)} (hN : R Zi [.ptr g 0, .agg n.cs] H1 = q) :
    ∃ H2 F2, q = some (.tup [.int .i64 x, .int .i64 er], H2) ∧ Mg H1 F g js F2 H2 := by
  obtain ⟨H2, F2, rfl, g2, m2⟩ := GvT.go G hmk hN
  exact ⟨H2, F2, rfl, g2, m2.fr, m2.new⟩
theorem Mg.simp (G : GT H1 g 4096 ns F) (gk : Gok ns) {id z : Int} {js : List Nd} (hs : simT 4096 5000 ns id = (js, z, 0)) {q : Option (AV × AHeap)} (hN : R Zx [.ptr g 0, .int .i64 id] H1 = q) :
    ∃ H2 F2, q = some (.tup [.int .i64 z, .int .i64 0], H2) ∧ Mg H1 F g js F2 H2 := by
  obtain ⟨H2, F2, js2, rfl, g2, k2, n2, ok⟩ := simplify_run G gk (f := 5000) (by decide) hN
  rw [hs] at ok
  rw [hs]
  have hj : js2 = js := ok rfl
  rw [hj] at g2
  exact ⟨H2, F2, rfl, g2, k2, n2⟩
theorem Mg.trans {A B D : AHeap} {F2 F3 : List Nat} {js ks : List Nd} (h : Mg A F g js F2 B) (k : Mg B F2 g ks F3 D) : Mg A F g ks F3 D := by
  refine ⟨k.G, h.fr.trans k.fr h.new, fun p hp => ?_⟩
  have := h.fr.size
  rcases k.new p hp with q | q
  · exact h.new p q
  · exact .inr (by omega)
theorem Mg.keep {A B D : AHeap} {F2 : List Nat} {js : List Nd} (h : Mg A F g js F2 B) (k : Keeps B D) : Mg A F g js F2 D := ⟨h.G.keeps k, h.fr.then k, h.new⟩
theorem Mg.first {A B D : AHeap} {F2 : List Nat} {js : List Nd} (k : Keeps A B) (h : Mg B F g js F2 D) : Mg A F g js F2 D := by
  refine ⟨h.G, (k.fr F).trans h.fr fun _ hp => .inl hp, fun p hp => ?_⟩
  have := k.size
  rcases h.new p hp with q | q
  · exact .inl q
  · exact .inr (by omega)
theorem Mg.backv {A B : AHeap} {F2 : List Nat} {js : List Nd} (g0 : GT A g 4096 ns F) (h : Mg A F g js F2 B) {v : AV} (hv : (∃ b, v = .bool b) ∨ ∃ i, v = .int .i64 i) : ∃ D, back [] A v B = (v, D) ∧ Mg A F g js F2 D := by
  obtain ⟨D, h1, h2, h3⟩ := g0.backv h.G h.fr hv
  exact ⟨D, h1, h2, h3, h.new⟩
theorem to_run (G : GT H1 g 4096 ns F) (gk : Gok ns) (nrm : Nrm ns S) {n : Nd} {w : Int} (hR : Rule ns S n w) (hr : (ns.length : Int) < 4096) :
    ∃ H2 F2 t, R Zm [.ptr g 0, .agg n.cs, .int .i64 w] H1 = some (.bool true, H2) ∧ Mg H1 F g (ns ++ t) F2 H2 ∧ t.length ≤ 1 ∧ Gok (ns ++ t) ∧ Nrm (ns ++ t) S := by
  obtain ⟨k, t, hmk, hl, g2, nrm2, hsim⟩ := rule_ok (f := 4999) gk nrm hR hr
  generalize h : R Zm [.ptr g 0, .agg n.cs, .int .i64 w] H1 = r
  rw [Zhp] at h
  obtain ⟨HX, hX⟩ : ∃ HX, HX = H1.new (.cells n.cs) := ⟨_, rfl⟩
  have kX : Keeps H1 HX := by rw [hX]; exact Keeps.new _ _
  have oX : HX.obj H1.size = .cells n.cs := by rw [hX]; simp
  have lX : H1.size < HX.size := by rw [hX]; simp
  obtain ⟨cs, hcs⟩ : ∃ cs, cs = n.cs := ⟨_, rfl⟩
  have hlen : cs.length = 11 := by rw [hcs]; rfl
  rw [← hcs] at h oX hX
  simp (maxDischargeDepth := 40) [Zgd, ← hX, oX, hlen] at h
  generalize hN : R Zi _ _ = q at h
  rw [hcs] at hN
  obtain ⟨H2, F2, rfl, M2⟩ := Mg.make (G.keeps kX) hmk hN
  simp (maxDischargeDepth := 40) at h
  generalize hN : R Zx _ _ = q at h
  obtain ⟨H3, F3, rfl, M3⟩ := Mg.simp M2.G g2 hsim hN
  simp (maxDischargeDepth := 40) at h
  obtain ⟨D, b1, M4⟩ := Mg.backv G (Mg.first kX (M2.trans M3)) (v := .bool true) (.inl ⟨_, rfl⟩)
  rw [b1] at h
  exact ⟨D, F3, t, h.symm, M4, hl, g2, nrm2⟩
theorem simple_run (G : GT H1 g 4096 ns F) (gk : Gok ns) {k z : Int} {js : List Nd} (hs : simT 4096 5000 ns k = (js, z, 0)) :
    ∃ H2 F2, R Zb3 [.ptr g 0, .int .i64 k] H1 = some (.bool (decide (z = k)), H2) ∧ Mg H1 F g js F2 H2 := by
  generalize h : R Zb3 [.ptr g 0, .int .i64 k] H1 = r
  rw [Zgs] at h
  simp (maxDischargeDepth := 40) [Zfl] at h
  generalize hN : R Zx _ _ = q at h
  obtain ⟨H3, F3, rfl, M3⟩ := Mg.simp G gk hs hN
  simp (maxDischargeDepth := 40) at h
  obtain ⟨D, b1, M4⟩ := Mg.backv G M3 (v := .bool (decide (z = k))) (.inl ⟨_, rfl⟩)
  rw [b1] at h
  exact ⟨D, F3, h.symm, M4⟩
theorem number_run (G : GT H1 g 4096 ns F) (gk : Gok ns) (nrm : Nrm ns S) {s : Int} {b : BitVec 64} {v : Vl} (hok : v.ok = true) (hw : v.w = s) (hl : lo v.n = if s = 0 then b &&& 1#64 else b) (hh : hi v.n = 0#64) (hr : (ns.length : Int) < 4096) :
    ∃ H2 F2 t k, R Zbt [.ptr g 0, .int .i64 s, u b] H1 = some (.int .i64 k, H2) ∧ Mg H1 F g (ns ++ t) F2 H2 ∧ t.length ≤ 1 ∧ Gok (ns ++ t) ∧ Nrm (ns ++ t) (S ++ [k]) ∧ ndF (ns ++ t) k = constN v := by
  obtain ⟨c1, c2⟩ := con_formed (ns := ns) hok
  obtain ⟨gm, hm⟩ := mak_ok (most := 4096) gk c1 (by rw [c2])
  have hno := mak_no (n := constN v) hr
  have hl1 := makT_len (most := 4096) (ns := ns) (n := constN v)
  have hnr := fun h0 => mak_nrm (most := 4096) gk c1 (by rw [c2]) (by simp [constN]) nrm (fun k hk hk0 => by simp [constN] at hk; omega) (pathF_low (.inl rfl)) h0
  obtain ⟨X, hX⟩ : ∃ X, X = makT 4096 ns (constN v) := ⟨_, rfl⟩
  rw [← hX] at gm hm hno hl1 hnr
  obtain ⟨X1, X2, X3⟩ := X
  simp only at gm hm hno hl1 hnr
  rcases hm with ⟨rfl, ⟨t, rfl, -⟩, l1, l2, hn⟩ | ⟨he, -⟩
  rotate_left
  · exact absurd he hno
  rw [c2] at hn
  obtain ⟨hN, -⟩ := hnr rfl
  have hcs : (constN v).cs = [.int .i64 1, .int .i64 s, .int .i64 0, .int .i64 0, .int .i64 0, .int .i64 0, .int .i64 0, .int .i64 s, u (if s = 0 then b &&& 1#64 else b), u 0#64, .str .empty] := by
    rw [← hl, ← hh, ← hw]; rfl
  generalize h : R Zbt [.ptr g 0, .int .i64 s, u b] H1 = r
  rw [Zgr] at h
  have fin : ∀ HX, Keeps H1 HX → ∀ q, R Zi [.ptr g 0, .agg (constN v).cs] HX = q → ∃ H2 F2, q = some (.tup [.int .i64 X2, .int .i64 0], H2) ∧ ∃ D, back [] H1 (.int .i64 X2) H2 = (.int .i64 X2, D) ∧ Mg H1 F g (ns ++ t) F2 D := fun HX kX q hq => by
    obtain ⟨H2, F2, rfl, M2⟩ := Mg.make (G.keeps kX) hX.symm hq
    obtain ⟨D, b1, M4⟩ := Mg.backv G (Mg.first kX M2) (v := .int .i64 X2) (.inr ⟨_, rfl⟩)
    exact ⟨H2, F2, rfl, D, b1, M4⟩
  rw [hcs] at fin
  by_cases c : s = 0
  · subst c
    obtain ⟨HX, hHX⟩ : ∃ HX, HX = ((H1.new (.cells [.int .i64 0, u 0#64, u 0#64])).set H1.size (.cells [.int .i64 0, u b, u 0#64])).set H1.size (.cells [.int .i64 0, u (b &&& 1#64), u 0#64]) := ⟨_, rfl⟩
    have kX : Keeps H1 HX := by rw [hHX]; ((repeat (first | exact Keeps.refl _ | assumption | refine Keeps.new' ?_ _ | refine Keeps.set ?_ ?_ _)) <;> (first | assumption | (simp; done) | (simp; omega)))
    have oX : HX.obj H1.size = .cells [.int .i64 0, u (b &&& 1#64), u 0#64] := by rw [hHX]; simp
    have lX : H1.size < HX.size := by rw [hHX]; simp
    simp (maxDischargeDepth := 40) [Zej, ← hHX, oX] at h
    generalize hN : R Zi _ _ = q at h
    obtain ⟨H2, F2, rfl, D, b1, M⟩ := fin HX kX q (by rw [if_pos rfl]; exact hN)
    simp (maxDischargeDepth := 40) at h
    rw [b1] at h
    exact ⟨D, F2, t, X2, h.symm, M, by simp at hl1; omega, gm, by assumption, hn⟩
  · obtain ⟨HX, hHX⟩ : ∃ HX, HX = (H1.new (.cells [.int .i64 0, u 0#64, u 0#64])).set H1.size (.cells [.int .i64 s, u b, u 0#64]) := ⟨_, rfl⟩
    have kX : Keeps H1 HX := by rw [hHX]; ((repeat (first | exact Keeps.refl _ | assumption | refine Keeps.new' ?_ _ | refine Keeps.set ?_ ?_ _)) <;> (first | assumption | (simp; done) | (simp; omega)))
    have oX : HX.obj H1.size = .cells [.int .i64 s, u b, u 0#64] := by rw [hHX]; simp
    have lX : H1.size < HX.size := by rw [hHX]; simp
    simp (maxDischargeDepth := 40) [Zej, ← hHX, oX, eq_false c] at h
    generalize hN : R Zi _ _ = q at h
    obtain ⟨H2, F2, rfl, D, b1, M⟩ := fin HX kX q (by rw [if_neg c]; exact hN)
    simp (maxDischargeDepth := 40) at h
    rw [b1] at h
    exact ⟨D, F2, t, X2, h.symm, M, by simp at hl1; omega, gm, by assumption, hn⟩
end
end Go.Proofs.Ytiobohfiaapgeaa
end
section
namespace Go.Proofs.Ytiobohfiaapgeaa
set_option maxRecDepth 100000
set_option maxHeartbeats 8000000
structure Rs (A : AHeap) (F0 : List Nat) (g : Nat) (P : List Nd → List Int → Prop) (b : Nat) (H1 : AHeap) : Prop where
  ex : ∃ ns F S, Mg A F0 g ns F H1 ∧ Gok ns ∧ Nrm ns S ∧ P ns S ∧ ns.length ≤ b
def Mono (P : List Nd → List Int → Prop) : Prop := ∀ ns t S T, Gok ns → Nrm ns S → P ns S → Gok (ns ++ t) → Nrm (ns ++ t) (S ++ T) → P (ns ++ t) (S ++ T)
theorem Mono.and {P Q : List Nd → List Int → Prop} (h : Mono P) (k : Mono Q) : Mono fun ns S => P ns S ∧ Q ns S := fun ns t S T a b c d e => ⟨h ns t S T a b c.1 d e, k ns t S T a b c.2 d e⟩
theorem Mono.node (id : Int) (n : Nd) : Mono fun ns S => id ∈ S ∧ ndF ns id = n := fun ns t S T _ b c _ _ => ⟨List.mem_append_left _ c.1, by rw [ndF_le (b.hi id c.1)]; exact c.2⟩
theorem Mono.mem (id : Int) : Mono fun _ S => id ∈ S := fun _ _ _ _ _ _ c _ _ => List.mem_append_left _ c
theorem Mono.notAt (op x s k : Int) : Mono fun ns _ => NotAt ns op x s k := fun _ t _ _ _ _ c _ _ => c.more t
theorem Mono.len (L : Int) : Mono fun ns _ => L ≤ ns.length := fun ns t _ _ _ _ c _ _ => by simp; omega
theorem Mono.cx (x zero one yes no N : Int) : Mono fun ns S => Cx ns S x zero one yes no N := fun ns t S T _ _ c d e => by
  have C := c.more d
  have m : ∀ {y}, y ∈ S → y ∈ S ++ T := fun h => List.mem_append_left _ h
  exact ⟨d, e, m C.sx, m C.s0, m C.s1, m C.sy, m C.sn, C.xs, C.z0, C.z1, C.zy, C.zn, C.h1, C.h2⟩
theorem Mono.cb (x yes no : Int) : Mono fun ns S => Cb ns S x yes no := fun ns t S T _ _ c d e => by
  have C := c.more d
  have m : ∀ {y}, y ∈ S → y ∈ S ++ T := fun h => List.mem_append_left _ h
  exact ⟨d, e, m C.sx, m C.sy, m C.sn, C.xs, C.zy, C.zn⟩
section
variable {A H1 : AHeap} {F0 : List Nat} {g : Nat} {P : List Nd → List Int → Prop} {b : Nat}
theorem Rs.map {Q : List Nd → List Int → Prop} (h : Rs A F0 g P b H1) (k : ∀ ns S, Gok ns → Nrm ns S → P ns S → Q ns S) : Rs A F0 g Q b H1 := by
  obtain ⟨ns, F, S, M, gk, nrm, hp, hl⟩ := h.ex
  exact ⟨ns, F, S, M, gk, nrm, k ns S gk nrm hp, hl⟩
theorem Rs.wide {c : Nat} (h : Rs A F0 g P b H1) (hc : b ≤ c) : Rs A F0 g P c H1 := by
  obtain ⟨ns, F, S, M, gk, nrm, hp, hl⟩ := h.ex
  exact ⟨ns, F, S, M, gk, nrm, hp, by omega⟩
theorem Rs.keep {H2 : AHeap} (h : Rs A F0 g P b H1) (k : Keeps H1 H2) : Rs A F0 g P b H2 := by
  obtain ⟨ns, F, S, M, gk, nrm, hp, hl⟩ := h.ex
  exact ⟨ns, F, S, M.keep k, gk, nrm, hp, hl⟩
theorem Rs.fr (h : Rs A F0 g P b H1) : Fr F0 A H1 := by
  obtain ⟨ns, F, S, M, -⟩ := h.ex
  exact M.fr
theorem Rs.rebase (h : Rs A F0 g P b H1) : ∃ F, (Rs H1 F g P b H1 ∧ ∀ p, p ∈ F → p < H1.size ∧ (p ∈ F0 ∨ A.size ≤ p)) := by
  obtain ⟨ns, F, S, M, gk, nrm, hp, hl⟩ := h.ex
  exact ⟨F, ⟨ns, F, S, ⟨M.G, Fr.refl _ _, fun p hp => .inl hp⟩, gk, nrm, hp, hl⟩, fun p hp => ⟨M.G.ltF hp, M.new p hp⟩⟩
theorem Rs.backv (h : Rs H1 F0 g P b H1) {Q : List Nd → List Int → Prop} {c : Nat} {H2 : AHeap} (k : Rs H1 F0 g Q c H2) {v : AV} (hv : (∃ b, v = .bool b) ∨ ∃ i, v = .int .i64 i) : ∃ D, back [] H1 v H2 = (v, D) ∧ Rs H1 F0 g Q c D := by
  obtain ⟨ns, F, S, M, gk, nrm, hp, hl⟩ := k.ex
  obtain ⟨ns0, F1, S0, M0, -⟩ := h.ex
  by_cases hs : Shut H1 H2
  · rw [back_nil (by rcases hv with ⟨b, rfl⟩ | ⟨i, rfl⟩ <;> simp) hs]
    obtain ⟨g2, -⟩ := M0.G.cut M.G hs
    exact ⟨_, rfl, ns, F, S, ⟨g2, M.fr.cutF, M.new⟩, gk, nrm, hp, hl⟩
  · rw [back_not hs]
    exact ⟨_, rfl, k⟩
theorem Rs.to (h : Rs A F0 g P b H1) (hP : Mono P) {n : Nd} {w : Int} (hR : ∀ ns S, Gok ns → Nrm ns S → P ns S → Rule ns S n w) (hb : b < 4096) :
    ∃ H2, R Zm [.ptr g 0, .agg n.cs, .int .i64 w] H1 = some (.bool true, H2) ∧ Rs A F0 g P (b + 1) H2 := by
  obtain ⟨ns, F, S, M, gk, nrm, hp, hl⟩ := h.ex
  obtain ⟨H2, F2, t, h1, M2, tl, g2, n2⟩ := to_run M.G gk nrm (hR ns S gk nrm hp) (by omega)
  exact ⟨H2, h1, ns ++ t, F2, S, M.trans M2, g2, n2, by simpa using hP ns t S [] gk nrm hp g2 (by simpa using n2), by simp; omega⟩
theorem Rs.make (h : Rs A F0 g P b H1) (hP : Mono P) {op x s : Int} (ho : op = 3 ∨ op = 10 ∨ op = 11) (hf : ∀ ns S, Gok ns → Nrm ns S → P ns S → formedF ns.length (nodeO op x 0 0 0 0) = true ∧ (sortedF ns (nodeO op x 0 0 0 0)).2 = 0 ∧ (sortedF ns (nodeO op x 0 0 0 0)).1.sort = s) (hb : b < 4096) :
    ∃ k H2, R Zi [.ptr g 0, .agg (nodeO op x 0 0 0 0).cs] H1 = some (.tup [.int .i64 k, .int .i64 0], H2) ∧ Rs A F0 g (fun ns S => P ns S ∧ NotAt ns op x s k) (b + 1) H2 := by
  obtain ⟨ns, F, S, M, gk, nrm, hp, hl⟩ := h.ex
  obtain ⟨t, k, hmk, tl, g2, na⟩ := not_made (most := 4096) gk ho (hf ns S gk nrm hp) (by omega)
  obtain ⟨H2, F2, h1, M2⟩ := Mg.make M.G hmk rfl
  have n2 := nrm.more gk rfl (t := t)
  exact ⟨k, H2, h1, ns ++ t, F2, S, M.trans M2, g2, n2, ⟨by simpa using hP ns t S [] gk nrm hp g2 (by simpa using n2), na⟩, by simp; omega⟩
theorem Rs.simple (h : Rs A F0 g P b H1) (hP : Mono P) {op x s k : Int} (ho : op = 3 ∨ op = 10 ∨ op = 11) (hk : ∀ ns S, Gok ns → Nrm ns S → P ns S → NotAt ns op x s k ∧ x ∈ S ∧ formedF ns.length (nodeO op k 0 0 0 0) = true ∧ (sortedF ns (nodeO op k 0 0 0 0)).2 = 0) (hb : b + 1 < 4096) :
    ∃ H2 bs, R Zb3 [.ptr g 0, .int .i64 k] H1 = some (.bool bs, H2) ∧ Rs A F0 g P (b + 1) H2 ∧ (bs = true → ∃ H3, R Zm [.ptr g 0, .agg (nodeO op k 0 0 0 0).cs, .int .i64 x] H2 = some (.bool true, H3) ∧ Rs A F0 g P (b + 2) H3) := by
  obtain ⟨ns, F, S, M, gk, nrm, hp, hl⟩ := h.ex
  obtain ⟨q1, q2, -⟩ := hk ns S gk nrm hp
  obtain ⟨t, z, hs, tl, g2, hz⟩ := not_simple (most := 4096) (f := 4999) gk nrm ho q1 q2 (by omega)
  obtain ⟨H2, F2, h1, M2⟩ := simple_run M.G gk hs
  have n2 := nrm.more gk rfl (t := t)
  have p2 : P (ns ++ t) S := by simpa using hP ns t S [] gk nrm hp g2 (by simpa using n2)
  have hl2 : (ns ++ t).length ≤ b + 1 := by simp; omega
  refine ⟨H2, decide (z = k), h1, ⟨ns ++ t, F2, S, M.trans M2, g2, n2, p2, hl2⟩, fun hd => ?_⟩
  have hd := of_decide_eq_true hd
  have n3 := hz hd
  obtain ⟨r1, r2, r3⟩ := hk (ns ++ t) S g2 n2 p2
  obtain ⟨H3, F3, t', h3, M3, tl', g3, n4⟩ := to_run M2.G g2 n3 (not_rule g2 n3 ho r1 r2 r3) (by omega)
  have n5 := n2.more g2 rfl (t := t')
  exact ⟨H3, h3, ns ++ t ++ t', F3, S, (M.trans M2).trans M3, g3, n5, by simpa using hP (ns ++ t) t' S [] g2 n2 p2 g3 (by simpa using n5), by simp at hl2 ⊢; omega⟩
theorem Rs.number (h : Rs A F0 g P b H1) (hP : Mono P) {s : Int} {w : BitVec 64} {v : Vl} (hok : v.ok = true) (hw : v.w = s) (hlo : lo v.n = if s = 0 then w &&& 1#64 else w) (hh : hi v.n = 0#64) (hb : b < 4096) :
    ∃ k H2, R Zbt [.ptr g 0, .int .i64 s, u w] H1 = some (.int .i64 k, H2) ∧ Rs A F0 g (fun ns S => P ns S ∧ (k ∈ S ∧ ndF ns k = constN v)) (b + 1) H2 := by
  obtain ⟨ns, F, S, M, gk, nrm, hp, hl⟩ := h.ex
  obtain ⟨H2, F2, t, k, h1, M2, tl, g2, n2, hk⟩ := number_run M.G gk nrm hok hw hlo hh (by omega)
  exact ⟨k, H2, h1, ns ++ t, F2, S ++ [k], M.trans M2, g2, n2, ⟨hP ns t S [k] gk nrm hp g2 n2, by simp, hk⟩, by simp; omega⟩
theorem Rs.simp (h : Rs A F0 g P b H1) (hP : Mono P) {J : Int} (hJ : ∀ ns S, Gok ns → Nrm ns S → P ns S → 1 ≤ J ∧ J ≤ ns.length) (hb : 3 * b ≤ 4096) :
    ∃ z H2, R Zx [.ptr g 0, .int .i64 J] H1 = some (.tup [.int .i64 z, .int .i64 0], H2) ∧ Rs A F0 g (fun ns S => P ns S ∧ z ∈ S) (3 * b) H2 := by
  obtain ⟨ns, F, S, M, gk, nrm, hp, hl⟩ := h.ex
  obtain ⟨j1, j2⟩ := hJ ns S gk nrm hp
  obtain ⟨g1, g2⟩ := simT_grow (most := 4096) (f := 5000) (ns := ns) (id := J) (by omega)
  have hlim := M.G.lim
  rcases simT_ok (most := 4096) (f := 5000) gk j1 j2 (Int.le_refl _) hlim.1 (by decide) with ⟨h0, SS⟩ | h33
  rotate_left
  · exact absurd h33 g2
  obtain ⟨T, hT⟩ := simT_few (most := 4096) (f := 5000) gk j1 j2 (Int.le_refl _) hlim.1 (by decide) h0
  obtain ⟨t, ht, -⟩ := SS.more
  have hsim : simT 4096 5000 ns J = (ns ++ t, (simT 4096 5000 ns J).2.1, 0) := by rw [← ht, ← h0]
  obtain ⟨H2, F2, h1, M2⟩ := Mg.simp M.G gk hsim rfl
  have gg := SS.gok
  have nn := hT.nrm
  rw [ht] at gg nn g1
  have n2 := (nrm.more gk rfl (t := t)).union nn
  exact ⟨_, H2, h1, ns ++ t, F2, S ++ T, M.trans M2, gg, n2, ⟨hP ns t S T gk nrm hp gg n2, List.mem_append_right _ hT.did⟩, by omega⟩
theorem Rs.node (h : Rs A F0 g P b H1) {id : Int} (hid : ∀ ns S, Gok ns → Nrm ns S → P ns S → id ∈ S) : ∃ n bb, R Zp [.ptr g 0, .int .i64 id] H1 = some (.tup [.agg n.cs, .bool bb], H1) ∧ Rs A F0 g (fun ns S => P ns S ∧ (id ∈ S ∧ ndF ns id = n)) b H1 := by
  obtain ⟨ns, F, S, M, gk, nrm, hp, hl⟩ := h.ex
  have hn : R Zp [.ptr g 0, .int .i64 id] H1 = some (.tup [.agg (ndF ns id).cs, .bool (nodeS ns id).isSome], H1) := by
    obtain ⟨o1, o2, o3, t, -⟩ := M.G
    exact node_run t
  exact ⟨_, _, hn, ns, F, S, M, gk, nrm, ⟨hp, hid ns S gk nrm hp, rfl⟩, hl⟩
theorem Rs.len (h : Rs A F0 g P b H1) (hq : ∀ ns S, Gok ns → Nrm ns S → P ns S → 0 < ns.length) : ∃ L : Nat, R Z9 [.ptr g 0] H1 = some (.int .i64 L, H1) ∧ 0 < L ∧ L ≤ b ∧ Rs A F0 g (fun ns S => P ns S ∧ (L : Int) ≤ ns.length) b H1 := by
  obtain ⟨ns, F, S, M, gk, nrm, hp, hl⟩ := h.ex
  have hn : R Z9 [.ptr g 0] H1 = some (.int .i64 ns.length, H1) := by
    obtain ⟨o1, o2, o3, t, -⟩ := M.G
    exact len_run t
  exact ⟨_, hn, hq ns S gk nrm hp, hl, ns, F, S, M, gk, nrm, ⟨hp, Int.le_refl _⟩, hl⟩
theorem Rs.rebase2 (h : Rs A F0 g P b H1) : ∃ F, (∀ p, p ∈ F → p < H1.size ∧ (p ∈ F0 ∨ A.size ≤ p)) ∧ ∀ HX, Keeps H1 HX → Rs HX F g P b HX := by
  obtain ⟨ns, F, S, M, gk, nrm, hp, hl⟩ := h.ex
  exact ⟨F, fun p hp => ⟨M.G.ltF hp, M.new p hp⟩, fun HX k => ⟨ns, F, S, ⟨M.G.keeps k, Fr.refl _ _, fun p hp => .inl hp⟩, gk, nrm, hp, hl⟩⟩
end
theorem rbools_run {A H1 : AHeap} {F0 : List Nat} {g : Nat} {P : List Nd → List Int → Prop} {b : Nat} (h : Rs A F0 g P b H1) {x yes no : Int} (hC : ∀ ns S, Gok ns → Nrm ns S → P ns S → Cb ns S x yes no) (hb : b + 20 < 4096) :
    ∃ H2, R Zc7 [.ptr g 0, .int .i64 x, .int .i64 yes, .int .i64 no] H1 = some (.bool true, H2) ∧ Fr F0 A H2 := by
  obtain ⟨F, h0, hF⟩ := (h.map hC).rebase
  have mc := Mono.cb x yes no
  have srt : ∀ ns S, Cb ns S x yes no → formedF ns.length (nodeO 3 x 0 0 0 0) = true ∧ (sortedF ns (nodeO 3 x 0 0 0 0)).2 = 0 ∧ (sortedF ns (nodeO 3 x 0 0 0 0)).1.sort = 0 := fun ns S C => by
    obtain ⟨q1, q2⟩ := sorted_not (C.nrm.lo x C.sx) (C.nrm.hi x C.sx) C.xs
    rw [q2]
    exact ⟨q1, rfl, rfl⟩
  obtain ⟨k, B1, m1, S1⟩ := h0.make mc (op := 3) (x := x) (s := 0) (.inl rfl) (fun ns S _ _ C => srt ns S C) (by omega)
  have mn := mc.and (Mono.notAt 3 x 0 k)
  obtain ⟨B2, m2, S2⟩ := S1.to mn (n := nodeO 4 x yes 0 0 0) (w := x) (fun ns S _ _ C => C.1.r_log (.inl ⟨rfl, rfl, rfl, rfl⟩)) (by omega)
  obtain ⟨B3, m3, S3⟩ := S2.to mn (n := nodeO 4 no x 0 0 0) (w := no) (fun ns S _ _ C => C.1.r_log (.inr (.inl ⟨rfl, rfl, rfl, rfl⟩))) (by omega)
  obtain ⟨B4, m4, S4⟩ := S3.to mn (n := nodeO 5 x no 0 0 0) (w := x) (fun ns S _ _ C => C.1.r_log (.inr (.inr (.inl ⟨rfl, rfl, rfl, rfl⟩)))) (by omega)
  obtain ⟨B5, m5, S5⟩ := S4.to mn (n := nodeO 5 yes x 0 0 0) (w := yes) (fun ns S _ _ C => C.1.r_log (.inr (.inr (.inr ⟨rfl, rfl, rfl, rfl⟩)))) (by omega)
  obtain ⟨B6, m6, S6⟩ := S5.to mn (n := nodeO 4 x x 0 0 0) (w := x) (fun ns S _ _ C => C.1.r_self (.inl ⟨.inl rfl, rfl⟩)) (by omega)
  obtain ⟨B7, m7, S7⟩ := S6.to mn (n := nodeO 5 x x 0 0 0) (w := x) (fun ns S _ _ C => C.1.r_self (.inl ⟨.inr rfl, rfl⟩)) (by omega)
  obtain ⟨B8, m8, S8⟩ := S7.to mn (n := nodeO 6 x x 0 0 0) (w := no) (fun ns S _ _ C => C.1.r_self (.inr (.inl ⟨rfl, rfl⟩))) (by omega)
  obtain ⟨B9, m9, S9⟩ := S8.to mn (n := nodeO 8 x x 0 0 0) (w := yes) (fun ns S _ _ C => C.1.r_self (.inr (.inr ⟨rfl, rfl⟩))) (by omega)
  obtain ⟨B10, bs, m10, S10, hbs⟩ := S9.simple mn (op := 3) (x := x) (s := 0) (k := k) (.inl rfl) (fun ns S _ _ C => ⟨C.2, C.1.sx, by
    obtain ⟨q1, q2⟩ := sorted_not C.2.lo C.2.hi C.2.srt
    rw [q2]
    exact ⟨q1, rfl⟩⟩) (by omega)
  generalize hr : R Zc7 [.ptr g 0, .int .i64 x, .int .i64 yes, .int .i64 no] H1 = r
  rw [Zgz] at hr
  simp only [Nd.cs, nodeO] at m1 m2 m3 m4 m5 m6 m7 m8 m9
  have ite : ∀ {c : Nat} {B : AHeap}, Rs H1 F g (fun ns S => Cb ns S x yes no ∧ NotAt ns 3 x 0 k) c B → c < 4096 → ∃ B', R Zm [.ptr g 0, .agg (nodeO 9 yes x no 0 0).cs, .int .i64 x] B = some (.bool true, B') ∧ Rs H1 F g (fun ns S => Cb ns S x yes no ∧ NotAt ns 3 x 0 k) (c + 1) B' := fun SB hc => SB.to mn (n := nodeO 9 yes x no 0 0) (w := x) (fun ns S _ _ C => C.1.r_ite) hc
  cases bs with
  | false =>
    obtain ⟨B12, m12, S12⟩ := ite S10 (by omega)
    simp only [Nd.cs, nodeO] at m12
    simp (maxDischargeDepth := 40) [Zep, m1, m2, m3, m4, m5, m6, m7, m8, m9, m10, m12] at hr
    obtain ⟨D, b1, SD⟩ := h0.backv S12 (v := .bool true) (.inl ⟨_, rfl⟩)
    rw [b1] at hr
    exact ⟨D, hr.symm, h.fr.trans SD.fr fun p hp => (hF p hp).2⟩
  | true =>
    obtain ⟨B11, m11, S11⟩ := hbs rfl
    obtain ⟨B12, m12, S12⟩ := ite S11 (by omega)
    simp only [Nd.cs, nodeO] at m11 m12
    simp (maxDischargeDepth := 40) [Zep, m1, m2, m3, m4, m5, m6, m7, m8, m9, m10, m11, m12] at hr
    obtain ⟨D, b1, SD⟩ := h0.backv S12 (v := .bool true) (.inl ⟨_, rfl⟩)
    rw [b1] at hr
    exact ⟨D, hr.symm, h.fr.trans SD.fr fun p hp => (hF p hp).2⟩
end Go.Proofs.Ytiobohfiaapgeaa
end
section
namespace Go.Proofs.Ytiobohfiaapgeaa
set_option maxRecDepth 100000
set_option maxHeartbeats 8000000
theorem of_one {n : Nat} (h1 : 1 ≤ n) : Vl.of (1#n) = ⟨n, 1#128⟩ := by
  unfold Vl.of
  have : E (1#n) = 1#128 := by
    unfold E
    apply BitVec.eq_of_toNat_eq
    have h1 : 1 % 2 ^ n = 1 := Nat.mod_eq_of_lt (Nat.one_lt_two_pow (by omega))
    simp [h1]
  rw [this]
theorem shift_loop {A H1 : AHeap} {F0 : List Nat} {g : Nat} {b : Nat} {x zero one yes no N : Int} (h : Rs A F0 g (fun ns S => Cx ns S x zero one yes no N) b H1) (hb : b + 3 < 4096) {e : Env} {r : Rn}
    (hL : loopL Try.prog KT R Zb1 e H1 = r) (e7 : e 7 = some (.ptr g 0)) (e8 : e 8 = some (.bool true)) (e9 : e 9 = some (.int .i64 x)) (e19 : e 19 = some (.int .i64 zero)) (e21 : e 21 = some (.int .i64 26)) :
    ∃ y e' H', r = some (y, e', H') ∧ (y = .exit 0 ∧ e' 8 = some (.bool true) ∧ Rs A F0 g (fun ns S => Cx ns S x zero one yes no N) (b + 3) H') ∧ ∀ t, t ∉ defs Zb1 → e' t = e t := by
  have mc := Mono.cx x zero one yes no N
  refine loop_count Zb1.eq_1 hL 3 (fun i e1 H2 => e1 21 = some (.int .i64 (26 + (i : Int))) ∧ e1 8 = some (.bool true) ∧ Rs A F0 g (fun ns S => Cx ns S x zero one yes no N) (b + i) H2) _ 0 (by omega) ⟨e21, e8, h⟩ ?_ ?_
  · rintro i f H2 hf - hi ⟨f21, f8, R2⟩
    have hop : (26 + (i : Int)) = 13 ∨ (26 + (i : Int)) = 14 ∨ (26 + (i : Int)) = 18 ∨ (26 + (i : Int)) = 19 ∨ (26 + (i : Int)) = 26 ∨ (26 + (i : Int)) = 27 ∨ (26 + (i : Int)) = 28 := by omega
    obtain ⟨H3, m1, R3⟩ := R2.to mc (n := nodeO (26 + (i : Int)) x zero 0 0 0) (w := x) (fun ns S _ _ C => C.r_keep_r hop) (by omega)
    simp only [Nd.cs, nodeO] at m1
    have e0 : (26 + ((i + 1 : Nat) : Int)) = 26 + (i : Int) + 1 := by omega
    rw [e0]
    obtain ⟨o, ho⟩ : ∃ o : Int, o = 26 + (i : Int) := ⟨_, rfl⟩
    rw [← ho] at f21 m1 ⊢
    have c1 : o ≤ 28 := by omega
    have w1 : IntKind.i64.wrap (o + 1) = o + 1 := i64w (by omega) (by omega)
    simp (maxDischargeDepth := 40) [hf, e7, f8, e9, e19, f21, c1, m1, w1]
    exact R3
  · rintro f H2 hf ⟨f21, f8, R2⟩
    simp [f21, f8]
    exact R2
theorem cmp_loop {A H1 : AHeap} {F0 : List Nat} {g : Nat} {b : Nat} {x zero one yes no N : Int} (h : Rs A F0 g (fun ns S => Cx ns S x zero one yes no N) b H1) (hb : b + 8 < 4096) {e : Env} {r : Rn}
    (hL : loopL Try.prog KT R Zb2 e H1 = r) (e7 : e 7 = some (.ptr g 0)) (e8 : e 8 = some (.bool true)) (e9 : e 9 = some (.int .i64 x)) (e13 : e 13 = some (.int .i64 yes)) (e14 : e 14 = some (.int .i64 no)) (e22 : e 22 = some (.int .i64 0)) :
    ∃ y e' H', r = some (y, e', H') ∧ (y = .exit 2 ∧ e' 8 = some (.bool true) ∧ Rs A F0 g (fun ns S => Cx ns S x zero one yes no N) (b + 8) H') ∧ ∀ t, t ∉ defs Zb2 → e' t = e t := by
  have mc := Mono.cx x zero one yes no N
  refine loop_count Zb2.eq_1 hL 8 (fun i e1 H2 => e1 22 = some (.int .i64 (i : Int)) ∧ e1 8 = some (.bool true) ∧ Rs A F0 g (fun ns S => Cx ns S x zero one yes no N) (b + i) H2) _ 0 (by omega) ⟨e22, e8, h⟩ ?_ ?_
  · rintro i f H2 hf - hi ⟨f22, f8, R2⟩
    obtain ⟨H3, m1, R3⟩ := R2.to mc (n := nodeO (29 + (i : Int)) x x 0 0 0) (w := if (29 + (i : Int)) = 30 ∨ (29 + (i : Int)) = 32 ∨ (29 + (i : Int)) = 34 ∨ (29 + (i : Int)) = 36 then yes else no) (fun ns S _ _ C => C.r_cmp (by omega) (by omega)) (by omega)
    simp only [Nd.cs, nodeO] at m1
    have w1 : IntKind.i64.wrap ((i : Int) + 1) = (i : Int) + 1 := i64w (by omega) (by omega)
    rcases (by omega : i = 0 ∨ i = 1 ∨ i = 2 ∨ i = 3 ∨ i = 4 ∨ i = 5 ∨ i = 6 ∨ i = 7) with rfl | rfl | rfl | rfl | rfl | rfl | rfl | rfl
    all_goals
      simp at m1 f22
      simp (maxDischargeDepth := 40) [hf, e7, f8, e9, e13, e14, f22, m1]
      exact R3
  · rintro f H2 hf ⟨f22, f8, R2⟩
    simp [f22, f8]
    exact R2
end Go.Proofs.Ytiobohfiaapgeaa
end
section
namespace Go.Proofs.Ytiobohfiaapgeaa
set_option maxRecDepth 100000
set_option maxHeartbeats 4000000
theorem AllFit.less {look : ByteArray → Option Vl} {ns t : List Nd} (h : AllFit look (ns ++ t)) : AllFit look ns := fun i n hn h2 => h i n (by rw [List.getElem?_append_left (List.getElem?_eq_some_iff.1 hn).1]; exact hn) h2
end Go.Proofs.Ytiobohfiaapgeaa
end
section
namespace Go.Proofs.Ytiobohfiaapgeaa
set_option maxRecDepth 100000
set_option maxHeartbeats 16000000
theorem cx_of {ns : List Nd} {S : List Int} {x zero one yes no N : Int} (g : Gok ns) (nrm : Nrm ns S) (hx : x ∈ S) (hs : (ndF ns x).sort = N) (h1 : 1 ≤ N) (h2 : N ≤ 128) (y : yes ∈ S ∧ ndF ns yes = constN (Vl.bool true)) (n : no ∈ S ∧ ndF ns no = constN (Vl.bool false)) (z : zero ∈ S ∧ ndF ns zero = constN ⟨N, 0#128⟩) (o : one ∈ S ∧ ndF ns one = constN ⟨N, 1#128⟩) : Cx ns S x zero one yes no N := ⟨g, nrm, hx, z.1, o.1, y.1, n.1, hs, z.2, o.2, y.2, n.2, h1, h2⟩
theorem sort_in {ns : List Nd} (g : Gok ns) {k : Int} (h1 : 1 ≤ k) (h2 : k ≤ ns.length) (h0 : ¬ (ndF ns k).sort = 0) : 1 ≤ (ndF ns k).sort ∧ (ndF ns k).sort ≤ 128 := by
  obtain ⟨look, hA⟩ := look_any g
  have K := kid_ok g hA h1 h2
  obtain ⟨n, X, n1, n2, e⟩ := isWd_of K.ok (by rw [K.w]; exact h0)
  have : (ndF ns k).sort = n := by rw [← K.w, e]; rfl
  omega
theorem rules_run {H : AHeap} {l : List Nd} {id other : Int} : R Zbn [NL l, .int .i64 id, .int .i64 other] H = some (.bool true, H) := by
  generalize h : R Zbn [NL l, .int .i64 id, .int .i64 other] H = r
  rw [Zfq] at h
  have hkn := fun H => known7_run (H := H)
  simp (maxDischargeDepth := 40) [Zee, hkn] at h
  generalize hM : R Zde _ _ = q at h
  rcases made7_run hM with ⟨p, rfl⟩ | ⟨g, ns, F, H1, rfl, G1, k1, f1, gok, h60⟩
  · simp at h; exact h.symm
  by_cases c0 : 0 < ns.length
  rotate_left
  · simp (maxDischargeDepth := 40) [c0, k1] at h; exact h.symm
  have hl1 : R Z9 [.ptr g 0] H1 = some (.int .i64 ns.length, H1) := by
    obtain ⟨o1, o2, o3, t, -⟩ := G1
    exact len_run t
  have hpl := fun H => place_run (k := id) (n := ns.length) (by omega) (by omega) (H := H)
  have hm0 := Int.emod_nonneg id (by omega : (ns.length : Int) ≠ 0)
  have hm1 := Int.emod_lt_of_pos id (by omega : 0 < (ns.length : Int))
  have w1 : IntKind.i64.wrap (1 + id % ns.length) = 1 + id % ns.length := i64w (by omega) (by omega)
  obtain ⟨P0, hP0⟩ : ∃ P0 : List Nd → List Int → Prop, P0 = fun ms _ => (ns.length : Int) ≤ ms.length := ⟨_, rfl⟩
  have m0 : Mono P0 := by rw [hP0]; exact Mono.len _
  have R0 : Rs H1 F g P0 60 H1 := ⟨ns, F, [], ⟨G1, Fr.refl _ _, fun p hp => .inl hp⟩, gok, Nrm.nil ns, by rw [hP0]; exact Int.le_refl _, h60⟩
  obtain ⟨x, H2, e1, R1⟩ := R0.simp m0 (J := 1 + id % ns.length) (fun ms S _ _ hp => by rw [hP0] at hp; omega) (by omega)
  have kH2 : Keeps H H2 := R1.fr.keeps k1 f1
  obtain ⟨n, bb, e2, R2⟩ := R1.node (id := x) (fun _ _ _ _ hp => hp.2)
  simp only [Nd.parts'] at e2
  obtain ⟨F2, hF2, hR2⟩ := R2.rebase2
  obtain ⟨HX, hX⟩ : ∃ HX, HX = (H2.new (.cells [.int .i64 0, .int .i64 0, .int .i64 0, .int .i64 0, .int .i64 0, .int .i64 0, .int .i64 0, .int .i64 0, u 0#64, u 0#64, .str .empty])).set H2.size (.cells [.int .i64 n.op, .int .i64 n.sort, .int .i64 n.a, .int .i64 n.b, .int .i64 n.c, .int .i64 n.p, .int .i64 n.q, .int .i64 n.vw, u n.vl, u n.vh, .str n.name]) := ⟨_, rfl⟩
  have kX : Keeps H2 HX := by rw [hX]; ((repeat (first | exact Keeps.refl _ | assumption | refine Keeps.new' ?_ _ | refine Keeps.set ?_ ?_ _)) <;> (first | assumption | (simp; done) | (simp; omega)))
  have oX : HX.obj H2.size = .cells [.int .i64 n.op, .int .i64 n.sort, .int .i64 n.a, .int .i64 n.b, .int .i64 n.c, .int .i64 n.p, .int .i64 n.q, .int .i64 n.vw, u n.vl, u n.vh, .str n.name] := by rw [hX]; simp
  have lX : H2.size < HX.size := by rw [hX]; simp
  have oF : ¬ H2.size ∈ F2 := fun hp => by have := (hF2 _ hp).1; omega
  have RX := hR2 HX kX
  have keepH : ∀ Hk, Fr F2 HX Hk → Keeps H Hk := fun Hk k => k.keeps (kH2.trans kX) fun p hp => by
    have hs1 := k1.size
    rcases (hF2 p hp).2 with q | q
    · exact f1 p q
    · omega
  have obj : ∀ Hk, Fr F2 HX Hk → Hk.obj H2.size = .cells [.int .i64 n.op, .int .i64 n.sort, .int .i64 n.a, .int .i64 n.b, .int .i64 n.c, .int .i64 n.p, .int .i64 n.q, .int .i64 n.vw, u n.vl, u n.vh, .str n.name] ∧ H2.size < Hk.size := fun Hk k => ⟨by rw [k.obj _ lX oF]; exact oX, k.lt lX⟩
  have ma := (m0.and (Mono.mem x)).and (Mono.node x n)
  obtain ⟨yes, H3, e3, R3⟩ := RX.number ma (s := 0) (w := 1#64) (v := Vl.bool true) (by decide) (by rfl) (by decide) (by decide) (by omega)
  have mb := ma.and (Mono.node yes (constN (Vl.bool true)))
  obtain ⟨no, H4, e4, R4⟩ := R3.number mb (s := 0) (w := 0#64) (v := Vl.bool false) (by decide) (by rfl) (by decide) (by decide) (by omega)
  have mc := mb.and (Mono.node no (constN (Vl.bool false)))
  obtain ⟨o4, l4⟩ := obj H4 R4.fr
  obtain ⟨HXn, hXn⟩ : ∃ HXn, HXn = H2.new (.cells [.int .i64 0, .int .i64 0, .int .i64 0, .int .i64 0, .int .i64 0, .int .i64 0, .int .i64 0, .int .i64 0, u 0#64, u 0#64, .str .empty]) := ⟨_, rfl⟩
  simp (maxDischargeDepth := 40) [c0, hl1, hpl, w1, e1, e2, ← hX, e3, e4, o4] at h
  by_cases cs : n.sort = 0
  · obtain ⟨H5, e5, k5⟩ := rbools_run R4 (x := x) (yes := yes) (no := no) (fun ms S gm nm hp => ⟨gm, nm, hp.1.1.1.2, hp.1.2.1, hp.2.1, by rw [hp.1.1.2.2]; exact cs, hp.1.2.2, hp.2.2⟩) (by omega)
    have kk := keepH H5 k5
    simp (maxDischargeDepth := 40) [eq_true cs, e5, kk] at h
    exact h.symm
  obtain ⟨N, hN⟩ : ∃ N, N = n.sort := ⟨_, rfl⟩
  have hNN : 1 ≤ N ∧ N ≤ 128 := by
    obtain ⟨ms, F', S, M, gm, nm, hp, -⟩ := R4.ex
    have hx := hp.1.1.2.1
    have he := hp.1.1.2.2
    have := sort_in gm (nm.lo x hx) (nm.hi x hx) (by rw [he]; exact cs)
    rw [he] at this
    rw [hN]; exact this
  obtain ⟨N1, N2⟩ := hNN
  obtain ⟨L, e5, L0, L1, R5⟩ := R4.len (fun ms S _ _ hp => by
    have := hp.1.1.1.1
    rw [hP0] at this
    omega)
  have hpl2 := fun H => place_run (k := other) (n := L) (by omega) (by omega) (H := H)
  have hm2 := Int.emod_nonneg other (by omega : (L : Int) ≠ 0)
  have hm3 := Int.emod_lt_of_pos other (by omega : 0 < (L : Int))
  have w2 : IntKind.i64.wrap (1 + other % L) = 1 + other % L := i64w (by omega) (by omega)
  have md := mc.and (Mono.len (L : Int))
  obtain ⟨c, H5, e6, R6⟩ := R5.simp md (J := 1 + other % L) (fun ms S _ _ hp => by have := hp.2; omega) (by omega)
  obtain ⟨m, bm, e7, R7⟩ := R6.node (id := c) (fun _ _ _ _ hp => hp.2)
  simp only [Nd.parts'] at e7
  obtain ⟨HY, hY⟩ : ∃ HY, HY = (H5.new (.cells [.int .i64 0, .int .i64 0, .int .i64 0, .int .i64 0, .int .i64 0, .int .i64 0, .int .i64 0, .int .i64 0, u 0#64, u 0#64, .str .empty])).set H5.size (.cells [.int .i64 m.op, .int .i64 m.sort, .int .i64 m.a, .int .i64 m.b, .int .i64 m.c, .int .i64 m.p, .int .i64 m.q, .int .i64 m.vw, u m.vl, u m.vh, .str m.name]) := ⟨_, rfl⟩
  have kY : Keeps H5 HY := by rw [hY]; ((repeat (first | exact Keeps.refl _ | assumption | refine Keeps.new' ?_ _ | refine Keeps.set ?_ ?_ _)) <;> (first | assumption | (simp; done) | (simp; omega)))
  have oY : HY.obj H5.size = .cells [.int .i64 m.op, .int .i64 m.sort, .int .i64 m.a, .int .i64 m.b, .int .i64 m.c, .int .i64 m.p, .int .i64 m.q, .int .i64 m.vw, u m.vl, u m.vh, .str m.name] := by rw [hY]; simp
  have lY : H5.size < HY.size := by rw [hY]; simp
  have R8 := R7.keep kY
  have me := (md.and (Mono.mem c)).and (Mono.node c m)
  simp (maxDischargeDepth := 40) [eq_false cs, e5, hpl2, w2, e6, e7, ← hY, oY] at h
  have hok0 : (⟨N, 0#128⟩ : Vl).ok = true := by
    have := Vl.of_ok (n := N.toNat) (by omega) (by omega) (0#N.toNat)
    rw [of_zero, show ((N.toNat : Nat) : Int) = N by omega] at this
    exact this
  have hok1 : (⟨N, 1#128⟩ : Vl).ok = true := by
    have := Vl.of_ok (n := N.toNat) (by omega) (by omega) (1#N.toNat)
    rw [of_one (by omega), show ((N.toNat : Nat) : Int) = N by omega] at this
    exact this
  have fin : ∃ H6, ((m.sort = 0 → R Zm [.ptr g 0, .agg (nodeO 9 c x x 0 0).cs, .int .i64 x] HY = some (.bool true, H6)) ∧ (¬ m.sort = 0 → H6 = HY)) ∧ Rs HX F2 g (fun ns_1 S => ((((((P0 ns_1 S ∧ x ∈ S) ∧ (x ∈ S ∧ ndF ns_1 x = n)) ∧ (yes ∈ S ∧ ndF ns_1 yes = constN (Vl.bool true))) ∧ (no ∈ S ∧ ndF ns_1 no = constN (Vl.bool false))) ∧ (L : Int) ≤ ns_1.length) ∧ c ∈ S) ∧ (c ∈ S ∧ ndF ns_1 c = m)) 547 H6 := by
    by_cases cm : m.sort = 0
    · obtain ⟨H6, a1, a2⟩ := R8.to me (n := nodeO 9 c x x 0 0) (w := x) (fun ms S gm nm hp => ite_rule gm nm hp.2.1 hp.1.1.1.1.1.1.2 hp.1.1.1.1.1.1.2 hp.1.1.1.1.1.1.2 (by rw [hp.2.2]; exact cm) rfl rfl (by rw [hp.1.1.1.1.1.2.2]; omega) (by rw [hp.1.1.1.1.1.2.2]; omega) ite_same) (by omega)
      exact ⟨H6, ⟨fun _ => a1, fun q => absurd cm q⟩, a2.wide (by omega)⟩
    · exact ⟨HY, ⟨fun q => absurd q cm, fun _ => rfl⟩, R8.wide (by omega)⟩
  obtain ⟨H6, ⟨f6, f6'⟩, R9⟩ := fin
  simp only [Nd.cs, nodeO] at f6
  obtain ⟨zero, H7, e9, R10⟩ := R9.number me (s := N) (w := 0#64) (v := ⟨N, 0#128⟩) hok0 (by rfl) (by rw [if_neg (by omega)]; exact (by decide : lo 0#128 = 0#64)) (by decide : hi 0#128 = 0#64) (by omega)
  have mf := me.and (Mono.node zero (constN ⟨N, 0#128⟩))
  obtain ⟨one, H8, e10, R11⟩ := R10.number mf (s := N) (w := 1#64) (v := ⟨N, 1#128⟩) hok1 (by rfl) (by rw [if_neg (by omega)]; exact (by decide : lo 1#128 = 1#64)) (by decide : hi 1#128 = 0#64) (by omega)
  obtain ⟨o6, l6⟩ := obj H6 R9.fr
  obtain ⟨o7, l7⟩ := obj H7 R10.fr
  rw [hN] at e9 e10
  have hcl : ∀ ev : Env, ev 11 = some (.ptr H2.size 0) → markCl [3, 6, 801, 997, 1011] ev H6 H7 = true := fun ev q1 => markCl_one (s := 11) (d := 1) (o := H2.size) (off := 0) (by rfl) (by rfl) q1 (by rw [o6, o7])
  have hld : ∀ ev : Env, ev 11 = some (.ptr H2.size 0) → ev 107 = some (.ptr H2.size 1) → markLd [3, 6, 801, 997, 1011] ev (.tmp 107) (.int .i64 n.sort) = true := fun ev q1 q2 => markLd_one (s := 11) (d := 1) (o := H2.size) (off := 0) (by rfl) (by rfl) q1 (by simpa using q2) (by rfl)
  have C0 : Rs HX F2 g (fun ns S => Cx ns S x zero one yes no N) 549 H8 := R11.map fun ms S gm nm hp => cx_of gm nm hp.1.1.1.1.1.1.1.1.2 (by rw [hN, hp.1.1.1.1.1.1.1.2.2]) N1 N2 hp.1.1.1.1.1.1.2 hp.1.1.1.1.1.2 hp.1.2 hp.2
  have kc := Mono.cx x zero one yes no N
  obtain ⟨T1, t1, C1⟩ := C0.to kc (n := nodeO 12 x zero 0 0 0) (w := zero) (fun ns S _ _ C => C.r_zero_r (.inl rfl)) (by omega)
  simp only [Nd.cs, nodeO] at t1
  obtain ⟨T2, t2, C2⟩ := C1.to kc (n := nodeO 20 zero x 0 0 0) (w := zero) (fun ns S _ _ C => C.r_zero_l (.inr (.inl rfl))) (by omega)
  simp only [Nd.cs, nodeO] at t2
  obtain ⟨T3, t3, C3⟩ := C2.to kc (n := nodeO 26 zero x 0 0 0) (w := zero) (fun ns S _ _ C => C.r_zero_l (.inr (.inr (.inl rfl)))) (by omega)
  simp only [Nd.cs, nodeO] at t3
  obtain ⟨T4, t4, C4⟩ := C3.to kc (n := nodeO 27 zero x 0 0 0) (w := zero) (fun ns S _ _ C => C.r_zero_l (.inr (.inr (.inr (.inl rfl))))) (by omega)
  simp only [Nd.cs, nodeO] at t4
  obtain ⟨T5, t5, C5⟩ := C4.to kc (n := nodeO 28 zero x 0 0 0) (w := zero) (fun ns S _ _ C => C.r_zero_l (.inr (.inr (.inr (.inr rfl))))) (by omega)
  simp only [Nd.cs, nodeO] at t5
  have hh : ∃ q, q = r := ⟨_, rfl⟩
  by_cases cm : m.sort = 0
  · have f7 := f6 cm
    simp (maxDischargeDepth := 40) [eq_true cm, f7] at h
    simp (maxDischargeDepth := 40) (maxSteps := 2000000) [e9, e10, hcl, hld, o6, o7, t1, t2, t3, t4, t5] at h
    generalize hL : loopL _ _ _ _ _ _ = q at h
    obtain ⟨yy, v1, T6, rfl, ⟨rfl, v8, C6⟩, fr1⟩ := shift_loop C5 (by omega) hL (by simp) (by simp) (by simp) (by simp) (by simp)
    have a7 : v1 7 = some (.ptr g 0) := by rw [fr1 7 (by simp)]; simp
    have a9 : v1 9 = some (.int .i64 x) := by rw [fr1 9 (by simp)]; simp
    have a11 : v1 11 = some (.ptr H2.size 0) := by rw [fr1 11 (by simp)]; simp
    have a13 : v1 13 = some (.int .i64 yes) := by rw [fr1 13 (by simp)]; simp
    have a14 : v1 14 = some (.int .i64 no) := by rw [fr1 14 (by simp)]; simp
    have a19 : v1 19 = some (.int .i64 zero) := by rw [fr1 19 (by simp)]; simp
    have a20 : v1 20 = some (.int .i64 one) := by rw [fr1 20 (by simp)]; simp
    clear fr1
    obtain ⟨T7, t7, C7⟩ := C6.to kc (n := nodeO 13 x zero 0 0 0) (w := x) (fun ns S _ _ C => C.r_keep_r (.inl rfl)) (by omega)
    simp only [Nd.cs, nodeO] at t7
    obtain ⟨T8, t8, C8⟩ := C7.to kc (n := nodeO 14 zero x 0 0 0) (w := x) (fun ns S _ _ C => C.r_keep_l) (by omega)
    simp only [Nd.cs, nodeO] at t8
    obtain ⟨T9, t9, C9⟩ := C8.to kc (n := nodeO 18 x zero 0 0 0) (w := x) (fun ns S _ _ C => C.r_keep_r (.inr (.inr (.inl rfl)))) (by omega)
    simp only [Nd.cs, nodeO] at t9
    obtain ⟨T10, t10, C10⟩ := C9.to kc (n := nodeO 19 x zero 0 0 0) (w := x) (fun ns S _ _ C => C.r_keep_r (.inr (.inr (.inr (.inl rfl))))) (by omega)
    simp only [Nd.cs, nodeO] at t10
    obtain ⟨T11, t11, C11⟩ := C10.to kc (n := nodeO 20 one x 0 0 0) (w := x) (fun ns S _ _ C => C.r_one_l) (by omega)
    simp only [Nd.cs, nodeO] at t11
    obtain ⟨T12, t12, C12⟩ := C11.to kc (n := nodeO 21 x one 0 0 0) (w := x) (fun ns S _ _ C => C.r_one_r) (by omega)
    simp only [Nd.cs, nodeO] at t12
    obtain ⟨T13, t13, C13⟩ := C12.to kc (n := nodeO 12 x x 0 0 0) (w := x) (fun ns S _ _ C => C.r_self (.inl rfl)) (by omega)
    simp only [Nd.cs, nodeO] at t13
    obtain ⟨T14, t14, C14⟩ := C13.to kc (n := nodeO 13 x x 0 0 0) (w := x) (fun ns S _ _ C => C.r_self (.inr rfl)) (by omega)
    simp only [Nd.cs, nodeO] at t14
    obtain ⟨T15, t15, C15⟩ := C14.to kc (n := nodeO 14 x x 0 0 0) (w := zero) (fun ns S _ _ C => C.r_none (.inl rfl)) (by omega)
    simp only [Nd.cs, nodeO] at t15
    obtain ⟨T16, t16, C16⟩ := C15.to kc (n := nodeO 19 x x 0 0 0) (w := zero) (fun ns S _ _ C => C.r_none (.inr rfl)) (by omega)
    simp only [Nd.cs, nodeO] at t16
    simp (maxDischargeDepth := 40) (maxSteps := 2000000) [a7, a9, a19, a20, v8, t7, t8, t9, t10, t11, t12, t13, t14, t15, t16] at h
    generalize hL : loopL _ _ _ _ _ _ = q at h
    obtain ⟨yy, v2, T17, rfl, ⟨rfl, v28, C17⟩, fr2⟩ := cmp_loop C16 (by omega) hL (by simp [a7]) (by simp) (by simp [a9]) (by simp [a13]) (by simp [a14]) (by simp)
    have b7 : v2 7 = some (.ptr g 0) := by rw [fr2 7 (by simp)]; simp [a7]
    have b9 : v2 9 = some (.int .i64 x) := by rw [fr2 9 (by simp)]; simp [a9]
    have b11 : v2 11 = some (.ptr H2.size 0) := by rw [fr2 11 (by simp)]; simp [a11]
    have b13 : v2 13 = some (.int .i64 yes) := by rw [fr2 13 (by simp)]; simp [a13]
    have b14 : v2 14 = some (.int .i64 no) := by rw [fr2 14 (by simp)]; simp [a14]
    have b19 : v2 19 = some (.int .i64 zero) := by rw [fr2 19 (by simp)]; simp [a19]
    have b20 : v2 20 = some (.int .i64 one) := by rw [fr2 20 (by simp)]; simp [a20]
    clear fr2 a7 a9 a11 a13 a14 a19 a20 v8
    have sun : ∀ {ns : List Nd} {S : List Int} {op : Int}, op = 10 ∨ op = 11 → Cx ns S x zero one yes no N → formedF ns.length (nodeO op x 0 0 0 0) = true ∧ (sortedF ns (nodeO op x 0 0 0 0)).2 = 0 ∧ (sortedF ns (nodeO op x 0 0 0 0)).1.sort = N := fun ho C => sorted_un ho (C.nrm.lo x C.sx) (C.nrm.hi x C.sx) C.xs (by omega) N2
    obtain ⟨ka, T18, t18, C18⟩ := C17.make kc (op := 10) (x := x) (s := N) (.inr (.inl rfl)) (fun ns S _ _ C => sun (.inl rfl) C) (by omega)
    have kd := kc.and (Mono.notAt 10 x N ka)
    obtain ⟨kb, T19, t19, C19⟩ := C18.make kd (op := 11) (x := x) (s := N) (.inr (.inr rfl)) (fun ns S _ _ C => sun (.inr rfl) C.1) (by omega)
    have ke := kd.and (Mono.notAt 11 x N kb)
    simp only [Nd.cs, nodeO] at t18 t19
    obtain ⟨T20, t20, C20⟩ := C19.to ke (n := nodeO 8 x x 0 0 0) (w := yes) (fun ns S _ _ C => C.1.1.r_eq) (by omega)
    simp only [Nd.cs, nodeO] at t20
    obtain ⟨T21, bs1, t21, C21, hbs1⟩ := C20.simple ke (op := 10) (x := x) (s := N) (k := ka) (.inr (.inl rfl)) (fun ns S _ _ C => ⟨C.1.2, C.1.1.sx, by
        obtain ⟨q1, q2, -⟩ := sorted_un (op := 10) (.inl rfl) C.1.2.lo C.1.2.hi C.1.2.srt (by omega) N2
        exact ⟨q1, q2⟩⟩) (by omega)
    have nx1 : ∃ Ta, (bs1 = true → R Zm [.ptr g 0, .agg (nodeO 10 ka 0 0 0 0).cs, .int .i64 x] T21 = some (.bool true, Ta)) ∧ (bs1 = false → Ta = T21) ∧ Rs HX F2 g (fun ns S => (Cx ns S x zero one yes no N ∧ NotAt ns 10 x N ka) ∧ NotAt ns 11 x N kb) 700 Ta := by
      cases bs1 with
      | false => exact ⟨T21, by simp, by simp, C21.wide (by omega)⟩
      | true =>
        obtain ⟨Ta, a1, a2⟩ := hbs1 rfl
        exact ⟨Ta, fun _ => a1, by simp, a2.wide (by omega)⟩
    obtain ⟨Ta, ta1, ta2, Ca⟩ := nx1
    obtain ⟨T22, bs2, t22, C22, hbs2⟩ := Ca.simple ke (op := 11) (x := x) (s := N) (k := kb) (.inr (.inr rfl)) (fun ns S _ _ C => ⟨C.2, C.1.1.sx, by
        obtain ⟨q1, q2, -⟩ := sorted_un (op := 11) (.inr rfl) C.2.lo C.2.hi C.2.srt (by omega) N2
        exact ⟨q1, q2⟩⟩) (by omega)
    have nx2 : ∃ Tb, (bs2 = true → R Zm [.ptr g 0, .agg (nodeO 11 kb 0 0 0 0).cs, .int .i64 x] T22 = some (.bool true, Tb)) ∧ (bs2 = false → Tb = T22) ∧ Rs HX F2 g (fun ns S => (Cx ns S x zero one yes no N ∧ NotAt ns 10 x N ka) ∧ NotAt ns 11 x N kb) 710 Tb := by
      cases bs2 with
      | false => exact ⟨T22, by simp, by simp, C22.wide (by omega)⟩
      | true =>
        obtain ⟨Tb, a1, a2⟩ := hbs2 rfl
        exact ⟨Tb, fun _ => a1, by simp, a2.wide (by omega)⟩
    obtain ⟨Tb, tb1, tb2, Cb0⟩ := nx2
    have C30 : Rs HX F2 g (fun ns S => Cx ns S x zero one yes no N) 710 Tb := Cb0.map fun ns S _ _ C => C.1.1
    simp only [Nd.cs, nodeO] at ta1 tb1
    obtain ⟨ob, lb⟩ := obj Tb C30.fr
    obtain ⟨T31, t31, C31⟩ := C30.to kc (n := nodeO 39 x 0 0 (N - 1) 0) (w := x) (fun ns S _ _ C => C.r_num (.inl ⟨rfl, rfl⟩)) (by omega)
    simp only [Nd.cs, nodeO] at t31
    obtain ⟨T32, t32, C32⟩ := C31.to kc (n := nodeO 40 x 0 0 0 0) (w := x) (fun ns S _ _ C => C.r_num (.inr (.inl ⟨by omega, rfl⟩))) (by omega)
    simp only [Nd.cs, nodeO] at t32
    obtain ⟨T33, t33, C33⟩ := C32.to kc (n := nodeO 41 x 0 0 0 0) (w := x) (fun ns S _ _ C => C.r_num (.inr (.inl ⟨by omega, rfl⟩))) (by omega)
    simp only [Nd.cs, nodeO] at t33
    obtain ⟨T34, t34, C34⟩ := C33.to kc (n := nodeO 42 x 0 0 0 0) (w := x) (fun ns S _ _ C => C.r_num (.inr (.inl ⟨by omega, rfl⟩))) (by omega)
    simp only [Nd.cs, nodeO] at t34
    obtain ⟨T35, t35, C35⟩ := C34.to kc (n := nodeO 43 x 0 0 0 0) (w := x) (fun ns S _ _ C => C.r_num (.inr (.inl ⟨by omega, rfl⟩))) (by omega)
    simp only [Nd.cs, nodeO] at t35
    obtain ⟨T36, t36, C36⟩ := C35.to kc (n := nodeO 44 x 0 0 1 0) (w := x) (fun ns S _ _ C => C.r_num (.inr (.inr ⟨rfl, rfl⟩))) (by omega)
    simp only [Nd.cs, nodeO] at t36
    obtain ⟨T37, t37, C37⟩ := C36.to kc (n := nodeO 9 yes x zero 0 0) (w := x) (fun ns S _ _ C => C.r_ite1) (by omega)
    simp only [Nd.cs, nodeO] at t37
    obtain ⟨T38, t38, C38⟩ := C37.to kc (n := nodeO 9 no one x 0 0) (w := x) (fun ns S _ _ C => C.r_ite2) (by omega)
    simp only [Nd.cs, nodeO] at t38
    have wN : IntKind.i64.wrap (n.sort - 1) = n.sort - 1 := i64w (by omega) (by omega)
    rw [hN] at t31
    have kk := keepH T38 C38.fr
    simp (maxDischargeDepth := 40) (maxSteps := 2000000) [b7, b9, b13, v28, t18, t19, t20, t21] at h
    cases bs1 with
    | false =>
      obtain rfl := ta2 rfl
      cases bs2 with
      | false =>
        obtain rfl := tb2 rfl
        simp (maxDischargeDepth := 40) (maxSteps := 2000000) [t22, b7, b9, b11, b13, b14, b19, b20, ob, wN, t31, t32, t33, t34, t35, t36, t37, t38, kk] at h
        exact h.symm
      | true =>
        have tb := tb1 rfl
        simp (maxDischargeDepth := 40) (maxSteps := 2000000) [t22, tb, b7, b9, b11, b13, b14, b19, b20, ob, wN, t31, t32, t33, t34, t35, t36, t37, t38, kk] at h
        exact h.symm
    | true =>
      have ta := ta1 rfl
      cases bs2 with
      | false =>
        obtain rfl := tb2 rfl
        simp (maxDischargeDepth := 40) (maxSteps := 2000000) [ta, t22, b7, b9, b11, b13, b14, b19, b20, ob, wN, t31, t32, t33, t34, t35, t36, t37, t38, kk] at h
        exact h.symm
      | true =>
        have tb := tb1 rfl
        simp (maxDischargeDepth := 40) (maxSteps := 2000000) [ta, t22, tb, b7, b9, b11, b13, b14, b19, b20, ob, wN, t31, t32, t33, t34, t35, t36, t37, t38, kk] at h
        exact h.symm
  · obtain rfl := f6' cm
    simp (maxDischargeDepth := 40) [eq_false cm] at h
    simp (maxDischargeDepth := 40) (maxSteps := 2000000) [e9, e10, hcl, hld, o6, o7, t1, t2, t3, t4, t5] at h
    generalize hL : loopL _ _ _ _ _ _ = q at h
    obtain ⟨yy, v1, T6, rfl, ⟨rfl, v8, C6⟩, fr1⟩ := shift_loop C5 (by omega) hL (by simp) (by simp) (by simp) (by simp) (by simp)
    have a7 : v1 7 = some (.ptr g 0) := by rw [fr1 7 (by simp)]; simp
    have a9 : v1 9 = some (.int .i64 x) := by rw [fr1 9 (by simp)]; simp
    have a11 : v1 11 = some (.ptr H2.size 0) := by rw [fr1 11 (by simp)]; simp
    have a13 : v1 13 = some (.int .i64 yes) := by rw [fr1 13 (by simp)]; simp
    have a14 : v1 14 = some (.int .i64 no) := by rw [fr1 14 (by simp)]; simp
    have a19 : v1 19 = some (.int .i64 zero) := by rw [fr1 19 (by simp)]; simp
    have a20 : v1 20 = some (.int .i64 one) := by rw [fr1 20 (by simp)]; simp
    clear fr1
    obtain ⟨T7, t7, C7⟩ := C6.to kc (n := nodeO 13 x zero 0 0 0) (w := x) (fun ns S _ _ C => C.r_keep_r (.inl rfl)) (by omega)
    simp only [Nd.cs, nodeO] at t7
    obtain ⟨T8, t8, C8⟩ := C7.to kc (n := nodeO 14 zero x 0 0 0) (w := x) (fun ns S _ _ C => C.r_keep_l) (by omega)
    simp only [Nd.cs, nodeO] at t8
    obtain ⟨T9, t9, C9⟩ := C8.to kc (n := nodeO 18 x zero 0 0 0) (w := x) (fun ns S _ _ C => C.r_keep_r (.inr (.inr (.inl rfl)))) (by omega)
    simp only [Nd.cs, nodeO] at t9
    obtain ⟨T10, t10, C10⟩ := C9.to kc (n := nodeO 19 x zero 0 0 0) (w := x) (fun ns S _ _ C => C.r_keep_r (.inr (.inr (.inr (.inl rfl))))) (by omega)
    simp only [Nd.cs, nodeO] at t10
    obtain ⟨T11, t11, C11⟩ := C10.to kc (n := nodeO 20 one x 0 0 0) (w := x) (fun ns S _ _ C => C.r_one_l) (by omega)
    simp only [Nd.cs, nodeO] at t11
    obtain ⟨T12, t12, C12⟩ := C11.to kc (n := nodeO 21 x one 0 0 0) (w := x) (fun ns S _ _ C => C.r_one_r) (by omega)
    simp only [Nd.cs, nodeO] at t12
    obtain ⟨T13, t13, C13⟩ := C12.to kc (n := nodeO 12 x x 0 0 0) (w := x) (fun ns S _ _ C => C.r_self (.inl rfl)) (by omega)
    simp only [Nd.cs, nodeO] at t13
    obtain ⟨T14, t14, C14⟩ := C13.to kc (n := nodeO 13 x x 0 0 0) (w := x) (fun ns S _ _ C => C.r_self (.inr rfl)) (by omega)
    simp only [Nd.cs, nodeO] at t14
    obtain ⟨T15, t15, C15⟩ := C14.to kc (n := nodeO 14 x x 0 0 0) (w := zero) (fun ns S _ _ C => C.r_none (.inl rfl)) (by omega)
    simp only [Nd.cs, nodeO] at t15
    obtain ⟨T16, t16, C16⟩ := C15.to kc (n := nodeO 19 x x 0 0 0) (w := zero) (fun ns S _ _ C => C.r_none (.inr rfl)) (by omega)
    simp only [Nd.cs, nodeO] at t16
    simp (maxDischargeDepth := 40) (maxSteps := 2000000) [a7, a9, a19, a20, v8, t7, t8, t9, t10, t11, t12, t13, t14, t15, t16] at h
    generalize hL : loopL _ _ _ _ _ _ = q at h
    obtain ⟨yy, v2, T17, rfl, ⟨rfl, v28, C17⟩, fr2⟩ := cmp_loop C16 (by omega) hL (by simp [a7]) (by simp) (by simp [a9]) (by simp [a13]) (by simp [a14]) (by simp)
    have b7 : v2 7 = some (.ptr g 0) := by rw [fr2 7 (by simp)]; simp [a7]
    have b9 : v2 9 = some (.int .i64 x) := by rw [fr2 9 (by simp)]; simp [a9]
    have b11 : v2 11 = some (.ptr H2.size 0) := by rw [fr2 11 (by simp)]; simp [a11]
    have b13 : v2 13 = some (.int .i64 yes) := by rw [fr2 13 (by simp)]; simp [a13]
    have b14 : v2 14 = some (.int .i64 no) := by rw [fr2 14 (by simp)]; simp [a14]
    have b19 : v2 19 = some (.int .i64 zero) := by rw [fr2 19 (by simp)]; simp [a19]
    have b20 : v2 20 = some (.int .i64 one) := by rw [fr2 20 (by simp)]; simp [a20]
    clear fr2 a7 a9 a11 a13 a14 a19 a20 v8
    have sun : ∀ {ns : List Nd} {S : List Int} {op : Int}, op = 10 ∨ op = 11 → Cx ns S x zero one yes no N → formedF ns.length (nodeO op x 0 0 0 0) = true ∧ (sortedF ns (nodeO op x 0 0 0 0)).2 = 0 ∧ (sortedF ns (nodeO op x 0 0 0 0)).1.sort = N := fun ho C => sorted_un ho (C.nrm.lo x C.sx) (C.nrm.hi x C.sx) C.xs (by omega) N2
    obtain ⟨ka, T18, t18, C18⟩ := C17.make kc (op := 10) (x := x) (s := N) (.inr (.inl rfl)) (fun ns S _ _ C => sun (.inl rfl) C) (by omega)
    have kd := kc.and (Mono.notAt 10 x N ka)
    obtain ⟨kb, T19, t19, C19⟩ := C18.make kd (op := 11) (x := x) (s := N) (.inr (.inr rfl)) (fun ns S _ _ C => sun (.inr rfl) C.1) (by omega)
    have ke := kd.and (Mono.notAt 11 x N kb)
    simp only [Nd.cs, nodeO] at t18 t19
    obtain ⟨T20, t20, C20⟩ := C19.to ke (n := nodeO 8 x x 0 0 0) (w := yes) (fun ns S _ _ C => C.1.1.r_eq) (by omega)
    simp only [Nd.cs, nodeO] at t20
    obtain ⟨T21, bs1, t21, C21, hbs1⟩ := C20.simple ke (op := 10) (x := x) (s := N) (k := ka) (.inr (.inl rfl)) (fun ns S _ _ C => ⟨C.1.2, C.1.1.sx, by
        obtain ⟨q1, q2, -⟩ := sorted_un (op := 10) (.inl rfl) C.1.2.lo C.1.2.hi C.1.2.srt (by omega) N2
        exact ⟨q1, q2⟩⟩) (by omega)
    have nx1 : ∃ Ta, (bs1 = true → R Zm [.ptr g 0, .agg (nodeO 10 ka 0 0 0 0).cs, .int .i64 x] T21 = some (.bool true, Ta)) ∧ (bs1 = false → Ta = T21) ∧ Rs HX F2 g (fun ns S => (Cx ns S x zero one yes no N ∧ NotAt ns 10 x N ka) ∧ NotAt ns 11 x N kb) 700 Ta := by
      cases bs1 with
      | false => exact ⟨T21, by simp, by simp, C21.wide (by omega)⟩
      | true =>
        obtain ⟨Ta, a1, a2⟩ := hbs1 rfl
        exact ⟨Ta, fun _ => a1, by simp, a2.wide (by omega)⟩
    obtain ⟨Ta, ta1, ta2, Ca⟩ := nx1
    obtain ⟨T22, bs2, t22, C22, hbs2⟩ := Ca.simple ke (op := 11) (x := x) (s := N) (k := kb) (.inr (.inr rfl)) (fun ns S _ _ C => ⟨C.2, C.1.1.sx, by
        obtain ⟨q1, q2, -⟩ := sorted_un (op := 11) (.inr rfl) C.2.lo C.2.hi C.2.srt (by omega) N2
        exact ⟨q1, q2⟩⟩) (by omega)
    have nx2 : ∃ Tb, (bs2 = true → R Zm [.ptr g 0, .agg (nodeO 11 kb 0 0 0 0).cs, .int .i64 x] T22 = some (.bool true, Tb)) ∧ (bs2 = false → Tb = T22) ∧ Rs HX F2 g (fun ns S => (Cx ns S x zero one yes no N ∧ NotAt ns 10 x N ka) ∧ NotAt ns 11 x N kb) 710 Tb := by
      cases bs2 with
      | false => exact ⟨T22, by simp, by simp, C22.wide (by omega)⟩
      | true =>
        obtain ⟨Tb, a1, a2⟩ := hbs2 rfl
        exact ⟨Tb, fun _ => a1, by simp, a2.wide (by omega)⟩
    obtain ⟨Tb, tb1, tb2, Cb0⟩ := nx2
    have C30 : Rs HX F2 g (fun ns S => Cx ns S x zero one yes no N) 710 Tb := Cb0.map fun ns S _ _ C => C.1.1
    simp only [Nd.cs, nodeO] at ta1 tb1
    obtain ⟨ob, lb⟩ := obj Tb C30.fr
    obtain ⟨T31, t31, C31⟩ := C30.to kc (n := nodeO 39 x 0 0 (N - 1) 0) (w := x) (fun ns S _ _ C => C.r_num (.inl ⟨rfl, rfl⟩)) (by omega)
    simp only [Nd.cs, nodeO] at t31
    obtain ⟨T32, t32, C32⟩ := C31.to kc (n := nodeO 40 x 0 0 0 0) (w := x) (fun ns S _ _ C => C.r_num (.inr (.inl ⟨by omega, rfl⟩))) (by omega)
    simp only [Nd.cs, nodeO] at t32
    obtain ⟨T33, t33, C33⟩ := C32.to kc (n := nodeO 41 x 0 0 0 0) (w := x) (fun ns S _ _ C => C.r_num (.inr (.inl ⟨by omega, rfl⟩))) (by omega)
    simp only [Nd.cs, nodeO] at t33
    obtain ⟨T34, t34, C34⟩ := C33.to kc (n := nodeO 42 x 0 0 0 0) (w := x) (fun ns S _ _ C => C.r_num (.inr (.inl ⟨by omega, rfl⟩))) (by omega)
    simp only [Nd.cs, nodeO] at t34
    obtain ⟨T35, t35, C35⟩ := C34.to kc (n := nodeO 43 x 0 0 0 0) (w := x) (fun ns S _ _ C => C.r_num (.inr (.inl ⟨by omega, rfl⟩))) (by omega)
    simp only [Nd.cs, nodeO] at t35
    obtain ⟨T36, t36, C36⟩ := C35.to kc (n := nodeO 44 x 0 0 1 0) (w := x) (fun ns S _ _ C => C.r_num (.inr (.inr ⟨rfl, rfl⟩))) (by omega)
    simp only [Nd.cs, nodeO] at t36
    obtain ⟨T37, t37, C37⟩ := C36.to kc (n := nodeO 9 yes x zero 0 0) (w := x) (fun ns S _ _ C => C.r_ite1) (by omega)
    simp only [Nd.cs, nodeO] at t37
    obtain ⟨T38, t38, C38⟩ := C37.to kc (n := nodeO 9 no one x 0 0) (w := x) (fun ns S _ _ C => C.r_ite2) (by omega)
    simp only [Nd.cs, nodeO] at t38
    have wN : IntKind.i64.wrap (n.sort - 1) = n.sort - 1 := i64w (by omega) (by omega)
    rw [hN] at t31
    have kk := keepH T38 C38.fr
    simp (maxDischargeDepth := 40) (maxSteps := 2000000) [b7, b9, b13, v28, t18, t19, t20, t21] at h
    cases bs1 with
    | false =>
      obtain rfl := ta2 rfl
      cases bs2 with
      | false =>
        obtain rfl := tb2 rfl
        simp (maxDischargeDepth := 40) (maxSteps := 2000000) [t22, b7, b9, b11, b13, b14, b19, b20, ob, wN, t31, t32, t33, t34, t35, t36, t37, t38, kk] at h
        exact h.symm
      | true =>
        have tb := tb1 rfl
        simp (maxDischargeDepth := 40) (maxSteps := 2000000) [t22, tb, b7, b9, b11, b13, b14, b19, b20, ob, wN, t31, t32, t33, t34, t35, t36, t37, t38, kk] at h
        exact h.symm
    | true =>
      have ta := ta1 rfl
      cases bs2 with
      | false =>
        obtain rfl := tb2 rfl
        simp (maxDischargeDepth := 40) (maxSteps := 2000000) [ta, t22, b7, b9, b11, b13, b14, b19, b20, ob, wN, t31, t32, t33, t34, t35, t36, t37, t38, kk] at h
        exact h.symm
      | true =>
        have tb := tb1 rfl
        simp (maxDischargeDepth := 40) (maxSteps := 2000000) [ta, t22, tb, b7, b9, b11, b13, b14, b19, b20, ob, wN, t31, t32, t33, t34, t35, t36, t37, t38, kk] at h
        exact h.symm
end Go.Proofs.Ytiobohfiaapgeaa
end
section
namespace Go.Proofs.Ytiobohfiaapgeaa
set_option maxRecDepth 100000
theorem tv_int {d : Nat} {a : AV} (h : TV Try.prog (d + 1) 3 a) : ∃ n, a = .int .i64 n ∧ -9223372036854775808 ≤ n ∧ n ≤ 9223372036854775807 := tv_i64 Try.underlying3 h
theorem cs3 {cs : List AV} (h : cs.length = 3) : ∃ x0 x1 x2, cs = [x0, x1, x2] := by
  match cs, h with
  | [x0, x1, x2], _ => exact ⟨x0, x1, x2, rfl⟩
theorem tc_bits {d : Nat} {cs : List AV} (h : TC Try.prog (d + 2) 37 cs) : ∃ v : Vl, cs = v.cs := by
  have c3 : Try.prog.cellsOf 37 = 3 := by kernel_rfl
  have c1 : Try.prog.cellsOf 3 = 1 := by kernel_rfl
  have cu : Try.prog.cellsOf 35 = 1 := by kernel_rfl
  obtain ⟨hl, hf⟩ := tc_struct Try.underlying37 h
  rw [c3] at hl
  obtain ⟨x0, x1, x2, rfl⟩ := cs3 hl
  simp [c1, cu] at hf
  obtain ⟨g0, g1, g2⟩ := hf
  obtain ⟨n0, e0, -⟩ := tc_i64 Try.underlying3 g0
  obtain ⟨y1, e1⟩ := tc_u64 Try.underlying35 g1
  obtain ⟨y2, e2⟩ := tc_u64 Try.underlying35 g2
  simp at e0 e1 e2
  exact ⟨⟨n0, mkN y1 y2⟩, by rw [e0, e1, e2, Vl.cs, lo_mk, hi_mk]⟩
theorem tv_bits {d : Nat} {a : AV} (h : TV Try.prog (d + 2) 37 a) : ∃ v : Vl, a = v.av := by
  obtain ⟨cs, rfl, h2⟩ := tv_struct Try.underlying37 h
  obtain ⟨v, rfl⟩ := tc_bits h2
  exact ⟨v, rfl⟩
theorem tv_vals {d : Nat} {a : AV} (h : TV Try.prog (d + 3) 86 a) : ∃ l : List Vl, ∀ H, RV H a l := by
  obtain ⟨n, ds, rfl, h2, h3, h4⟩ := tv_slice Try.underlying86 h
  have c3 : Try.prog.cellsOf 37 = 3 := by kernel_rfl
  rw [c3] at h2 h4
  obtain ⟨ss, e1, e2, -⟩ := chunks Vl.cs (fun _ => True) (fun _ => rfl) h2 fun i hi => by
    obtain ⟨v, hv⟩ := tc_bits (h4 i hi)
    exact ⟨v, trivial, hv⟩
  subst e2
  exact ⟨ss, fun H => by rw [c3]; subst e1; exact Reads.lst h2⟩
theorem ints_cells : ∀ ss : List Int, ss.flatMap (fun x : Int => [AV.int .i64 x]) = ss.map (.int .i64)
  | [] => rfl
  | x :: l => by rw [List.flatMap_cons, ints_cells l]; rfl
theorem tv_ints {d : Nat} {a : AV} (h : TV Try.prog (d + 2) 32 a) : ∃ l : List Int, (∀ H, RI H a l) ∧ ∀ x, x ∈ l → -9223372036854775808 ≤ x ∧ x ≤ 9223372036854775807 := by
  obtain ⟨n, ds, rfl, h2, h3, h4⟩ := tv_slice Try.underlying32 h
  have c1 : Try.prog.cellsOf 3 = 1 := by kernel_rfl
  rw [c1] at h2 h4
  obtain ⟨ss, e1, e2, e3⟩ := chunks (fun x : Int => [AV.int .i64 x]) (fun x => -9223372036854775808 ≤ x ∧ x ≤ 9223372036854775807) (fun _ => rfl) h2 fun i hi => by
    obtain ⟨n0, e0, b1, b2⟩ := tc_i64 Try.underlying3 (h4 i hi)
    exact ⟨n0, ⟨b1, b2⟩, e0⟩
  subst e2
  have e4 := ints_cells ss
  exact ⟨ss, fun H => by rw [c1]; subst e1; rw [e4] at h2 ⊢; exact Reads.lst h2, e3⟩
theorem cs4 {cs : List AV} (h : cs.length = 4) : ∃ x0 x1 x2 x3, cs = [x0, x1, x2, x3] := by
  match cs, h with
  | [x0, x1, x2, x3], _ => exact ⟨x0, x1, x2, x3, rfl⟩
theorem tv_named {d : Nat} {a : AV} (h : TV Try.prog (d + 4) 49 a) : ∃ l : List Nm, ∀ H, RN H a l := by
  obtain ⟨n, ds, rfl, h2, h3, h4⟩ := tv_slice Try.underlying49 h
  have c4 : Try.prog.cellsOf 77 = 4 := by kernel_rfl
  have c3 : Try.prog.cellsOf 37 = 3 := by kernel_rfl
  have c9 : Try.prog.cellsOf 9 = 1 := by kernel_rfl
  rw [c4] at h2 h4
  obtain ⟨ss, e1, e2, -⟩ := chunks Nm.cs (fun _ => True) (fun _ => rfl) h2 fun i hi => by
    have hs := h4 i hi
    generalize (ds.drop (i * 4)).take 4 = cs at hs
    obtain ⟨hl, hf⟩ := tc_struct Try.underlying77 hs
    rw [c4] at hl
    obtain ⟨x0, x1, x2, x3, rfl⟩ := cs4 hl
    simp [c3, c9] at hf
    obtain ⟨g0, g1⟩ := hf
    obtain ⟨s, e0, -⟩ := tc_str Try.underlying9 g0
    obtain ⟨v, hv⟩ := tc_bits g1
    simp at e0
    exact ⟨⟨s, v⟩, trivial, by rw [e0]; simp only [Nm.cs]; rw [← hv]⟩
  subst e2
  exact ⟨ss, fun H => by rw [c4]; subst e1; exact Reads.lst h2⟩
theorem cs11 {cs : List AV} (h : cs.length = 11) : ∃ x0 x1 x2 x3 x4 x5 x6 x7 x8 x9 x10, cs = [x0, x1, x2, x3, x4, x5, x6, x7, x8, x9, x10] := by
  match cs, h with
  | [x0, x1, x2, x3, x4, x5, x6, x7, x8, x9, x10], _ => exact ⟨x0, x1, x2, x3, x4, x5, x6, x7, x8, x9, x10, rfl⟩
theorem tc_node {d : Nat} {cs : List AV} (h : TC Try.prog (d + 3) 39 cs) : ∃ n : Nd, cs = n.cs := by
  have c11 : Try.prog.cellsOf 39 = 11 := by kernel_rfl
  have c1 : Try.prog.cellsOf 3 = 1 := by kernel_rfl
  have c3 : Try.prog.cellsOf 37 = 3 := by kernel_rfl
  have c9 : Try.prog.cellsOf 9 = 1 := by kernel_rfl
  obtain ⟨hl, hf⟩ := tc_struct Try.underlying39 h
  rw [c11] at hl
  obtain ⟨x0, x1, x2, x3, x4, x5, x6, x7, x8, x9, x10, rfl⟩ := cs11 hl
  simp [c1, c3, c9] at hf
  obtain ⟨g0, g1, g2, g3, g4, g5, g6, g7, g8⟩ := hf
  obtain ⟨n0, e0, -⟩ := tc_i64 Try.underlying3 g0
  obtain ⟨n1, e1, -⟩ := tc_i64 Try.underlying3 g1
  obtain ⟨n2, e2, -⟩ := tc_i64 Try.underlying3 g2
  obtain ⟨n3, e3, -⟩ := tc_i64 Try.underlying3 g3
  obtain ⟨n4, e4, -⟩ := tc_i64 Try.underlying3 g4
  obtain ⟨n5, e5, -⟩ := tc_i64 Try.underlying3 g5
  obtain ⟨n6, e6, -⟩ := tc_i64 Try.underlying3 g6
  obtain ⟨s, e10, -⟩ := tc_str Try.underlying9 g8
  obtain ⟨v, hv⟩ := tc_bits g7
  simp [Vl.cs] at e0 e1 e2 e3 e4 e5 e6 e10 hv
  exact ⟨⟨n0, n1, n2, n3, n4, n5, n6, v.w, lo v.n, hi v.n, s⟩, by rw [e0, e1, e2, e3, e4, e5, e6, e10, hv.1, hv.2.1, hv.2.2]; rfl⟩
theorem tv_nodes {d : Nat} {a : AV} (h : TV Try.prog (d + 4) 22 a) : ∃ l : List Nd, a = NL l := by
  obtain ⟨n, ds, rfl, h2, h3, h4⟩ := tv_slice Try.underlying22 h
  have c11 : Try.prog.cellsOf 39 = 11 := by kernel_rfl
  rw [c11] at h2 h4
  obtain ⟨ss, e1, e2, -⟩ := chunks Nd.cs (fun _ => True) (fun _ => rfl) h2 fun i hi => by
    obtain ⟨n, hn⟩ := tc_node (h4 i hi)
    exact ⟨n, trivial, hn⟩
  exact ⟨ss, by rw [NL, e2, c11, e1]; rfl⟩
end Go.Proofs.Ytiobohfiaapgeaa
end
section
namespace Go.Proofs.Ytiobohfiaapgeaa
set_option maxRecDepth 100000
theorem RewriteRules_law {a0 a1 a2 : AV} (y0 : TV Try.prog 8 Zt a0) (y1 : TV Try.prog 8 Zd a1) (y2 : TV Try.prog 8 Zd a2) : ∃ H', R Zbn [a0, a1, a2] H0 = some (.bool true, H') := by
  obtain ⟨l, rfl⟩ := tv_nodes (d := 4) y0
  obtain ⟨n1, rfl, -⟩ := tv_int (d := 7) y1
  obtain ⟨n2, rfl, -⟩ := tv_int (d := 7) y2
  exact ⟨_, rules_run⟩
end Go.Proofs.Ytiobohfiaapgeaa
end
