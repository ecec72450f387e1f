/- Texts EJ EK BRR TX TZ TZ2 TZ3 TZ4 TW EL EM EN EP EQ ES ER LIM LIN TVB LMV of this claim, one behind the other. -/
import Derived.Test.YtiaoojghohfkjaaK6
section
namespace Go.Proofs.Ytiaoojghohfkjaa
set_option maxRecDepth 100000
set_option maxHeartbeats 2000000
theorem eval_run {H : AHeap} {g : Nat} {most : Int} {ns : List Nd} {F : List Nat} (G : GT H g most ns F) (gok : Gok ns) {s : AV} {env : List Nm} (hs : RN H s env) (hm : env.length ≤ 1000000) {id : Int} :
    R f_eval_Eval [.ptr g 0, .int .i64 id, s] H = some (.tup [(worthS (lookL env) ns id).1.av, .int .i64 (worthS (lookL env) ns id).2], H) := by
  obtain ⟨H1, es, c, hk, k1, z1, o1, he⟩ := known_env (H := H.new (.cells [.int .i64 0, u 0#64, u 0#64])) (hs.keep (Keeps.new _ _)) hm
  simp only [new_size] at hk z1 o1
  have k2 := (Keeps.new H (.cells [.int .i64 0, u 0#64, u 0#64])).trans k1
  have hw := worth_run (G.keeps k2) gok z1 o1 he (id := id)
  have oz : H1.obj H.size = .cells [.int .i64 0, u 0#64, u 0#64] := (k1.obj _ (by simp)).trans (by simp)
  have n1 : H.size < H1.size := by omega
  rw [e_eval_Eval]
  generalize worthS (lookL env) ns id = W at *
  simp (maxDischargeDepth := 40) [c_eval_Eval, hk, hw, oz, k2]
theorem vars_run2 {H : AHeap} {g : Nat} {most : Int} {ns : List Nd} {F : List Nat} (G : GT H g most ns F) : ∃ v, R f_plait_term_Graph_Vars [.ptr g 0] H = some (v, H) ∧ ∀ H', RI H' v (varsT ns ns.length) := by
  obtain ⟨o1, o2, o3, t, v, kok, rfl⟩ := id G
  rw [e_plait_term_Graph_Vars]
  have hlen := slv_len o1 ns
  simp (maxDischargeDepth := 40) [c_plait_term_Graph_Vars, t.og, hlen]
  generalize hL : loopL _ _ _ _ _ _ = r
  obtain ⟨y, e1, H1, rfl, ⟨rfl, k1, w, e7, hw⟩, fr⟩ := vars_loop t hL (by simp) (by simp) (by simp) (by simp)
  simp (maxDischargeDepth := 40) [e7]
  exact back_ints2 k1 hw
def fullV (look : ByteArray → Option Vl) (n : Nd) : Vl := if (((look n.name).getD Vl.zero).ok && decide (((look n.name).getD Vl.zero).w = n.sort)) = true then (look n.name).getD Vl.zero else ⟨n.sort, 0#128⟩
def fullS (look : ByteArray → Option Vl) (ns : List Nd) (xs : List Int) : List Nm := xs.map fun x => ⟨(ns.getD (x - 1).toNat Nd.zero).name, fullV look (ns.getD (x - 1).toNat Nd.zero)⟩
theorem flatN_append (l m : List Nm) : flatN (l ++ m) = flatN l ++ flatN m := by simp [flatN]
theorem allOne_nm (n : Nm) : allOne n.cs = true := rfl
theorem fullS_take {look : ByteArray → Option Vl} {ns : List Nd} {xs : List Int} {i : Nat} {x : Int} (hx : xs[i]? = some x) {n : Nd} (hn : ns.getD (x - 1).toNat Nd.zero = n) : fullS look ns (xs.take (i + 1)) = fullS look ns (xs.take i) ++ [⟨n.name, fullV look n⟩] := by
  unfold fullS
  rw [List.take_add_one, hx, List.map_append]
  simp only [Option.toList_some, List.map_cons, List.map_nil, hn]
theorem EnvM.val {es : List AEnt} {look : ByteArray → Option Vl} (h : EnvM es look) {s : ByteArray} : lookU false (.agg [.int .i64 0, u 0#64, u 0#64]) (findE (.str s) es) = ((look s).getD Vl.zero).av := by
  rcases h.find (s := s) with ⟨h1, h2⟩ | ⟨v, x, h1, h2, h3⟩
  · rw [h1, h2]; rfl
  · rw [h1, h2]; simpa using h3
theorem mem_vars {ns : List Nd} {x : Int} (h : x ∈ varsT ns ns.length) : ∃ j : Nat, x = (j : Int) + 1 ∧ j < ns.length ∧ (ns.getD j Nd.zero).op = 2 := by
  unfold varsT at h
  simp only [List.mem_map, List.mem_filter, List.mem_range, decide_eq_true_eq] at h
  obtain ⟨j, ⟨h1, h2⟩, rfl⟩ := h
  exact ⟨j, rfl, h1, h2⟩
theorem complete_loop {H0 H : AHeap} {g em : Nat} {most : Int} {ns : List Nd} {F : List Nat} (G : GT H0 g most ns F) {look : ByteArray → Option Vl} {es0 : List AEnt} {c0 : Nat} (lem : em < H0.size) (oem : H0.obj em = .map (.one .s) es0 c0) (hem : EnvM es0 look) (k0 : Keeps H0 H)
    {s : AV} {e : Env} {r : Rn} (hL : loopL Try.prog KT R l_eval_Complete_0 e H = r) (e0 : e 0 = some (.ptr g 0)) (e5 : e 5 = some (.map em)) (e6 : e 6 = some .nils) (e15 : e 15 = some s) (e16 : e 16 = some (.int .i64 (varsT ns ns.length).length)) (e17 : e 17 = some (.int .i64 0)) (hs : ∀ H', RI H' s (varsT ns ns.length)) :
    ∃ y e' H', r = some (y, e', H') ∧ (y = .exit 0 ∧ Keeps H0 H' ∧ ∃ w, e' 6 = some w ∧ OutC H0 H' w 4 (varsT ns ns.length).length (flatN (fullS look ns (varsT ns ns.length)))) ∧ ∀ t, t ∉ defs l_eval_Complete_0 → e' t = e t := by
  have hlim : ns.length ≤ 4096 := by
    obtain ⟨p1, p2, p3, tg, -⟩ := G
    have := tg.lim
    have := tg.lim2
    omega
  have hvl := varsT_len ns ns.length
  have hmem : ∀ x, x ∈ varsT ns ns.length → _ := fun x hx => mem_vars hx
  generalize varsT ns ns.length = N at *
  refine loop_count l_eval_Complete_0.eq_1 hL N.length (fun i e1 H1 => e1 17 = some (.int .i64 i) ∧ Keeps H0 H1 ∧ ∃ w, e1 6 = some w ∧ OutC H0 H1 w 4 i (flatN (fullS look ns (N.take i)))) _ 0 (by omega)
    ⟨e17, k0, .nils, e6, OutC.nils⟩ ?_ ?_
  · rintro i f H1 hf - hlt ⟨f17, k, w, f6, hw⟩
    have w1 := i64w (n := (i : Int) + 1) (by omega) (by omega)
    have c1 : (i : Int) < N.length := by omega
    obtain ⟨x, hx⟩ : ∃ x, N[i]? = some x := ⟨N[i], by simp [hlt]⟩
    obtain ⟨j, hxj, hj1, hj2⟩ := hmem x (List.mem_of_getElem? hx)
    obtain ⟨n, hn⟩ : ∃ n, ns[j]? = some n := ⟨ns[j], List.getElem?_eq_getElem hj1⟩
    obtain ⟨x0, y0⟩ := loadi_of (hs H1) hlt
    replace y0 := y0 H1 (Keeps.refl _)
    have hg : N.getD i 0 = x := by simp [List.getD_eq_getElem?_getD, hx]
    rw [hg] at y0
    have hns : nodeS ns x = some n := by
      unfold nodeS
      rw [if_neg (by omega), show (x - 1).toNat = j from by omega, hn]
    have hgd : ns.getD (x - 1).toNat Nd.zero = n := by
      rw [show (x - 1).toNat = j from by omega, List.getD_eq_getElem?_getD, hn]; rfl
    have hnode : ∀ H', Keeps H0 H' → R f_plait_term_Graph_Node [.ptr g 0, .int .i64 x] H' = some (.tup [.agg n.cs, .bool true], H') := fun H' k' => by
      obtain ⟨p1, p2, p3, tg, -⟩ := G.keeps k'
      have := node_run tg (id := x)
      rw [hns] at this
      exact this
    have ht := fullS_take (look := look) hx hgd
    have lem1 : em < H1.size := k.lt lem
    have oem1 := (k.obj _ lem).trans oem
    have m1 : ¬ em = H1.size := by omega
    have m2 : ¬ em = H1.size + 1 := by omega
    have hlk := hem.val (s := n.name)
    have hfv : fullV look n = if (((look n.name).getD Vl.zero).ok && decide (((look n.name).getD Vl.zero).w = n.sort)) = true then (look n.name).getD Vl.zero else ⟨n.sort, 0#128⟩ := rfl
    have hr := fun H => fits_run (v := (look n.name).getD Vl.zero) (s := n.sort) (H := H)
    rw [ht]
    generalize fullV look n = X at *
    generalize (look n.name).getD Vl.zero = W at *
    have key : ∀ (H2 : AHeap) (r : Option (AV × AHeap)), Keeps H1 H2 → appU (H2.new (.cells [.str n.name, .int .i64 X.w, u (lo X.n), u (hi X.n)])) w (.row H2.size 0 4 1 true) (some (4, 40, [.str .empty, .int .i64 0, u 0#64, u 0#64])) = r → ∃ v' H', r = some (v', H') ∧ OutC H0 H' v' 4 (i + 1) (flatN (fullS look ns (N.take i) ++ [⟨n.name, X⟩])) ∧ Keeps H0 H' := fun H2 r k2 hA => by
      obtain ⟨v', H', h1, h2, h3, -⟩ := (hw.keep k2).push (k.trans k2) hA rfl rfl (by omega) (by omega) (by omega) rfl
      refine ⟨v', H', h1, ?_, h3⟩
      rw [flatN_append]
      simpa [flatN, Nm.cs, Vl.cs] using h2
    obtain ⟨op, sort, a, b, d, p, q, vw, vl, vh, name⟩ := n
    simp only [Nd.cs] at hnode
    simp only at hlk hfv hr key
    by_cases ok : (W.ok && decide (W.w = sort)) = true
    · rw [ok] at hr
      rw [if_pos ok] at hfv
      subst hfv
      simp (maxDischargeDepth := 20) [hf, e0, e5, e15, e16, f17, f6, c1, x0, y0, k, hnode, oem1, m1, hlk, hr]
      generalize hA : appU _ _ _ _ = q
      obtain ⟨v', H', rfl, h2, h3⟩ := key _ q (by simp (maxDischargeDepth := 20)) hA
      simp [f17, w1, h3]
      exact h2
    · rw [Bool.not_eq_true] at ok
      rw [ok] at hr
      rw [if_neg (by rw [ok]; simp)] at hfv
      subst hfv
      have z0 : lo (0#128) = 0#64 := rfl
      have z1 : hi (0#128) = 0#64 := rfl
      simp only [z0, z1] at key
      simp (maxDischargeDepth := 20) [hf, e0, e5, e15, e16, f17, f6, c1, x0, y0, k, hnode, oem1, m1, hlk, hr]
      generalize hA : appU _ _ _ _ = q
      obtain ⟨v', H', rfl, h2, h3⟩ := key _ q (by simp (maxDischargeDepth := 20)) hA
      simp [f17, w1, h3]
      exact h2
  · rintro f H1 hf ⟨f17, k, w, f6, hw⟩
    rw [List.take_of_length_le (Nat.le_refl _)] at hw
    simp [hf, e16, f17]
    exact ⟨k, w, f6, hw⟩
theorem closed_flatN {n : Nat} : ∀ l : List Nm, closedL n (flatN l) = true
  | [] => rfl
  | x :: l => by
    rw [show flatN (x :: l) = x.cs ++ flatN l from rfl, closedL_append, closed_flatN l]
    simp [Nm.cs, Vl.cs]
theorem complete_run {H : AHeap} {g : Nat} {most : Int} {ns : List Nd} {F : List Nat} (G : GT H g most ns F) {s : AV} {env : List Nm} (hs : RN H s env) (hm : env.length ≤ 1000000) :
    ∃ v, R f_eval_Complete [.ptr g 0, s] H = some (v, H) ∧ ∀ H', RN H' v (fullS (lookL env) ns (varsT ns ns.length)) := by
  obtain ⟨H1, es, c, hk, k1, z1, o1, he⟩ := known_env hs hm
  obtain ⟨v, hv, hvr⟩ := vars_run2 (G.keeps k1)
  have hlen := (hvr H1).len
  rw [e_eval_Complete]
  simp (maxDischargeDepth := 40) [c_eval_Complete, hk, hv, hlen]
  generalize hL : loopL _ _ _ _ _ _ = r
  obtain ⟨y, e1, H2, rfl, ⟨rfl, k2, w, e6, hw⟩, fr⟩ := complete_loop (G.keeps k1) z1 o1 he (Keeps.refl _) hL (by simp) (by simp) (by simp) (by simp) (by simp) (by simp) hvr
  simp (maxDischargeDepth := 40) [e6]
  obtain ⟨v', b1, b2⟩ := back_out (k1.trans k2) (hw.base k1.size) (closed_flatN _)
  refine ⟨v', b1, fun H' => ?_⟩
  have := b2 H'
  unfold RN
  rw [show (fullS (lookL env) ns (varsT ns ns.length)).length = (varsT ns ns.length).length from by simp [fullS]]
  exact this
end Go.Proofs.Ytiaoojghohfkjaa
end
section
namespace Go.Proofs.Ytiaoojghohfkjaa
set_option maxRecDepth 100000
set_option maxHeartbeats 2000000
theorem flatV_append (l m : List Vl) : flatV (l ++ m) = flatV l ++ flatV m := by simp [flatV]
theorem closed_flatV {n : Nat} : ∀ l : List Vl, closedL n (flatV l) = true
  | [] => rfl
  | x :: l => by
    rw [show flatV (x :: l) = x.cs ++ flatV l from rfl, closedL_append, closed_flatV l]
    simp [Vl.cs]
theorem all_loop {H0 H : AHeap} {g em : Nat} {most : Int} {ns : List Nd} {F : List Nat} (G : GT H0 g most ns F) (gok : Gok ns) {look : ByteArray → Option Vl} {es0 : List AEnt} {c0 : Nat} (lem : em < H0.size) (oem : H0.obj em = .map (.one .s) es0 c0) (hem : EnvM es0 look) (k0 : Keeps H0 H)
    {s : AV} {ids : List Int} (hs : RI H0 s ids) (hm : ids.length ≤ 1000000) {e : Env} {r : Rn} (hL : loopL Try.prog KT R l_eval_All_0 e H = r) (e0 : e 0 = some (.ptr g 0)) (e8 : e 8 = some (.map em)) (e9 : e 9 = some .nils) (e16 : e 16 = some s) (e17 : e 17 = some (.int .i64 ids.length)) (e18 : e 18 = some (.int .i64 0)) :
    ∃ y e' H', r = some (y, e', H') ∧ (Keeps H0 H' ∧ (((∀ x, x ∈ ids → (worthS look ns x).2 = 0) ∧ y = .exit 0 ∧ ∃ w, e' 9 = some w ∧ OutC H0 H' w 3 ids.length (flatV (ids.map fun x => (worthS look ns x).1))) ∨
      ∃ i x, (∀ y, y ∈ ids.take i → (worthS look ns y).2 = 0) ∧ ids[i]? = some x ∧ ¬ (worthS look ns x).2 = 0 ∧ y = .ret ∧ e' 6 = some .nils ∧ e' 7 = some (.int .i64 (worthS look ns x).2))) ∧ ∀ t, t ∉ defs l_eval_All_0 → e' t = e t := by
  refine loop_count l_eval_All_0.eq_1 hL ids.length (fun i e1 H1 => e1 18 = some (.int .i64 i) ∧ Keeps H0 H1 ∧ (∀ y, y ∈ ids.take i → (worthS look ns y).2 = 0) ∧ ∃ w, e1 9 = some w ∧ OutC H0 H1 w 3 i (flatV ((ids.take i).map fun x => (worthS look ns x).1))) _ 0 (by omega)
    ⟨e18, k0, by simp, .nils, e9, OutC.nils⟩ ?_ ?_
  · rintro i f H1 hf - hlt ⟨f18, k, hok, w, f9, hw⟩
    have w1 := i64w (n := (i : Int) + 1) (by omega) (by omega)
    have c1 : (i : Int) < ids.length := by omega
    obtain ⟨x, hx⟩ : ∃ x, ids[i]? = some x := ⟨ids[i], by simp [hlt]⟩
    have ht : ids.take (i + 1) = ids.take i ++ [x] := by rw [List.take_add_one, hx]; rfl
    obtain ⟨x0, y0⟩ := loadi_of hs hlt
    replace y0 := y0 H1 k
    have hg : ids.getD i 0 = x := by simp [List.getD_eq_getElem?_getD, hx]
    rw [hg] at y0
    have lem1 : em < H1.size := k.lt lem
    have oem1 := (k.obj _ lem).trans oem
    have hwr := worth_run (G.keeps k) gok lem1 oem1 hem (id := x)
    have hmap : (ids.take (i + 1)).map (fun x => (worthS look ns x).1) = (ids.take i).map (fun x => (worthS look ns x).1) ++ [(worthS look ns x).1] := by rw [ht]; simp
    rw [hmap]
    by_cases c0 : (worthS look ns x).2 = 0
    · rw [c0] at hwr
      have hok' : ∀ y, y ∈ ids.take i ∨ y = x → (worthS look ns y).2 = 0 := fun y hy => by
        rcases hy with h | h
        · exact hok y h
        · rw [h]; exact c0
      rw [ht]
      generalize (worthS look ns x).1 = X at *
      have key : ∀ (H2 : AHeap) (r : Option (AV × AHeap)), Keeps H1 H2 → appU (H2.new (.cells [.int .i64 X.w, u (lo X.n), u (hi X.n)])) w (.row H2.size 0 3 1 true) (some (3, 24, [.int .i64 0, u 0#64, u 0#64])) = r → ∃ v' H', r = some (v', H') ∧ OutC H0 H' v' 3 (i + 1) (flatV ((ids.take i).map (fun x => (worthS look ns x).1) ++ [X])) ∧ Keeps H0 H' := fun H2 r k2 hA => by
        obtain ⟨v', H', h1, h2, h3, -⟩ := (hw.keep k2).push (k.trans k2) hA rfl rfl (by omega) (by omega) (by omega) rfl
        refine ⟨v', H', h1, ?_, h3⟩
        rw [flatV_append]
        simpa [flatV, Vl.cs] using h2
      simp (maxDischargeDepth := 20) [hf, e0, e8, e16, e17, f18, f9, c1, x0, y0, hwr]
      generalize hA : appU _ _ _ _ = q
      obtain ⟨v', H', rfl, h2, h3⟩ := key _ q (by simp (maxDischargeDepth := 20)) hA
      simp [f18, w1, h3]
      exact ⟨hok', by simpa using h2⟩
    · simp (maxDischargeDepth := 20) [hf, e0, e8, e16, e17, f18, c1, x0, y0, k, hwr, c0]
      exact ⟨(k.new' _).set k.size _, i, hok, x, hx, c0, rfl⟩
  · rintro f H1 hf ⟨f18, k, hok, w, f9, hw⟩
    rw [List.take_of_length_le (Nat.le_refl _)] at hw hok
    simp [hf, e17, f18]
    exact ⟨k, hok, w, f9, hw⟩
theorem all_run {H : AHeap} {g : Nat} {most : Int} {ns : List Nd} {F : List Nat} (G : GT H g most ns F) (gok : Gok ns) {s t : AV} {env : List Nm} (hs : RN H s env) (hm : env.length ≤ 1000000) {ids : List Int} (ht : RI H t ids) (hi' : ids.length ≤ 1000000) :
    ((∀ x, x ∈ ids → (worthS (lookL env) ns x).2 = 0) ∧ ∃ v, R f_eval_All [.ptr g 0, t, s] H = some (.tup [v, .int .i64 0], H) ∧ ∀ H', RV H' v (ids.map fun x => (worthS (lookL env) ns x).1)) ∨
    ∃ i x, (∀ y, y ∈ ids.take i → (worthS (lookL env) ns y).2 = 0) ∧ ids[i]? = some x ∧ ¬ (worthS (lookL env) ns x).2 = 0 ∧ R f_eval_All [.ptr g 0, t, s] H = some (.tup [.nils, .int .i64 (worthS (lookL env) ns x).2], H) := by
  obtain ⟨H1, es, c, hk, k1, z1, o1, he⟩ := known_env hs hm
  have hlen := ht.len
  rw [e_eval_All]
  simp (maxDischargeDepth := 40) [c_eval_All, hk, hlen]
  generalize hL : loopL _ _ _ _ _ _ = r
  obtain ⟨y, e1, H2, rfl, ⟨k2, hy⟩, fr⟩ := all_loop (G.keeps k1) gok z1 o1 he (Keeps.refl _) (ht.keep k1) hi' hL (by simp) (by simp) (by simp) (by simp) (by simp) (by simp)
  have kk := k1.trans k2
  rcases hy with ⟨hok, rfl, w, e9, hw⟩ | ⟨i, x, hok, hx, h0, rfl, e6, e7⟩
  · left
    refine ⟨hok, ?_⟩
    simp (maxDischargeDepth := 40) [e9]
    obtain ⟨v', b1, b2⟩ := back_outI (kk := .i64) (i := 0) kk (hw.base k1.size) (closed_flatV _)
    refine ⟨v', by rw [b1], fun H' => ?_⟩
    have := b2 H'
    unfold RV
    rw [List.length_map]
    exact this
  · right
    refine ⟨i, hok, x, hx, h0, ?_⟩
    simp (maxDischargeDepth := 40) [e6, e7]
    rw [back_cons (by simp) kk.shut, cut_keeps kk]
    simp
end Go.Proofs.Ytiaoojghohfkjaa
end
section
namespace Go.Proofs.Ytiaoojghohfkjaa
set_option maxRecDepth 100000
set_option maxHeartbeats 4000000
theorem rightR_run {w : Int} {l h : BitVec 64} {H : AHeap} : R f_plaitref1_Right [.agg [.int .i64 w, u l, u h]] H = some (.bool (rightF w l h), H) := by
  unfold rightF
  rw [e_plaitref1_Right]
  by_cases hneg : w < 0
  · have h0 : ¬ w = 0 := by omega
    have h1 : ¬ 0 < w := by omega
    simp (maxDischargeDepth := 40) [c_plaitref1_Right, hneg, h0, h1]
  by_cases hbig : 128 < w
  · have h0 : ¬ w = 0 := by omega
    have h1 : ¬ w ≤ 128 := by omega
    simp (maxDischargeDepth := 40) [c_plaitref1_Right, hneg, h0, h1, hbig]
  by_cases h0 : w = 0
  · subst h0
    by_cases hp : l ≤ 1#64 <;> simp (maxDischargeDepth := 40) [c_plaitref1_Right, hp]
  obtain ⟨n, rfl⟩ : ∃ n : Nat, w = n := ⟨w.toNat, by omega⟩
  have hn : n ≤ 128 := by omega
  have h0' : ¬ n = 0 := by omega
  have h1' : ¬ (128 : Int) < n := by omega
  have h2' : (n : Int) ≤ 128 := by omega
  have h3' : 0 < n := by omega
  obtain ⟨H', hb, kb, sb, hob⟩ := (bits_run hn (x := mkN l h) (H := H.new (.cells [.int .i64 n, u l, u h]))).ex
  rw [lo_mk, hi_mk] at hb
  have hv : RB H' (.row ((H.new (.cells [.int .i64 n, u l, u h])).size + 1) 0 1 n true) (bn n (mkN l h)) := RB.row (by rw [sb]; simp) hob (by simp)
  have h1 : H'.obj H.size = .cells [.int .i64 n, u l, u h] := by rw [kb.obj _ (by simp)]; simp
  have kb2 : Keeps H H' := (Keeps.new _ _).trans kb
  simp only [new_size] at hb hv
  have hw := (wordR_run hv (by simpa using hn)).run
  rw [wv_bn hn, ← cut_E hn] at hw
  simp only [Bt, bn_length] at hw
  have e : (lo (mkN l h &&& maskN n) = l ∧ hi (mkN l h &&& maskN n) = h) ↔ mkN l h &&& maskN n = mkN l h := by
    constructor
    · intro ⟨a, b⟩; exact pair_ext (by rw [a, lo_mk]) (by rw [b, hi_mk])
    · intro a; rw [a, lo_mk, hi_mk]; exact ⟨rfl, rfl⟩
  simp (maxDischargeDepth := 40) [c_plaitref1_Right, h0', h1', h2', h3', hb, hw, kb, kb2, h1]
  rw [← Bool.decide_and, decide_eq_decide]; exact e
end Go.Proofs.Ytiaoojghohfkjaa
end
section
namespace Go.Proofs.Ytiaoojghohfkjaa
set_option maxRecDepth 100000
set_option maxHeartbeats 4000000
structure RG (H : AHeap) (g : Nat) (most : Int) (ns : List Nd) (o : Nat) : Prop where
  lg : g < H.size
  l1 : ns ≠ [] → o < H.size
  og : H.obj g = .cells [slv o ns, .int .i64 most]
  b1 : ns ≠ [] → H.obj o = .cells (flat ns)
  n1 : ns ≠ [] → g ≠ o
  lim : (ns.length : Int) ≤ most
  lim2 : most ≤ 4096
theorem RG.same {H H' : AHeap} {g : Nat} {most : Int} {ns : List Nd} {o : Nat} (h : RG H g most ns o) (z : H.size ≤ H'.size) (k : ∀ p, p ∈ g :: objs (slv o ns) → H'.obj p = H.obj p) : RG H' g most ns o := by
  have k1 : ns ≠ [] → H'.obj o = H.obj o := fun e => k o (by
    unfold slv; rw [if_neg e]; simp)
  exact ⟨Nat.lt_of_lt_of_le h.lg z, fun e => Nat.lt_of_lt_of_le (h.l1 e) z, (k _ (by simp)).trans h.og, fun e => (k1 e).trans (h.b1 e), h.n1, h.lim, h.lim2⟩
theorem RG.keep {H H' : AHeap} {g : Nat} {most : Int} {ns : List Nd} {o : Nat} (h : RG H g most ns o) (k : Keeps H H') : RG H' g most ns o :=
  ⟨k.lt h.lg, fun e => k.lt (h.l1 e), (k.obj _ h.lg).trans h.og, fun e => (k.obj _ (h.l1 e)).trans (h.b1 e), h.n1, h.lim, h.lim2⟩
def GR (H : AHeap) (g : Nat) (most : Int) (ns : List Nd) (F : List Nat) : Prop := ∃ o, RG H g most ns o ∧ Vok ns ∧ Kok ns ∧ F = g :: objs (slv o ns)
theorem GR.keeps {H H' : AHeap} {g : Nat} {most : Int} {ns : List Nd} {F : List Nat} (h : GR H g most ns F) (k : Keeps H H') : GR H' g most ns F := by
  obtain ⟨o, t, v, kk, rfl⟩ := h
  exact ⟨o, t.keep k, v, kk, rfl⟩
theorem GR.same {H H' : AHeap} {g : Nat} {most : Int} {ns : List Nd} {F : List Nat} (h : GR H g most ns F) (z : H.size ≤ H'.size) (k : ∀ p, p ∈ F → H'.obj p = H.obj p) : GR H' g most ns F := by
  obtain ⟨o, t, v, kk, rfl⟩ := h
  exact ⟨o, t.same z k, v, kk, rfl⟩
theorem GR.lt {H : AHeap} {g : Nat} {most : Int} {ns : List Nd} {F : List Nat} (h : GR H g most ns F) : ∀ p, p ∈ F → p < H.size := by
  obtain ⟨o, t, v, kk, rfl⟩ := h
  intro p hp
  simp only [List.mem_cons] at hp
  rcases hp with rfl | hp
  · exact t.lg
  · unfold slv at hp
    split at hp
    · simp at hp
    · rename_i hne
      simp at hp
      subst hp
      exact t.l1 hne
theorem rnew_run {n : Int} {H : AHeap} {r : Option (AV × AHeap)} (h : R f_plaitref3_New [.int .i64 n] H = r) : ∃ H' g F, r = some (.ptr g 0, H') ∧ GR H' g (min (max n 1) 4096) [] F ∧ Keeps H H' ∧ ∀ p, p ∈ F → H.size ≤ p := by
  rw [e_plaitref3_New] at h
  by_cases c : n < 1
  · simp [c_plaitref3_New, c] at h
    rw [back_open (by simp [closed])] at h
    subst h
    refine ⟨_, H.size, [H.size], rfl, ⟨0, ⟨by simp, by simp, by simp [slv]; omega, by simp, by simp, by show (0 : Int) ≤ _; omega, by omega⟩, (fun n hn => by cases hn), (fun i n hn => by rw [List.getElem?_nil] at hn; cases hn), by simp [slv]⟩, by simp (maxDischargeDepth := 40), fun p hp => by simp at hp; omega⟩
  · simp [c_plaitref3_New, c] at h
    rw [back_open (by simp [closed])] at h
    subst h
    refine ⟨_, H.size, [H.size], rfl, ⟨0, ⟨by simp, by simp, by simp [slv]; omega, by simp, by simp, by show (0 : Int) ≤ _; omega, by omega⟩, (fun n hn => by cases hn), (fun i n hn => by rw [List.getElem?_nil] at hn; cases hn), by simp [slv]⟩, by simp (maxDischargeDepth := 40), fun p hp => by simp at hp; omega⟩
theorem at_run {H : AHeap} {g : Nat} {most : Int} {ns : List Nd} {o : Nat} (h : RG H g most ns o) {id : Int} : R f_plait_plaitref3_Graph_At [.ptr g 0, .int .i64 id] H = some (.tup [.agg ((nodeS ns id).getD Nd.zero).cs, .bool (nodeS ns id).isSome], H) := by
  have hl := h.lim
  have hl2 := h.lim2
  unfold nodeS
  rw [e_plait_plaitref3_Graph_At]
  have ng : ¬ g = H.size := Nat.ne_of_lt h.lg
  by_cases c1 : id < 1
  · simp (maxDischargeDepth := 40) [c_plait_plaitref3_Graph_At, c1, Nd.cs, Nd.zero]
  by_cases c2 : (ns.length : Int) < id
  · simp (maxDischargeDepth := 40) [c_plait_plaitref3_Graph_At, c1, c2, h.og, ng, slv_len, Nd.cs, Nd.zero]
  obtain ⟨i, rfl⟩ : ∃ i : Nat, id = (i : Int) + 1 := ⟨(id - 1).toNat, by omega⟩
  have hi : i < ns.length := by omega
  have hne : ns ≠ [] := by rintro rfl; simp at hi
  obtain ⟨n, hn⟩ : ∃ n, ns[i]? = some n := ⟨ns[i], by simp [hi]⟩
  have w1 : IntKind.i64.wrap (i : Int) = (i : Int) := i64w (by omega) (by omega)
  have hx : ns[i] = n := (List.getElem?_eq_some_iff.1 hn).2
  have hs := slv_row (o := o) hi
  have hsl := slv_len o ns
  have ho := h.b1 hne
  have hlt := h.l1 hne
  have n1 : ¬ o = H.size := Nat.ne_of_lt hlt
  have hfl := flat_len ns
  have hat := flat_at hn
  have hle : i * 11 + 11 ≤ ns.length * 11 := by omega
  have e1 : ((i : Int) + 1 - 1).toNat = i := by omega
  have c3 : (i : Int) < ns.length := by omega
  have hg := h.og
  rw [hs] at hg hsl
  simp (maxDischargeDepth := 40) [c_plait_plaitref3_Graph_At, c1, c2, hg, hx, w1, c3, hi, ho, n1, ng, hfl, hat, hle]
  simp (maxDischargeDepth := 40) [Nd.cs]
theorem vidx_take {ns : List Nd} {s : ByteArray} {i : Nat} {n : Nd} (hn : ns[i]? = some n) : vidx (ns.take (i + 1)) s = (vidx (ns.take i) s).or (if n.op = 2 ∧ s = n.name then some i else none) := by
  have hi := (List.getElem?_eq_some_iff.1 hn).1
  rw [List.take_add_one, hn, Option.toList_some, vidx_append, List.length_take, Nat.min_eq_left (by omega)]
theorem rvar_loop {H : AHeap} {g : Nat} {most : Int} {ns : List Nd} {o : Nat} (h : RG H g most ns o) {s : ByteArray} {e : Env} {r : Rn} (hL : loopL Try.prog KT R l_plait_plaitref3_Graph_Var_0 e H = r)
    (e0 : e 0 = some (.ptr g 0)) (e1' : e 1 = some (.str s)) (e6 : e 6 = some (.int .i64 0)) :
    ∃ y e' H', r = some (y, e', H') ∧ (H' = H ∧ ((y = .exit 0 ∧ vidx ns s = none) ∨ (y = .ret ∧ ∃ i, vidx ns s = some i ∧ e' 4 = some (num i) ∧ e' 5 = some (.bool true)))) ∧ ∀ t, t ∉ defs l_plait_plaitref3_Graph_Var_0 → e' t = e t := by
  have hl := h.lim
  have hl2 := h.lim2
  refine loop_count l_plait_plaitref3_Graph_Var_0.eq_1 hL ns.length (fun i e1 H1 => e1 6 = some (.int .i64 i) ∧ H1 = H ∧ vidx (ns.take i) s = none) _ 0 (by omega) ⟨e6, rfl, rfl⟩ ?_ ?_
  · rintro i f H1 hf - hi ⟨f6, rfl, hv⟩
    have w1 : IntKind.i64.wrap ((i : Int) + 1) = (i : Int) + 1 := i64w (by omega) (by omega)
    have c1 : (i : Int) < ns.length := by omega
    have hne : ns ≠ [] := by rintro rfl; simp at hi
    obtain ⟨n, hn⟩ : ∃ n, ns[i]? = some n := ⟨ns[i], by simp [hi]⟩
    have hs := slv_row (o := o) hi
    have ho := h.b1 hne
    have hfl := flat_len ns
    have hb0 : i * 11 < (flat ns).length := by omega
    have hb10 : i * 11 + 10 < (flat ns).length := by omega
    have hat0 : (flat ns)[i * 11]? = some (.int .i64 n.op) := flat_get hn (j := 0) (by omega)
    have hat10 : (flat ns)[i * 11 + 8 + 2]? = some (.str n.name) := by
      rw [show i * 11 + 8 + 2 = i * 11 + 10 from by omega, flat_get hn (by omega)]; rfl
    have hg := h.og
    rw [hs] at hg
    have ht := vidx_take (s := s) hn
    rw [hv, Option.none_or] at ht
    have hm : ∀ j, vidx (ns.take (i + 1)) s = some j → vidx ns s = some j := fun j h => by
      have := vidx_more (ks := ns.drop (i + 1)) h
      rwa [List.take_append_drop] at this
    rw [ht] at hm ⊢
    by_cases d1 : n.op = 2
    · rw [d1] at hat0
      by_cases d2 : n.name = s
      · rw [if_pos ⟨d1, d2.symm⟩] at hm
        simp (maxDischargeDepth := 40) [hf, e0, e1', f6, c1, hg, ho, hat0, hat10, d2, w1]
        exact ⟨i, hm i rfl, rfl⟩
      · have d2' : ¬ s = n.name := fun e => d2 e.symm
        simp (maxDischargeDepth := 40) [hf, e0, e1', f6, c1, hg, ho, hat0, hat10, d1, d2, d2', w1]
    · simp (maxDischargeDepth := 40) [hf, e0, f6, c1, hg, ho, hat0, d1, w1]
  · rintro f H1 hf ⟨f6, rfl, hv⟩
    have hg := h.og
    have hsl := slv_len o ns
    simp (maxDischargeDepth := 40) [hf, e0, f6, hg, hsl]
    rw [List.take_of_length_le (Nat.le_refl _)] at hv
    exact hv
theorem rvar_run {H : AHeap} {g : Nat} {most : Int} {ns : List Nd} {o : Nat} (h : RG H g most ns o) {s : ByteArray} : R f_plait_plaitref3_Graph_Var [.ptr g 0, .str s] H = some (.tup [((vidx ns s).map num).getD (.int .i64 0), .bool (vidx ns s).isSome], H) := by
  generalize hr : R f_plait_plaitref3_Graph_Var _ _ = r
  rw [e_plait_plaitref3_Graph_Var] at hr
  simp [c_plait_plaitref3_Graph_Var] at hr
  generalize hL : loopL _ _ _ _ _ _ = q at hr
  obtain ⟨y, e1, H1, rfl, ⟨rfl, hy⟩, fr⟩ := rvar_loop (s := s) h hL (by simp) (by simp) (by simp)
  rcases hy with ⟨rfl, hv⟩ | ⟨rfl, i, hv, e4, e5⟩
  · rw [hv]
    simp at hr
    rw [← hr]; rfl
  · rw [hv]
    simp [e4, e5, num] at hr
    rw [← hr]; rfl
end Go.Proofs.Ytiaoojghohfkjaa
end
section
namespace Go.Proofs.Ytiaoojghohfkjaa
set_option maxRecDepth 100000
set_option maxHeartbeats 4000000
theorem nodeS_some {ns : List Nd} {x : Int} (h1 : 1 ≤ x) (h2 : x ≤ ns.length) : nodeS ns x = some (ns.getD (x - 1).toNat Nd.zero) := by
  unfold nodeS
  rw [if_neg (by omega)]
  have : (x - 1).toNat < ns.length := by omega
  rw [List.getD_eq_getElem?_getD, List.getElem?_eq_getElem this]; rfl
theorem nodeS_none {ns : List Nd} {x : Int} (h : ¬ (1 ≤ x ∧ x ≤ ns.length)) : nodeS ns x = none := by
  unfold nodeS
  rw [if_pos (by omega)]
theorem rmk_loop0 {H : AHeap} {g q : Nat} {most : Int} {ns : List Nd} {o : Nat} (t : RG H g most ns o) {a : Int} {kids : List Int} {P : Nat → Bool} (hP : ∀ i, P i = kidOK ns.length a i (kids.getD i 0)) (h3 : kids.length = 3) (lq : q < H.size) (oq : H.obj q = .cells (kids.map (.int .i64))) {e : Env} {r : Rn} (hL : loopL Try.prog KT R l_plait_plaitref3_Graph_Make_0 e H = r)
    (e0 : e 0 = some (.ptr g 0)) (e6 : e 6 = some (.int .i64 a)) (e7 : e 7 = some (.row q 0 1 3 true)) (e8 : e 8 = some .nils) (e9 : e 9 = some (.int .i64 0)) :
    ∃ y e' H', r = some (y, e', H') ∧ (Keeps H H' ∧ ((y = .exit 0 ∧ (∀ i, i < 3 → P i = true) ∧ ∃ w, e' 8 = some w ∧ OutT H H' w (kids.flatMap (ksort ns))) ∨ (y = .ret ∧ (∃ i, i < 3 ∧ P i = false) ∧ e' 4 = some (.int .i64 0) ∧ e' 5 = some (.int .i64 32)))) ∧ ∀ t, t ∉ defs l_plait_plaitref3_Graph_Make_0 → e' t = e t := by
  have lim := t.lim
  have lim2 := t.lim2
  refine loop_count l_plait_plaitref3_Graph_Make_0.eq_1 hL 3 (fun i e1 H1 => e1 9 = some (.int .i64 i) ∧ Keeps H H1 ∧ (∀ j, j < i → P j = true) ∧ ∃ w, e1 8 = some w ∧ OutT H H1 w ((kids.take i).flatMap (ksort ns))) _ 0 (by omega) ⟨e9, Keeps.refl _, fun j hj => by omega, .nils, e8, ⟨by simpa using RI.nils, by simp, by simp⟩⟩ ?_ ?_
  · rintro i f H1 hf - hi ⟨f9, k1, hok, w, f8, hout⟩
    have w1 : IntKind.i64.wrap ((i : Int) + 1) = (i : Int) + 1 := i64w (by omega) (by omega)
    have c1 : (i : Int) < 3 := by omega
    have hik : i < kids.length := by omega
    have hget : kids[i] = kids.getD i 0 := by simp [List.getD_eq_getElem?_getD, hik]
    have oq1 : H1.obj q = .cells (kids.map (.int .i64)) := (k1.obj q lq).trans oq
    have lq1 := k1.lt lq
    have hqn : ¬ q = H1.size := Nat.ne_of_lt lq1
    have tk : (kids.take (i + 1)).flatMap (ksort ns) = (kids.take i).flatMap (ksort ns) ++ ksort ns (kids.getD i 0) := by rw [List.take_add_one, List.flatMap_append, List.getElem?_eq_getElem hik, ← hget]; simp
    rw [tk]
    have hlen : ((kids.take i).flatMap (ksort ns)).length ≤ 1000000 := by
      have : ∀ l : List Int, (l.flatMap (ksort ns)).length ≤ l.length := fun l => by
        induction l with
        | nil => simp
        | cons x l ih => have := ksort_len ns x; simp only [List.flatMap_cons, List.length_append, List.length_cons]; omega
      have := this (kids.take i)
      have : (kids.take i).length ≤ 3 := by rw [List.length_take]; omega
      omega
    have hat := fun H2 (k : Keeps H1 H2) => at_run (t.keep (k1.trans k)) (id := kids.getD i 0)
    have hko : kidOK ns.length a i (kids.getD i 0) = true → ∀ j, j < i + 1 → P j = true := fun h j hj => by
      by_cases e : j = i
      · rw [e, hP]; exact h
      · exact hok j (by omega)
    have hkf : kidOK ns.length a i (kids.getD i 0) = false → ∃ i, i < 3 ∧ P i = false := fun h => ⟨i, hi, by rw [hP]; exact h⟩
    clear hP
    generalize kids.getD i 0 = x at *
    unfold kidOK at hko hkf
    by_cases c2 : (i : Int) < a
    · have c2' : ¬ a ≤ (i : Int) := by omega
      rw [if_pos c2] at hko hkf
      by_cases c3 : 1 ≤ x ∧ x ≤ ns.length
      · rw [nodeS_some c3.1 c3.2] at hat
        have c4 : 0 < x := by omega
        have hxx := hko (by simp; omega)
        clear hko hkf
        rw [show ksort ns x = [(ns.getD (x - 1).toNat Nd.zero).sort] from by unfold ksort; rw [if_pos c4]]
        generalize ns.getD (x - 1).toNat Nd.zero = m at *
        obtain ⟨op, sort, ma, mb, mc, p, qq, vw, vl, vh, name⟩ := m
        simp only [Option.getD_some, Option.isSome_some, Nd.cs] at hat
        simp (maxDischargeDepth := 40) [hf, e0, e6, e7, f8, f9, c1, hi, h3, oq1, hget, hat, c2, c2']
        generalize hH2 : AHeap.set _ _ _ = H2
        have k2 : Keeps H1 H2 := by rw [← hH2]; exact (Keeps.new _ _).set (Nat.le_refl _) _
        have z2 : H2.size = H1.size + 1 := by rw [← hH2]; simp
        clear hH2
        rw [← z2]
        generalize hA : appU _ _ _ _ = qa
        obtain ⟨w', H3, rfl, h2, k3⟩ := (hout.keep k2).push (k1.trans k2) hlen hA
        simp (maxDischargeDepth := 40) [f9, w1, k3]
        exact ⟨hxx, h2⟩
      · rw [nodeS_none c3] at hat
        have hxx := hkf (by simp; omega)
        clear hko hkf
        simp only [Option.getD_none, Option.isSome_none, Nd.cs, Nd.zero] at hat
        simp (maxDischargeDepth := 40) [hf, e0, e6, e7, f9, c1, hi, h3, oq1, hget, hat, c2]
        exact ⟨k1.trans ((Keeps.new _ _).set (Nat.le_refl _) _), hxx⟩
    · have c2' : a ≤ (i : Int) := by omega
      rw [if_neg c2] at hko hkf
      generalize hS : nodeS ns x = S at hat
      obtain ⟨m, hm⟩ : ∃ m, m = S.getD Nd.zero := ⟨_, rfl⟩
      rw [← hm] at hat
      clear hm
      generalize S.isSome = b at hat
      obtain ⟨op, sort, ma, mb, mc, p, qq, vw, vl, vh, name⟩ := m
      simp only [Nd.cs] at hat
      by_cases c3 : x = 0
      · subst c3
        have hxx := hko (by simp)
        rw [show ksort ns 0 = [] from rfl, List.append_nil]
        clear hko hkf
        simp (maxDischargeDepth := 40) [hf, e0, e6, e7, f8, f9, c1, hi, h3, oq1, hqn, hget, hat, c2, c2', w1]
        exact ⟨k1.trans ((Keeps.new _ _).set (Nat.le_refl _) _), hxx, hout.keep ((Keeps.new _ _).set (Nat.le_refl _) _)⟩
      · have hxx := hkf (by simp [c3])
        clear hko hkf
        simp (maxDischargeDepth := 40) [hf, e0, e6, e7, f9, c1, hi, h3, oq1, hqn, hget, hat, c2, c2', c3]
        exact ⟨k1.trans ((Keeps.new _ _).set (Nat.le_refl _) _), hxx⟩
  · rintro f H1 hf ⟨f9, k1, hok, w, f8, hout⟩
    simp [f8, f9, k1]
    rw [List.take_of_length_le (by omega)] at hout
    exact ⟨hok, hout⟩
theorem idx_take {ns : List Nd} {n m : Nd} {i : Nat} (hn : ns[i]? = some m) : idx (ns.take (i + 1)) n = (idx (ns.take i) n).or (if n = m then some i else none) := by
  have hi := (List.getElem?_eq_some_iff.1 hn).1
  rw [List.take_add_one, hn, Option.toList_some, idx_append, List.length_take, Nat.min_eq_left (by omega)]
theorem rmk_loop1 {H : AHeap} {g p : Nat} {most : Int} {ns : List Nd} {o : Nat} (t : RG H g most ns o) {M : Nd} (op : H.obj p = .cells M.cs) {e : Env} {r : Rn} (hL : loopL Try.prog KT R l_plait_plaitref3_Graph_Make_1 e H = r)
    (e0 : e 0 = some (.ptr g 0)) (e3 : e 3 = some (.ptr p 0)) (e16 : e 16 = some (.int .i64 0)) :
    ∃ y e' H', r = some (y, e', H') ∧ (H' = H ∧ ((y = .exit 3 ∧ idx ns M = none) ∨ (y = .ret ∧ ∃ i, idx ns M = some i ∧ e' 4 = some (num i) ∧ e' 5 = some (.int .i64 0)))) ∧ ∀ t, t ∉ defs l_plait_plaitref3_Graph_Make_1 → e' t = e t := by
  have hl := t.lim
  have hl2 := t.lim2
  refine loop_count l_plait_plaitref3_Graph_Make_1.eq_1 hL ns.length (fun i e1 H1 => e1 16 = some (.int .i64 i) ∧ H1 = H ∧ idx (ns.take i) M = none) _ 0 (by omega) ⟨e16, rfl, rfl⟩ ?_ ?_
  · rintro i f H1 hf - hi ⟨f16, rfl, hv⟩
    have w1 : IntKind.i64.wrap ((i : Int) + 1) = (i : Int) + 1 := i64w (by omega) (by omega)
    have c1 : (i : Int) < ns.length := by omega
    have hne : ns ≠ [] := by rintro rfl; simp at hi
    obtain ⟨n, hn⟩ : ∃ n, ns[i]? = some n := ⟨ns[i], by simp [hi]⟩
    have hs := slv_row (o := o) hi
    have ho := t.b1 hne
    have hfl := flat_len ns
    have hle : i * 11 + 11 ≤ ns.length * 11 := by omega
    have hat := flat_at hn
    have hg := t.og
    rw [hs] at hg
    have ht := idx_take (n := M) hn
    rw [hv, Option.none_or] at ht
    have hm : ∀ j, idx (ns.take (i + 1)) M = some j → idx ns M = some j := fun j h => by
      have := idx_more (ks := ns.drop (i + 1)) h
      rwa [List.take_append_drop] at this
    have hq : scsEq n.cs M.cs = decide (n = M) := by
      have := keyEq_nd n M
      simpa only [keyEq] using this
    rw [ht] at hm ⊢
    by_cases d : n = M
    · rw [if_pos d.symm] at hm
      simp only [d, decide_true] at hq hat
      have hm2 := hm i rfl
      clear hm ht d hv hn
      generalize hidx : idx ns M = X at *
      obtain ⟨op', sort', a', b', c', p', q', vw', vl', vh', name'⟩ := M
      simp only [Nd.cs] at op hat hq
      simp (maxDischargeDepth := 40) (maxSteps := 4000000) [hf, e0, e3, f16, c1, hg, ho, hfl, hle, hat, op, w1]
      exact ⟨i, hm2, rfl⟩
    · rw [if_neg (fun e => d e.symm)]
      rw [decide_eq_false d] at hq
      clear hm ht hv hn
      obtain ⟨op', sort', a', b', c', p', q', vw', vl', vh', name'⟩ := M
      obtain ⟨op2, sort2, a2, b2, c2, p2, q2, vw2, vl2, vh2, name2⟩ := n
      simp only [Nd.cs] at op hat hq
      simp (maxDischargeDepth := 40) (maxSteps := 4000000) [hf, e0, e3, f16, c1, hg, ho, hfl, hle, hat, op, hq, w1]
  · rintro f H1 hf ⟨f16, rfl, hv⟩
    have hg := t.og
    have hsl := slv_len o ns
    simp (maxDischargeDepth := 40) [hf, e0, f16, hg, hsl]
    rw [List.take_of_length_le (Nat.le_refl _)] at hv
    exact hv
end Go.Proofs.Ytiaoojghohfkjaa
end
section
namespace Go.Proofs.Ytiaoojghohfkjaa
set_option maxRecDepth 100000
set_option maxHeartbeats 4000000
def GvR (H : AHeap) (g : Nat) (most : Int) (F : List Nat) (x : List Nd × Int × Int) (r : Option (AV × AHeap)) : Prop :=
  ∃ H' F', r = some (.tup [.int .i64 x.2.1, .int .i64 x.2.2], H') ∧ GR H' g most x.1 F' ∧ MvT F H F' H'
theorem GvR.mk {H H' : AHeap} {g : Nat} {most l e : Int} {F : List Nat} {x : List Nd × Int × Int} {js : List Nd} {r : Option (AV × AHeap)} (h : some (.tup [.int .i64 l, .int .i64 e], H') = r) (hx : x = (js, l, e)) (F' : List Nat) (g' : GR H' g most js F') (k : MvT F H F' H') : GvR H g most F x r := by
  subst hx; exact ⟨H', F', h.symm, g', k⟩
theorem GvR.keep {H H' : AHeap} {g : Nat} {most l e : Int} {F : List Nat} {ns : List Nd} {x : List Nd × Int × Int} {r : Option (AV × AHeap)} (G : GR H g most ns F) (h : some (.tup [.int .i64 l, .int .i64 e], H') = r) (hx : x = (ns, l, e)) (k : Keeps H H') : GvR H g most F x r :=
  GvR.mk h hx _ (G.keeps k) (MvT.keeps k)
theorem kids3 (N a x y z : Int) : kidsOK N a [x, y, z] 0 = true ↔ ∀ i, i < 3 → kidOK N a i ([x, y, z].getD i 0) = true := by
  simp only [kidsOK, Bool.and_eq_true, and_true]
  constructor
  · rintro ⟨h1, h2, h3⟩ i hi
    rcases (show i = 0 ∨ i = 1 ∨ i = 2 by omega) with rfl | rfl | rfl
    · exact h1
    · exact h2
    · exact h3
  · intro h
    exact ⟨h 0 (by omega), h 1 (by omega), h 2 (by omega)⟩
theorem kids3' (N a x y z : Int) (h : ∃ i, i < 3 ∧ kidOK N a i ([x, y, z].getD i 0) = false) : kidsOK N a [x, y, z] 0 = false := by
  obtain ⟨i, hi, h⟩ := h
  rw [Bool.eq_false_iff]
  intro hk
  rw [(kids3 N a x y z).1 hk i hi] at h
  cases h
theorem rmk1_run {H : AHeap} {g : Nat} {most : Int} {ns : List Nd} {F : List Nat} (G : GR H g most ns F) {n : Nd} (hop : n.op = 1) {r : Option (AV × AHeap)} (h : R f_plait_plaitref3_Graph_Make [.ptr g 0, .agg n.cs] H = r) : GvR H g most F (makT most ns n) r := by
  obtain ⟨o, t, v, kok, rfl⟩ := id G
  rw [e_plait_plaitref3_Graph_Make] at h
  obtain ⟨S, hS⟩ : ∃ S, S = makT most ns n := ⟨_, rfl⟩
  obtain ⟨B, hB⟩ : ∃ B, B = formedF ns.length n := ⟨_, rfl⟩
  have hSB : B = false → S = (ns, 0, 32) := fun e => by rw [hS]; unfold makT; rw [if_pos (hB.symm.trans e)]
  have hSs : B = true → S = if ¬ (sortedF ns n).2 = 0 then (ns, 0, (sortedF ns n).2) else match idx ns (sortedF ns n).1 with
      | some i => (ns, (i : Int) + 1, 0)
      | none => if most ≤ ns.length then (ns, 0, 33) else (ns ++ [(sortedF ns n).1], (ns.length : Int) + 1, 0) := fun e => by
    rw [hS]; unfold makT; rw [if_neg (by simp [← hB, e])]; rfl
  have hkk : B = true → Kok (ns ++ [n]) := fun e => by
    obtain ⟨f1, f2, f3⟩ := formed_kids0 (hB.symm.trans e)
    obtain ⟨ka, kb, kc⟩ := formed_kids (hB.symm.trans e)
    exact kok.grow ⟨⟨f1, ka⟩, ⟨f2, kb⟩, ⟨f3, kc⟩⟩
  rw [← hS]
  clear hS
  obtain ⟨M, hM⟩ : ∃ M, M = n := ⟨_, rfl⟩
  have hcs0 : n.cs = M.cs := by rw [hM]
  have hsf : sortedF ns n = (M, if rightF n.vw n.vl n.vh = true ∧ n.vw = n.sort ∧ n.p = 0 ∧ n.q = 0 then 0 else 30) := by unfold sortedF; rw [if_pos hop, hM]
  rw [← hM] at hkk
  have hMo : M.op = 1 := by rw [hM, hop]
  have har := fun H => arityR_run (op := n.op) (H := H)
  have ar1 : arity 1 = 0 := by decide
  rw [hsf] at hSs
  clear hsf hM
  unfold formedF at hB
  obtain ⟨op, sort, a, b, c, p, q, vw, vl, vh, name⟩ := n
  simp only at hop
  subst hop
  simp only [ar1] at har hB
  simp only [Nd.cs] at h
  by_cases c1 : name = ⟨#[]⟩
  rotate_left
  · have c1' : ¬ name = .empty := c1
    simp (maxDischargeDepth := 40) [c_plait_plaitref3_Graph_Make, har, c1] at h
    exact GvR.keep G h (hSB (by rw [hB]; simp [c1'])) (by simp (maxDischargeDepth := 40))
  subst c1
  have hBk : B = kidsOK ns.length 0 [a, b, c] 0 := by rw [hB]; simp [show (⟨#[]⟩ : ByteArray) = .empty from rfl]
  clear hB
  simp (maxDischargeDepth := 40) [c_plait_plaitref3_Graph_Make, har] at h
  generalize hL : loopL _ _ _ _ _ _ = q0 at h
  have kb : Keeps H ((H.new (.cells [.int .i64 1, .int .i64 sort, .int .i64 a, .int .i64 b, .int .i64 c, .int .i64 p, .int .i64 q, .int .i64 vw, u vl, u vh, .str ⟨#[]⟩])).new (.cells [.int .i64 a, .int .i64 b, .int .i64 c])) := (Keeps.new _ _).trans (Keeps.new _ _)
  obtain ⟨y, e1, H1, rfl, ⟨k1, hy⟩, fr⟩ := rmk_loop0 (q := H.size + 1) (kids := [a, b, c]) (a := 0) (t.keep kb) (fun _ => rfl) rfl (by simp) (by simp) hL (by simp) (by simp) (by simp) (by simp) (by simp)
  have k2 := kb.trans k1
  have ob : H1.obj H.size = .cells (Nd.cs ⟨1, sort, a, b, c, p, q, vw, vl, vh, ⟨#[]⟩⟩) := by rw [k1.obj _ (by simp)]; simp [Nd.cs]
  simp only [Nd.cs] at hcs0
  simp only [Nd.cs] at ob
  clear hL
  rcases hy with ⟨rfl, hk, w, e8, hout⟩ | ⟨rfl, hk, e4, e5⟩
  rotate_left
  · simp (maxDischargeDepth := 40) [e4, e5, k2] at h
    exact GvR.keep G h (hSB (by rw [hBk]; exact kids3' _ _ _ _ _ hk)) (Keeps.refl _)
  have hBt : B = true := by rw [hBk]; exact (kids3 _ _ _ _ _).2 hk
  replace hSs := hSs hBt
  have kok' := hkk hBt
  clear hkk hSB hBk hk
  have hr := fun H => rightR_run (w := vw) (l := vl) (h := vh) (H := H)
  generalize rightF vw vl vh = rt at *
  by_cases d : rt = true ∧ vw = sort ∧ p = 0 ∧ q = 0
  rotate_left
  · rw [if_neg d] at hSs
    simp only [show ¬ ((30 : Int) = 0) from by decide, not_false_eq_true, if_true] at hSs
    refine GvR.keep (l := 0) (e := 30) (H' := H) G ?_ hSs (Keeps.refl _)
    cases rt with
    | false => simpa (maxDischargeDepth := 40) [fr, ob, hr, k2] using h
    | true =>
      by_cases d2 : vw = sort
      rotate_left
      · simpa (maxDischargeDepth := 40) [fr, ob, hr, d2, k2] using h
      subst d2
      by_cases d3 : p = 0
      rotate_left
      · simpa (maxDischargeDepth := 40) [fr, ob, hr, d3, k2] using h
      by_cases d4 : q = 0
      rotate_left
      · simpa (maxDischargeDepth := 40) [fr, ob, hr, d3, d4, k2] using h
      exact absurd ⟨rfl, rfl, d3, d4⟩ d
  rw [if_pos d] at hSs
  obtain ⟨rfl, rfl, rfl, rfl⟩ := d
  simp only [not_true_eq_false, if_false] at hSs
  simp (maxDischargeDepth := 40) [fr, ob, hr] at h
  have hcs := hcs0
  rw [hcs] at ob
  have hmv : idx ns M = none → M.op = 2 → M = ⟨2, M.sort, 0, 0, 0, 0, 0, 0, 0#64, 0#64, M.name⟩ := fun _ e => by omega
  have lg := t.lg
  have og2 := (k2.obj g lg).trans t.og
  have hlen := slv_len o ns
  have lim := t.lim
  have lim2 := t.lim2
  generalize hL : loopL _ _ _ l_plait_plaitref3_Graph_Make_1 _ _ = q1 at h
  obtain ⟨y, e3, H3, rfl, ⟨rfl, hy⟩, fr3⟩ := rmk_loop1 (p := H.size) (M := M) (t.keep k2) ob hL (by simp [fr]) (by simp [fr]) (by simp)
  rcases hy with ⟨rfl, hi⟩ | ⟨rfl, i, hi, e4, e5⟩
  rotate_left
  · simp (maxDischargeDepth := 40) [e4, e5, num, k2] at h
    exact GvR.keep G h (by rw [hSs, hi]) (Keeps.refl _)
  rw [hi] at hSs
  by_cases c9 : most ≤ ns.length
  · simp (maxDischargeDepth := 40) [fr, fr3, og2, hlen, c9, k2] at h
    exact GvR.keep G h (by rw [hSs]; simp [c9]) (Keeps.refl _)
  have hSs2 : S = (ns ++ [M], (ns.length : Int) + 1, 0) := by rw [hSs]; simp [c9]
  simp (maxDischargeDepth := 40) [fr, fr3, ob, og2, hlen, c9] at h
  generalize hA : appU _ _ _ _ = q2 at h
  have hob : ∀ p, p ∈ objs (slv o ns) → ns ≠ [] ∧ p = o := fun p hp => by
    unfold slv at hp
    split at hp
    · simp at hp
    · rename_i hne; simp at hp; exact ⟨hne, hp⟩
  have t3 := t.keep (k2.new' (.cells M.cs))
  rw [show [AV.int .i64 M.op, .int .i64 M.sort, .int .i64 M.a, .int .i64 M.b, .int .i64 M.c, .int .i64 M.p, .int .i64 M.q, .int .i64 M.vw, u M.vl, u M.vh, .str M.name] = M.cs from rfl] at hA
  obtain ⟨H4, rfl, f4, s4, oo, -⟩ := app_of hA (slv_reads t3.l1 t3.b1) (slv_grows _ _) (Reads.row' (all := M.cs) (by simp) (by simp) (by simp)) (by omega) rfl (by omega) (by omega) (by omega) (by simp [Nd.cs])
  simp only [new_size] at s4 oo
  have F4 : ∀ p, p < H.size → (ns ≠ [] → p ≠ o) → H4.obj p = H.obj p := fun p hp hne => by
    have := k2.size
    rw [f4.obj p (by simp; omega) (fun hh => hne (hob p hh).1 (hob p hh).2)]
    exact (k2.new' _).obj p hp
  have g4 : H4.obj g = .cells [slv o ns, .int .i64 most] := (F4 g lg t.n1).trans t.og
  have lg4 : g < H4.size := by have := k2.size; omega
  have sz2 := k2.size
  simp (maxDischargeDepth := 40) [fr, fr3, g4] at h
  generalize hH5 : AHeap.set _ _ _ = H5 at h
  have og5 : H5.obj g = .cells [.row (H3.size + 1) 0 11 (ns.length + 1) false, .int .i64 most] := by rw [← hH5]; simp
  have oh5 : H5.obj (H3.size + 1) = .cells (flat ns ++ M.cs) := by
    have : ¬ H3.size + 1 = g := by omega
    rw [← hH5]; simp [this]; exact oo
  have sz5 : H5.size = H3.size + 2 := by rw [← hH5]; simp; omega
  have fr5 : Fr (g :: objs (slv o ns)) H H5 := by
    rw [← hH5]
    exact (((k2.new' _).fr _).trans f4 (fun p hp => .inl (by simp [hp]))).set (.inl (by simp)) _
  clear hH5
  have hns : ¬ Shut H H5 := fun hsh => by
    rcases hsh.obj g lg with e | e
    · rw [og5, t.og] at e
      have e2 : slv o ns = .row (H3.size + 1) 0 11 (ns.length + 1) false := by
        simp only [AObj.cells.injEq, List.cons.injEq] at e; exact e.1.symm
      unfold slv at e2
      split at e2
      · cases e2
      · simp at e2
    · rw [og5] at e
      simp [closedO] at e
      omega
  rw [back_not hns] at h
  have hsl : slv (H3.size + 1) (ns ++ [M]) = .row (H3.size + 1) 0 11 (ns.length + 1) false := by unfold slv; rw [if_neg (by simp)]; simp
  refine GvR.mk h hSs2 [g, H3.size + 1] ⟨H3.size + 1, ⟨by omega, fun _ => by omega, by rw [hsl]; exact og5, fun _ => by rw [flat_append]; exact oh5, fun _ => by omega, by simp; omega, lim2⟩, ?_, kok', by rw [hsl]; simp⟩ ⟨fr5, fun p hp => ?_⟩
  · intro m hm
    simp at hm
    rcases hm with hm | rfl
    · exact v m hm
    · exact hmv hi
  · simp at hp ⊢
    rcases hp with hp | hp
    · simp [hp]
    · right; omega
end Go.Proofs.Ytiaoojghohfkjaa
end
section
namespace Go.Proofs.Ytiaoojghohfkjaa
set_option maxRecDepth 100000
set_option maxHeartbeats 4000000
theorem rmk2_run {H : AHeap} {g : Nat} {most : Int} {ns : List Nd} {F : List Nat} (G : GR H g most ns F) {n : Nd} (hop : n.op = 2) {r : Option (AV × AHeap)} (h : R f_plait_plaitref3_Graph_Make [.ptr g 0, .agg n.cs] H = r) : GvR H g most F (makT most ns n) r := by
  obtain ⟨o, t, v, kok, rfl⟩ := id G
  rw [e_plait_plaitref3_Graph_Make] at h
  obtain ⟨S, hS⟩ : ∃ S, S = makT most ns n := ⟨_, rfl⟩
  obtain ⟨B, hB⟩ : ∃ B, B = formedF ns.length n := ⟨_, rfl⟩
  have hSB : B = false → S = (ns, 0, 32) := fun e => by rw [hS]; unfold makT; rw [if_pos (hB.symm.trans e)]
  have hSs : B = true → S = if ¬ (sortedF ns n).2 = 0 then (ns, 0, (sortedF ns n).2) else match idx ns (sortedF ns n).1 with
      | some i => (ns, (i : Int) + 1, 0)
      | none => if most ≤ ns.length then (ns, 0, 33) else (ns ++ [(sortedF ns n).1], (ns.length : Int) + 1, 0) := fun e => by
    rw [hS]; unfold makT; rw [if_neg (by simp [← hB, e])]; rfl
  have hkk : B = true → Kok (ns ++ [n]) := fun e => by
    obtain ⟨f1, f2, f3⟩ := formed_kids0 (hB.symm.trans e)
    obtain ⟨ka, kb, kc⟩ := formed_kids (hB.symm.trans e)
    exact kok.grow ⟨⟨f1, ka⟩, ⟨f2, kb⟩, ⟨f3, kc⟩⟩
  rw [← hS]
  clear hS
  obtain ⟨M, hM⟩ : ∃ M, M = n := ⟨_, rfl⟩
  have hcs0 : n.cs = M.cs := by rw [hM]
  have hsf : sortedF ns n = (M, if isSort n.sort = true ∧ n.p = 0 ∧ n.q = 0 then (if nameBad ns n then 34 else 0) else 30) := by unfold sortedF; rw [if_neg (by omega), if_pos hop, hM]
  have hbad : nameBad ns n = (decide (n.name = ⟨#[]⟩) || match vidx ns n.name with | some i => decide (¬ (ns.getD i Nd.zero).sort = n.sort) | none => false) := rfl
  have hmv0 : B = true → n.p = 0 → n.q = 0 → M = ⟨2, M.sort, 0, 0, 0, 0, 0, 0, 0#64, 0#64, M.name⟩ := fun e hp hq => by
    rw [hM]; exact formed_var (hB.symm.trans e) hop hp hq
  rw [← hM] at hkk
  have har := fun H => arityR_run (op := n.op) (H := H)
  have ar1 : arity 2 = 0 := by decide
  rw [hsf] at hSs
  clear hsf hM
  unfold formedF at hB
  obtain ⟨op, sort, a, b, c, p, q, vw, vl, vh, name⟩ := n
  simp only at hop
  subst hop
  simp only [ar1] at har hB
  simp only at hbad hmv0
  simp only [Nd.cs] at h
  cases hz : (decide (vw = 0) && (decide (vl = 0#64) && decide (vh = 0#64))) with
  | false =>
    simp (maxDischargeDepth := 40) [c_plait_plaitref3_Graph_Make, har, hz] at h
    exact GvR.keep G h (hSB (by rw [hB]; simp only [Bool.decide_and, hz]; simp)) (Keeps.refl _)
  | true =>
  simp only [Bool.and_eq_true, decide_eq_true_eq] at hz
  obtain ⟨rfl, rfl, rfl⟩ := hz
  have hBk : B = kidsOK ns.length 0 [a, b, c] 0 := by rw [hB]; simp
  clear hB
  simp (maxDischargeDepth := 40) [c_plait_plaitref3_Graph_Make, har] at h
  generalize hL : loopL _ _ _ _ _ _ = q0 at h
  have kb : Keeps H ((H.new (.cells [.int .i64 2, .int .i64 sort, .int .i64 a, .int .i64 b, .int .i64 c, .int .i64 p, .int .i64 q, .int .i64 0, u 0#64, u 0#64, .str name])).new (.cells [.int .i64 a, .int .i64 b, .int .i64 c])) := (Keeps.new _ _).trans (Keeps.new _ _)
  obtain ⟨y, e1, H1, rfl, ⟨k1, hy⟩, fr⟩ := rmk_loop0 (q := H.size + 1) (kids := [a, b, c]) (a := 0) (t.keep kb) (fun _ => rfl) rfl (by simp) (by simp) hL (by simp) (by simp) (by simp) (by simp) (by simp)
  have k2 := kb.trans k1
  have ob : H1.obj H.size = .cells (Nd.cs ⟨2, sort, a, b, c, p, q, 0, 0#64, 0#64, name⟩) := by rw [k1.obj _ (by simp)]; simp [Nd.cs]
  simp only [Nd.cs] at hcs0
  simp only [Nd.cs] at ob
  clear hL
  rcases hy with ⟨rfl, hk, w, e8, hout⟩ | ⟨rfl, hk, e4, e5⟩
  rotate_left
  · simp (maxDischargeDepth := 40) [e4, e5, k2] at h
    exact GvR.keep G h (hSB (by rw [hBk]; exact kids3' _ _ _ _ _ hk)) (Keeps.refl _)
  have hBt : B = true := by rw [hBk]; exact (kids3 _ _ _ _ _).2 hk
  replace hSs := hSs hBt
  have kok' := hkk hBt
  replace hmv0 := hmv0 hBt
  clear hkk hSB hBk hk
  have hr := fun H => isR_run (n := sort) (H := H)
  have hvr := rvar_run (t.keep k2) (s := name)
  rw [hbad] at hSs
  clear hbad
  generalize isSort sort = rt at *
  by_cases d : rt = true ∧ p = 0 ∧ q = 0
  rotate_left
  · rw [if_neg d] at hSs
    simp only [show ¬ ((30 : Int) = 0) from by decide, not_false_eq_true, if_true] at hSs
    refine GvR.keep (l := 0) (e := 30) (H' := H) G ?_ hSs (Keeps.refl _)
    cases rt with
    | false => simpa (maxDischargeDepth := 40) [fr, ob, hr, k2] using h
    | true =>
      by_cases d3 : p = 0
      rotate_left
      · simpa (maxDischargeDepth := 40) [fr, ob, hr, d3, k2] using h
      by_cases d4 : q = 0
      rotate_left
      · simpa (maxDischargeDepth := 40) [fr, ob, hr, d3, d4, k2] using h
      exact absurd ⟨rfl, d3, d4⟩ d
  rw [if_pos d] at hSs
  obtain ⟨rfl, rfl, rfl⟩ := d
  have hmv : idx ns M = none → M.op = 2 → M = ⟨2, M.sort, 0, 0, 0, 0, 0, 0, 0#64, 0#64, M.name⟩ := fun _ _ => hmv0 rfl rfl
  clear hmv0
  by_cases c1 : name = ⟨#[]⟩
  · subst c1
    simp only [decide_true, Bool.true_or, if_true, show ¬ ((34 : Int) = 0) from by decide, not_false_eq_true] at hSs
    refine GvR.keep (l := 0) (e := 34) (H' := H) G ?_ hSs (Keeps.refl _)
    cases hv : vidx ns (⟨#[]⟩ : ByteArray) with
    | none =>
      rw [hv] at hvr
      simp only [Option.map_none, Option.getD_none, Option.isSome_none] at hvr
      simpa (maxDischargeDepth := 40) [fr, ob, hr, hvr, k2] using h
    | some j =>
      rw [hv] at hvr
      simp only [Option.map_some, Option.getD_some, Option.isSome_some, num] at hvr
      simpa (maxDischargeDepth := 40) [fr, ob, hr, hvr, k2] using h
  rw [decide_eq_false c1, Bool.false_or] at hSs
  have hcs := hcs0
  obtain ⟨D, hD⟩ : ∃ D : Bool, D = match vidx ns name with | some i => decide (¬ (ns.getD i Nd.zero).sort = sort) | none => false := ⟨_, rfl⟩
  rw [← hD] at hSs
  cases D with
  | true =>
    simp only [if_true, show ¬ ((34 : Int) = 0) from by decide, not_false_eq_true] at hSs
    refine GvR.keep (l := 0) (e := 34) (H' := H) G ?_ hSs (Keeps.refl _)
    cases hv : vidx ns name with
    | none => rw [hv] at hD; cases hD
    | some j =>
      rw [hv] at hvr hD
      simp only [Option.map_some, Option.getD_some, Option.isSome_some, num] at hvr
      have hj := vidx_lt hv
      have hne : ns ≠ [] := by rintro rfl; simp at hj
      have lim := t.lim
      have lim2 := t.lim2
      have wj : IntKind.i64.wrap (j : Int) = (j : Int) := i64w (by omega) (by omega)
      have cj : (j : Int) < ns.length := by omega
      have hat : (flat ns)[j * 11 + 1]? = some (.int .i64 (ns.getD j Nd.zero).sort) := by
        rw [flat_get (n := ns.getD j Nd.zero) (by simp [hj]) (by omega)]; rfl
      have t2 := t.keep k2
      have og2 := t2.og
      rw [slv_row hj] at og2
      have hb := t2.b1 hne
      have d6 : ¬ (ns.getD j Nd.zero).sort = sort := by simpa only [decide_eq_true_eq] using hD.symm
      generalize (ns.getD j Nd.zero).sort = s at *
      simpa (maxDischargeDepth := 40) [fr, ob, hr, hvr, c1, k2, wj, cj, og2, hb, hat, d6] using h
  | false =>
  simp only [Bool.false_eq_true, if_false, not_true_eq_false] at hSs
  cases hv : vidx ns name with
  | none =>
    rw [hv] at hvr
    simp only [Option.map_none, Option.getD_none, Option.isSome_none] at hvr
    simp (maxDischargeDepth := 40) [fr, ob, hr, hvr, c1] at h
    rw [hcs] at ob
    have lg := t.lg
    have og2 := (k2.obj g lg).trans t.og
    have hlen := slv_len o ns
    have lim := t.lim
    have lim2 := t.lim2
    generalize hL : loopL _ _ _ l_plait_plaitref3_Graph_Make_1 _ _ = q1 at h
    obtain ⟨y, e3, H3, rfl, ⟨rfl, hy⟩, fr3⟩ := rmk_loop1 (p := H.size) (M := M) (t.keep k2) ob hL (by simp [fr]) (by simp [fr]) (by simp)
    rcases hy with ⟨rfl, hi⟩ | ⟨rfl, i, hi, e4, e5⟩
    rotate_left
    · simp (maxDischargeDepth := 40) [e4, e5, num, k2] at h
      exact GvR.keep G h (by rw [hSs, hi]) (Keeps.refl _)
    rw [hi] at hSs
    by_cases c9 : most ≤ ns.length
    · simp (maxDischargeDepth := 40) [fr, fr3, og2, hlen, c9, k2] at h
      exact GvR.keep G h (by rw [hSs]; simp [c9]) (Keeps.refl _)
    have hSs2 : S = (ns ++ [M], (ns.length : Int) + 1, 0) := by rw [hSs]; simp [c9]
    simp (maxDischargeDepth := 40) [fr, fr3, ob, og2, hlen, c9] at h
    generalize hA : appU _ _ _ _ = q2 at h
    have hob : ∀ p, p ∈ objs (slv o ns) → ns ≠ [] ∧ p = o := fun p hp => by
      unfold slv at hp
      split at hp
      · simp at hp
      · rename_i hne; simp at hp; exact ⟨hne, hp⟩
    have t3 := t.keep (k2.new' (.cells M.cs))
    rw [show [AV.int .i64 M.op, .int .i64 M.sort, .int .i64 M.a, .int .i64 M.b, .int .i64 M.c, .int .i64 M.p, .int .i64 M.q, .int .i64 M.vw, u M.vl, u M.vh, .str M.name] = M.cs from rfl] at hA
    obtain ⟨H4, rfl, f4, s4, oo, -⟩ := app_of hA (slv_reads t3.l1 t3.b1) (slv_grows _ _) (Reads.row' (all := M.cs) (by simp) (by simp) (by simp)) (by omega) rfl (by omega) (by omega) (by omega) (by simp [Nd.cs])
    simp only [new_size] at s4 oo
    have F4 : ∀ p, p < H.size → (ns ≠ [] → p ≠ o) → H4.obj p = H.obj p := fun p hp hne => by
      have := k2.size
      rw [f4.obj p (by simp; omega) (fun hh => hne (hob p hh).1 (hob p hh).2)]
      exact (k2.new' _).obj p hp
    have g4 : H4.obj g = .cells [slv o ns, .int .i64 most] := (F4 g lg t.n1).trans t.og
    have lg4 : g < H4.size := by have := k2.size; omega
    have sz2 := k2.size
    simp (maxDischargeDepth := 40) [fr, fr3, g4] at h
    generalize hH5 : AHeap.set _ _ _ = H5 at h
    have og5 : H5.obj g = .cells [.row (H3.size + 1) 0 11 (ns.length + 1) false, .int .i64 most] := by rw [← hH5]; simp
    have oh5 : H5.obj (H3.size + 1) = .cells (flat ns ++ M.cs) := by
      have : ¬ H3.size + 1 = g := by omega
      rw [← hH5]; simp [this]; exact oo
    have sz5 : H5.size = H3.size + 2 := by rw [← hH5]; simp; omega
    have fr5 : Fr (g :: objs (slv o ns)) H H5 := by
      rw [← hH5]
      exact (((k2.new' _).fr _).trans f4 (fun p hp => .inl (by simp [hp]))).set (.inl (by simp)) _
    clear hH5
    have hns : ¬ Shut H H5 := fun hsh => by
      rcases hsh.obj g lg with e | e
      · rw [og5, t.og] at e
        have e2 : slv o ns = .row (H3.size + 1) 0 11 (ns.length + 1) false := by
          simp only [AObj.cells.injEq, List.cons.injEq] at e; exact e.1.symm
        unfold slv at e2
        split at e2
        · cases e2
        · simp at e2
      · rw [og5] at e
        simp [closedO] at e
        omega
    rw [back_not hns] at h
    have hsl : slv (H3.size + 1) (ns ++ [M]) = .row (H3.size + 1) 0 11 (ns.length + 1) false := by unfold slv; rw [if_neg (by simp)]; simp
    refine GvR.mk h hSs2 [g, H3.size + 1] ⟨H3.size + 1, ⟨by omega, fun _ => by omega, by rw [hsl]; exact og5, fun _ => by rw [flat_append]; exact oh5, fun _ => by omega, by simp; omega, lim2⟩, ?_, kok', by rw [hsl]; simp⟩ ⟨fr5, fun p hp => ?_⟩
    · intro m hm
      simp at hm
      rcases hm with hm | rfl
      · exact v m hm
      · exact hmv hi
    · simp at hp ⊢
      rcases hp with hp | hp
      · simp [hp]
      · right; omega
  | some j =>
    rw [hv] at hvr hD
    simp only [Option.map_some, Option.getD_some, Option.isSome_some, num] at hvr
    have hj := vidx_lt hv
    have hne : ns ≠ [] := by rintro rfl; simp at hj
    have limj := t.lim
    have limj2 := t.lim2
    have wj : IntKind.i64.wrap (j : Int) = (j : Int) := i64w (by omega) (by omega)
    have cj : (j : Int) < ns.length := by omega
    have hat : (flat ns)[j * 11 + 1]? = some (.int .i64 (ns.getD j Nd.zero).sort) := by
      rw [flat_get (n := ns.getD j Nd.zero) (by simp [hj]) (by omega)]; rfl
    have t2 := t.keep k2
    have og2j := t2.og
    rw [slv_row hj] at og2j
    have hb := t2.b1 hne
    have d6 : (ns.getD j Nd.zero).sort = sort := by
      have := hD.symm
      simpa only [decide_eq_false_iff_not, Decidable.not_not] using this
    rw [d6] at hat
    clear hD d6
    simp (maxDischargeDepth := 40) [fr, ob, hr, hvr, c1, wj, cj, og2j, hb, hat] at h
    rw [hcs] at ob
    have lg := t.lg
    have og2 := (k2.obj g lg).trans t.og
    have hlen := slv_len o ns
    have lim := t.lim
    have lim2 := t.lim2
    generalize hL : loopL _ _ _ l_plait_plaitref3_Graph_Make_1 _ _ = q1 at h
    obtain ⟨y, e3, H3, rfl, ⟨rfl, hy⟩, fr3⟩ := rmk_loop1 (p := H.size) (M := M) (t.keep k2) ob hL (by simp [fr]) (by simp [fr]) (by simp)
    rcases hy with ⟨rfl, hi⟩ | ⟨rfl, i, hi, e4, e5⟩
    rotate_left
    · simp (maxDischargeDepth := 40) [e4, e5, num, k2] at h
      exact GvR.keep G h (by rw [hSs, hi]) (Keeps.refl _)
    rw [hi] at hSs
    by_cases c9 : most ≤ ns.length
    · simp (maxDischargeDepth := 40) [fr, fr3, og2, hlen, c9, k2] at h
      exact GvR.keep G h (by rw [hSs]; simp [c9]) (Keeps.refl _)
    have hSs2 : S = (ns ++ [M], (ns.length : Int) + 1, 0) := by rw [hSs]; simp [c9]
    simp (maxDischargeDepth := 40) [fr, fr3, ob, og2, hlen, c9] at h
    generalize hA : appU _ _ _ _ = q2 at h
    have hob : ∀ p, p ∈ objs (slv o ns) → ns ≠ [] ∧ p = o := fun p hp => by
      unfold slv at hp
      split at hp
      · simp at hp
      · rename_i hne; simp at hp; exact ⟨hne, hp⟩
    have t3 := t.keep (k2.new' (.cells M.cs))
    rw [show [AV.int .i64 M.op, .int .i64 M.sort, .int .i64 M.a, .int .i64 M.b, .int .i64 M.c, .int .i64 M.p, .int .i64 M.q, .int .i64 M.vw, u M.vl, u M.vh, .str M.name] = M.cs from rfl] at hA
    obtain ⟨H4, rfl, f4, s4, oo, -⟩ := app_of hA (slv_reads t3.l1 t3.b1) (slv_grows _ _) (Reads.row' (all := M.cs) (by simp) (by simp) (by simp)) (by omega) rfl (by omega) (by omega) (by omega) (by simp [Nd.cs])
    simp only [new_size] at s4 oo
    have F4 : ∀ p, p < H.size → (ns ≠ [] → p ≠ o) → H4.obj p = H.obj p := fun p hp hne => by
      have := k2.size
      rw [f4.obj p (by simp; omega) (fun hh => hne (hob p hh).1 (hob p hh).2)]
      exact (k2.new' _).obj p hp
    have g4 : H4.obj g = .cells [slv o ns, .int .i64 most] := (F4 g lg t.n1).trans t.og
    have lg4 : g < H4.size := by have := k2.size; omega
    have sz2 := k2.size
    simp (maxDischargeDepth := 40) [fr, fr3, g4] at h
    generalize hH5 : AHeap.set _ _ _ = H5 at h
    have og5 : H5.obj g = .cells [.row (H3.size + 1) 0 11 (ns.length + 1) false, .int .i64 most] := by rw [← hH5]; simp
    have oh5 : H5.obj (H3.size + 1) = .cells (flat ns ++ M.cs) := by
      have : ¬ H3.size + 1 = g := by omega
      rw [← hH5]; simp [this]; exact oo
    have sz5 : H5.size = H3.size + 2 := by rw [← hH5]; simp; omega
    have fr5 : Fr (g :: objs (slv o ns)) H H5 := by
      rw [← hH5]
      exact (((k2.new' _).fr _).trans f4 (fun p hp => .inl (by simp [hp]))).set (.inl (by simp)) _
    clear hH5
    have hns : ¬ Shut H H5 := fun hsh => by
      rcases hsh.obj g lg with e | e
      · rw [og5, t.og] at e
        have e2 : slv o ns = .row (H3.size + 1) 0 11 (ns.length + 1) false := by
          simp only [AObj.cells.injEq, List.cons.injEq] at e; exact e.1.symm
        unfold slv at e2
        split at e2
        · cases e2
        · simp at e2
      · rw [og5] at e
        simp [closedO] at e
        omega
    rw [back_not hns] at h
    have hsl : slv (H3.size + 1) (ns ++ [M]) = .row (H3.size + 1) 0 11 (ns.length + 1) false := by unfold slv; rw [if_neg (by simp)]; simp
    refine GvR.mk h hSs2 [g, H3.size + 1] ⟨H3.size + 1, ⟨by omega, fun _ => by omega, by rw [hsl]; exact og5, fun _ => by rw [flat_append]; exact oh5, fun _ => by omega, by simp; omega, lim2⟩, ?_, kok', by rw [hsl]; simp⟩ ⟨fr5, fun p hp => ?_⟩
    · intro m hm
      simp at hm
      rcases hm with hm | rfl
      · exact v m hm
      · exact hmv hi
    · simp at hp ⊢
      rcases hp with hp | hp
      · simp [hp]
      · right; omega
end Go.Proofs.Ytiaoojghohfkjaa
end
section
namespace Go.Proofs.Ytiaoojghohfkjaa
set_option maxRecDepth 100000
set_option maxHeartbeats 4000000
theorem rmk3_run {H : AHeap} {g : Nat} {most : Int} {ns : List Nd} {F : List Nat} (G : GR H g most ns F) {n : Nd} (hop1 : ¬ n.op = 1) (hop2 : ¬ n.op = 2) {r : Option (AV × AHeap)} (h : R f_plait_plaitref3_Graph_Make [.ptr g 0, .agg n.cs] H = r) : GvR H g most F (makT most ns n) r := by
  obtain ⟨o, t, v, kok, rfl⟩ := id G
  rw [e_plait_plaitref3_Graph_Make] at h
  obtain ⟨S, hS⟩ : ∃ S, S = makT most ns n := ⟨_, rfl⟩
  obtain ⟨B, hB⟩ : ∃ B, B = formedF ns.length n := ⟨_, rfl⟩
  have hSB : B = false → S = (ns, 0, 32) := fun e => by rw [hS]; unfold makT; rw [if_pos (hB.symm.trans e)]
  have hSs : B = true → S = if ¬ (sortedF ns n).2 = 0 then (ns, 0, (sortedF ns n).2) else match idx ns (sortedF ns n).1 with
      | some i => (ns, (i : Int) + 1, 0)
      | none => if most ≤ ns.length then (ns, 0, 33) else (ns ++ [(sortedF ns n).1], (ns.length : Int) + 1, 0) := fun e => by
    rw [hS]; unfold makT; rw [if_neg (by simp [← hB, e])]; rfl
  have hkk : B = true → Kok (ns ++ [{ n with sort := (sortS n.op n.p n.q (ksort ns n.a ++ ksort ns n.b ++ ksort ns n.c)).1 }]) := fun e => by
    obtain ⟨f1, f2, f3⟩ := formed_kids0 (hB.symm.trans e)
    obtain ⟨ka, kb, kc⟩ := formed_kids (hB.symm.trans e)
    exact kok.grow ⟨⟨f1, ka⟩, ⟨f2, kb⟩, ⟨f3, kc⟩⟩
  rw [← hS]
  clear hS
  obtain ⟨M, hM⟩ : ∃ M, M = { n with sort := (sortS n.op n.p n.q (ksort ns n.a ++ ksort ns n.b ++ ksort ns n.c)).1 } := ⟨_, rfl⟩
  have hcs0 : Nd.cs { n with sort := (sortS n.op n.p n.q (ksort ns n.a ++ ksort ns n.b ++ ksort ns n.c)).1 } = M.cs := by rw [hM]
  have hsf : sortedF ns n = (M, (sortS n.op n.p n.q (ksort ns n.a ++ ksort ns n.b ++ ksort ns n.c)).2) := by unfold sortedF; rw [if_neg hop1, if_neg hop2, hM]
  have hMo : ¬ M.op = 2 := by rw [hM]; exact hop2
  rw [← hM] at hkk
  have har := fun H => arityR_run (op := n.op) (H := H)
  rw [hsf] at hSs
  clear hsf hM
  unfold formedF at hB
  obtain ⟨op, sort, a, b, c, p, q, vw, vl, vh, name⟩ := n
  simp only at hop1 hop2
  simp only [Nd.cs] at h
  by_cases c0 : arity op < 0
  · have c0' : ¬ 0 ≤ arity op := by omega
    simp (maxDischargeDepth := 40) [c_plait_plaitref3_Graph_Make, har, c0] at h
    exact GvR.keep G h (hSB (by rw [hB]; simp [c0'])) (Keeps.refl _)
  have c0' : 0 ≤ arity op := by omega
  cases hz : (decide (vw = 0) && (decide (vl = 0#64) && decide (vh = 0#64))) with
  | false =>
    simp (maxDischargeDepth := 40) [c_plait_plaitref3_Graph_Make, har, c0, hop1, hz] at h
    exact GvR.keep G h (hSB (by rw [hB]; simp only [Bool.decide_and, hz]; simp [hop1])) (Keeps.refl _)
  | true =>
  simp only [Bool.and_eq_true, decide_eq_true_eq] at hz
  obtain ⟨rfl, rfl, rfl⟩ := hz
  by_cases c1 : name = ⟨#[]⟩
  rotate_left
  · have c1' : ¬ name = .empty := c1
    simp (maxDischargeDepth := 40) [c_plait_plaitref3_Graph_Make, har, c0, hop1, hop2, c1] at h
    exact GvR.keep G h (hSB (by rw [hB]; simp [c1', hop2])) (Keeps.refl _)
  subst c1
  have hBk : B = kidsOK ns.length (arity op) [a, b, c] 0 := by rw [hB]; simp [show (⟨#[]⟩ : ByteArray) = .empty from rfl, c0']
  clear hB
  simp (maxDischargeDepth := 40) [c_plait_plaitref3_Graph_Make, har, c0, hop1, hop2] at h
  generalize hL : loopL _ _ _ _ _ _ = q0 at h
  have kb : Keeps H ((H.new (.cells [.int .i64 op, .int .i64 sort, .int .i64 a, .int .i64 b, .int .i64 c, .int .i64 p, .int .i64 q, .int .i64 0, u 0#64, u 0#64, .str ⟨#[]⟩])).new (.cells [.int .i64 a, .int .i64 b, .int .i64 c])) := (Keeps.new _ _).trans (Keeps.new _ _)
  obtain ⟨y, e1, H1, rfl, ⟨k1, hy⟩, fr⟩ := rmk_loop0 (q := H.size + 1) (kids := [a, b, c]) (a := arity op) (t.keep kb) (fun _ => rfl) rfl (by simp) (by simp) hL (by simp) (by simp) (by simp) (by simp) (by simp)
  have k2 := kb.trans k1
  have ob : H1.obj H.size = .cells (Nd.cs ⟨op, sort, a, b, c, p, q, 0, 0#64, 0#64, ⟨#[]⟩⟩) := by rw [k1.obj _ (by simp)]; simp [Nd.cs]
  simp only [Nd.cs] at hcs0
  simp only [Nd.cs] at ob
  clear hL
  rcases hy with ⟨rfl, hk, w, e8, hout⟩ | ⟨rfl, hk, e4, e5⟩
  rotate_left
  · simp (maxDischargeDepth := 40) [e4, e5, k2] at h
    exact GvR.keep G h (hSB (by rw [hBk]; exact kids3' _ _ _ _ _ hk)) (Keeps.refl _)
  have hBt : B = true := by rw [hBk]; exact (kids3 _ _ _ _ _).2 hk
  replace hSs := hSs hBt
  have kok' := hkk hBt
  clear hkk hSB hBk hk
  have hr := refSort_run hout.rd (op := op) (p := p) (q := q)
  rw [show [a, b, c].flatMap (ksort ns) = ksort ns a ++ ksort ns b ++ ksort ns c from by simp [List.flatMap_cons]] at hr
  simp only at hSs
  generalize hSS : sortS op p q (ksort ns a ++ ksort ns b ++ ksort ns c) = SS at *
  obtain ⟨s, er⟩ := SS
  simp only [pair] at hr
  simp only at hSs hcs0
  by_cases d : er = 0
  rotate_left
  · rw [if_pos d] at hSs
    refine GvR.keep (l := 0) (e := er) (H' := H) G ?_ hSs (Keeps.refl _)
    simpa (maxDischargeDepth := 40) [fr, ob, hr, e8, hop1, hop2, d, k2] using h
  subst d
  simp only [not_true_eq_false, if_false] at hSs
  have lz : H.size < H1.size := Nat.lt_of_lt_of_le (by simp) k1.size
  simp (maxDischargeDepth := 40) [fr, ob, hr, e8, hop1, hop2] at h
  generalize hHx : AHeap.set _ _ _ = Hx at h
  have k3 : Keeps H Hx := by rw [← hHx]; exact k2.set (Nat.le_refl _) _
  replace ob : Hx.obj H.size = .cells [.int .i64 M.op, .int .i64 M.sort, .int .i64 M.a, .int .i64 M.b, .int .i64 M.c, .int .i64 M.p, .int .i64 M.q, .int .i64 M.vw, u M.vl, u M.vh, .str M.name] := by rw [← hHx, ← hcs0]; simp
  clear hHx k2
  have k2 := k3
  have hmv : idx ns M = none → M.op = 2 → M = ⟨2, M.sort, 0, 0, 0, 0, 0, 0, 0#64, 0#64, M.name⟩ := fun _ e => absurd e hMo
  have lg := t.lg
  have og2 := (k2.obj g lg).trans t.og
  have hlen := slv_len o ns
  have lim := t.lim
  have lim2 := t.lim2
  generalize hL : loopL _ _ _ l_plait_plaitref3_Graph_Make_1 _ _ = q1 at h
  obtain ⟨y, e3, H3, rfl, ⟨rfl, hy⟩, fr3⟩ := rmk_loop1 (p := H.size) (M := M) (t.keep k2) ob hL (by simp [fr]) (by simp [fr]) (by simp)
  rcases hy with ⟨rfl, hi⟩ | ⟨rfl, i, hi, e4, e5⟩
  rotate_left
  · simp (maxDischargeDepth := 40) [e4, e5, num, k2] at h
    exact GvR.keep G h (by rw [hSs, hi]) (Keeps.refl _)
  rw [hi] at hSs
  by_cases c9 : most ≤ ns.length
  · simp (maxDischargeDepth := 40) [fr, fr3, og2, hlen, c9, k2] at h
    exact GvR.keep G h (by rw [hSs]; simp [c9]) (Keeps.refl _)
  have hSs2 : S = (ns ++ [M], (ns.length : Int) + 1, 0) := by rw [hSs]; simp [c9]
  simp (maxDischargeDepth := 40) [fr, fr3, ob, og2, hlen, c9] at h
  generalize hA : appU _ _ _ _ = q2 at h
  have hob : ∀ p, p ∈ objs (slv o ns) → ns ≠ [] ∧ p = o := fun p hp => by
    unfold slv at hp
    split at hp
    · simp at hp
    · rename_i hne; simp at hp; exact ⟨hne, hp⟩
  have t3 := t.keep (k2.new' (.cells M.cs))
  rw [show [AV.int .i64 M.op, .int .i64 M.sort, .int .i64 M.a, .int .i64 M.b, .int .i64 M.c, .int .i64 M.p, .int .i64 M.q, .int .i64 M.vw, u M.vl, u M.vh, .str M.name] = M.cs from rfl] at hA
  obtain ⟨H4, rfl, f4, s4, oo, -⟩ := app_of hA (slv_reads t3.l1 t3.b1) (slv_grows _ _) (Reads.row' (all := M.cs) (by simp) (by simp) (by simp)) (by omega) rfl (by omega) (by omega) (by omega) (by simp [Nd.cs])
  simp only [new_size] at s4 oo
  have F4 : ∀ p, p < H.size → (ns ≠ [] → p ≠ o) → H4.obj p = H.obj p := fun p hp hne => by
    have := k2.size
    rw [f4.obj p (by simp; omega) (fun hh => hne (hob p hh).1 (hob p hh).2)]
    exact (k2.new' _).obj p hp
  have g4 : H4.obj g = .cells [slv o ns, .int .i64 most] := (F4 g lg t.n1).trans t.og
  have lg4 : g < H4.size := by have := k2.size; omega
  have sz2 := k2.size
  simp (maxDischargeDepth := 40) [fr, fr3, g4] at h
  generalize hH5 : AHeap.set _ _ _ = H5 at h
  have og5 : H5.obj g = .cells [.row (H3.size + 1) 0 11 (ns.length + 1) false, .int .i64 most] := by rw [← hH5]; simp
  have oh5 : H5.obj (H3.size + 1) = .cells (flat ns ++ M.cs) := by
    have : ¬ H3.size + 1 = g := by omega
    rw [← hH5]; simp [this]; exact oo
  have sz5 : H5.size = H3.size + 2 := by rw [← hH5]; simp; omega
  have fr5 : Fr (g :: objs (slv o ns)) H H5 := by
    rw [← hH5]
    exact (((k2.new' _).fr _).trans f4 (fun p hp => .inl (by simp [hp]))).set (.inl (by simp)) _
  clear hH5
  have hns : ¬ Shut H H5 := fun hsh => by
    rcases hsh.obj g lg with e | e
    · rw [og5, t.og] at e
      have e2 : slv o ns = .row (H3.size + 1) 0 11 (ns.length + 1) false := by
        simp only [AObj.cells.injEq, List.cons.injEq] at e; exact e.1.symm
      unfold slv at e2
      split at e2
      · cases e2
      · simp at e2
    · rw [og5] at e
      simp [closedO] at e
      omega
  rw [back_not hns] at h
  have hsl : slv (H3.size + 1) (ns ++ [M]) = .row (H3.size + 1) 0 11 (ns.length + 1) false := by unfold slv; rw [if_neg (by simp)]; simp
  refine GvR.mk h hSs2 [g, H3.size + 1] ⟨H3.size + 1, ⟨by omega, fun _ => by omega, by rw [hsl]; exact og5, fun _ => by rw [flat_append]; exact oh5, fun _ => by omega, by simp; omega, lim2⟩, ?_, kok', by rw [hsl]; simp⟩ ⟨fr5, fun p hp => ?_⟩
  · intro m hm
    simp at hm
    rcases hm with hm | rfl
    · exact v m hm
    · exact hmv hi
  · simp at hp ⊢
    rcases hp with hp | hp
    · simp [hp]
    · right; omega
end Go.Proofs.Ytiaoojghohfkjaa
end
section
namespace Go.Proofs.Ytiaoojghohfkjaa
set_option maxRecDepth 100000
set_option maxHeartbeats 4000000
theorem rmk_run {H : AHeap} {g : Nat} {most : Int} {ns : List Nd} {F : List Nat} (G : GR H g most ns F) {n : Nd} {r : Option (AV × AHeap)} (h : R f_plait_plaitref3_Graph_Make [.ptr g 0, .agg n.cs] H = r) : GvR H g most F (makT most ns n) r := by
  by_cases h1 : n.op = 1
  · exact rmk1_run G h1 h
  by_cases h2 : n.op = 2
  · exact rmk2_run G h2 h
  exact rmk3_run G h1 h2 h
structure Two (H0 H : AHeap) (g q : Nat) (most : Int) (ns : List Nd) (F E : List Nat) : Prop where
  gt : GT H g most ns F
  gr : GR H q most ns E
  kp : Keeps H0 H
  fF : ∀ p, p ∈ F → H0.size ≤ p
  fE : ∀ p, p ∈ E → H0.size ≤ p
  dj : ∀ p, p ∈ F → p ∉ E
theorem Two.make {H0 H H1 H2 : AHeap} {g q : Nat} {most : Int} {ns js : List Nd} {F E F' E' : List Nat} (T : Two H0 H g q most ns F E) (g1 : GT H1 g most js F') (m1 : MvT F H F' H1) (g2 : GR H2 q most js E') (m2 : MvT E H1 E' H2) : Two H0 H2 g q most js F' E' := by
  have hF' : ∀ p, p ∈ F' → H0.size ≤ p := fun p hp => by
    rcases m1.new p hp with h | h
    · exact T.fF p h
    · exact Nat.le_trans T.kp.size h
  have dj1 : ∀ p, p ∈ F' → p ∉ E := fun p hp hE => by
    rcases m1.new p hp with h | h
    · exact T.dj p h hE
    · have := T.gr.lt p hE; omega
  have k1 := m1.fr.keeps T.kp T.fF
  refine ⟨g1.same m2.fr.size fun p hp => m2.fr.obj p (g1.lt p hp) (dj1 p hp), g2, m2.fr.keeps k1 T.fE, hF', fun p hp => ?_, fun p hp hE => ?_⟩
  · rcases m2.new p hp with h | h
    · exact T.fE p h
    · exact Nat.le_trans k1.size h
  · rcases m2.new p hE with h | h
    · exact dj1 p hp h
    · have := g1.lt p hp; omega
theorem Two.keeps {H0 H H' : AHeap} {g q : Nat} {most : Int} {ns : List Nd} {F E : List Nat} (T : Two H0 H g q most ns F E) (k : Keeps H H') : Two H0 H' g q most ns F E :=
  ⟨T.gt.keeps k, T.gr.keeps k, T.kp.trans k, T.fF, T.fE, T.dj⟩
end Go.Proofs.Ytiaoojghohfkjaa
end
section
namespace Go.Proofs.Ytiaoojghohfkjaa
set_option maxRecDepth 100000
set_option maxHeartbeats 4000000
theorem makT_len {most : Int} {ns : List Nd} {n : Nd} : (makT most ns n).1.length ≤ ns.length + 1 := by
  unfold makT
  repeat' split
  all_goals simp
theorem made_loop {H0 H : AHeap} {g q : Nat} {l : List Nd} {F E : List Nat} (hl : l.length ≤ 120) (T : Two H0 H g q 4096 [] F E) {e : Env} {r : Rn} (hL : loopL Try.prog KT R l_plaitlaw4_made_0 e H = r)
    (e0 : e 0 = some (NL l)) (e5 : e 5 = some (.ptr g 0)) (e6 : e 6 = some (.ptr q 0)) (e7 : e 7 = some (.int .i64 0)) :
    ∃ y e' H', r = some (y, e', H') ∧ (Keeps H0 H' ∧ ((y = .exit 0 ∧ ∃ ns F E, Two H0 H' g q 4096 ns F E ∧ Gok ns ∧ ns.length ≤ l.length) ∨ (y = .ret ∧ e' 2 = some .nilp ∧ e' 3 = some .nilp ∧ e' 4 = some (.bool false)))) ∧ ∀ t, t ∉ defs l_plaitlaw4_made_0 → e' t = e t := by
  refine loop_count l_plaitlaw4_made_0.eq_1 hL l.length (fun i e1 H1 => e1 7 = some (.int .i64 i) ∧ ∃ ns F E, Two H0 H1 g q 4096 ns F E ∧ Gok ns ∧ ns.length ≤ i) _ 0 (by omega) ⟨e7, [], F, E, T, Gok.nil, Nat.le_refl _⟩ ?_ ?_
  · rintro i f H1 hf - hi ⟨f7, ns, F1, E1, T1, gok, hnl⟩
    have w1 : IntKind.i64.wrap ((i : Int) + 1) = (i : Int) + 1 := i64w (by omega) (by omega)
    have c1 : (i : Int) < l.length := by omega
    obtain ⟨n, hn⟩ : ∃ n, l[i]? = some n := ⟨l[i], by simp [hi]⟩
    have hat := flat_at hn
    have hfl := flat_len l
    have hle : i * 11 + 11 ≤ l.length * 11 := by omega
    have hle10 : i * 11 + 10 < l.length * 11 := by omega
    have hat10 : (flat l)[i * 11 + 8 + 2]? = some (.str n.name) := by
      rw [show i * 11 + 8 + 2 = i * 11 + 10 from by omega, flat_get hn (by omega)]; rfl
    have kp := T1.kp
    by_cases c2 : (100 : Int) < n.name.size
    · simp (maxDischargeDepth := 40) [hf, NL, e0, f7, c1, hat10, c2]
      exact kp
    · simp (maxDischargeDepth := 40) [hf, NL, e0, e5, f7, c1, hfl, hle, hat, hat10, c2]
      generalize hN : R f_plait_term_Graph_Make _ _ = qq
      obtain ⟨js, x, er, hmk⟩ : ∃ js x er, makT 4096 ns n = (js, x, er) := ⟨_, _, _, rfl⟩
      have gk : Gok js := by have := gok.make (most := 4096) (n := n); rw [hmk] at this; exact this
      have hjl : js.length ≤ ns.length + 1 := by have := makT_len (most := 4096) (ns := ns) (n := n); rw [hmk] at this; exact this
      obtain ⟨H2, F2, rfl, g2, m2⟩ := GvT.go T1.gt hmk hN
      simp (maxDischargeDepth := 40) [hf, NL, e0, e6, f7, c1, hfl, hle, hat]
      generalize hN2 : R f_plait_plaitref3_Graph_Make _ _ = qq
      have G1 : GR H2 q 4096 ns E1 := T1.gr.same m2.fr.size fun p hp => m2.fr.obj p (T1.gr.lt p hp) (fun h => T1.dj p h hp)
      obtain ⟨H3, E3, rfl, g3, m3⟩ := rmk_run G1 hN2
      rw [hmk] at g3
      rw [hmk]
      have T3 := T1.make g2 m2 g3 m3
      simp (maxDischargeDepth := 40) [f7, w1]
      exact ⟨js, ⟨F2, E3, T3⟩, gk, by omega⟩
  · rintro f H1 hf ⟨f7, ns, F1, E1, T1, gok, hnl⟩
    simp [hf, NL, f7, e0]
    exact ⟨T1.kp, ns, ⟨F1, E1, T1⟩, gok, by omega⟩
theorem made_run {H : AHeap} {l : List Nd} {r : Option (AV × AHeap)} (h : R f_plaitlaw4_made [NL l] H = r) :
    r = some (.tup [.nilp, .nilp, .bool false], H) ∨ ∃ g q ns F E H', r = some (.tup [.ptr g 0, .ptr q 0, .bool true], H') ∧ Two H H' g q 4096 ns F E ∧ Gok ns ∧ ns.length ≤ 120 := by
  rw [e_plaitlaw4_made] at h
  by_cases c1 : (120 : Int) < l.length
  · simp (maxDischargeDepth := 40) [c_plaitlaw4_made, NL, c1] at h
    exact .inl h.symm
  · have hl : l.length ≤ 120 := by omega
    simp (maxDischargeDepth := 40) [c_plaitlaw4_made, NL, c1] at h
    generalize hN : R f_term_New _ _ = q at h
    obtain ⟨H1, g, F1, rfl, g1, k1, f1⟩ := tnew_run hN
    simp (maxDischargeDepth := 40) at h
    generalize hN : R f_plaitref3_New _ _ = q at h
    obtain ⟨H2, q, E2, rfl, g2, k2, f2⟩ := rnew_run hN
    simp (maxDischargeDepth := 40) at h
    have T2 : Two H H2 g q 4096 [] F1 E2 := ⟨g1.keeps k2, g2, k1.trans k2, f1, fun p hp => Nat.le_trans k1.size (f2 p hp), fun p hp hE => by have := g1.lt p hp; have := f2 p hE; omega⟩
    generalize hL : loopL _ _ _ _ _ _ = q2 at h
    obtain ⟨y, e3, H3, rfl, ⟨k3, hy⟩, fr⟩ := made_loop hl T2 hL (by simp [NL]) (by simp) (by simp) (by simp)
    rcases hy with ⟨rfl, ns, F3, E3, T3, gok, hnl⟩ | ⟨rfl, a2, a3, a4⟩
    · right
      simp (maxDischargeDepth := 40) [fr] at h
      have hg : H.size ≤ g := by
        obtain ⟨p1, p2, p3, t, -, -, hF⟩ := T3.gt
        exact T3.fF g (by rw [hF]; simp)
      rw [back_open (by simp [closed]; omega)] at h
      exact ⟨g, q, ns, F3, E3, H3, h.symm, T3, gok, by omega⟩
    · left
      simp (maxDischargeDepth := 40) [a2, a3, a4, k3] at h
      exact h.symm
end Go.Proofs.Ytiaoojghohfkjaa
end
section
namespace Go.Proofs.Ytiaoojghohfkjaa
set_option maxRecDepth 100000
set_option maxHeartbeats 4000000
instance : DecidableEq Nm := fun a b => decidable_of_iff (a.name = b.name ∧ a.v = b.v) (by cases a; cases b; simp)
theorem nm_eq {a b : Nm} : decide (a = b) = (decide (a.name = b.name) && (decide (a.v.w = b.v.w) && (decide (lo a.v.n = lo b.v.n) && decide (hi a.v.n = hi b.v.n)))) := by
  rw [← Bool.decide_and, ← Bool.decide_and, ← Bool.decide_and, decide_eq_decide]
  constructor
  · rintro rfl; exact ⟨rfl, rfl, rfl, rfl⟩
  · rintro ⟨h1, h2, h3, h4⟩
    obtain ⟨n, v⟩ := a
    obtain ⟨n', v'⟩ := b
    simp only at h1 h2 h3 h4
    rw [h1, Vl.ext' h2 h3 h4]
theorem named_loop {H : AHeap} {v w : AV} {a b : List Nm} (hv : RN H v a) (hw : RN H w b) (hm : a.length ≤ 1000000) (hl : a.length = b.length)
    {e : Env} {r : Rn} (hL : loopL Try.prog KT R l_plaithelp_Named_0 e H = r) (e0 : e 0 = some v) (e1 : e 1 = some w) (e5 : e 5 = some (.int .i64 0)) :
    ∃ x e' H', r = some (x, e', H') ∧ (H' = H ∧ ((x = .exit 0 ∧ a = b) ∨ (x = .ret ∧ e' 4 = some (.bool false) ∧ a ≠ b))) ∧ ∀ t, t ∉ defs l_plaithelp_Named_0 → e' t = e t := by
  have hl' : (a.length : Int) = b.length := by omega
  refine loop_count l_plaithelp_Named_0.eq_1 hL a.length (fun i e1 H1 => H1 = H ∧ e1 5 = some (.int .i64 i) ∧ a.take i = b.take i) _ 0 (Nat.zero_le _) ⟨rfl, e5, rfl⟩ ?_ ?_
  · rintro i f H1 hf - hi ⟨rfl, f5, ht⟩
    have hib : i < b.length := by omega
    obtain ⟨x, hx⟩ : ∃ x, a[i]? = some x := ⟨a[i], by simp [hi]⟩
    obtain ⟨y, hy⟩ : ∃ y, b[i]? = some y := ⟨b[i], by simp [hib]⟩
    obtain ⟨a1, a2⟩ := hv.at hx
    obtain ⟨b1, b2⟩ := hw.at hy
    replace a2 := a2 H1 (Keeps.refl _)
    replace b2 := b2 H1 (Keeps.refl _)
    have w1 : IntKind.i64.wrap ((i : Int) + 1) = (i : Int) + 1 := i64w (by omega) (by omega)
    have c1 : (i : Int) < b.length := by omega
    have ta : a.take (i + 1) = a.take i ++ [x] := by rw [List.take_add_one, hx]; rfl
    have tb : b.take (i + 1) = b.take i ++ [y] := by rw [List.take_add_one, hy]; rfl
    have hq := nm_eq (a := x) (b := y)
    rw [ta, tb, ht]
    by_cases hab : x = y
    · subst hab
      simp [hf, f5, e0, e1, hv.len, hl', c1, a1, b1, a2, b2, w1]
    · rw [decide_eq_false hab] at hq
      have hne : a ≠ b := by
        rintro rfl
        rw [hx] at hy
        cases hy
        exact hab rfl
      simp [hf, f5, e0, e1, hv.len, hl', c1, a1, b1, a2, b2, ← hq, hne]
  · rintro e1 H1 hf ⟨rfl, f5, ht⟩
    simp [hf, f5, e0, hv.len, hl']
    rw [List.take_of_length_le (Nat.le_refl _), List.take_of_length_le (by omega)] at ht
    exact ht
theorem named_run {H : AHeap} {v w : AV} {a b : List Nm} (hv : RN H v a) (hw : RN H w b) (hm : a.length ≤ 1000000) : R f_plaithelp_Named [v, w] H = some (.bool (decide (a = b)), H) := by
  generalize h : R f_plaithelp_Named [v, w] H = r
  rw [e_plaithelp_Named] at h
  by_cases hl : a.length = b.length
  rotate_left
  · have hl' : ¬ (a.length : Int) = b.length := by omega
    have hne : a ≠ b := fun e => hl (by rw [e])
    simp [c_plaithelp_Named, hv.len, hw.len, hl'] at h
    rw [← h]; simp [hne]
  have hl' : (a.length : Int) = b.length := by omega
  simp [c_plaithelp_Named, hv.len, hw.len, hl'] at h
  generalize hL : loopL _ _ _ _ _ _ = q at h
  obtain ⟨x, e1, H1, rfl, ⟨rfl, hx⟩, fr⟩ := named_loop hv hw hm hl hL (by simp) (by simp) (by simp)
  rcases hx with ⟨rfl, hab⟩ | ⟨rfl, h4, hab⟩
  · simp at h
    rw [← h]; simp [hab]
  · simp [h4] at h
    rw [← h]; simp [hab]
def kX : Nd := ⟨2, 4, 0, 0, 0, 0, 0, 0, 0#64, 0#64, ⟨#[120]⟩⟩
def kA : Nd := ⟨18, 0, 1, 1, 0, 0, 0, 0, 0#64, 0#64, .empty⟩
def kA' : Nd := ⟨18, 4, 1, 1, 0, 0, 0, 0, 0#64, 0#64, .empty⟩
def kU : Nd := ⟨29, 0, 1, 2, 0, 0, 0, 0, 0#64, 0#64, .empty⟩
def kN : List Nm := [⟨⟨#[120]⟩, ⟨4, 9#128⟩⟩]
theorem kmk1 : makT 9 [] kX = ([kX], 1, 0) := by decide
theorem kmk2 : makT 9 [kX] kA = ([kX, kA'], 2, 0) := by decide
theorem kmk3 : makT 9 [kX, kA'] kU = ([kX, kA', kU], 3, 0) := by decide
theorem kv1 : worthS (lookL kN) [kX, kA', kU] 1 = (⟨4, 9#128⟩, 0) := by decide
theorem kv2 : worthS (lookL kN) [kX, kA', kU] 2 = (⟨4, 2#128⟩, 0) := by decide
theorem kv3 : worthS (lookL kN) [kX, kA', kU] 3 = (⟨0, 0#128⟩, 0) := by decide
theorem kv4 : worthS (lookL kN) [kX, kA', kU] 4 = (⟨0, 0#128⟩, 40) := by decide
theorem kv5 : worthS (lookL []) [kX, kA', kU] 3 = (⟨0, 0#128⟩, 41) := by decide
theorem kf1 : fullS (lookL []) [kX, kA', kU] (varsT [kX, kA', kU] 3) = [⟨⟨#[120]⟩, ⟨4, 0#128⟩⟩] := by decide
theorem ka1 : applyS 9 0 0 [⟨0, 1#128⟩, ⟨2, 3#128⟩, ⟨2, 0#128⟩] = (⟨2, 3#128⟩, 0) := by decide
end Go.Proofs.Ytiaoojghohfkjaa
end
section
namespace Go.Proofs.Ytiaoojghohfkjaa
set_option maxRecDepth 100000
set_option maxHeartbeats 4000000
theorem known4_run {H : AHeap} : R f_plaitlaw4_known [] H = some (.bool true, H) := by
  generalize h : R f_plaitlaw4_known [] H = r
  rw [e_plaitlaw4_known] at h
  simp (maxDischargeDepth := 40) [c_plaitlaw4_known] at h
  generalize hN : R f_term_New _ _ = q at h
  obtain ⟨H1, g, F1, rfl, g1, k1, f1⟩ := tnew_run hN
  rw [show min (max (9 : Int) 1) 4096 = 9 from by decide] at g1
  simp (maxDischargeDepth := 40) at h
  generalize hN : R f_plait_term_Graph_Make _ _ = q at h
  obtain ⟨H2, F2, rfl, g2, m2⟩ := GvT.go (n := kX) g1 kmk1 hN
  simp (maxDischargeDepth := 40) at h
  generalize hN : R f_plait_term_Graph_Make _ _ = q at h
  obtain ⟨H3, F3, rfl, g3, m3⟩ := GvT.go (n := kA) g2 kmk2 hN
  simp (maxDischargeDepth := 40) at h
  generalize hN : R f_plait_term_Graph_Make _ _ = q at h
  obtain ⟨H4, F4, rfl, g4, m4⟩ := GvT.go (n := kU) g3 kmk3 hN
  have gok : Gok [kX, kA', kU] := by
    have a1 := Gok.nil.make (most := 9) (n := kX)
    rw [kmk1] at a1
    have a2 := a1.make (most := 9) (n := kA)
    rw [kmk2] at a2
    have a3 := a2.make (most := 9) (n := kU)
    rw [kmk3] at a3
    exact a3
  have kH : Keeps H H4 := (m2.trans (m3.trans m4)).fr.keeps k1 f1
  obtain ⟨K, hK⟩ : ∃ K, K = H4.new (.cells [.str ⟨#[120]⟩, .int .i64 4, u 9#64, u 0#64]) := ⟨_, rfl⟩
  have k4 : Keeps H4 K := by rw [hK]; exact Keeps.new _ _
  have zK : H4.size < K.size := by rw [hK]; simp
  have oK : K.obj H4.size = .cells (flatN kN) := by rw [hK]; simp; rfl
  have hrn : ∀ H', Keeps K H' → RN H' (.row H4.size 0 4 1 true) kN := fun H' k => (Reads.row' zK oK rfl).keep k
  have hE : ∀ H', Keeps K H' → ∀ (id : Int) (v : Vl) (e : Int), worthS (lookL kN) [kX, kA', kU] id = (v, e) → R f_eval_Eval [.ptr g 0, .int .i64 id, .row H4.size 0 4 1 true] H' = some (.tup [v.av, .int .i64 e], H') := fun H' k id v e hw => by
    have := eval_run (g4.keeps (k4.trans k)) gok (hrn H' k) (by simp [kN]) (id := id)
    rw [hw] at this
    exact this
  have e2 := fun H' k => hE H' k 2 _ _ kv2
  have e3 := fun H' k => hE H' k 3 _ _ kv3
  have e4 := fun H' k => hE H' k 4 _ _ kv4
  have e5 : ∀ H', Keeps K H' → R f_eval_Eval [.ptr g 0, .int .i64 3, .nils] H' = some (.tup [(⟨0, 0#128⟩ : Vl).av, .int .i64 41], H') := fun H' k => by
    have := eval_run (g4.keeps (k4.trans k)) gok (s := .nils) (env := []) Reads.nils (by simp) (id := 3)
    rw [kv5] at this
    exact this
  have ap : ∀ H' o, o < H'.size → H'.obj o = .cells [.int .i64 0, u 1#64, u 0#64, .int .i64 2, u 3#64, u 0#64, .int .i64 2, u 0#64, u 0#64] → R f_eval_Apply [.int .i64 9, .int .i64 0, .int .i64 0, .row o 0 3 3 true] H' = some (.tup [(⟨2, 3#128⟩ : Vl).av, .int .i64 0], H') := fun H' o ho ob => by
    have := apply_run (op := 9) (p := 0) (q := 0) (H := H') (s := .row o 0 3 3 true) (l := [⟨0, 1#128⟩, ⟨2, 3#128⟩, ⟨2, 0#128⟩]) (Reads.row' ho (by rw [ob]; rfl) rfl) (by simp)
    rw [ka1] at this
    exact this
  have al : ∃ A : AHeap × Nat → AV, ∀ x : AHeap × Nat, (Keeps K x.1 ∧ x.2 < x.1.size ∧ x.1.obj x.2 = .cells [.int .i64 1, .int .i64 2]) → R f_eval_All [.ptr g 0, .row x.2 0 1 2 true, .row H4.size 0 4 1 true] x.1 = some (.tup [A x, .int .i64 0], x.1) ∧ sliceLen (A x) = some 2 := by
    refine choose_on AV.nils (Q := fun x : AHeap × Nat => Keeps K x.1 ∧ x.2 < x.1.size ∧ x.1.obj x.2 = .cells [.int .i64 1, .int .i64 2]) (P := fun x v => R f_eval_All [.ptr g 0, .row x.2 0 1 2 true, .row H4.size 0 4 1 true] x.1 = some (.tup [v, .int .i64 0], x.1) ∧ sliceLen v = some 2) ?_
    rintro ⟨H', o⟩ ⟨k, ho, ob⟩
    simp only at k ho ob ⊢
    rcases all_run (g4.keeps (k4.trans k)) gok (hrn H' k) (by simp [kN]) (ids := [1, 2]) (t := .row o 0 1 2 true) (RI.row ho (by rw [ob]; rfl) rfl) (by simp) with ⟨-, v, h1, h2⟩ | ⟨i, x, h1, h2, h3, -⟩
    · exact ⟨v, h1, (h2 H').len⟩
    · exfalso
      have hx : x ∈ [(1 : Int), 2] := List.mem_of_getElem? h2
      simp at hx
      rcases hx with rfl | rfl
      · exact h3 (by rw [kv1])
      · exact h3 (by rw [kv2])
  obtain ⟨A, hA⟩ := al
  have hA1 : ∀ H' o, Keeps K H' → o < H'.size → H'.obj o = .cells [.int .i64 1, .int .i64 2] → R f_eval_All [.ptr g 0, .row o 0 1 2 true, .row H4.size 0 4 1 true] H' = some (.tup [A (H', o), .int .i64 0], H') := fun H' o k ho ob => (hA (H', o) ⟨k, ho, ob⟩).1
  have hA2 : ∀ H' o, Keeps K H' → o < H'.size → H'.obj o = .cells [.int .i64 1, .int .i64 2] → sliceLen (A (H', o)) = some 2 := fun H' o k ho ob => (hA (H', o) ⟨k, ho, ob⟩).2
  have co : ∃ C : AHeap → AV, ∀ H', Keeps K H' → R f_eval_Complete [.ptr g 0, .nils] H' = some (C H', H') ∧ ∀ H2, RN H2 (C H') [⟨⟨#[120]⟩, ⟨4, 0#128⟩⟩] := by
    refine choose_on AV.nils (Q := fun H' => Keeps K H') (P := fun H' v => R f_eval_Complete [.ptr g 0, .nils] H' = some (v, H') ∧ ∀ H2, RN H2 v [⟨⟨#[120]⟩, ⟨4, 0#128⟩⟩]) fun H' k => ?_
    obtain ⟨v, h1, h2⟩ := complete_run (g4.keeps (k4.trans k)) (s := .nils) (env := []) Reads.nils (by simp)
    rw [show ([kX, kA', kU] : List Nd).length = 3 from rfl, kf1] at h2
    exact ⟨v, h1, h2⟩
  obtain ⟨C, hC⟩ := co
  have hC1 := fun H' k => (hC H' k).1
  have hC2 : ∀ H' H2 o, Keeps K H' → o < H2.size → H2.obj o = .cells [.str ⟨#[120]⟩, .int .i64 4, u 0#64, u 0#64] → R f_plaithelp_Named [C H', .row o 0 4 1 true] H2 = some (.bool true, H2) := fun H' H2 o k ho ob => by
    have := named_run ((hC H' k).2 H2) (w := .row o 0 4 1 true) (b := [⟨⟨#[120]⟩, ⟨4, 0#128⟩⟩]) (Reads.row' ho (by rw [ob]; rfl) rfl) (by simp)
    rw [this]; simp
  simp (maxDischargeDepth := 40) at h
  rw [← hK] at h
  have zl : H4.size + 1 = K.size := by rw [hK]; rfl
  have k5 := kH.trans k4
  have z5 : H.size ≤ K.size := k5.size
  have l0 : lo 0#128 = 0#64 := by decide
  have l0' : hi 0#128 = 0#64 := by decide
  have l2 : lo 2#128 = 2#64 := by decide
  have l2' : hi 2#128 = 0#64 := by decide
  have l3 : lo 3#128 = 3#64 := by decide
  have l3' : hi 3#128 = 0#64 := by decide
  simp (maxDischargeDepth := 40) (maxSteps := 4000000) [e2, e3, e4, e5, ap, hA1, hA2, hC1, hC2, k5, z5, l0, l0', l2, l2', l3, l3'] at h
  exact h.symm
end Go.Proofs.Ytiaoojghohfkjaa
end
section
namespace Go.Proofs.Ytiaoojghohfkjaa
set_option maxRecDepth 100000
set_option maxHeartbeats 2000000
theorem zero_ok {s : Int} (h : isSort s = true) : (⟨s, 0#128⟩ : Vl).ok = true := by
  unfold isSort at h
  have h := of_decide_eq_true h
  unfold Vl.ok rightF
  by_cases c : s = 0
  · rw [if_pos c]; exact (by decide : decide (lo (0#128) ≤ 1#64 ∧ hi (0#128) = 0#64) = true)
  · rw [if_neg c]
    have e : mkN (lo (0#128)) (hi (0#128)) = 0#128 := by decide
    simp only
    rw [e]
    simp; omega
theorem fullV_fit {look : ByteArray → Option Vl} {n : Nd} (h : isSort n.sort = true) : (fullV look n).ok = true ∧ (fullV look n).w = n.sort := by
  unfold fullV
  split
  · rename_i h1
    simp only [Bool.and_eq_true, decide_eq_true_eq] at h1
    exact h1
  · exact ⟨zero_ok h, rfl⟩
theorem Gok.sort {ns : List Nd} (g : Gok ns) {n : Nd} (h : n ∈ ns) (h2 : n.op = 2) : isSort n.sort = true := by
  have := g.srt n h
  unfold sortedF at this
  rw [if_neg (by omega), if_pos h2] at this
  have h2 := congrArg Prod.snd this
  simp only at h2
  split at h2
  · rename_i h; exact h.1
  · cases h2
theorem Gok.same {ns : List Nd} (g : Gok ns) {i j : Nat} {n m : Nd} (hn : ns[i]? = some n) (hm : ns[j]? = some m) (h2 : n.op = 2) (h2' : m.op = 2) (h : n.name = m.name) : i = j := by
  have a := g.uniq i n hn h2
  have b := g.uniq j m hm h2'
  rw [h, b] at a
  exact (Option.some.inj a).symm
theorem look_full {look : ByteArray → Option Vl} {ns : List Nd} (g : Gok ns) {i : Nat} {n : Nd} (hn : ns[i]? = some n) (h2 : n.op = 2) : lookL (fullS look ns (varsT ns ns.length)) n.name = some (fullV look n) := by
  have hi := (List.getElem?_eq_some_iff.1 hn).1
  have hgi : ns.getD i Nd.zero = n := by rw [List.getD_eq_getElem?_getD, hn]; rfl
  unfold lookL
  cases hf : (fullS look ns (varsT ns ns.length)).find? (fun m => decide (m.name = n.name)) with
  | none =>
    exfalso
    have hm : (i : Int) + 1 ∈ varsT ns ns.length := by
      unfold varsT
      simp only [List.mem_map, List.mem_filter, List.mem_range, decide_eq_true_eq]
      exact ⟨i, ⟨hi, by rw [hgi]; exact h2⟩, rfl⟩
    have := List.find?_eq_none.1 hf ⟨n.name, fullV look n⟩ (by
      unfold fullS
      refine List.mem_map.2 ⟨_, hm, ?_⟩
      rw [show ((i : Int) + 1 - 1).toNat = i from by omega, hgi])
    simp at this
  | some m =>
    have hp := List.find?_some hf
    have hm := List.mem_of_find?_eq_some hf
    unfold fullS at hm
    obtain ⟨x, hx, rfl⟩ := List.mem_map.1 hm
    obtain ⟨j, rfl, hj, hj2⟩ := mem_vars hx
    rw [show ((j : Int) + 1 - 1).toNat = j from by omega] at hp ⊢
    obtain ⟨m, hm⟩ : ∃ m, ns[j]? = some m := ⟨ns[j], List.getElem?_eq_getElem hj⟩
    have hgj : ns.getD j Nd.zero = m := by rw [List.getD_eq_getElem?_getD, hm]; rfl
    rw [hgj] at hj2 hp ⊢
    have e := g.same hm hn hj2 h2 (by simpa using hp)
    subst e
    rw [hm] at hn
    cases hn
    rfl
def AllFit (look : ByteArray → Option Vl) (ns : List Nd) : Prop := ∀ (i : Nat) (n : Nd), ns[i]? = some n → n.op = 2 → varFit look n = true
theorem full_fit {look : ByteArray → Option Vl} {ns : List Nd} (g : Gok ns) : AllFit (lookL (fullS look ns (varsT ns ns.length))) ns := by
  intro i n hn h2
  unfold varFit
  rw [look_full g hn h2]
  obtain ⟨h3, h4⟩ := fullV_fit (look := look) (g.sort (List.mem_of_getElem? hn) h2)
  simp [h3, h4]
theorem AllFit.any {look : ByteArray → Option Vl} {ns : List Nd} (h : AllFit look ns) (xs : List Int) : xs.any (unfit look ns) = false := by
  rw [List.any_eq_false]
  intro x hx
  unfold unfit
  cases hn : ns[(x - 1).toNat]? with
  | none => rw [List.getD_eq_getElem?_getD, hn]; simp [Nd.zero]
  | some n =>
    rw [List.getD_eq_getElem?_getD, hn]
    simp only [Option.getD_some, Bool.and_eq_true, decide_eq_true_eq, Bool.not_eq_true']
    rintro ⟨h2, h3⟩
    rw [h _ n hn h2] at h3
    cases h3
theorem AllFit.worth {look : ByteArray → Option Vl} {ns : List Nd} (h : AllFit look ns) {id : Int} (h1 : 1 ≤ id) (h2 : id ≤ ns.length) : worthS look ns id = (V look ns id, 0) := by
  unfold worthS
  rw [if_neg (by omega), h.any]
  simp
theorem AllFit.good {look : ByteArray → Option Vl} {ns : List Nd} (h : AllFit look ns) (g : Gok ns) {i : Nat} {n : Nd} (hn : ns[i]? = some n) : (V look ns ((i : Int) + 1)).ok = true ∧ (V look ns ((i : Int) + 1)).w = n.sort := by
  have := val_good g (S := fun _ => True) (fun _ _ _ _ _ _ _ => trivial) (fun i n _ hn h2 => h i n hn h2) i n trivial hn
  exact ⟨this.1, this.2.1⟩
theorem AllFit.more {look : ByteArray → Option Vl} {ns : List Nd} (h : AllFit look ns) {M : Nd} (hM : ¬ M.op = 2) : AllFit look (ns ++ [M]) := by
  intro i n hn h2
  by_cases c : i < ns.length
  · rw [List.getElem?_append_left c] at hn; exact h i n hn h2
  · rw [List.getElem?_append_right (by omega)] at hn
    have := List.mem_of_getElem? hn
    simp at this
    rw [this] at h2
    exact absurd h2 hM
theorem formed_arity {N : Int} {n : Nd} (h : formedF N n = true) : (∀ i, i < 3 → kidOK N (arity n.op) i ([n.a, n.b, n.c].getD i 0) = true) ∧ 0 ≤ arity n.op := by
  unfold formedF at h
  simp only [kidsOK, Bool.and_eq_true, decide_eq_true_eq] at h
  obtain ⟨⟨f1, f2, f3, -⟩, ⟨f4, -⟩, -⟩ := h
  refine ⟨fun i hi => ?_, f4⟩
  rcases (by omega : i = 0 ∨ i = 1 ∨ i = 2) with rfl | rfl | rfl
  · exact f1
  · exact f2
  · exact f3
theorem swap_law {look : ByteArray → Option Vl} {ns : List Nd} (g : Gok ns) (hf : AllFit look ns) (hl : ns.length ≤ 120) {i : Nat} {n : Nd} (hn : ns[i]? = some n) (ha : ¬ n.a = 0) {to : Int} (t1 : 1 ≤ to) (t2 : to ≤ ns.length) (hv : V look ns n.a = V look ns to) :
    ∃ js m, makT 4096 ns { n with a := to } = (js, m, 0) ∧ 1 ≤ m ∧ m ≤ js.length ∧ Gok js ∧ AllFit look js ∧ V look js m = V look ns ((i : Int) + 1) := by
  have hmem := List.mem_of_getElem? hn
  have hform := g.form n hmem
  have hsrt := g.srt n hmem
  have hi := (List.getElem?_eq_some_iff.1 hn).1
  obtain ⟨⟨a0, a1⟩, ⟨b0, b1⟩, ⟨d0, d1⟩⟩ := g.kok i n hn
  obtain ⟨hk, h0⟩ := formed_arity hform
  have har : 1 ≤ arity n.op := by
    have := hk 0 (by omega)
    simp only [List.getD_cons_zero] at this
    unfold kidOK at this
    split at this
    · omega
    · simp at this; omega
  have c1 : ¬ n.op = 1 := by intro h; rw [h] at har; revert har; decide
  have c2 : ¬ n.op = 2 := by intro h; rw [h] at har; revert har; decide
  have hf' : formedF ns.length { n with a := to } = true := by
    unfold formedF at hform ⊢
    simp only [kidsOK, Bool.and_eq_true] at hform ⊢
    refine ⟨⟨?_, hform.1.2⟩, hform.2⟩
    unfold kidOK
    rw [if_pos (by show ((0 : Nat) : Int) < arity n.op; omega)]
    simp; omega
  obtain ⟨ma, hma⟩ : ∃ m, ns[(n.a - 1).toNat]? = some m := ⟨ns[(n.a - 1).toNat]'(by omega), List.getElem?_eq_getElem (by omega)⟩
  obtain ⟨mt, hmt⟩ : ∃ m, ns[(to - 1).toNat]? = some m := ⟨ns[(to - 1).toNat]'(by omega), List.getElem?_eq_getElem (by omega)⟩
  have hws : ma.sort = mt.sort := by
    have ga := (hf.good g hma).2
    have gt := (hf.good g hmt).2
    rw [show (((n.a - 1).toNat : Nat) : Int) + 1 = n.a from by omega] at ga
    rw [show (((to - 1).toNat : Nat) : Int) + 1 = to from by omega] at gt
    rw [← ga, ← gt, hv]
  have hks : ksort ns to = ksort ns n.a := by rw [ksort_pos (by omega) hmt, ksort_pos (by omega) hma, hws]
  have hs' : sortedF ns { n with a := to } = ({ n with a := to }, 0) := by
    unfold sortedF at hsrt ⊢
    rw [if_neg c1, if_neg c2] at hsrt ⊢
    simp only at hsrt ⊢
    rw [hks]
    have e1 := congrArg (fun x => x.1.sort) hsrt
    have e2 := congrArg Prod.snd hsrt
    simp only at e1 e2
    rw [e1, e2]
  have hgm := g.make (most := 4096) (n := { n with a := to })
  have hnode : ∀ (js : List Nd) (k : Nat), Gok js → (∃ t, valsV look js = valsV look ns ++ t) → js[k]? = some { n with a := to } → V look js ((k : Int) + 1) = V look ns ((i : Int) + 1) := fun js k gj ⟨t, ht⟩ hk => by
    rw [V_node gj.kok hk, V_node g.kok hn, ht]
    have hvl := valsV_len look ns
    rw [(nodeV_more (by rw [hvl]; exact t2) (by rw [hvl]; simp only; omega) (by rw [hvl]; simp only; omega)).1]
    unfold nodeV kidsV
    simp only [c1, c2, if_false]
    have : pick (valsV look ns) to = pick (valsV look ns) n.a := hv.symm
    rw [this]
  have hlen : ¬ (4096 : Int) ≤ ns.length := by omega
  unfold makT at hgm ⊢
  rw [if_neg (by rw [hf']; simp), hs'] at hgm ⊢
  simp only [not_true, if_false] at hgm ⊢
  cases hx : idx ns { n with a := to } with
  | some k =>
    rw [hx] at hgm
    simp only at hgm ⊢
    obtain ⟨hm1, hm2⟩ := idx_mem hx
    have hk' : ns[k]? = some { n with a := to } := by
      unfold idx at hx
      obtain ⟨h1, h2, -⟩ := List.findIdx?_eq_some_iff_getElem.1 hx
      rw [List.getElem?_eq_getElem h1]
      simp only [decide_eq_true_eq] at h2
      rw [← h2]
    exact ⟨ns, (k : Int) + 1, rfl, by omega, by omega, g, hf, hnode ns k g ⟨[], by simp⟩ hk'⟩
  | none =>
    rw [hx] at hgm
    simp only [hlen, if_false] at hgm ⊢
    refine ⟨_, _, rfl, by omega, by rw [List.length_append]; simp, hgm, hf.more c2, hnode _ ns.length hgm (valsV_more look ns _) (by simp)⟩
end Go.Proofs.Ytiaoojghohfkjaa
end
section
namespace Go.Proofs.Ytiaoojghohfkjaa
set_option maxRecDepth 100000
set_option maxHeartbeats 2000000
theorem tmod_cases (k n : Int) (hn : 0 < n) : (k.tmod n < 0 → k % n = k.tmod n + n) ∧ (¬ k.tmod n < 0 → k % n = k.tmod n) ∧ k.tmod n < n ∧ - n < k.tmod n := by
  have h := Int.tmod_eq_emod (a := k) (b := n)
  have h1 := Int.emod_nonneg k (by omega : n ≠ 0)
  have h2 := Int.emod_lt_of_pos k hn
  rw [h]
  split
  · simp; omega
  · rename_i hh
    have : (n.natAbs : Int) = n := by omega
    rw [this]
    refine ⟨by omega, ?_, by omega, ?_⟩
    · intro hx; omega
    · have : ¬ k % n = 0 := by
        intro h0; exact hh (Or.inr (Int.dvd_of_emod_eq_zero h0))
      omega
theorem place_run {k n : Int} (hn : 0 < n) (hn2 : n ≤ 1000000) {H : AHeap} : R f_plaithelp_Place [.int .i64 k, .int .i64 n] H = some (.int .i64 (k % n), H) := by
  rw [e_plaithelp_Place]
  obtain ⟨q1, q2, q3, q4⟩ := tmod_cases k n hn
  have h0 : ¬ n = 0 := by omega
  by_cases c : k.tmod n < 0
  · have hw2 : IntKind.i64.wrap (k.tmod n + n) = k.tmod n + n := i64w (by omega) (by omega)
    simp (maxDischargeDepth := 40) [c_plaithelp_Place, h0, c, hw2, q1 c]
  · simp (maxDischargeDepth := 40) [c_plaithelp_Place, h0, c, q2 c]
end Go.Proofs.Ytiaoojghohfkjaa
end
section
namespace Go.Proofs.Ytiaoojghohfkjaa
set_option maxRecDepth 100000
set_option maxHeartbeats 2000000
theorem value_ex1 {H : AHeap} {o : Nat} (ho : o < H.size) (hb : H.obj o = .cells [.bool true, .bool false]) : R f_lift_Value [.int .i64 2, .row o 0 1 2 true] H = some (.tup [.agg [.int .i64 2, u 1#64, u 0#64], .int .i64 0], H) := by
  have n1 : ¬ o = H.size := by omega
  have n2 : ¬ o = H.size + 1 := by omega
  have m2 : max (2 : Int) 1 = 2 := by decide
  rw [e_lift_Value]
  simp (maxDischargeDepth := 40) [c_lift_Value, m2]
  rw [loopL_un l_lift_Value_0.eq_1]
  simp (maxDischargeDepth := 40) [hb, n1, n2]
  rw [loopL_un l_lift_Value_0.eq_1]
  simp (maxDischargeDepth := 40) [hb, n1, n2]
  rw [loopL_un l_lift_Value_0.eq_1]
  simp (maxDischargeDepth := 40)
theorem value_ex2 {H : AHeap} {o : Nat} (ho : o < H.size) (hb : H.obj o = .cells [.bool true]) : R f_lift_Value [.int .i64 0, .row o 0 1 1 true] H = some (.tup [.agg [.int .i64 0, u 1#64, u 0#64], .int .i64 0], H) := by
  have n1 : ¬ o = H.size := by omega
  have n2 : ¬ o = H.size + 1 := by omega
  have m2 : max (0 : Int) 1 = 1 := by decide
  rw [e_lift_Value]
  simp (maxDischargeDepth := 40) [c_lift_Value, m2]
  rw [loopL_un l_lift_Value_0.eq_1]
  simp (maxDischargeDepth := 40) [hb, n1, n2]
  rw [loopL_un l_lift_Value_0.eq_1]
  simp (maxDischargeDepth := 40)
theorem value_ex3 {H : AHeap} {o : Nat} : R f_lift_Value [.int .i64 3, .row o 0 1 1 true] H = some (.tup [.agg [.int .i64 0, u 0#64, u 0#64], .int .i64 160], H) := by
  have m2 : max (3 : Int) 1 = 3 := by decide
  rw [e_lift_Value]
  simp (maxDischargeDepth := 40) [c_lift_Value, m2]
theorem bits_ex {H : AHeap} : ∃ H', R f_lift_BitsOf [.agg [.int .i64 2, u 1#64, u 0#64]] H = some (.row (H.size + 1) 0 1 2 true, H') ∧ Keeps H H' ∧ H.size + 1 < H'.size ∧ H'.obj (H.size + 1) = .cells [.bool true, .bool false] := by
  have hr := fun H => bvRight_run (w := 2) (l := 1#64) (h := 0#64) (H := H)
  rw [show rightF 2 1#64 0#64 = true from by decide] at hr
  have m2 : max (2 : Int) 1 = 2 := by decide
  rw [e_lift_BitsOf]
  simp (maxDischargeDepth := 40) [c_lift_BitsOf, hr, m2]
  rw [loopL_un l_lift_BitsOf_0.eq_1]
  simp (maxDischargeDepth := 40)
  rw [loopL_un l_lift_BitsOf_0.eq_1]
  simp (maxDischargeDepth := 40)
  rw [loopL_un l_lift_BitsOf_0.eq_1]
  simp (maxDischargeDepth := 40)
  rw [back_open (by simp [closed])]
  refine ⟨_, rfl, by simp (maxDischargeDepth := 40), by simp, by simp⟩
theorem bits_run' {H : AHeap} {r : Option (AV × AHeap)} (h : R f_lift_BitsOf [.agg [.int .i64 2, u 1#64, u 0#64]] H = r) : ∃ H', r = some (.row (H.size + 1) 0 1 2 true, H') ∧ Keeps H H' ∧ H.size + 1 < H'.size ∧ H'.obj (H.size + 1) = .cells [.bool true, .bool false] := by
  obtain ⟨H', h1, h2⟩ := bits_ex (H := H)
  exact ⟨H', by rw [← h, h1], h2⟩
theorem bools_ex {H : AHeap} {o p : Nat} (ho : H.obj o = .cells [.bool true, .bool false]) (hp : H.obj p = .cells [.bool true, .bool false]) : R f_plaithelp_Bools [.row o 0 1 2 true, .row p 0 1 2 true] H = some (.bool true, H) := by
  rw [e_plaithelp_Bools]
  simp (maxDischargeDepth := 40) [c_plaithelp_Bools]
  rw [loopL_un l_plaithelp_Bools_0.eq_1]
  simp (maxDischargeDepth := 40) [ho, hp]
  rw [loopL_un l_plaithelp_Bools_0.eq_1]
  simp (maxDischargeDepth := 40) [ho, hp]
  rw [loopL_un l_plaithelp_Bools_0.eq_1]
  simp (maxDischargeDepth := 40)
theorem known16_run {H : AHeap} : R f_plaitlaw16_known [] H = some (.bool true, H) := by
  generalize h : R f_plaitlaw16_known [] H = r
  have x1 := fun H o h1 h2 => value_ex1 (H := H) (o := o) h1 h2
  have x2 := fun H o h1 h2 => value_ex2 (H := H) (o := o) h1 h2
  have x3 := fun H o => value_ex3 (H := H) (o := o)
  rw [e_plaitlaw16_known] at h
  simp (maxDischargeDepth := 40) [c_plaitlaw16_known, x1, x2, x3] at h
  generalize hB : R f_lift_BitsOf _ _ = q at h
  obtain ⟨H', rfl, k, z, ob⟩ := bits_run' hB
  clear hB
  simp only [set_size, new_size] at ob k z
  have k0 : Keeps H H' := Keeps.trans (by simp (maxDischargeDepth := 40)) k
  have z0 := k0.size
  have b2 := bools_ex (H := H'.new (.cells [.bool true, .bool false])) (o := H.size + 1 + 1 + 1 + 1 + 1 + 1 + 1) (p := H'.size) (by rw [new_old (by omega)]; exact ob) (new_self H' _)
  simp (maxDischargeDepth := 40) [b2, k0] at h
  exact h.symm
end Go.Proofs.Ytiaoojghohfkjaa
end
section
namespace Go.Proofs.Ytiaoojghohfkjaa
set_option maxRecDepth 100000
set_option maxHeartbeats 2000000
theorem V_congr {l1 l2 : ByteArray → Option Vl} {ns : List Nd} (kok : Kok ns) {S : Nat → Prop} (hc : Cl ns S) (hv : ∀ (i : Nat) (n : Nd), S i → ns[i]? = some n → n.op = 2 → l1 n.name = l2 n.name) : ∀ (i : Nat) (n : Nd), S i → ns[i]? = some n → V l1 ns ((i : Int) + 1) = V l2 ns ((i : Int) + 1) := by
  intro i
  induction i using Nat.strongRecOn with
  | ind i ih =>
    intro n hS hn
    obtain ⟨⟨a0, a1⟩, ⟨b0, b1⟩, ⟨d0, d1⟩⟩ := kok i n hn
    have hi := (List.getElem?_eq_some_iff.1 hn).1
    have K : ∀ k, (k = n.a ∨ k = n.b ∨ k = n.c) → pick (valsV l1 ns) k = pick (valsV l2 ns) k := fun k hk => by
      by_cases h0 : 0 < k
      · have hkl : k ≤ i := by rcases hk with rfl | rfl | rfl <;> assumption
        obtain ⟨m, hm⟩ : ∃ m, ns[(k - 1).toNat]? = some m := ⟨ns[(k - 1).toNat]'(by omega), List.getElem?_eq_getElem (by omega)⟩
        have := ih (k - 1).toNat (by omega) m (hc i n hS hn k hk h0) hm
        rw [show (((k - 1).toNat : Nat) : Int) + 1 = k from by omega] at this
        exact this
      · unfold pick
        rw [if_pos (by omega), if_pos (by omega)]
    rw [V_node kok hn, V_node kok hn]
    unfold nodeV kidsV
    rw [K n.a (.inl rfl), K n.b (.inr (.inl rfl)), K n.c (.inr (.inr rfl))]
    by_cases h2 : n.op = 2
    · rw [hv i n hS hn h2]
    · simp only [h2, if_false]
def vnum (ns : List Nd) (s : ByteArray) : Int := match vidx ns s with
  | some i => (i : Int) + 1
  | none => 0
theorem var_num (ns : List Nd) (s : ByteArray) : ((vidx ns s).map num).getD (.int .i64 0) = .int .i64 (vnum ns s) := by
  unfold vnum
  cases vidx ns s <;> rfl
theorem lookL_append (l m : List Nm) (s : ByteArray) : lookL (l ++ m) s = (lookL l s).or (lookL m s) := by
  unfold lookL
  rw [List.find?_append]
  cases l.find? (fun n => decide (n.name = s)) <;> rfl
theorem lookL_filter {l : List Nm} {s : ByteArray} {p : Nm → Bool} (h : ∀ n, n ∈ l → n.name = s → p n = true) : lookL (l.filter p) s = lookL l s := by
  unfold lookL
  induction l with
  | nil => rfl
  | cons x l ih =>
    have ih' := ih fun n hn hs => h n (List.mem_cons_of_mem _ hn) hs
    rw [List.filter_cons]
    by_cases c : x.name = s
    · rw [if_pos (h x (by simp) c)]
      simp [c]
    · split
      · simp only [List.find?_cons, c, decide_false]
        exact ih'
      · simp only [List.find?_cons, c, decide_false]
        exact ih'
theorem own_law {look : ByteArray → Option Vl} {ns : List Nd} (g : Gok ns) {id : Int} (h1 : 1 ≤ id) (h2 : id ≤ ns.length) (other : List Nm) :
    worthS (lookL (((fullS look ns (varsT ns ns.length)).filter fun e => decide (vnum ns e.name ∈ coneT ns id)) ++ other)) ns id = (V (lookL (fullS look ns (varsT ns ns.length))) ns id, 0) := by
  have hfit := full_fit (look := look) g
  have hlook : ∀ (i : Nat) (n : Nd), (i : Int) + 1 ∈ coneT ns id → ns[i]? = some n → n.op = 2 → lookL (((fullS look ns (varsT ns ns.length)).filter fun e => decide (vnum ns e.name ∈ coneT ns id)) ++ other) n.name = lookL (fullS look ns (varsT ns ns.length)) n.name := fun i n hi hn hn2 => by
    rw [lookL_append, lookL_filter, look_full g hn hn2]
    · rfl
    · intro e _ he
      simp only [decide_eq_true_eq]
      unfold vnum
      rw [he, g.uniq i n hn hn2]
      exact hi
  unfold worthS
  rw [if_neg (by omega)]
  have hany : (coneT ns id).any (unfit (lookL (((fullS look ns (varsT ns ns.length)).filter fun e => decide (vnum ns e.name ∈ coneT ns id)) ++ other)) ns) = false := by
    rw [List.any_eq_false]
    intro x hx
    obtain ⟨j, rfl, hj1, hj2⟩ := cone_mem hx
    obtain ⟨n, hn⟩ : ∃ n, ns[j - 1]? = some n := ⟨ns[j - 1]'(by omega), List.getElem?_eq_getElem (by omega)⟩
    unfold unfit
    rw [show ((j : Int) - 1).toNat = j - 1 from by omega, List.getD_eq_getElem?_getD, hn]
    simp only [Option.getD_some, Bool.and_eq_true, decide_eq_true_eq, Bool.not_eq_true']
    rintro ⟨hn2, hf⟩
    have := hlook (j - 1) n (by rw [show ((j - 1 : Nat) : Int) + 1 = j from by omega]; exact hx) hn hn2
    have h3 := hfit _ _ hn hn2
    unfold varFit at hf h3
    rw [this, h3] at hf
    cases hf
  rw [hany]
  simp only [Bool.false_eq_true, if_false]
  have hid : id ∈ coneT ns id := by
    obtain ⟨i, rfl⟩ := Int.eq_ofNat_of_zero_le (show 0 ≤ id by omega)
    exact (mem_cone g.kok (by omega) (by omega) (by omega)).2 (by rw [Int.toNat_natCast]; exact cP_self g.kok i (by omega))
  obtain ⟨n, hn⟩ : ∃ n, ns[(id - 1).toNat]? = some n := ⟨ns[(id - 1).toNat]'(by omega), List.getElem?_eq_getElem (by omega)⟩
  have hcl : Cl ns fun i => ((i : Int) + 1) ∈ coneT ns id := fun i n hS hn k hk h0 => by
    have := (cone_kid g.kok h1 h2 hS hn hk h0).1
    show (((k - 1).toNat : Nat) : Int) + 1 ∈ coneT ns id
    rw [show (((k - 1).toNat : Nat) : Int) + 1 = k from by omega]
    exact this
  have := V_congr g.kok hcl hlook (id - 1).toNat n (by rw [show (((id - 1).toNat : Nat) : Int) + 1 = id from by omega]; exact hid) hn
  rw [show (((id - 1).toNat : Nat) : Int) + 1 = id from by omega] at this
  rw [this]
theorem const_reads {v : AV} {sz n : Nat} {cs : List AV} (h : ∀ H, Reads H v sz n cs) : n = 0 ∨ v = .lst sz n cs := by
  obtain ⟨h1, h2, h3, h4⟩ := h ⟨0, fun _ => .dead, fun _ => 0⟩
  cases v <;> first | (exact h4.elim) | skip
  · simp [sliceLen] at h1; exact .inl (by omega)
  · exact absurd h4.2 (by simp)
  · right
    have h4 : _ = sz := h4
    subst h4
    simp [sliceLen] at h1
    simp [sliceCells] at h2
    rw [h1, h2]
theorem flatN_get {l : List Nm} {i : Nat} {n : Nm} (h : l[i]? = some n) : (flatN l)[i * 4]? = some (.str n.name) := by
  have := congrArg (fun l => l[0]?) (flatN_at h)
  simp only [Nm.cs, List.getElem?_cons_zero] at this
  rw [← this, List.getElem?_take_of_lt (by omega), List.getElem?_drop]
  simp
theorem own_loop1 {H : AHeap} {s : AV} {xs : List Int} (hs : RI H s xs) (hm : xs.length ≤ 1000000) {x : Int} {e : Env} {r : Rn} (hL : loopL Try.prog KT R l_plaitlaw4_EvalOwn_1 e H = r)
    (e16 : e 16 = some s) (e19 : e 19 = some (.int .i64 x)) (e21 : e 21 = some (.bool false)) (e22 : e 22 = some (.int .i64 0)) :
    ∃ y e' H', r = some (y, e', H') ∧ (H' = H ∧ y = .exit 2 ∧ e' 21 = some (.bool (decide (x ∈ xs)))) ∧ ∀ t, t ∉ defs l_plaitlaw4_EvalOwn_1 → e' t = e t := by
  refine loop_count l_plaitlaw4_EvalOwn_1.eq_1 hL xs.length (fun i e1 H1 => H1 = H ∧ e1 22 = some (.int .i64 i) ∧ e1 21 = some (.bool (decide (x ∈ xs.take i)))) _ 0 (Nat.zero_le _) ⟨rfl, e22, by simpa using e21⟩ ?_ ?_
  · rintro i f H1 hf - hi ⟨rfl, f22, f21⟩
    obtain ⟨a1, a2⟩ := loadi_of hs hi
    replace a2 := a2 H1 (Keeps.refl _)
    have w1 : IntKind.i64.wrap ((i : Int) + 1) = (i : Int) + 1 := i64w (by omega) (by omega)
    have c1 : (i : Int) < xs.length := by omega
    have hlen := hs.len
    have ht : xs.take (i + 1) = xs.take i ++ [xs.getD i 0] := by rw [List.take_add_one]; simp [List.getD_eq_getElem?_getD, hi]
    rw [ht]
    generalize xs.getD i 0 = y at *
    by_cases c : x ∈ xs.take i
    · rw [decide_eq_true c] at f21
      simp [hf, e16, f21, f22, hlen, c1, w1, c]
    · rw [decide_eq_false c] at f21
      by_cases d : y = x
      · simp [hf, e16, e19, f21, f22, hlen, c1, w1, a1, a2, d]
      · have d' : ¬ x = y := fun h => d h.symm
        simp [hf, e16, e19, f21, f22, hlen, c1, w1, a1, a2, c, d, d']
  · rintro f H1 hf ⟨rfl, f22, f21⟩
    have hlen := hs.len
    rw [List.take_of_length_le (Nat.le_refl _)] at f21
    simp [hf, e16, f22, f21, hlen]
end Go.Proofs.Ytiaoojghohfkjaa
end
section
namespace Go.Proofs.Ytiaoojghohfkjaa
set_option maxRecDepth 100000
set_option maxHeartbeats 4000000
theorem full_again {look : ByteArray → Option Vl} {ns : List Nd} (g : Gok ns) : fullS (lookL (fullS look ns (varsT ns ns.length))) ns (varsT ns ns.length) = fullS look ns (varsT ns ns.length) := by
  unfold fullS
  apply List.map_congr_left
  intro x hx
  obtain ⟨j, rfl, hj, hj2⟩ := mem_vars hx
  rw [show ((j : Int) + 1 - 1).toNat = j from by omega] at *
  obtain ⟨n, hn⟩ : ∃ n, ns[j]? = some n := ⟨ns[j], List.getElem?_eq_getElem hj⟩
  have hgj : ns.getD j Nd.zero = n := by rw [List.getD_eq_getElem?_getD, hn]; rfl
  rw [hgj] at hj2 ⊢
  have h1 := look_full (look := look) g hn hj2
  unfold fullS at h1
  obtain ⟨h2, h3⟩ := fullV_fit (look := look) (g.sort (List.mem_of_getElem? hn) hj2)
  congr 1
  show (if (((lookL (List.map (fun x => _) (varsT ns ns.length)) n.name).getD Vl.zero).ok && decide (((lookL (List.map (fun x => _) (varsT ns ns.length)) n.name).getD Vl.zero).w = n.sort)) = true then (lookL (List.map (fun x => _) (varsT ns ns.length)) n.name).getD Vl.zero else ⟨n.sort, 0#128⟩) = _
  rw [h1]
  simp [h2, h3]
def isTrue (look : ByteArray → Option Vl) (ns : List Nd) (x : Int) : Bool := decide (worthS look ns x = (Vl.bool true, 0))
theorem isTrue_eq {look : ByteArray → Option Vl} {ns : List Nd} (g : Gok ns) (hf : AllFit look ns) (x : Int) : ((nodeS ns x).isSome && (decide (((nodeS ns x).getD Nd.zero).sort = 0) && (decide ((worthS look ns x).2 = 0) && decide (lo (worthS look ns x).1.n = 1#64)))) = isTrue look ns x := by
  unfold isTrue
  by_cases c : x < 1 ∨ (ns.length : Int) < x
  · have h1 : nodeS ns x = none := by unfold nodeS; rw [if_pos c]
    have h2 : worthS look ns x = (Vl.zero, 40) := by unfold worthS; rw [if_pos c]
    rw [h1, h2]
    simp
  · obtain ⟨n, hn⟩ : ∃ n, ns[(x - 1).toNat]? = some n := ⟨ns[(x - 1).toNat]'(by omega), List.getElem?_eq_getElem (by omega)⟩
    have h1 : nodeS ns x = some n := by unfold nodeS; rw [if_neg c, hn]
    rw [h1, hf.worth (by omega) (by omega)]
    obtain ⟨g1, g2⟩ := hf.good g hn
    rw [show (((x - 1).toNat : Nat) : Int) + 1 = x from by omega] at g1 g2
    generalize V look ns x = X at *
    simp only [Option.isSome_some, Option.getD_some, Bool.true_and, decide_true]
    rw [← Bool.decide_and, decide_eq_decide]
    constructor
    · rintro ⟨a1, a2⟩
      replace a1 := g2.trans a1
      obtain ⟨b, rfl⟩ := Vl.of_bool g1 a1
      cases b
      · revert a2; decide
      · rfl
    · intro h
      have e := congrArg Prod.fst h
      simp only at e
      rw [← g2, e]
      decide
theorem flatV_one (x : Vl) : flatV [x] = x.cs := by simp [flatV]
theorem holds_loop {H0 H : AHeap} (k0 : Keeps H0 H) {s : AV} {vs : List Vl} (hs : RV H0 s vs) (hm : vs.length ≤ 1000000) {e : Env} {r : Rn} (hL : loopL Try.prog KT R l_lift_Holds_0 e H = r) (e22 : e 22 = some s) (e23 : e 23 = some (.int .i64 vs.length)) (e24 : e 24 = some (.int .i64 0)) :
    ∃ y e' H', r = some (y, e', H') ∧ (Keeps H0 H' ∧ ((y = .exit 0 ∧ vs.all (fun v => decide (v = Vl.bool true)) = true) ∨ (y = .ret ∧ e' 6 = some (.bool false) ∧ vs.all (fun v => decide (v = Vl.bool true)) = false))) ∧ ∀ t, t ∉ defs l_lift_Holds_0 → e' t = e t := by
  obtain ⟨A, hA⟩ : ∃ A, A = vs.all (fun v => decide (v = Vl.bool true)) := ⟨_, rfl⟩
  rw [← hA]
  refine loop_count l_lift_Holds_0.eq_1 hL vs.length (fun i e1 H1 => e1 24 = some (.int .i64 i) ∧ Keeps H0 H1 ∧ ∀ v, v ∈ vs.take i → v = Vl.bool true) _ 0 (Nat.zero_le _) ⟨e24, k0, by simp⟩ ?_ ?_
  · rintro i f H1 hf - hi ⟨f24, k, hall⟩
    obtain ⟨v, hv⟩ : ∃ v, vs[i]? = some v := ⟨vs[i], by simp [hi]⟩
    obtain ⟨x0, y0⟩ := hs.at hv
    have y1 := y0 H1 k
    have w1 : IntKind.i64.wrap ((i : Int) + 1) = (i : Int) + 1 := i64w (by omega) (by omega)
    have c1 : (i : Int) < vs.length := by omega
    have hb := fun H => bool_run (b := true) (H := H)
    have hq := vl_eq (a := v) (b := Vl.bool true)
    rw [Bool.and_assoc] at hq
    have ht : vs.take (i + 1) = vs.take i ++ [v] := by rw [List.take_add_one, hv]; rfl
    have z1 := k.size
    rw [ht]
    by_cases c : v = Vl.bool true
    · have hall' : ∀ x, x ∈ vs.take i ∨ x = v → x = Vl.bool true := fun x hx => by
        rcases hx with h | h
        · exact hall x h
        · rw [h]; exact c
      rw [decide_eq_true c] at hq
      subst c
      generalize Vl.bool true = T at *
      simp (maxDischargeDepth := 20) [hf, e22, e23, f24, c1, x0, y1, w1, hb, k, z1]
      exact hall'
    · rw [decide_eq_false c] at hq
      have hA' : A = false := by
        rw [hA]
        cases h : vs.all (fun v => decide (v = Vl.bool true)) with
        | false => rfl
        | true =>
          have := List.all_eq_true.1 h v (List.mem_of_getElem? hv)
          exact absurd (of_decide_eq_true this) c
      generalize Vl.bool true = T at *
      simp (maxDischargeDepth := 20) [hf, e22, e23, f24, c1, x0, y1, hb, ← hq, k, z1]
      exact hA'
  · rintro f H1 hf ⟨f24, k, hall⟩
    rw [List.take_of_length_le (Nat.le_refl _)] at hall
    have hA' : A = true := by
      rw [hA, List.all_eq_true]
      intro v hv
      rw [hall v hv]; rfl
    simp [hf, e23, f24, k]
    exact hA'
theorem holds_run {H : AHeap} {g : Nat} {ns : List Nd} {F : List Nat} (G : GT H g 4096 ns F) (gok : Gok ns) (hnl : ns.length ≤ 1000) {s t : AV} {env : List Nm} (hs : RN H s env) (hm : env.length ≤ 1000000) {ids : List Int} (ht : RI H t ids) (hi' : ids.length ≤ 1000000) :
    R f_lift_Holds [.ptr g 0, t, s] H = some (.bool (ids.all (isTrue (lookL (fullS (lookL env) ns (varsT ns ns.length))) ns)), H) := by
  obtain ⟨v, hv, hvr⟩ := complete_run G hs hm
  have hmod : R f_lift_Model [.ptr g 0, s] H = some (v, H) := by
    have hcl : closed H.size v = true := by
      rcases const_reads hvr with h | rfl
      · have := (hvr ⟨0, fun _ => .dead, fun _ => 0⟩).own
        cases v <;> first | (exact this.elim) | skip
        · simp
        · exact absurd this.2 (by simp)
        · rename_i sz n cs
          have h3 := (hvr H).cells
          simp [sliceCells] at h3
          rw [h3]
          simp [closed_flatN]
      · simp [closed_flatN]
    rw [e_lift_Model]
    simp (maxDischargeDepth := 40) [c_lift_Model, hv, hcl]
  have hel : (fullS (lookL env) ns (varsT ns ns.length)).length ≤ 1000000 := by
    unfold fullS
    rw [List.length_map]
    have := varsT_len ns ns.length
    omega
  have ha := all_run G gok (hvr H) hel ht hi'
  generalize fullS (lookL env) ns (varsT ns ns.length) = M at *
  rw [e_lift_Holds]
  rcases ha with ⟨hok, w, hw, hwr⟩ | ⟨i, x, hok, hx, h0, hw⟩
  · have hlen := (hwr H).len
    rw [List.length_map] at hlen
    simp (maxDischargeDepth := 40) [c_lift_Holds, hmod, hw, hlen]
    generalize hL : loopL _ _ _ _ _ _ = q
    obtain ⟨y, e1, H1, rfl, ⟨k1, hy⟩, fr⟩ := holds_loop (Keeps.refl H) (hwr H) (by rw [List.length_map]; exact hi') hL (by simp) (by simp) (by simp)
    have hall : (ids.map fun x => (worthS (lookL M) ns x).1).all (fun v => decide (v = Vl.bool true)) = ids.all (isTrue (lookL M) ns) := by
      rw [List.all_map]
      rw [Bool.eq_iff_iff, List.all_eq_true, List.all_eq_true]
      refine forall_congr' fun x => forall_congr' fun hx => ?_
      unfold isTrue
      simp only [Function.comp]
      rw [decide_eq_true_eq, decide_eq_true_eq]
      constructor
      · intro h; rw [← h, ← hok x hx]
      · intro h; rw [h]
    rw [hall] at hy
    rcases hy with ⟨rfl, h2⟩ | ⟨rfl, e6, h2⟩
    · rw [h2]
      simp (maxDischargeDepth := 40) [k1]
    · rw [h2]
      simp (maxDischargeDepth := 40) [e6, k1]
  · have hall : ids.all (isTrue (lookL M) ns) = false := by
      cases h : ids.all (isTrue (lookL M) ns) with
      | false => rfl
      | true =>
        have := of_decide_eq_true (List.all_eq_true.1 h x (List.mem_of_getElem? hx))
        rw [this] at h0
        exact absurd rfl h0
    rw [hall]
    simp (maxDischargeDepth := 40) [c_lift_Holds, hmod, hw, h0]
end Go.Proofs.Ytiaoojghohfkjaa
end
section
namespace Go.Proofs.Ytiaoojghohfkjaa
set_option maxRecDepth 100000
set_option maxHeartbeats 4000000
structure One (H0 H : AHeap) (g : Nat) (most : Int) (ns : List Nd) (F : List Nat) : Prop where
  gt : GT H g most ns F
  kp : Keeps H0 H
  fF : ∀ p, p ∈ F → H0.size ≤ p
theorem One.make {H0 H H1 : AHeap} {g : Nat} {most : Int} {ns js : List Nd} {F F' : List Nat} (T : One H0 H g most ns F) (g1 : GT H1 g most js F') (m1 : MvT F H F' H1) : One H0 H1 g most js F' := by
  refine ⟨g1, m1.fr.keeps T.kp T.fF, fun p hp => ?_⟩
  rcases m1.new p hp with h | h
  · exact T.fF p h
  · exact Nat.le_trans T.kp.size h
theorem models_loop0 {H0 H : AHeap} {g : Nat} {l : List Nd} {F : List Nat} (hl : l.length ≤ 60) (T : One H0 H g 4096 [] F) {e : Env} {r : Rn} (hL : loopL Try.prog KT R l_plaitlaw16_LiftModels_0 e H = r)
    (e0 : e 0 = some (NL l)) (e7 : e 7 = some (.ptr g 0)) (e8 : e 8 = some (.int .i64 0)) :
    ∃ y e' H', r = some (y, e', H') ∧ (Keeps H0 H' ∧ ((y = .exit 0 ∧ ∃ ns F, One H0 H' g 4096 ns F ∧ Gok ns ∧ ns.length ≤ l.length) ∨ (y = .ret ∧ e' 6 = some (.bool true)))) ∧ ∀ t, t ∉ defs l_plaitlaw16_LiftModels_0 → e' t = e t := by
  refine loop_count l_plaitlaw16_LiftModels_0.eq_1 hL l.length (fun i e1 H1 => e1 8 = some (.int .i64 i) ∧ ∃ ns F, One H0 H1 g 4096 ns F ∧ Gok ns ∧ ns.length ≤ i) _ 0 (by omega) ⟨e8, [], F, T, Gok.nil, Nat.le_refl _⟩ ?_ ?_
  · rintro i f H1 hf - hi ⟨f8, ns, F1, T1, gok, hnl⟩
    have w1 : IntKind.i64.wrap ((i : Int) + 1) = (i : Int) + 1 := i64w (by omega) (by omega)
    have c1 : (i : Int) < l.length := by omega
    obtain ⟨n, hn⟩ : ∃ n, l[i]? = some n := ⟨l[i], by simp [hi]⟩
    have hat := flat_at hn
    have hfl := flat_len l
    have hle : i * 11 + 11 ≤ l.length * 11 := by omega
    have hat10 : (flat l)[i * 11 + 8 + 2]? = some (.str n.name) := by
      rw [show i * 11 + 8 + 2 = i * 11 + 10 from by omega, flat_get hn (by omega)]; rfl
    have kp := T1.kp
    by_cases c2 : (60 : Int) < n.name.size
    · simp (maxDischargeDepth := 40) [hf, NL, e0, f8, c1, hat10, c2]
      exact kp
    · simp (maxDischargeDepth := 40) [hf, NL, e0, e7, f8, c1, hfl, hle, hat, hat10, c2]
      generalize hN : R f_plait_term_Graph_Make _ _ = qq
      obtain ⟨js, x, er, hmk⟩ : ∃ js x er, makT 4096 ns n = (js, x, er) := ⟨_, _, _, rfl⟩
      have gk : Gok js := by have := gok.make (most := 4096) (n := n); rw [hmk] at this; exact this
      have hjl : js.length ≤ ns.length + 1 := by have := makT_len (most := 4096) (ns := ns) (n := n); rw [hmk] at this; exact this
      obtain ⟨H2, F2, rfl, g2, m2⟩ := GvT.go T1.gt hmk hN
      have T3 := T1.make g2 m2
      simp (maxDischargeDepth := 40) [f8, w1]
      exact ⟨js, ⟨F2, T3⟩, gk, by omega⟩
  · rintro f H1 hf ⟨f8, ns, F1, T1, gok, hnl⟩
    simp [hf, NL, f8, e0]
    exact ⟨T1.kp, ns, ⟨F1, T1⟩, gok, by omega⟩
theorem models_loop1 {H0 H : AHeap} {g : Nat} {ns : List Nd} {F : List Nat} (G : GT H0 g 4096 ns F) (gok : Gok ns) {M : List Nm} (hfit : AllFit (lookL M) ns) (hM : M.length ≤ 1000000) {v s : AV} (hv : ∀ H, RN H v M) {ids : List Int} (hs : ∀ H, RI H s ids) (hil : ids.length ≤ 1000000) (k0 : Keeps H0 H)
    {e : Env} {r : Rn} (hL : loopL Try.prog KT R l_plaitlaw16_LiftModels_1 e H = r) (e2 : e 2 = some s) (e7 : e 7 = some (.ptr g 0)) (e9 : e 9 = some v) (e10 : e 10 = some (.bool true)) (e11 : e 11 = some (.int .i64 0)) :
    ∃ y e' H', r = some (y, e', H') ∧ (y = .exit 2 ∧ Keeps H0 H' ∧ e' 10 = some (.bool (ids.all (isTrue (lookL M) ns)))) ∧ ∀ t, t ∉ defs l_plaitlaw16_LiftModels_1 → e' t = e t := by
  refine loop_count l_plaitlaw16_LiftModels_1.eq_1 hL ids.length (fun i e1 H1 => e1 11 = some (.int .i64 i) ∧ Keeps H0 H1 ∧ e1 10 = some (.bool ((ids.take i).all (isTrue (lookL M) ns)))) _ 0 (by omega) ⟨e11, k0, by simpa using e10⟩ ?_ ?_
  · rintro i f H1 hf - hi ⟨f11, k, f10⟩
    have w1 : IntKind.i64.wrap ((i : Int) + 1) = (i : Int) + 1 := i64w (by omega) (by omega)
    have c1 : (i : Int) < ids.length := by omega
    have hlen := (hs H1).len
    obtain ⟨x, hx⟩ : ∃ x, ids[i]? = some x := ⟨ids[i], by simp [hi]⟩
    have hg : ids.getD i 0 = x := by simp [List.getD_eq_getElem?_getD, hx]
    obtain ⟨a1, -⟩ := loadi_of (hs H1) hi
    have a2 : ∀ H', aload Try.prog H' T_int (ixp s 1 i) = some (.int .i64 x) := fun H' => by
      have := (loadi_of (hs H') hi).2 H' (Keeps.refl _)
      rw [hg] at this
      exact this
    have ht : ids.take (i + 1) = ids.take i ++ [x] := by rw [List.take_add_one, hx]; rfl
    have hnode : ∀ H', Keeps H0 H' → R f_plait_term_Graph_Node [.ptr g 0, .int .i64 x] H' = some (.tup [.agg ((nodeS ns x).getD Nd.zero).cs, .bool (nodeS ns x).isSome], H') := fun H' k' => by
      obtain ⟨p1, p2, p3, tg, -⟩ := G.keeps k'
      exact node_run tg (id := x)
    have hE : ∀ H', Keeps H0 H' → R f_eval_Eval [.ptr g 0, .int .i64 x, v] H' = some (.tup [(worthS (lookL M) ns x).1.av, .int .i64 (worthS (lookL M) ns x).2], H') := fun H' k => eval_run (G.keeps k) gok (hv H') hM (id := x)
    have hT := isTrue_eq gok hfit x
    rw [ht, List.all_append]
    simp only [List.all_cons, List.all_nil, Bool.and_true]
    rw [← hT]
    generalize hW : worthS (lookL M) ns x = W at *
    generalize hN : (nodeS ns x).getD Nd.zero = n at *
    generalize (nodeS ns x).isSome = b at *
    generalize (ids.take i).all (isTrue (lookL M) ns) = A at *
    have z1 := k.size
    clear hW hN hT
    obtain ⟨op, sort, a, b', d, p, q, vw, vl, vh, name⟩ := n
    obtain ⟨W, ew⟩ := W
    simp only [Nd.cs] at hnode
    simp only at hE ⊢
    cases A
    · simp (maxDischargeDepth := 20) [hf, e2, e7, e9, f10, f11, hlen, c1, w1, a1, a2, k, hnode, hE, z1]
    · cases b
      · simp (maxDischargeDepth := 20) [hf, e2, e7, e9, f10, f11, hlen, c1, w1, a1, a2, k, hnode, hE, z1]
      · by_cases c : sort = 0
        · by_cases d : ew = 0
          · simp (maxDischargeDepth := 20) [hf, e2, e7, e9, f10, f11, hlen, c1, w1, a1, a2, k, hnode, hE, z1, c, d]
          · simp (maxDischargeDepth := 20) [hf, e2, e7, e9, f10, f11, hlen, c1, w1, a1, a2, k, hnode, hE, z1, c, d]
        · simp (maxDischargeDepth := 20) [hf, e2, e7, e9, f10, f11, hlen, c1, w1, a1, a2, k, hnode, hE, z1, c]
  · rintro f H1 hf ⟨f11, k, f10⟩
    rw [List.take_of_length_le (Nat.le_refl _)] at f10
    have hlen := (hs H1).len
    simp [hf, e2, f11, f10, hlen, k]
theorem models_run {H : AHeap} {l : List Nd} {s t : AV} {env : List Nm} {ids : List Int} (hs : ∀ H, RN H s env) (ht : ∀ H, RI H t ids) : R f_plaitlaw16_LiftModels [NL l, s, t] H = some (.bool true, H) := by
  generalize h : R f_plaitlaw16_LiftModels _ _ = r
  have hk := fun H => known16_run (H := H)
  have hlen := (hs H).len
  have hlent := (ht H).len
  rw [e_plaitlaw16_LiftModels] at h
  by_cases c0 : (60 : Int) < l.length
  · simp (maxDischargeDepth := 40) [c_plaitlaw16_LiftModels, NL, hk, c0] at h
    exact h.symm
  by_cases c1 : (40 : Int) < env.length
  · simp (maxDischargeDepth := 40) [c_plaitlaw16_LiftModels, NL, hk, hlen, c0, c1] at h
    exact h.symm
  by_cases c2 : (20 : Int) < ids.length
  · simp (maxDischargeDepth := 40) [c_plaitlaw16_LiftModels, NL, hk, hlen, hlent, c0, c1, c2] at h
    exact h.symm
  simp (maxDischargeDepth := 40) [c_plaitlaw16_LiftModels, NL, hk, hlen, hlent, c0, c1, c2] at h
  generalize hN : R f_term_New _ _ = q at h
  obtain ⟨H1, g, F1, rfl, g1, k1, f1⟩ := tnew_run hN
  simp (maxDischargeDepth := 40) at h
  generalize hL : loopL _ _ _ _ _ _ = q2 at h
  obtain ⟨y, e3, H3, rfl, ⟨k3, hy⟩, fr⟩ := models_loop0 (H0 := H) (l := l) (by omega) ⟨g1, k1, f1⟩ hL (by simp [NL]) (by simp) (by simp)
  rcases hy with ⟨rfl, ns, F3, T3, gok, hnl⟩ | ⟨rfl, a6⟩
  rotate_left
  · simp (maxDischargeDepth := 40) [a6, k3] at h
    exact h.symm
  have hm : env.length ≤ 1000000 := by omega
  obtain ⟨v, hv, hvr⟩ := complete_run T3.gt (hs H3) hm
  have hcl : closed H3.size v = true := by
    rcases const_reads hvr with h | rfl
    · have := (hvr ⟨0, fun _ => .dead, fun _ => 0⟩).own
      cases v <;> first | (exact this.elim) | skip
      · simp
      · exact absurd this.2 (by simp)
      · rename_i sz n cs
        have h3 := (hvr H).cells
        simp [sliceCells] at h3
        rw [h3]
        simp [closed_flatN]
    · simp [closed_flatN]
  have hmod : R f_lift_Model [.ptr g 0, s] H3 = some (v, H3) := by
    rw [e_lift_Model]
    simp (maxDischargeDepth := 40) [c_lift_Model, hv, hcl]
  have hel : (fullS (lookL env) ns (varsT ns ns.length)).length ≤ 1000000 := by
    unfold fullS
    rw [List.length_map]
    have := varsT_len ns ns.length
    omega
  have hnm := named_run (hvr H3) (hvr H3) hel
  rw [decide_eq_true rfl] at hnm
  simp (maxDischargeDepth := 40) [fr, hmod, hv, hnm] at h
  generalize hL : loopL _ _ _ _ _ _ = q2 at h
  have gfit := full_fit (look := lookL env) gok
  have hh1 := fun H' k => holds_run (H := H') (T3.gt.keeps k) gok (by omega) (hs H') hm (ht H') (by omega)
  have hh2 := fun H' k => holds_run (H := H') (T3.gt.keeps k) gok (by omega) (hvr H') hel (ht H') (by omega)
  rw [full_again gok] at hh2
  generalize fullS (lookL env) ns (varsT ns ns.length) = M at *
  obtain ⟨y, e4, H4, rfl, ⟨rfl, k4, e10⟩, fr4⟩ := models_loop1 T3.gt gok gfit hel hvr ht (by omega) (Keeps.refl _) hL (by simp [fr]) (by simp [fr]) (by simp) (by simp) (by simp)
  have kk := k3.trans k4
  have h1 := hh1 H4 k4
  have h2 := hh2 H4 k4
  generalize ids.all (isTrue (lookL M) ns) = A at *
  simp (maxDischargeDepth := 40) [fr, fr4, e10, h1, h2, kk] at h
  exact h.symm
end Go.Proofs.Ytiaoojghohfkjaa
end
section
namespace Go.Proofs.Ytiaoojghohfkjaa
set_option maxRecDepth 100000
theorem tv_int {d : Nat} {a : AV} (h : TV Try.prog (d + 1) 3 a) : ∃ n, a = .int .i64 n ∧ -9223372036854775808 ≤ n ∧ n ≤ 9223372036854775807 := tv_i64 Try.underlying3 h
theorem cs3 {cs : List AV} (h : cs.length = 3) : ∃ x0 x1 x2, cs = [x0, x1, x2] := by
  match cs, h with
  | [x0, x1, x2], _ => exact ⟨x0, x1, x2, rfl⟩
theorem tc_bits {d : Nat} {cs : List AV} (h : TC Try.prog (d + 2) 24 cs) : ∃ v : Vl, cs = v.cs := by
  have c3 : Try.prog.cellsOf 24 = 3 := by kernel_rfl
  have c1 : Try.prog.cellsOf 3 = 1 := by kernel_rfl
  have cu : Try.prog.cellsOf 22 = 1 := by kernel_rfl
  obtain ⟨hl, hf⟩ := tc_struct Try.underlying24 h
  rw [c3] at hl
  obtain ⟨x0, x1, x2, rfl⟩ := cs3 hl
  simp [c1, cu] at hf
  obtain ⟨g0, g1, g2⟩ := hf
  obtain ⟨n0, e0, -⟩ := tc_i64 Try.underlying3 g0
  obtain ⟨y1, e1⟩ := tc_u64 Try.underlying22 g1
  obtain ⟨y2, e2⟩ := tc_u64 Try.underlying22 g2
  simp at e0 e1 e2
  exact ⟨⟨n0, mkN y1 y2⟩, by rw [e0, e1, e2, Vl.cs, lo_mk, hi_mk]⟩
theorem tv_bits {d : Nat} {a : AV} (h : TV Try.prog (d + 2) 24 a) : ∃ v : Vl, a = v.av := by
  obtain ⟨cs, rfl, h2⟩ := tv_struct Try.underlying24 h
  obtain ⟨v, rfl⟩ := tc_bits h2
  exact ⟨v, rfl⟩
theorem tv_vals {d : Nat} {a : AV} (h : TV Try.prog (d + 3) 29 a) : ∃ l : List Vl, ∀ H, RV H a l := by
  obtain ⟨n, ds, rfl, h2, h3, h4⟩ := tv_slice Try.underlying29 h
  have c3 : Try.prog.cellsOf 24 = 3 := by kernel_rfl
  rw [c3] at h2 h4
  obtain ⟨ss, e1, e2, -⟩ := chunks Vl.cs (fun _ => True) (fun _ => rfl) h2 fun i hi => by
    obtain ⟨v, hv⟩ := tc_bits (h4 i hi)
    exact ⟨v, trivial, hv⟩
  subst e2
  exact ⟨ss, fun H => by rw [c3]; subst e1; exact Reads.lst h2⟩
theorem ints_cells : ∀ ss : List Int, ss.flatMap (fun x : Int => [AV.int .i64 x]) = ss.map (.int .i64)
  | [] => rfl
  | x :: l => by rw [List.flatMap_cons, ints_cells l]; rfl
theorem tv_ints {d : Nat} {a : AV} (h : TV Try.prog (d + 2) 48 a) : ∃ l : List Int, (∀ H, RI H a l) ∧ ∀ x, x ∈ l → -9223372036854775808 ≤ x ∧ x ≤ 9223372036854775807 := by
  obtain ⟨n, ds, rfl, h2, h3, h4⟩ := tv_slice Try.underlying48 h
  have c1 : Try.prog.cellsOf 3 = 1 := by kernel_rfl
  rw [c1] at h2 h4
  obtain ⟨ss, e1, e2, e3⟩ := chunks (fun x : Int => [AV.int .i64 x]) (fun x => -9223372036854775808 ≤ x ∧ x ≤ 9223372036854775807) (fun _ => rfl) h2 fun i hi => by
    obtain ⟨n0, e0, b1, b2⟩ := tc_i64 Try.underlying3 (h4 i hi)
    exact ⟨n0, ⟨b1, b2⟩, e0⟩
  subst e2
  have e4 := ints_cells ss
  exact ⟨ss, fun H => by rw [c1]; subst e1; rw [e4] at h2 ⊢; exact Reads.lst h2, e3⟩
theorem cs4 {cs : List AV} (h : cs.length = 4) : ∃ x0 x1 x2 x3, cs = [x0, x1, x2, x3] := by
  match cs, h with
  | [x0, x1, x2, x3], _ => exact ⟨x0, x1, x2, x3, rfl⟩
theorem tv_named {d : Nat} {a : AV} (h : TV Try.prog (d + 4) 32 a) : ∃ l : List Nm, ∀ H, RN H a l := by
  obtain ⟨n, ds, rfl, h2, h3, h4⟩ := tv_slice Try.underlying32 h
  have c4 : Try.prog.cellsOf 53 = 4 := by kernel_rfl
  have c3 : Try.prog.cellsOf 24 = 3 := by kernel_rfl
  have c9 : Try.prog.cellsOf 9 = 1 := by kernel_rfl
  rw [c4] at h2 h4
  obtain ⟨ss, e1, e2, -⟩ := chunks Nm.cs (fun _ => True) (fun _ => rfl) h2 fun i hi => by
    have hs := h4 i hi
    generalize (ds.drop (i * 4)).take 4 = cs at hs
    obtain ⟨hl, hf⟩ := tc_struct Try.underlying53 hs
    rw [c4] at hl
    obtain ⟨x0, x1, x2, x3, rfl⟩ := cs4 hl
    simp [c3, c9] at hf
    obtain ⟨g0, g1⟩ := hf
    obtain ⟨s, e0, -⟩ := tc_str Try.underlying9 g0
    obtain ⟨v, hv⟩ := tc_bits g1
    simp at e0
    exact ⟨⟨s, v⟩, trivial, by rw [e0]; simp only [Nm.cs]; rw [← hv]⟩
  subst e2
  exact ⟨ss, fun H => by rw [c4]; subst e1; exact Reads.lst h2⟩
theorem cs11 {cs : List AV} (h : cs.length = 11) : ∃ x0 x1 x2 x3 x4 x5 x6 x7 x8 x9 x10, cs = [x0, x1, x2, x3, x4, x5, x6, x7, x8, x9, x10] := by
  match cs, h with
  | [x0, x1, x2, x3, x4, x5, x6, x7, x8, x9, x10], _ => exact ⟨x0, x1, x2, x3, x4, x5, x6, x7, x8, x9, x10, rfl⟩
theorem tc_node {d : Nat} {cs : List AV} (h : TC Try.prog (d + 3) 41 cs) : ∃ n : Nd, cs = n.cs := by
  have c11 : Try.prog.cellsOf 41 = 11 := by kernel_rfl
  have c1 : Try.prog.cellsOf 3 = 1 := by kernel_rfl
  have c3 : Try.prog.cellsOf 24 = 3 := by kernel_rfl
  have c9 : Try.prog.cellsOf 9 = 1 := by kernel_rfl
  obtain ⟨hl, hf⟩ := tc_struct Try.underlying41 h
  rw [c11] at hl
  obtain ⟨x0, x1, x2, x3, x4, x5, x6, x7, x8, x9, x10, rfl⟩ := cs11 hl
  simp [c1, c3, c9] at hf
  obtain ⟨g0, g1, g2, g3, g4, g5, g6, g7, g8⟩ := hf
  obtain ⟨n0, e0, -⟩ := tc_i64 Try.underlying3 g0
  obtain ⟨n1, e1, -⟩ := tc_i64 Try.underlying3 g1
  obtain ⟨n2, e2, -⟩ := tc_i64 Try.underlying3 g2
  obtain ⟨n3, e3, -⟩ := tc_i64 Try.underlying3 g3
  obtain ⟨n4, e4, -⟩ := tc_i64 Try.underlying3 g4
  obtain ⟨n5, e5, -⟩ := tc_i64 Try.underlying3 g5
  obtain ⟨n6, e6, -⟩ := tc_i64 Try.underlying3 g6
  obtain ⟨s, e10, -⟩ := tc_str Try.underlying9 g8
  obtain ⟨v, hv⟩ := tc_bits g7
  simp [Vl.cs] at e0 e1 e2 e3 e4 e5 e6 e10 hv
  exact ⟨⟨n0, n1, n2, n3, n4, n5, n6, v.w, lo v.n, hi v.n, s⟩, by rw [e0, e1, e2, e3, e4, e5, e6, e10, hv.1, hv.2.1, hv.2.2]; rfl⟩
theorem tv_nodes {d : Nat} {a : AV} (h : TV Try.prog (d + 4) 31 a) : ∃ l : List Nd, a = NL l := by
  obtain ⟨n, ds, rfl, h2, h3, h4⟩ := tv_slice Try.underlying31 h
  have c11 : Try.prog.cellsOf 41 = 11 := by kernel_rfl
  rw [c11] at h2 h4
  obtain ⟨ss, e1, e2, -⟩ := chunks Nd.cs (fun _ => True) (fun _ => rfl) h2 fun i hi => by
    obtain ⟨n, hn⟩ := tc_node (h4 i hi)
    exact ⟨n, trivial, hn⟩
  exact ⟨ss, by rw [NL, e2, c11, e1]; rfl⟩
end Go.Proofs.Ytiaoojghohfkjaa
end
section
namespace Go.Proofs.Ytiaoojghohfkjaa
set_option maxRecDepth 100000
theorem LiftModels_law {a0 a1 a2 : AV} (y0 : TV Try.prog 8 T_s_api_Node a0) (y1 : TV Try.prog 8 T_s_api_Named a1) (y2 : TV Try.prog 8 T_s_int a2) : ∃ H', R f_plaitlaw16_LiftModels [a0, a1, a2] H0 = some (.bool true, H') := by
  obtain ⟨l, rfl⟩ := tv_nodes (d := 4) y0
  obtain ⟨env, hs⟩ := tv_named (d := 4) y1
  obtain ⟨ids, ht⟩ := tv_ints (d := 6) y2
  exact ⟨_, models_run hs ht.1⟩
end Go.Proofs.Ytiaoojghohfkjaa
end
