/- The evaluator: Eval, All, Complete. -/
import Derived.Test.YtiaoojghohfkjaaEI
import Derived.Test.YtiaoojghohfkjaaOC
namespace Go.Proofs.Ytiaoojghohfkjaa
set_option maxRecDepth 100000
set_option maxHeartbeats 2000000

theorem eval_run {H : AHeap} {g : Nat} {most : Int} {ns : List Nd} {F : List Nat} (G : GT H g most ns F) (gok : Gok ns) {s : AV} {env : List Nm} (hs : RN H s env) (hm : env.length ≤ 1000000) {id : Int} :
    R f_eval_Eval [.ptr g 0, .int .i64 id, s] H = some (.tup [(worthS (lookL env) ns id).1.av, .int .i64 (worthS (lookL env) ns id).2], H) := by
  obtain ⟨H1, es, c, hk, k1, z1, o1, he⟩ := known_env (H := H.new (.cells [.int .i64 0, u 0#64, u 0#64])) (hs.keep (Keeps.new _ _)) hm
  simp only [new_size] at hk z1 o1
  have k2 := (Keeps.new H (.cells [.int .i64 0, u 0#64, u 0#64])).trans k1
  have hw := worth_run (G.keeps k2) gok z1 o1 he (id := id)
  have oz : H1.obj H.size = .cells [.int .i64 0, u 0#64, u 0#64] := (k1.obj _ (by simp)).trans (by simp)
  have n1 : H.size < H1.size := by omega
  rw [e_eval_Eval]
  generalize worthS (lookL env) ns id = W at *
  simp (maxDischargeDepth := 40) [c_eval_Eval, hk, hw, oz, k2]

theorem vars_run2 {H : AHeap} {g : Nat} {most : Int} {ns : List Nd} {F : List Nat} (G : GT H g most ns F) : ∃ v, R f_plait_term_Graph_Vars [.ptr g 0] H = some (v, H) ∧ ∀ H', RI H' v (varsT ns ns.length) := by
  obtain ⟨o1, o2, o3, t, v, kok, rfl⟩ := id G
  rw [e_plait_term_Graph_Vars]
  have hlen := slv_len o1 ns
  simp (maxDischargeDepth := 40) [c_plait_term_Graph_Vars, t.og, hlen]
  generalize hL : loopL _ _ _ _ _ _ = r
  obtain ⟨y, e1, H1, rfl, ⟨rfl, k1, w, e7, hw⟩, fr⟩ := vars_loop t hL (by simp) (by simp) (by simp) (by simp)
  simp (maxDischargeDepth := 40) [e7]
  exact back_ints2 k1 hw

/-- A variable's value, or 0. -/
def fullV (look : ByteArray → Option Vl) (n : Nd) : Vl := if (((look n.name).getD Vl.zero).ok && decide (((look n.name).getD Vl.zero).w = n.sort)) = true then (look n.name).getD Vl.zero else ⟨n.sort, 0#128⟩
/-- What Complete tells. -/
def fullS (look : ByteArray → Option Vl) (ns : List Nd) (xs : List Int) : List Nm := xs.map fun x => ⟨(ns.getD (x - 1).toNat Nd.zero).name, fullV look (ns.getD (x - 1).toNat Nd.zero)⟩
theorem flatN_append (l m : List Nm) : flatN (l ++ m) = flatN l ++ flatN m := by simp [flatN]
theorem allOne_nm (n : Nm) : allOne n.cs = true := rfl
theorem fullS_take {look : ByteArray → Option Vl} {ns : List Nd} {xs : List Int} {i : Nat} {x : Int} (hx : xs[i]? = some x) {n : Nd} (hn : ns.getD (x - 1).toNat Nd.zero = n) : fullS look ns (xs.take (i + 1)) = fullS look ns (xs.take i) ++ [⟨n.name, fullV look n⟩] := by
  unfold fullS
  rw [List.take_add_one, hx, List.map_append]
  simp only [Option.toList_some, List.map_cons, List.map_nil, hn]
theorem EnvM.val {es : List AEnt} {look : ByteArray → Option Vl} (h : EnvM es look) {s : ByteArray} : lookU false (.agg [.int .i64 0, u 0#64, u 0#64]) (findE (.str s) es) = ((look s).getD Vl.zero).av := by
  rcases h.find (s := s) with ⟨h1, h2⟩ | ⟨v, x, h1, h2, h3⟩
  · rw [h1, h2]; rfl
  · rw [h1, h2]; simpa using h3
theorem mem_vars {ns : List Nd} {x : Int} (h : x ∈ varsT ns ns.length) : ∃ j : Nat, x = (j : Int) + 1 ∧ j < ns.length ∧ (ns.getD j Nd.zero).op = 2 := by
  unfold varsT at h
  simp only [List.mem_map, List.mem_filter, List.mem_range, decide_eq_true_eq] at h
  obtain ⟨j, ⟨h1, h2⟩, rfl⟩ := h
  exact ⟨j, rfl, h1, h2⟩
theorem complete_loop {H0 H : AHeap} {g em : Nat} {most : Int} {ns : List Nd} {F : List Nat} (G : GT H0 g most ns F) {look : ByteArray → Option Vl} {es0 : List AEnt} {c0 : Nat} (lem : em < H0.size) (oem : H0.obj em = .map (.one .s) es0 c0) (hem : EnvM es0 look) (k0 : Keeps H0 H)
    {s : AV} {e : Env} {r : Rn} (hL : loopL Go.Proofs.Try.prog KT R l_eval_Complete_0 e H = r) (e0 : e 0 = some (.ptr g 0)) (e5 : e 5 = some (.map em)) (e6 : e 6 = some .nils) (e15 : e 15 = some s) (e16 : e 16 = some (.int .i64 (varsT ns ns.length).length)) (e17 : e 17 = some (.int .i64 0)) (hs : ∀ H', RI H' s (varsT ns ns.length)) :
    ∃ y e' H', r = some (y, e', H') ∧ (y = .exit 0 ∧ Keeps H0 H' ∧ ∃ w, e' 6 = some w ∧ OutC H0 H' w 4 (varsT ns ns.length).length (flatN (fullS look ns (varsT ns ns.length)))) ∧ ∀ t, t ∉ defs l_eval_Complete_0 → e' t = e t := by
  have hlim : ns.length ≤ 4096 := by
    obtain ⟨p1, p2, p3, tg, -⟩ := G
    have := tg.lim
    have := tg.lim2
    omega
  have hvl := varsT_len ns ns.length
  have hmem : ∀ x, x ∈ varsT ns ns.length → _ := fun x hx => mem_vars hx
  generalize varsT ns ns.length = N at *
  refine loop_count l_eval_Complete_0.eq_1 hL N.length (fun i e1 H1 => e1 17 = some (.int .i64 i) ∧ Keeps H0 H1 ∧ ∃ w, e1 6 = some w ∧ OutC H0 H1 w 4 i (flatN (fullS look ns (N.take i)))) _ 0 (by omega)
    ⟨e17, k0, .nils, e6, OutC.nils⟩ ?_ ?_
  · rintro i f H1 hf - hlt ⟨f17, k, w, f6, hw⟩
    have w1 := i64w (n := (i : Int) + 1) (by omega) (by omega)
    have c1 : (i : Int) < N.length := by omega
    obtain ⟨x, hx⟩ : ∃ x, N[i]? = some x := ⟨N[i], by simp [hlt]⟩
    obtain ⟨j, hxj, hj1, hj2⟩ := hmem x (List.mem_of_getElem? hx)
    obtain ⟨n, hn⟩ : ∃ n, ns[j]? = some n := ⟨ns[j], List.getElem?_eq_getElem hj1⟩
    obtain ⟨x0, y0⟩ := loadi_of (hs H1) hlt
    replace y0 := y0 H1 (Keeps.refl _)
    have hg : N.getD i 0 = x := by simp [List.getD_eq_getElem?_getD, hx]
    rw [hg] at y0
    have hns : nodeS ns x = some n := by
      unfold nodeS
      rw [if_neg (by omega), show (x - 1).toNat = j from by omega, hn]
    have hgd : ns.getD (x - 1).toNat Nd.zero = n := by
      rw [show (x - 1).toNat = j from by omega, List.getD_eq_getElem?_getD, hn]; rfl
    have hnode : ∀ H', Keeps H0 H' → R f_plait_term_Graph_Node [.ptr g 0, .int .i64 x] H' = some (.tup [.agg n.cs, .bool true], H') := fun H' k' => by
      obtain ⟨p1, p2, p3, tg, -⟩ := G.keeps k'
      have := node_run tg (id := x)
      rw [hns] at this
      exact this
    have ht := fullS_take (look := look) hx hgd
    have lem1 : em < H1.size := k.lt lem
    have oem1 := (k.obj _ lem).trans oem
    have m1 : ¬ em = H1.size := by omega
    have m2 : ¬ em = H1.size + 1 := by omega
    have hlk := hem.val (s := n.name)
    have hfv : fullV look n = if (((look n.name).getD Vl.zero).ok && decide (((look n.name).getD Vl.zero).w = n.sort)) = true then (look n.name).getD Vl.zero else ⟨n.sort, 0#128⟩ := rfl
    have hr := fun H => fits_run (v := (look n.name).getD Vl.zero) (s := n.sort) (H := H)
    rw [ht]
    generalize fullV look n = X at *
    generalize (look n.name).getD Vl.zero = W at *
    have key : ∀ (H2 : AHeap) (r : Option (AV × AHeap)), Keeps H1 H2 → appU (H2.new (.cells [.str n.name, .int .i64 X.w, u (lo X.n), u (hi X.n)])) w (.row H2.size 0 4 1 true) (some (4, 40, [.str .empty, .int .i64 0, u 0#64, u 0#64])) = r → ∃ v' H', r = some (v', H') ∧ OutC H0 H' v' 4 (i + 1) (flatN (fullS look ns (N.take i) ++ [⟨n.name, X⟩])) ∧ Keeps H0 H' := fun H2 r k2 hA => by
      obtain ⟨v', H', h1, h2, h3, -⟩ := (hw.keep k2).push (k.trans k2) hA rfl rfl (by omega) (by omega) (by omega) rfl
      refine ⟨v', H', h1, ?_, h3⟩
      rw [flatN_append]
      simpa [flatN, Nm.cs, Vl.cs] using h2
    obtain ⟨op, sort, a, b, d, p, q, vw, vl, vh, name⟩ := n
    simp only [Nd.cs] at hnode
    simp only at hlk hfv hr key
    by_cases ok : (W.ok && decide (W.w = sort)) = true
    · rw [ok] at hr
      rw [if_pos ok] at hfv
      subst hfv
      simp (maxDischargeDepth := 20) [hf, e0, e5, e15, e16, f17, f6, c1, x0, y0, k, hnode, oem1, m1, hlk, hr]
      generalize hA : appU _ _ _ _ = q
      obtain ⟨v', H', rfl, h2, h3⟩ := key _ q (by simp (maxDischargeDepth := 20)) hA
      simp [f17, w1, h3]
      exact h2
    · rw [Bool.not_eq_true] at ok
      rw [ok] at hr
      rw [if_neg (by rw [ok]; simp)] at hfv
      subst hfv
      have z0 : lo (0#128) = 0#64 := rfl
      have z1 : hi (0#128) = 0#64 := rfl
      simp only [z0, z1] at key
      simp (maxDischargeDepth := 20) [hf, e0, e5, e15, e16, f17, f6, c1, x0, y0, k, hnode, oem1, m1, hlk, hr]
      generalize hA : appU _ _ _ _ = q
      obtain ⟨v', H', rfl, h2, h3⟩ := key _ q (by simp (maxDischargeDepth := 20)) hA
      simp [f17, w1, h3]
      exact h2
  · rintro f H1 hf ⟨f17, k, w, f6, hw⟩
    rw [List.take_of_length_le (Nat.le_refl _)] at hw
    simp [hf, e16, f17]
    exact ⟨k, w, f6, hw⟩
theorem closed_flatN {n : Nat} : ∀ l : List Nm, closedL n (flatN l) = true
  | [] => rfl
  | x :: l => by
    rw [show flatN (x :: l) = x.cs ++ flatN l from rfl, closedL_append, closed_flatN l]
    simp [Nm.cs, Vl.cs]
theorem complete_run {H : AHeap} {g : Nat} {most : Int} {ns : List Nd} {F : List Nat} (G : GT H g most ns F) {s : AV} {env : List Nm} (hs : RN H s env) (hm : env.length ≤ 1000000) :
    ∃ v, R f_eval_Complete [.ptr g 0, s] H = some (v, H) ∧ ∀ H', RN H' v (fullS (lookL env) ns (varsT ns ns.length)) := by
  obtain ⟨H1, es, c, hk, k1, z1, o1, he⟩ := known_env hs hm
  obtain ⟨v, hv, hvr⟩ := vars_run2 (G.keeps k1)
  have hlen := (hvr H1).len
  rw [e_eval_Complete]
  simp (maxDischargeDepth := 40) [c_eval_Complete, hk, hv, hlen]
  generalize hL : loopL _ _ _ _ _ _ = r
  obtain ⟨y, e1, H2, rfl, ⟨rfl, k2, w, e6, hw⟩, fr⟩ := complete_loop (G.keeps k1) z1 o1 he (Keeps.refl _) hL (by simp) (by simp) (by simp) (by simp) (by simp) (by simp) hvr
  simp (maxDischargeDepth := 40) [e6]
  obtain ⟨v', b1, b2⟩ := back_out (k1.trans k2) (hw.base k1.size) (closed_flatN _)
  refine ⟨v', b1, fun H' => ?_⟩
  have := b2 H'
  unfold RN
  rw [show (fullS (lookL env) ns (varsT ns ns.length)).length = (varsT ns ns.length).length from by simp [fullS]]
  exact this
end Go.Proofs.Ytiaoojghohfkjaa
