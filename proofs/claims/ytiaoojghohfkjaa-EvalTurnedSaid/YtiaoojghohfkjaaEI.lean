/- The evaluator: Eval, All. -/
import Derived.Test.YtiaoojghohfkjaaEH
namespace Go.Proofs.Ytiaoojghohfkjaa
set_option maxRecDepth 100000
set_option maxHeartbeats 2000000

theorem worth_run {H : AHeap} {g em : Nat} {most : Int} {ns : List Nd} {F : List Nat} (G : GT H g most ns F) (gok : Gok ns) {look : ByteArray → Option Vl} {es0 : List AEnt} {c0 : Nat} (lem : em < H.size) (oem : H.obj em = .map (.one .s) es0 c0) (hem : EnvM es0 look) {id : Int} :
    R f_eval_worth [.ptr g 0, .int .i64 id, .map em] H = some (.tup [(worthS look ns id).1.av, .int .i64 (worthS look ns id).2], H) := by
  have hnode : ∀ H', Keeps H H' → R f_plait_term_Graph_Node [.ptr g 0, .int .i64 id] H' = some (.tup [.agg ((nodeS ns id).getD Nd.zero).cs, .bool (nodeS ns id).isSome], H') := fun H' k' => by
    obtain ⟨p1, p2, p3, tg, -⟩ := G.keeps k'
    exact node_run tg (id := id)
  rw [e_eval_worth]
  by_cases c1 : id < 1 ∨ (ns.length : Int) < id
  · have hns : nodeS ns id = none := by unfold nodeS; rw [if_pos c1]
    rw [hns] at hnode
    simp only [Option.getD_none, Nd.zero, Nd.cs, Option.isSome_none] at hnode
    have hw : worthS look ns id = (Vl.zero, 40) := by unfold worthS; rw [if_pos c1]
    rw [hw]
    simp (maxDischargeDepth := 40) [c_eval_worth, hnode, Vl.zero]
  obtain ⟨n, hn⟩ : ∃ n, nodeS ns id = some n := by
    unfold nodeS
    rw [if_neg c1]
    exact ⟨ns[(id - 1).toNat]'(by omega), List.getElem?_eq_getElem (by omega)⟩
  rw [hn] at hnode
  obtain ⟨op, sort, a, b, d, p, q, vw, vl, vh, name⟩ := n
  simp only [Option.getD_some, Nd.cs, Option.isSome_some] at hnode
  have hcone : ∃ v : AHeap → AV, (∀ H', Keeps H H' → R f_plait_term_Graph_Cone [.ptr g 0, .int .i64 id] H' = some (v H', H')) ∧ ∀ H' H2, Keeps H H' → RI H2 (v H') (coneT ns id) := by
    have : ∀ H', ∃ v, Keeps H H' → (R f_plait_term_Graph_Cone [.ptr g 0, .int .i64 id] H' = some (v, H') ∧ ∀ H2, RI H2 v (coneT ns id)) := fun H' => by
      by_cases k : Keeps H H'
      · obtain ⟨v, h1, h2⟩ := cone_run2 (G.keeps k) (id := id)
        exact ⟨v, fun _ => ⟨h1, h2⟩⟩
      · exact ⟨.nils, fun h => absurd h k⟩
    exact ⟨fun H' => (this H').choose, fun H' k => ((this H').choose_spec k).1, fun H' H2 k => ((this H').choose_spec k).2 H2⟩
  obtain ⟨v, hc, hv⟩ := hcone
  have hlen : ∀ H', Keeps H H' → sliceLen (v H') = some (coneT ns id).length := fun H' k => (hv H' H' k).len
  obtain ⟨W, hW⟩ : ∃ W, W = worthS look ns id := ⟨_, rfl⟩
  rw [← hW]
  unfold worthS at hW
  rw [if_neg c1] at hW
  simp (maxDischargeDepth := 40) [c_eval_worth, hnode, hc, hlen]
  generalize hL : loopL _ _ _ _ _ _ = y
  obtain ⟨y, e1, H1, rfl, hy, fr⟩ := worth_loop G gok lem oem hem (by omega) (by omega) (by simp (maxDischargeDepth := 40)) (by simp) (by simp) (by simp) hL (by simp) (by simp) (by simp) (by simp) (by simp; rfl) (by simp) (by simp) (fun H' => hv _ H' (by simp (maxDischargeDepth := 40)))
  have hid0 : id ∈ coneT ns id := by
    obtain ⟨i, rfl⟩ := Int.eq_ofNat_of_zero_le (show 0 ≤ id by omega)
    exact (mem_cone gok.kok (by omega) (by omega) (by omega)).2 (by rw [Int.toNat_natCast]; exact cP_self gok.kok i (by omega))
  rcases hy with ⟨hany, rfl, k, z1, o1, es, c, o2, hvm⟩ | ⟨hany, rfl, k, z1, o1, e7⟩
  · have lk := hvm.look (.inl hid0)
    have n1 : H.size ≤ H1.size := by omega
    rw [if_neg (by rw [hany]; simp)] at hW
    rw [hW]
    simp (maxDischargeDepth := 40) [fr, o1, o2, lk, k]
  · rw [if_pos hany] at hW
    rw [hW]
    simp (maxDischargeDepth := 40) [fr, e7, o1, k, Vl.zero]
end Go.Proofs.Ytiaoojghohfkjaa
