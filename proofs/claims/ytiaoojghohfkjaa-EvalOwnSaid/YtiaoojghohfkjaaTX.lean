/- The document's graph of terms: what it is in memory; New, At, Var, Vars, Cone, Right. -/
import Derived.Test.YtiaoojghohfkjaaTQ
import Derived.Test.YtiaoojghohfkjaaBRR
namespace Go.Proofs.Ytiaoojghohfkjaa
set_option maxRecDepth 100000
set_option maxHeartbeats 4000000

/-- The document's graph in memory. -/
structure RG (H : AHeap) (g : Nat) (most : Int) (ns : List Nd) (o : Nat) : Prop where
  lg : g < H.size
  l1 : ns ≠ [] → o < H.size
  og : H.obj g = .cells [slv o ns, .int .i64 most]
  b1 : ns ≠ [] → H.obj o = .cells (flat ns)
  n1 : ns ≠ [] → g ≠ o
  lim : (ns.length : Int) ≤ most
  lim2 : most ≤ 4096
theorem RG.same {H H' : AHeap} {g : Nat} {most : Int} {ns : List Nd} {o : Nat} (h : RG H g most ns o) (z : H.size ≤ H'.size) (k : ∀ p, p ∈ g :: objs (slv o ns) → H'.obj p = H.obj p) : RG H' g most ns o := by
  have k1 : ns ≠ [] → H'.obj o = H.obj o := fun e => k o (by
    unfold slv; rw [if_neg e]; simp)
  exact ⟨Nat.lt_of_lt_of_le h.lg z, fun e => Nat.lt_of_lt_of_le (h.l1 e) z, (k _ (by simp)).trans h.og, fun e => (k1 e).trans (h.b1 e), h.n1, h.lim, h.lim2⟩
theorem RG.keep {H H' : AHeap} {g : Nat} {most : Int} {ns : List Nd} {o : Nat} (h : RG H g most ns o) (k : Keeps H H') : RG H' g most ns o :=
  ⟨k.lt h.lg, fun e => k.lt (h.l1 e), (k.obj _ h.lg).trans h.og, fun e => (k.obj _ (h.l1 e)).trans (h.b1 e), h.n1, h.lim, h.lim2⟩
def GR (H : AHeap) (g : Nat) (most : Int) (ns : List Nd) (F : List Nat) : Prop := ∃ o, RG H g most ns o ∧ Vok ns ∧ Kok ns ∧ F = g :: objs (slv o ns)
theorem GR.keeps {H H' : AHeap} {g : Nat} {most : Int} {ns : List Nd} {F : List Nat} (h : GR H g most ns F) (k : Keeps H H') : GR H' g most ns F := by
  obtain ⟨o, t, v, kk, rfl⟩ := h
  exact ⟨o, t.keep k, v, kk, rfl⟩
theorem GR.same {H H' : AHeap} {g : Nat} {most : Int} {ns : List Nd} {F : List Nat} (h : GR H g most ns F) (z : H.size ≤ H'.size) (k : ∀ p, p ∈ F → H'.obj p = H.obj p) : GR H' g most ns F := by
  obtain ⟨o, t, v, kk, rfl⟩ := h
  exact ⟨o, t.same z k, v, kk, rfl⟩
theorem GR.lt {H : AHeap} {g : Nat} {most : Int} {ns : List Nd} {F : List Nat} (h : GR H g most ns F) : ∀ p, p ∈ F → p < H.size := by
  obtain ⟨o, t, v, kk, rfl⟩ := h
  intro p hp
  simp only [List.mem_cons] at hp
  rcases hp with rfl | hp
  · exact t.lg
  · unfold slv at hp
    split at hp
    · simp at hp
    · rename_i hne
      simp at hp
      subst hp
      exact t.l1 hne

theorem rnew_run {n : Int} {H : AHeap} {r : Option (AV × AHeap)} (h : R f_plaitref3_New [.int .i64 n] H = r) : ∃ H' g F, r = some (.ptr g 0, H') ∧ GR H' g (min (max n 1) 4096) [] F ∧ Keeps H H' ∧ ∀ p, p ∈ F → H.size ≤ p := by
  rw [e_plaitref3_New] at h
  by_cases c : n < 1
  · simp [c_plaitref3_New, c] at h
    rw [back_open (by simp [closed])] at h
    subst h
    refine ⟨_, H.size, [H.size], rfl, ⟨0, ⟨by simp, by simp, by simp [slv]; omega, by simp, by simp, by show (0 : Int) ≤ _; omega, by omega⟩, (fun n hn => by cases hn), (fun i n hn => by rw [List.getElem?_nil] at hn; cases hn), by simp [slv]⟩, by simp (maxDischargeDepth := 40), fun p hp => by simp at hp; omega⟩
  · simp [c_plaitref3_New, c] at h
    rw [back_open (by simp [closed])] at h
    subst h
    refine ⟨_, H.size, [H.size], rfl, ⟨0, ⟨by simp, by simp, by simp [slv]; omega, by simp, by simp, by show (0 : Int) ≤ _; omega, by omega⟩, (fun n hn => by cases hn), (fun i n hn => by rw [List.getElem?_nil] at hn; cases hn), by simp [slv]⟩, by simp (maxDischargeDepth := 40), fun p hp => by simp at hp; omega⟩

theorem at_run {H : AHeap} {g : Nat} {most : Int} {ns : List Nd} {o : Nat} (h : RG H g most ns o) {id : Int} : R f_plait_plaitref3_Graph_At [.ptr g 0, .int .i64 id] H = some (.tup [.agg ((nodeS ns id).getD Nd.zero).cs, .bool (nodeS ns id).isSome], H) := by
  have hl := h.lim
  have hl2 := h.lim2
  unfold nodeS
  rw [e_plait_plaitref3_Graph_At]
  have ng : ¬ g = H.size := Nat.ne_of_lt h.lg
  by_cases c1 : id < 1
  · simp (maxDischargeDepth := 40) [c_plait_plaitref3_Graph_At, c1, Nd.cs, Nd.zero]
  by_cases c2 : (ns.length : Int) < id
  · simp (maxDischargeDepth := 40) [c_plait_plaitref3_Graph_At, c1, c2, h.og, ng, slv_len, Nd.cs, Nd.zero]
  obtain ⟨i, rfl⟩ : ∃ i : Nat, id = (i : Int) + 1 := ⟨(id - 1).toNat, by omega⟩
  have hi : i < ns.length := by omega
  have hne : ns ≠ [] := by rintro rfl; simp at hi
  obtain ⟨n, hn⟩ : ∃ n, ns[i]? = some n := ⟨ns[i], by simp [hi]⟩
  have w1 : IntKind.i64.wrap (i : Int) = (i : Int) := i64w (by omega) (by omega)
  have hx : ns[i] = n := (List.getElem?_eq_some_iff.1 hn).2
  have hs := slv_row (o := o) hi
  have hsl := slv_len o ns
  have ho := h.b1 hne
  have hlt := h.l1 hne
  have n1 : ¬ o = H.size := Nat.ne_of_lt hlt
  have hfl := flat_len ns
  have hat := flat_at hn
  have hle : i * 11 + 11 ≤ ns.length * 11 := by omega
  have e1 : ((i : Int) + 1 - 1).toNat = i := by omega
  have c3 : (i : Int) < ns.length := by omega
  have hg := h.og
  rw [hs] at hg hsl
  simp (maxDischargeDepth := 40) [c_plait_plaitref3_Graph_At, c1, c2, hg, hx, w1, c3, hi, ho, n1, ng, hfl, hat, hle]
  simp (maxDischargeDepth := 40) [Nd.cs]

theorem vidx_take {ns : List Nd} {s : ByteArray} {i : Nat} {n : Nd} (hn : ns[i]? = some n) : vidx (ns.take (i + 1)) s = (vidx (ns.take i) s).or (if n.op = 2 ∧ s = n.name then some i else none) := by
  have hi := (List.getElem?_eq_some_iff.1 hn).1
  rw [List.take_add_one, hn, Option.toList_some, vidx_append, List.length_take, Nat.min_eq_left (by omega)]
theorem rvar_loop {H : AHeap} {g : Nat} {most : Int} {ns : List Nd} {o : Nat} (h : RG H g most ns o) {s : ByteArray} {e : Env} {r : Rn} (hL : loopL Go.Proofs.Try.prog KT R l_plait_plaitref3_Graph_Var_0 e H = r)
    (e0 : e 0 = some (.ptr g 0)) (e1' : e 1 = some (.str s)) (e6 : e 6 = some (.int .i64 0)) :
    ∃ y e' H', r = some (y, e', H') ∧ (H' = H ∧ ((y = .exit 0 ∧ vidx ns s = none) ∨ (y = .ret ∧ ∃ i, vidx ns s = some i ∧ e' 4 = some (num i) ∧ e' 5 = some (.bool true)))) ∧ ∀ t, t ∉ defs l_plait_plaitref3_Graph_Var_0 → e' t = e t := by
  have hl := h.lim
  have hl2 := h.lim2
  refine loop_count l_plait_plaitref3_Graph_Var_0.eq_1 hL ns.length (fun i e1 H1 => e1 6 = some (.int .i64 i) ∧ H1 = H ∧ vidx (ns.take i) s = none) _ 0 (by omega) ⟨e6, rfl, rfl⟩ ?_ ?_
  · rintro i f H1 hf - hi ⟨f6, rfl, hv⟩
    have w1 : IntKind.i64.wrap ((i : Int) + 1) = (i : Int) + 1 := i64w (by omega) (by omega)
    have c1 : (i : Int) < ns.length := by omega
    have hne : ns ≠ [] := by rintro rfl; simp at hi
    obtain ⟨n, hn⟩ : ∃ n, ns[i]? = some n := ⟨ns[i], by simp [hi]⟩
    have hs := slv_row (o := o) hi
    have ho := h.b1 hne
    have hfl := flat_len ns
    have hb0 : i * 11 < (flat ns).length := by omega
    have hb10 : i * 11 + 10 < (flat ns).length := by omega
    have hat0 : (flat ns)[i * 11]? = some (.int .i64 n.op) := flat_get hn (j := 0) (by omega)
    have hat10 : (flat ns)[i * 11 + 8 + 2]? = some (.str n.name) := by
      rw [show i * 11 + 8 + 2 = i * 11 + 10 from by omega, flat_get hn (by omega)]; rfl
    have hg := h.og
    rw [hs] at hg
    have ht := vidx_take (s := s) hn
    rw [hv, Option.none_or] at ht
    have hm : ∀ j, vidx (ns.take (i + 1)) s = some j → vidx ns s = some j := fun j h => by
      have := vidx_more (ks := ns.drop (i + 1)) h
      rwa [List.take_append_drop] at this
    rw [ht] at hm ⊢
    by_cases d1 : n.op = 2
    · rw [d1] at hat0
      by_cases d2 : n.name = s
      · rw [if_pos ⟨d1, d2.symm⟩] at hm
        simp (maxDischargeDepth := 40) [hf, e0, e1', f6, c1, hg, ho, hat0, hat10, d2, w1]
        exact ⟨i, hm i rfl, rfl⟩
      · have d2' : ¬ s = n.name := fun e => d2 e.symm
        simp (maxDischargeDepth := 40) [hf, e0, e1', f6, c1, hg, ho, hat0, hat10, d1, d2, d2', w1]
    · simp (maxDischargeDepth := 40) [hf, e0, f6, c1, hg, ho, hat0, d1, w1]
  · rintro f H1 hf ⟨f6, rfl, hv⟩
    have hg := h.og
    have hsl := slv_len o ns
    simp (maxDischargeDepth := 40) [hf, e0, f6, hg, hsl]
    rw [List.take_of_length_le (Nat.le_refl _)] at hv
    exact hv
theorem rvar_run {H : AHeap} {g : Nat} {most : Int} {ns : List Nd} {o : Nat} (h : RG H g most ns o) {s : ByteArray} : R f_plait_plaitref3_Graph_Var [.ptr g 0, .str s] H = some (.tup [((vidx ns s).map num).getD (.int .i64 0), .bool (vidx ns s).isSome], H) := by
  generalize hr : R f_plait_plaitref3_Graph_Var _ _ = r
  rw [e_plait_plaitref3_Graph_Var] at hr
  simp [c_plait_plaitref3_Graph_Var] at hr
  generalize hL : loopL _ _ _ _ _ _ = q at hr
  obtain ⟨y, e1, H1, rfl, ⟨rfl, hy⟩, fr⟩ := rvar_loop (s := s) h hL (by simp) (by simp) (by simp)
  rcases hy with ⟨rfl, hv⟩ | ⟨rfl, i, hv, e4, e5⟩
  · rw [hv]
    simp at hr
    rw [← hr]; rfl
  · rw [hv]
    simp [e4, e5, num] at hr
    rw [← hr]; rfl
end Go.Proofs.Ytiaoojghohfkjaa
