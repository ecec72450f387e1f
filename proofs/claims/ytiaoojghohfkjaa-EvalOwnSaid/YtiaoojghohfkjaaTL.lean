/- Graphs of terms: the same node made again, in a longer graph. -/
import Derived.Test.YtiaoojghohfkjaaTI
namespace Go.Proofs.Ytiaoojghohfkjaa
set_option maxRecDepth 100000

theorem idx_more {ns ks : List Nd} {n : Nd} {i : Nat} (h : idx ns n = some i) : idx (ns ++ ks) n = some i := by
  unfold idx at h ⊢
  rw [List.findIdx?_append, h]; rfl
theorem vidx_more {ns ks : List Nd} {s : ByteArray} {i : Nat} (h : vidx ns s = some i) : vidx (ns ++ ks) s = some i := by
  unfold vidx at h ⊢
  rw [List.findIdx?_append, h]; rfl
theorem kidOK_more {N N' a : Int} {i : Nat} {k : Int} (hN : N ≤ N') (h : kidOK N a i k = true) : kidOK N' a i k = true := by
  unfold kidOK at h ⊢
  split at h <;> simp at h ⊢ <;> simp [*] <;> omega
theorem formed_more {N N' : Int} {n : Nd} (hN : N ≤ N') (h : formedF N n = true) : formedF N' n = true := by
  unfold formedF at h ⊢
  simp only [kidsOK, Bool.and_eq_true] at h ⊢
  obtain ⟨⟨h1, h2, h3, h4⟩, h5⟩ := h
  exact ⟨⟨kidOK_more hN h1, kidOK_more hN h2, kidOK_more hN h3, h4⟩, h5⟩
theorem ksort_more {ns ks : List Nd} {k : Int} (h : k ≤ ns.length) : ksort (ns ++ ks) k = ksort ns k := by
  unfold ksort
  split
  · rename_i hk
    have : (k - 1).toNat < ns.length := by omega
    rw [List.getD_eq_getElem?_getD, List.getD_eq_getElem?_getD, List.getElem?_append_left this]
  · rfl
theorem nameBad_more {ns ks : List Nd} {n : Nd} {i : Nat} (hv : vidx ns n.name = some i) (h : nameBad ns n = false) : nameBad (ns ++ ks) n = false := by
  unfold nameBad at h ⊢
  rw [hv] at h
  rw [vidx_more hv]
  have hi := vidx_lt hv
  simp only [List.getD_eq_getElem?_getD, List.getElem?_append_left hi] at h ⊢
  exact h
/-- A node that is in the graph is made so again, however long the graph has grown. -/
theorem sorted_more {ns ks : List Nd} {n M : Nd} (hf : formedF ns.length n = true) (hs : sortedF ns n = (M, 0)) (hv : n.op = 2 → ∃ i, vidx ns n.name = some i) : sortedF (ns ++ ks) n = (M, 0) := by
  obtain ⟨ka, kb, kc⟩ := formed_kids hf
  unfold sortedF at hs ⊢
  by_cases c1 : n.op = 1
  · rw [if_pos c1] at hs ⊢; exact hs
  rw [if_neg c1] at hs ⊢
  by_cases c2 : n.op = 2
  · rw [if_pos c2] at hs ⊢
    obtain ⟨i, hi⟩ := hv c2
    have hM : n = M := congrArg Prod.fst hs
    have h2 := congrArg Prod.snd hs
    simp only at h2
    split at h2
    rotate_left
    · cases h2
    rename_i hc
    cases hb : nameBad ns n with
    | true => rw [hb] at h2; cases h2
    | false =>
      rw [if_pos hc, nameBad_more hi hb, ← hM]; rfl
  · rw [if_neg c2] at hs ⊢
    rw [ksort_more ka, ksort_more kb, ksort_more kc]
    exact hs
theorem vidx_of_mem {ns : List Nd} {n : Nd} (h : n ∈ ns) (h2 : n.op = 2) : ∃ i, vidx ns n.name = some i := by
  cases hv : vidx ns n.name with
  | some i => exact ⟨i, rfl⟩
  | none =>
    unfold vidx at hv
    rw [List.findIdx?_eq_none_iff] at hv
    have := hv n h
    simp [h2] at this
theorem idx_mem {ns : List Nd} {n : Nd} {i : Nat} (h : idx ns n = some i) : n ∈ ns ∧ i < ns.length := by
  unfold idx at h
  obtain ⟨h1, h2, -⟩ := List.findIdx?_eq_some_iff_getElem.1 h
  simp at h2
  exact ⟨by rw [h2]; exact List.getElem_mem h1, h1⟩
/-- What a making that succeeds leaves: the node stands in the graph. -/
structure Made (ns : List Nd) (n M : Nd) (i : Nat) : Prop where
  formed : formedF ns.length n = true
  sorted : sortedF ns n = (M, 0)
  at' : idx ns M = some i
theorem sorted_op {ns : List Nd} {n M : Nd} {e : Int} (h : sortedF ns n = (M, e)) : M.op = n.op ∧ (n.op = 2 → M = n) := by
  unfold sortedF at h
  split at h
  · have : n = M := congrArg Prod.fst h
    subst this; exact ⟨rfl, fun _ => rfl⟩
  · split at h
    · have : n = M := congrArg Prod.fst h
      subst this; exact ⟨rfl, fun _ => rfl⟩
    · rename_i h2
      have := congrArg Prod.fst h
      simp only at this
      subst this; exact ⟨rfl, fun h => absurd h h2⟩
theorem Made.more {ns ks : List Nd} {n M : Nd} {i : Nat} (h : Made ns n M i) : Made (ns ++ ks) n M i := by
  refine ⟨formed_more (by rw [List.length_append]; omega) h.formed, sorted_more h.formed h.sorted fun h2 => ?_, idx_more h.at'⟩
  have hM := (sorted_op h.sorted).2 h2
  have := (idx_mem h.at').1
  rw [hM] at this
  exact vidx_of_mem this h2
theorem Made.make {most : Int} {ns : List Nd} {n M : Nd} {i : Nat} (h : Made ns n M i) : makT most ns n = (ns, (i : Int) + 1, 0) := by
  unfold makT
  rw [if_neg (by simp [h.formed]), h.sorted]
  simp [h.at']
/-- A making: it succeeds, and then the node stands there; or it leaves the graph as it was. -/
theorem make_made {most : Int} {ns js : List Nd} {n : Nd} {l e : Int} (hv : Vok ns) (h : makT most ns n = (js, l, e)) : (e = 0 ∧ ∃ M i, Made js n M i ∧ l = (i : Int) + 1 ∧ ∃ ks, js = ns ++ ks) ∨ (¬ e = 0 ∧ js = ns ∧ l = 0) := by
  unfold makT at h
  split at h
  · cases h; exact .inr ⟨by decide, rfl, rfl⟩
  rename_i c1
  split at h
  · rename_i c2
    cases h; exact .inr ⟨c2, rfl, rfl⟩
  rename_i c2
  have hf : formedF ns.length n = true := by simpa using c1
  obtain ⟨M, hs⟩ : ∃ M, sortedF ns n = (M, 0) := ⟨(sortedF ns n).1, by rw [Prod.ext_iff]; exact ⟨rfl, by simpa using c2⟩⟩
  rw [hs] at h
  simp only at h
  split at h
  · rename_i i hi
    cases h
    exact .inl ⟨rfl, M, i, ⟨hf, hs, hi⟩, rfl, [], by simp⟩
  · rename_i hi
    split at h
    · cases h; exact .inr ⟨by decide, rfl, rfl⟩
    · cases h
      refine .inl ⟨rfl, M, ns.length, ⟨formed_more (by rw [List.length_append]; omega) hf, ?_, ?_⟩, rfl, [M], rfl⟩
      · by_cases c3 : n.op = 2
        · obtain ⟨v1, v2, -⟩ := var_new hv hf c3 (by rw [hs]) (by rw [hs]; exact hi)
          have hM : M = n := (sorted_op hs).2 c3
          have hx : vidx (ns ++ [M]) n.name = some ns.length := by rw [vidx_append, v1, hM]; simp [c3]
          unfold sortedF at hs ⊢
          have c1 : ¬ n.op = 1 := by omega
          rw [if_neg c1, if_pos c3] at hs ⊢
          have h2 := congrArg Prod.snd hs
          simp only at h2
          split at h2
          rotate_left
          · cases h2
          rename_i hc
          cases hb : nameBad ns n with
          | true => rw [hb] at h2; cases h2
          | false =>
            have hb2 : nameBad (ns ++ [M]) n = false := by
              unfold nameBad at hb ⊢
              rw [v1] at hb
              rw [hx, hM]
              simp only [List.getD_eq_getElem?_getD, List.getElem?_append_right (Nat.le_refl _)]
              simpa using hb
            rw [if_pos hc, hb2, hM]; rfl
        · exact sorted_more hf hs (fun h => absurd h c3)
      · rw [idx_append, hi]; simp
theorem make_nodup {most : Int} {ns : List Nd} {n : Nd} (h : ns.Nodup) : (makT most ns n).1.Nodup := by
  unfold makT
  split
  · exact h
  split
  · exact h
  split
  · exact h
  · rename_i hi
    split
    · exact h
    · rw [List.nodup_append]
      refine ⟨h, by simp, fun a ha b hb => ?_⟩
      simp at hb
      subst hb
      intro e
      exact idx_none hi (e ▸ ha)
end Go.Proofs.Ytiaoojghohfkjaa
