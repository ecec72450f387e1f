/- The document's graph of terms: Make, variables. -/
import Derived.Test.YtiaoojghohfkjaaTZ2
namespace Go.Proofs.Ytiaoojghohfkjaa
set_option maxRecDepth 100000
set_option maxHeartbeats 4000000

theorem rmk2_run {H : AHeap} {g : Nat} {most : Int} {ns : List Nd} {F : List Nat} (G : GR H g most ns F) {n : Nd} (hop : n.op = 2) {r : Option (AV × AHeap)} (h : R f_plait_plaitref3_Graph_Make [.ptr g 0, .agg n.cs] H = r) : GvR H g most F (makT most ns n) r := by
  obtain ⟨o, t, v, kok, rfl⟩ := id G
  rw [e_plait_plaitref3_Graph_Make] at h
  obtain ⟨S, hS⟩ : ∃ S, S = makT most ns n := ⟨_, rfl⟩
  obtain ⟨B, hB⟩ : ∃ B, B = formedF ns.length n := ⟨_, rfl⟩
  have hSB : B = false → S = (ns, 0, 32) := fun e => by rw [hS]; unfold makT; rw [if_pos (hB.symm.trans e)]
  have hSs : B = true → S = if ¬ (sortedF ns n).2 = 0 then (ns, 0, (sortedF ns n).2) else match idx ns (sortedF ns n).1 with
      | some i => (ns, (i : Int) + 1, 0)
      | none => if most ≤ ns.length then (ns, 0, 33) else (ns ++ [(sortedF ns n).1], (ns.length : Int) + 1, 0) := fun e => by
    rw [hS]; unfold makT; rw [if_neg (by simp [← hB, e])]; rfl
  have hkk : B = true → Kok (ns ++ [n]) := fun e => by
    obtain ⟨f1, f2, f3⟩ := formed_kids0 (hB.symm.trans e)
    obtain ⟨ka, kb, kc⟩ := formed_kids (hB.symm.trans e)
    exact kok.grow ⟨⟨f1, ka⟩, ⟨f2, kb⟩, ⟨f3, kc⟩⟩
  rw [← hS]
  clear hS
  obtain ⟨M, hM⟩ : ∃ M, M = n := ⟨_, rfl⟩
  have hcs0 : n.cs = M.cs := by rw [hM]
  have hsf : sortedF ns n = (M, if isSort n.sort = true ∧ n.p = 0 ∧ n.q = 0 then (if nameBad ns n then 34 else 0) else 30) := by unfold sortedF; rw [if_neg (by omega), if_pos hop, hM]
  have hbad : nameBad ns n = (decide (n.name = ⟨#[]⟩) || match vidx ns n.name with | some i => decide (¬ (ns.getD i Nd.zero).sort = n.sort) | none => false) := rfl
  have hmv0 : B = true → n.p = 0 → n.q = 0 → M = ⟨2, M.sort, 0, 0, 0, 0, 0, 0, 0#64, 0#64, M.name⟩ := fun e hp hq => by
    rw [hM]; exact formed_var (hB.symm.trans e) hop hp hq
  rw [← hM] at hkk
  have har := fun H => arityR_run (op := n.op) (H := H)
  have ar1 : arity 2 = 0 := by decide
  rw [hsf] at hSs
  clear hsf hM
  unfold formedF at hB
  obtain ⟨op, sort, a, b, c, p, q, vw, vl, vh, name⟩ := n
  simp only at hop
  subst hop
  simp only [ar1] at har hB
  simp only at hbad hmv0
  simp only [Nd.cs] at h
  cases hz : (decide (vw = 0) && (decide (vl = 0#64) && decide (vh = 0#64))) with
  | false =>
    simp (maxDischargeDepth := 40) [c_plait_plaitref3_Graph_Make, har, hz] at h
    exact GvR.keep G h (hSB (by rw [hB]; simp only [Bool.decide_and, hz]; simp)) (Keeps.refl _)
  | true =>
  simp only [Bool.and_eq_true, decide_eq_true_eq] at hz
  obtain ⟨rfl, rfl, rfl⟩ := hz
  have hBk : B = kidsOK ns.length 0 [a, b, c] 0 := by rw [hB]; simp
  clear hB
  simp (maxDischargeDepth := 40) [c_plait_plaitref3_Graph_Make, har] at h
  generalize hL : loopL _ _ _ _ _ _ = q0 at h
  have kb : Keeps H ((H.new (.cells [.int .i64 2, .int .i64 sort, .int .i64 a, .int .i64 b, .int .i64 c, .int .i64 p, .int .i64 q, .int .i64 0, u 0#64, u 0#64, .str name])).new (.cells [.int .i64 a, .int .i64 b, .int .i64 c])) := (Keeps.new _ _).trans (Keeps.new _ _)
  obtain ⟨y, e1, H1, rfl, ⟨k1, hy⟩, fr⟩ := rmk_loop0 (q := H.size + 1) (kids := [a, b, c]) (a := 0) (t.keep kb) (fun _ => rfl) rfl (by simp) (by simp) hL (by simp) (by simp) (by simp) (by simp) (by simp)
  have k2 := kb.trans k1
  have ob : H1.obj H.size = .cells (Nd.cs ⟨2, sort, a, b, c, p, q, 0, 0#64, 0#64, name⟩) := by rw [k1.obj _ (by simp)]; simp [Nd.cs]
  simp only [Nd.cs] at hcs0
  simp only [Nd.cs] at ob
  clear hL
  rcases hy with ⟨rfl, hk, w, e8, hout⟩ | ⟨rfl, hk, e4, e5⟩
  rotate_left
  · simp (maxDischargeDepth := 40) [e4, e5, k2] at h
    exact GvR.keep G h (hSB (by rw [hBk]; exact kids3' _ _ _ _ _ hk)) (Keeps.refl _)
  have hBt : B = true := by rw [hBk]; exact (kids3 _ _ _ _ _).2 hk
  replace hSs := hSs hBt
  have kok' := hkk hBt
  replace hmv0 := hmv0 hBt
  clear hkk hSB hBk hk
  have hr := fun H => isR_run (n := sort) (H := H)
  have hvr := rvar_run (t.keep k2) (s := name)
  rw [hbad] at hSs
  clear hbad
  generalize isSort sort = rt at *
  by_cases d : rt = true ∧ p = 0 ∧ q = 0
  rotate_left
  · rw [if_neg d] at hSs
    simp only [show ¬ ((30 : Int) = 0) from by decide, not_false_eq_true, if_true] at hSs
    refine GvR.keep (l := 0) (e := 30) (H' := H) G ?_ hSs (Keeps.refl _)
    cases rt with
    | false => simpa (maxDischargeDepth := 40) [fr, ob, hr, k2] using h
    | true =>
      by_cases d3 : p = 0
      rotate_left
      · simpa (maxDischargeDepth := 40) [fr, ob, hr, d3, k2] using h
      by_cases d4 : q = 0
      rotate_left
      · simpa (maxDischargeDepth := 40) [fr, ob, hr, d3, d4, k2] using h
      exact absurd ⟨rfl, d3, d4⟩ d
  rw [if_pos d] at hSs
  obtain ⟨rfl, rfl, rfl⟩ := d
  have hmv : idx ns M = none → M.op = 2 → M = ⟨2, M.sort, 0, 0, 0, 0, 0, 0, 0#64, 0#64, M.name⟩ := fun _ _ => hmv0 rfl rfl
  clear hmv0
  by_cases c1 : name = ⟨#[]⟩
  · subst c1
    simp only [decide_true, Bool.true_or, if_true, show ¬ ((34 : Int) = 0) from by decide, not_false_eq_true] at hSs
    refine GvR.keep (l := 0) (e := 34) (H' := H) G ?_ hSs (Keeps.refl _)
    cases hv : vidx ns (⟨#[]⟩ : ByteArray) with
    | none =>
      rw [hv] at hvr
      simp only [Option.map_none, Option.getD_none, Option.isSome_none] at hvr
      simpa (maxDischargeDepth := 40) [fr, ob, hr, hvr, k2] using h
    | some j =>
      rw [hv] at hvr
      simp only [Option.map_some, Option.getD_some, Option.isSome_some, num] at hvr
      simpa (maxDischargeDepth := 40) [fr, ob, hr, hvr, k2] using h
  rw [decide_eq_false c1, Bool.false_or] at hSs
  have hcs := hcs0
  obtain ⟨D, hD⟩ : ∃ D : Bool, D = match vidx ns name with | some i => decide (¬ (ns.getD i Nd.zero).sort = sort) | none => false := ⟨_, rfl⟩
  rw [← hD] at hSs
  cases D with
  | true =>
    simp only [if_true, show ¬ ((34 : Int) = 0) from by decide, not_false_eq_true] at hSs
    refine GvR.keep (l := 0) (e := 34) (H' := H) G ?_ hSs (Keeps.refl _)
    cases hv : vidx ns name with
    | none => rw [hv] at hD; cases hD
    | some j =>
      rw [hv] at hvr hD
      simp only [Option.map_some, Option.getD_some, Option.isSome_some, num] at hvr
      have hj := vidx_lt hv
      have hne : ns ≠ [] := by rintro rfl; simp at hj
      have lim := t.lim
      have lim2 := t.lim2
      have wj : IntKind.i64.wrap (j : Int) = (j : Int) := i64w (by omega) (by omega)
      have cj : (j : Int) < ns.length := by omega
      have hat : (flat ns)[j * 11 + 1]? = some (.int .i64 (ns.getD j Nd.zero).sort) := by
        rw [flat_get (n := ns.getD j Nd.zero) (by simp [hj]) (by omega)]; rfl
      have t2 := t.keep k2
      have og2 := t2.og
      rw [slv_row hj] at og2
      have hb := t2.b1 hne
      have d6 : ¬ (ns.getD j Nd.zero).sort = sort := by simpa only [decide_eq_true_eq] using hD.symm
      generalize (ns.getD j Nd.zero).sort = s at *
      simpa (maxDischargeDepth := 40) [fr, ob, hr, hvr, c1, k2, wj, cj, og2, hb, hat, d6] using h
  | false =>
  simp only [Bool.false_eq_true, if_false, not_true_eq_false] at hSs
  cases hv : vidx ns name with
  | none =>
    rw [hv] at hvr
    simp only [Option.map_none, Option.getD_none, Option.isSome_none] at hvr
    simp (maxDischargeDepth := 40) [fr, ob, hr, hvr, c1] at h
    rw [hcs] at ob

    have lg := t.lg
    have og2 := (k2.obj g lg).trans t.og
    have hlen := slv_len o ns
    have lim := t.lim
    have lim2 := t.lim2
    generalize hL : loopL _ _ _ l_plait_plaitref3_Graph_Make_1 _ _ = q1 at h
    obtain ⟨y, e3, H3, rfl, ⟨rfl, hy⟩, fr3⟩ := rmk_loop1 (p := H.size) (M := M) (t.keep k2) ob hL (by simp [fr, ob]) (by simp [fr, ob]) (by simp)
    rcases hy with ⟨rfl, hi⟩ | ⟨rfl, i, hi, e4, e5⟩
    rotate_left
    · simp (maxDischargeDepth := 40) [e4, e5, num, k2] at h
      exact GvR.keep G h (by rw [hSs, hi]) (Keeps.refl _)
    rw [hi] at hSs
    by_cases c9 : most ≤ ns.length
    · simp (maxDischargeDepth := 40) [fr, fr3, ob, og2, hlen, c9, k2] at h
      exact GvR.keep G h (by rw [hSs]; simp [c9]) (Keeps.refl _)
    have hSs2 : S = (ns ++ [M], (ns.length : Int) + 1, 0) := by rw [hSs]; simp [c9]
    simp (maxDischargeDepth := 40) [fr, fr3, ob, og2, hlen, c9, lg] at h
    generalize hA : appU _ _ _ _ = q2 at h
    have hob : ∀ p, p ∈ objs (slv o ns) → ns ≠ [] ∧ p = o := fun p hp => by
      unfold slv at hp
      split at hp
      · simp at hp
      · rename_i hne; simp at hp; exact ⟨hne, hp⟩
    have t3 := t.keep (k2.new' (.cells M.cs))
    rw [show [AV.int .i64 M.op, .int .i64 M.sort, .int .i64 M.a, .int .i64 M.b, .int .i64 M.c, .int .i64 M.p, .int .i64 M.q, .int .i64 M.vw, u M.vl, u M.vh, .str M.name] = M.cs from rfl] at hA
    obtain ⟨H4, rfl, f4, s4, oo, -⟩ := app_of hA (slv_reads t3.l1 t3.b1) (slv_grows _ _) (Reads.row' (all := M.cs) (by simp) (by simp) (by simp)) (by omega) rfl (by omega) (by omega) (by omega) (by simp [Nd.cs])
    simp only [new_size] at s4 oo
    have F4 : ∀ p, p < H.size → (ns ≠ [] → p ≠ o) → H4.obj p = H.obj p := fun p hp hne => by
      have := k2.size
      rw [f4.obj p (by simp; omega) (fun hh => hne (hob p hh).1 (hob p hh).2)]
      exact (k2.new' _).obj p hp
    have g4 : H4.obj g = .cells [slv o ns, .int .i64 most] := (F4 g lg t.n1).trans t.og
    have lg4 : g < H4.size := by have := k2.size; omega
    have sz2 := k2.size
    simp (maxDischargeDepth := 40) [fr, fr3, ob, g4, lg4] at h
    generalize hH5 : AHeap.set _ _ _ = H5 at h
    have og5 : H5.obj g = .cells [.row (H3.size + 1) 0 11 (ns.length + 1) false, .int .i64 most] := by rw [← hH5]; simp
    have oh5 : H5.obj (H3.size + 1) = .cells (flat ns ++ M.cs) := by
      have : ¬ H3.size + 1 = g := by omega
      rw [← hH5]; simp [this]; exact oo
    have sz5 : H5.size = H3.size + 2 := by rw [← hH5]; simp; omega
    have fr5 : Fr (g :: objs (slv o ns)) H H5 := by
      rw [← hH5]
      exact (((k2.new' _).fr _).trans f4 (fun p hp => .inl (by simp [hp]))).set (.inl (by simp)) _
    clear hH5
    have hns : ¬ Shut H H5 := fun hsh => by
      rcases hsh.obj g lg with e | e
      · rw [og5, t.og] at e
        have e2 : slv o ns = .row (H3.size + 1) 0 11 (ns.length + 1) false := by
          simp only [AObj.cells.injEq, List.cons.injEq] at e; exact e.1.symm
        unfold slv at e2
        split at e2
        · cases e2
        · simp at e2
      · rw [og5] at e
        simp [closedO] at e
        omega
    rw [back_not hns] at h
    have hsl : slv (H3.size + 1) (ns ++ [M]) = .row (H3.size + 1) 0 11 (ns.length + 1) false := by unfold slv; rw [if_neg (by simp)]; simp
    refine GvR.mk h hSs2 [g, H3.size + 1] ⟨H3.size + 1, ⟨by omega, fun _ => by omega, by rw [hsl]; exact og5, fun _ => by rw [flat_append]; exact oh5, fun _ => by omega, by simp; omega, lim2⟩, ?_, kok', by rw [hsl]; simp⟩ ⟨fr5, fun p hp => ?_⟩
    · intro m hm
      simp at hm
      rcases hm with hm | rfl
      · exact v m hm
      · exact hmv hi
    · simp at hp ⊢
      rcases hp with hp | hp
      · simp [hp]
      · right; omega

  | some j =>
    rw [hv] at hvr hD
    simp only [Option.map_some, Option.getD_some, Option.isSome_some, num] at hvr
    have hj := vidx_lt hv
    have hne : ns ≠ [] := by rintro rfl; simp at hj
    have limj := t.lim
    have limj2 := t.lim2
    have wj : IntKind.i64.wrap (j : Int) = (j : Int) := i64w (by omega) (by omega)
    have cj : (j : Int) < ns.length := by omega
    have hat : (flat ns)[j * 11 + 1]? = some (.int .i64 (ns.getD j Nd.zero).sort) := by
      rw [flat_get (n := ns.getD j Nd.zero) (by simp [hj]) (by omega)]; rfl
    have t2 := t.keep k2
    have og2j := t2.og
    rw [slv_row hj] at og2j
    have hb := t2.b1 hne
    have d6 : (ns.getD j Nd.zero).sort = sort := by
      have := hD.symm
      simpa only [decide_eq_false_iff_not, Decidable.not_not] using this
    rw [d6] at hat
    clear hD d6
    simp (maxDischargeDepth := 40) [fr, ob, hr, hvr, c1, wj, cj, og2j, hb, hat] at h
    rw [hcs] at ob

    have lg := t.lg
    have og2 := (k2.obj g lg).trans t.og
    have hlen := slv_len o ns
    have lim := t.lim
    have lim2 := t.lim2
    generalize hL : loopL _ _ _ l_plait_plaitref3_Graph_Make_1 _ _ = q1 at h
    obtain ⟨y, e3, H3, rfl, ⟨rfl, hy⟩, fr3⟩ := rmk_loop1 (p := H.size) (M := M) (t.keep k2) ob hL (by simp [fr, ob]) (by simp [fr, ob]) (by simp)
    rcases hy with ⟨rfl, hi⟩ | ⟨rfl, i, hi, e4, e5⟩
    rotate_left
    · simp (maxDischargeDepth := 40) [e4, e5, num, k2] at h
      exact GvR.keep G h (by rw [hSs, hi]) (Keeps.refl _)
    rw [hi] at hSs
    by_cases c9 : most ≤ ns.length
    · simp (maxDischargeDepth := 40) [fr, fr3, ob, og2, hlen, c9, k2] at h
      exact GvR.keep G h (by rw [hSs]; simp [c9]) (Keeps.refl _)
    have hSs2 : S = (ns ++ [M], (ns.length : Int) + 1, 0) := by rw [hSs]; simp [c9]
    simp (maxDischargeDepth := 40) [fr, fr3, ob, og2, hlen, c9, lg] at h
    generalize hA : appU _ _ _ _ = q2 at h
    have hob : ∀ p, p ∈ objs (slv o ns) → ns ≠ [] ∧ p = o := fun p hp => by
      unfold slv at hp
      split at hp
      · simp at hp
      · rename_i hne; simp at hp; exact ⟨hne, hp⟩
    have t3 := t.keep (k2.new' (.cells M.cs))
    rw [show [AV.int .i64 M.op, .int .i64 M.sort, .int .i64 M.a, .int .i64 M.b, .int .i64 M.c, .int .i64 M.p, .int .i64 M.q, .int .i64 M.vw, u M.vl, u M.vh, .str M.name] = M.cs from rfl] at hA
    obtain ⟨H4, rfl, f4, s4, oo, -⟩ := app_of hA (slv_reads t3.l1 t3.b1) (slv_grows _ _) (Reads.row' (all := M.cs) (by simp) (by simp) (by simp)) (by omega) rfl (by omega) (by omega) (by omega) (by simp [Nd.cs])
    simp only [new_size] at s4 oo
    have F4 : ∀ p, p < H.size → (ns ≠ [] → p ≠ o) → H4.obj p = H.obj p := fun p hp hne => by
      have := k2.size
      rw [f4.obj p (by simp; omega) (fun hh => hne (hob p hh).1 (hob p hh).2)]
      exact (k2.new' _).obj p hp
    have g4 : H4.obj g = .cells [slv o ns, .int .i64 most] := (F4 g lg t.n1).trans t.og
    have lg4 : g < H4.size := by have := k2.size; omega
    have sz2 := k2.size
    simp (maxDischargeDepth := 40) [fr, fr3, ob, g4, lg4] at h
    generalize hH5 : AHeap.set _ _ _ = H5 at h
    have og5 : H5.obj g = .cells [.row (H3.size + 1) 0 11 (ns.length + 1) false, .int .i64 most] := by rw [← hH5]; simp
    have oh5 : H5.obj (H3.size + 1) = .cells (flat ns ++ M.cs) := by
      have : ¬ H3.size + 1 = g := by omega
      rw [← hH5]; simp [this]; exact oo
    have sz5 : H5.size = H3.size + 2 := by rw [← hH5]; simp; omega
    have fr5 : Fr (g :: objs (slv o ns)) H H5 := by
      rw [← hH5]
      exact (((k2.new' _).fr _).trans f4 (fun p hp => .inl (by simp [hp]))).set (.inl (by simp)) _
    clear hH5
    have hns : ¬ Shut H H5 := fun hsh => by
      rcases hsh.obj g lg with e | e
      · rw [og5, t.og] at e
        have e2 : slv o ns = .row (H3.size + 1) 0 11 (ns.length + 1) false := by
          simp only [AObj.cells.injEq, List.cons.injEq] at e; exact e.1.symm
        unfold slv at e2
        split at e2
        · cases e2
        · simp at e2
      · rw [og5] at e
        simp [closedO] at e
        omega
    rw [back_not hns] at h
    have hsl : slv (H3.size + 1) (ns ++ [M]) = .row (H3.size + 1) 0 11 (ns.length + 1) false := by unfold slv; rw [if_neg (by simp)]; simp
    refine GvR.mk h hSs2 [g, H3.size + 1] ⟨H3.size + 1, ⟨by omega, fun _ => by omega, by rw [hsl]; exact og5, fun _ => by rw [flat_append]; exact oh5, fun _ => by omega, by simp; omega, lim2⟩, ?_, kok', by rw [hsl]; simp⟩ ⟨fr5, fun p hp => ?_⟩
    · intro m hm
      simp at hm
      rcases hm with hm | rfl
      · exact v m hm
      · exact hmv hi
    · simp at hp ⊢
      rcases hp with hp | hp
      · simp [hp]
      · right; omega

end Go.Proofs.Ytiaoojghohfkjaa
