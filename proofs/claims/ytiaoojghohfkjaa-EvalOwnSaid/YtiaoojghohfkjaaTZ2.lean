/- The document's graph of terms: Make. -/
import Derived.Test.YtiaoojghohfkjaaTZ
namespace Go.Proofs.Ytiaoojghohfkjaa
set_option maxRecDepth 100000
set_option maxHeartbeats 4000000

def GvR (H : AHeap) (g : Nat) (most : Int) (F : List Nat) (x : List Nd × Int × Int) (r : Option (AV × AHeap)) : Prop :=
  ∃ H' F', r = some (.tup [.int .i64 x.2.1, .int .i64 x.2.2], H') ∧ GR H' g most x.1 F' ∧ MvT F H F' H'
theorem GvR.mk {H H' : AHeap} {g : Nat} {most l e : Int} {F : List Nat} {x : List Nd × Int × Int} {js : List Nd} {r : Option (AV × AHeap)} (h : some (.tup [.int .i64 l, .int .i64 e], H') = r) (hx : x = (js, l, e)) (F' : List Nat) (g' : GR H' g most js F') (k : MvT F H F' H') : GvR H g most F x r := by
  subst hx; exact ⟨H', F', h.symm, g', k⟩
theorem GvR.keep {H H' : AHeap} {g : Nat} {most l e : Int} {F : List Nat} {ns : List Nd} {x : List Nd × Int × Int} {r : Option (AV × AHeap)} (G : GR H g most ns F) (h : some (.tup [.int .i64 l, .int .i64 e], H') = r) (hx : x = (ns, l, e)) (k : Keeps H H') : GvR H g most F x r :=
  GvR.mk h hx _ (G.keeps k) (MvT.keeps k)
theorem kids3 (N a x y z : Int) : kidsOK N a [x, y, z] 0 = true ↔ ∀ i, i < 3 → kidOK N a i ([x, y, z].getD i 0) = true := by
  simp only [kidsOK, Bool.and_eq_true, and_true]
  constructor
  · rintro ⟨h1, h2, h3⟩ i hi
    rcases (show i = 0 ∨ i = 1 ∨ i = 2 by omega) with rfl | rfl | rfl
    · exact h1
    · exact h2
    · exact h3
  · intro h
    exact ⟨h 0 (by omega), h 1 (by omega), h 2 (by omega)⟩
theorem kids3' (N a x y z : Int) (h : ∃ i, i < 3 ∧ kidOK N a i ([x, y, z].getD i 0) = false) : kidsOK N a [x, y, z] 0 = false := by
  obtain ⟨i, hi, h⟩ := h
  rw [Bool.eq_false_iff]
  intro hk
  rw [(kids3 N a x y z).1 hk i hi] at h
  cases h


theorem rmk1_run {H : AHeap} {g : Nat} {most : Int} {ns : List Nd} {F : List Nat} (G : GR H g most ns F) {n : Nd} (hop : n.op = 1) {r : Option (AV × AHeap)} (h : R f_plait_plaitref3_Graph_Make [.ptr g 0, .agg n.cs] H = r) : GvR H g most F (makT most ns n) r := by
  obtain ⟨o, t, v, kok, rfl⟩ := id G
  rw [e_plait_plaitref3_Graph_Make] at h
  obtain ⟨S, hS⟩ : ∃ S, S = makT most ns n := ⟨_, rfl⟩
  obtain ⟨B, hB⟩ : ∃ B, B = formedF ns.length n := ⟨_, rfl⟩
  have hSB : B = false → S = (ns, 0, 32) := fun e => by rw [hS]; unfold makT; rw [if_pos (hB.symm.trans e)]
  have hSs : B = true → S = if ¬ (sortedF ns n).2 = 0 then (ns, 0, (sortedF ns n).2) else match idx ns (sortedF ns n).1 with
      | some i => (ns, (i : Int) + 1, 0)
      | none => if most ≤ ns.length then (ns, 0, 33) else (ns ++ [(sortedF ns n).1], (ns.length : Int) + 1, 0) := fun e => by
    rw [hS]; unfold makT; rw [if_neg (by simp [← hB, e])]; rfl
  have hkk : B = true → Kok (ns ++ [n]) := fun e => by
    obtain ⟨f1, f2, f3⟩ := formed_kids0 (hB.symm.trans e)
    obtain ⟨ka, kb, kc⟩ := formed_kids (hB.symm.trans e)
    exact kok.grow ⟨⟨f1, ka⟩, ⟨f2, kb⟩, ⟨f3, kc⟩⟩
  rw [← hS]
  clear hS
  obtain ⟨M, hM⟩ : ∃ M, M = n := ⟨_, rfl⟩
  have hcs0 : n.cs = M.cs := by rw [hM]
  have hsf : sortedF ns n = (M, if rightF n.vw n.vl n.vh = true ∧ n.vw = n.sort ∧ n.p = 0 ∧ n.q = 0 then 0 else 30) := by unfold sortedF; rw [if_pos hop, hM]
  rw [← hM] at hkk
  have hMo : M.op = 1 := by rw [hM, hop]
  have har := fun H => arityR_run (op := n.op) (H := H)
  have ar1 : arity 1 = 0 := by decide
  rw [hsf] at hSs
  clear hsf hM
  unfold formedF at hB
  obtain ⟨op, sort, a, b, c, p, q, vw, vl, vh, name⟩ := n
  simp only at hop
  subst hop
  simp only [ar1] at har hB
  simp only [Nd.cs] at h
  by_cases c1 : name = ⟨#[]⟩
  rotate_left
  · have c1' : ¬ name = .empty := c1
    simp (maxDischargeDepth := 40) [c_plait_plaitref3_Graph_Make, har, c1] at h
    exact GvR.keep G h (hSB (by rw [hB]; simp [c1'])) (by simp (maxDischargeDepth := 40))
  subst c1
  have hBk : B = kidsOK ns.length 0 [a, b, c] 0 := by rw [hB]; simp [show (⟨#[]⟩ : ByteArray) = .empty from rfl]
  clear hB
  simp (maxDischargeDepth := 40) [c_plait_plaitref3_Graph_Make, har] at h
  generalize hL : loopL _ _ _ _ _ _ = q0 at h
  have kb : Keeps H ((H.new (.cells [.int .i64 1, .int .i64 sort, .int .i64 a, .int .i64 b, .int .i64 c, .int .i64 p, .int .i64 q, .int .i64 vw, u vl, u vh, .str ⟨#[]⟩])).new (.cells [.int .i64 a, .int .i64 b, .int .i64 c])) := (Keeps.new _ _).trans (Keeps.new _ _)
  obtain ⟨y, e1, H1, rfl, ⟨k1, hy⟩, fr⟩ := rmk_loop0 (q := H.size + 1) (kids := [a, b, c]) (a := 0) (t.keep kb) (fun _ => rfl) rfl (by simp) (by simp) hL (by simp) (by simp) (by simp) (by simp) (by simp)
  have k2 := kb.trans k1
  have ob : H1.obj H.size = .cells (Nd.cs ⟨1, sort, a, b, c, p, q, vw, vl, vh, ⟨#[]⟩⟩) := by rw [k1.obj _ (by simp)]; simp [Nd.cs]
  simp only [Nd.cs] at hcs0
  simp only [Nd.cs] at ob
  clear hL
  rcases hy with ⟨rfl, hk, w, e8, hout⟩ | ⟨rfl, hk, e4, e5⟩
  rotate_left
  · simp (maxDischargeDepth := 40) [e4, e5, k2] at h
    exact GvR.keep G h (hSB (by rw [hBk]; exact kids3' _ _ _ _ _ hk)) (Keeps.refl _)
  have hBt : B = true := by rw [hBk]; exact (kids3 _ _ _ _ _).2 hk
  replace hSs := hSs hBt
  have kok' := hkk hBt
  clear hkk hSB hBk hk
  have hr := fun H => rightR_run (w := vw) (l := vl) (h := vh) (H := H)
  generalize rightF vw vl vh = rt at *
  by_cases d : rt = true ∧ vw = sort ∧ p = 0 ∧ q = 0
  rotate_left
  · rw [if_neg d] at hSs
    simp only [show ¬ ((30 : Int) = 0) from by decide, not_false_eq_true, if_true] at hSs
    refine GvR.keep (l := 0) (e := 30) (H' := H) G ?_ hSs (Keeps.refl _)
    cases rt with
    | false => simpa (maxDischargeDepth := 40) [fr, ob, hr, k2] using h
    | true =>
      by_cases d2 : vw = sort
      rotate_left
      · simpa (maxDischargeDepth := 40) [fr, ob, hr, d2, k2] using h
      subst d2
      by_cases d3 : p = 0
      rotate_left
      · simpa (maxDischargeDepth := 40) [fr, ob, hr, d3, k2] using h
      by_cases d4 : q = 0
      rotate_left
      · simpa (maxDischargeDepth := 40) [fr, ob, hr, d3, d4, k2] using h
      exact absurd ⟨rfl, rfl, d3, d4⟩ d
  rw [if_pos d] at hSs
  obtain ⟨rfl, rfl, rfl, rfl⟩ := d
  simp only [not_true_eq_false, if_false] at hSs
  simp (maxDischargeDepth := 40) [fr, ob, hr, k2] at h
  have hcs := hcs0
  rw [hcs] at ob
  have hmv : idx ns M = none → M.op = 2 → M = ⟨2, M.sort, 0, 0, 0, 0, 0, 0, 0#64, 0#64, M.name⟩ := fun _ e => by omega

  have lg := t.lg
  have og2 := (k2.obj g lg).trans t.og
  have hlen := slv_len o ns
  have lim := t.lim
  have lim2 := t.lim2
  generalize hL : loopL _ _ _ l_plait_plaitref3_Graph_Make_1 _ _ = q1 at h
  obtain ⟨y, e3, H3, rfl, ⟨rfl, hy⟩, fr3⟩ := rmk_loop1 (p := H.size) (M := M) (t.keep k2) ob hL (by simp [fr, ob]) (by simp [fr, ob]) (by simp)
  rcases hy with ⟨rfl, hi⟩ | ⟨rfl, i, hi, e4, e5⟩
  rotate_left
  · simp (maxDischargeDepth := 40) [e4, e5, num, k2] at h
    exact GvR.keep G h (by rw [hSs, hi]) (Keeps.refl _)
  rw [hi] at hSs
  by_cases c9 : most ≤ ns.length
  · simp (maxDischargeDepth := 40) [fr, fr3, ob, og2, hlen, c9, k2] at h
    exact GvR.keep G h (by rw [hSs]; simp [c9]) (Keeps.refl _)
  have hSs2 : S = (ns ++ [M], (ns.length : Int) + 1, 0) := by rw [hSs]; simp [c9]
  simp (maxDischargeDepth := 40) [fr, fr3, ob, og2, hlen, c9, lg] at h
  generalize hA : appU _ _ _ _ = q2 at h
  have hob : ∀ p, p ∈ objs (slv o ns) → ns ≠ [] ∧ p = o := fun p hp => by
    unfold slv at hp
    split at hp
    · simp at hp
    · rename_i hne; simp at hp; exact ⟨hne, hp⟩
  have t3 := t.keep (k2.new' (.cells M.cs))
  rw [show [AV.int .i64 M.op, .int .i64 M.sort, .int .i64 M.a, .int .i64 M.b, .int .i64 M.c, .int .i64 M.p, .int .i64 M.q, .int .i64 M.vw, u M.vl, u M.vh, .str M.name] = M.cs from rfl] at hA
  obtain ⟨H4, rfl, f4, s4, oo, -⟩ := app_of hA (slv_reads t3.l1 t3.b1) (slv_grows _ _) (Reads.row' (all := M.cs) (by simp) (by simp) (by simp)) (by omega) rfl (by omega) (by omega) (by omega) (by simp [Nd.cs])
  simp only [new_size] at s4 oo
  have F4 : ∀ p, p < H.size → (ns ≠ [] → p ≠ o) → H4.obj p = H.obj p := fun p hp hne => by
    have := k2.size
    rw [f4.obj p (by simp; omega) (fun hh => hne (hob p hh).1 (hob p hh).2)]
    exact (k2.new' _).obj p hp
  have g4 : H4.obj g = .cells [slv o ns, .int .i64 most] := (F4 g lg t.n1).trans t.og
  have lg4 : g < H4.size := by have := k2.size; omega
  have sz2 := k2.size
  simp (maxDischargeDepth := 40) [fr, fr3, ob, g4, lg4] at h
  generalize hH5 : AHeap.set _ _ _ = H5 at h
  have og5 : H5.obj g = .cells [.row (H3.size + 1) 0 11 (ns.length + 1) false, .int .i64 most] := by rw [← hH5]; simp
  have oh5 : H5.obj (H3.size + 1) = .cells (flat ns ++ M.cs) := by
    have : ¬ H3.size + 1 = g := by omega
    rw [← hH5]; simp [this]; exact oo
  have sz5 : H5.size = H3.size + 2 := by rw [← hH5]; simp; omega
  have fr5 : Fr (g :: objs (slv o ns)) H H5 := by
    rw [← hH5]
    exact (((k2.new' _).fr _).trans f4 (fun p hp => .inl (by simp [hp]))).set (.inl (by simp)) _
  clear hH5
  have hns : ¬ Shut H H5 := fun hsh => by
    rcases hsh.obj g lg with e | e
    · rw [og5, t.og] at e
      have e2 : slv o ns = .row (H3.size + 1) 0 11 (ns.length + 1) false := by
        simp only [AObj.cells.injEq, List.cons.injEq] at e; exact e.1.symm
      unfold slv at e2
      split at e2
      · cases e2
      · simp at e2
    · rw [og5] at e
      simp [closedO] at e
      omega
  rw [back_not hns] at h
  have hsl : slv (H3.size + 1) (ns ++ [M]) = .row (H3.size + 1) 0 11 (ns.length + 1) false := by unfold slv; rw [if_neg (by simp)]; simp
  refine GvR.mk h hSs2 [g, H3.size + 1] ⟨H3.size + 1, ⟨by omega, fun _ => by omega, by rw [hsl]; exact og5, fun _ => by rw [flat_append]; exact oh5, fun _ => by omega, by simp; omega, lim2⟩, ?_, kok', by rw [hsl]; simp⟩ ⟨fr5, fun p hp => ?_⟩
  · intro m hm
    simp at hm
    rcases hm with hm | rfl
    · exact v m hm
    · exact hmv hi
  · simp at hp ⊢
    rcases hp with hp | hp
    · simp [hp]
    · right; omega
end Go.Proofs.Ytiaoojghohfkjaa
