/- Graphs of terms: Make. -/
import Derived.Test.YtiaoojghohfkjaaTF
namespace Go.Proofs.Ytiaoojghohfkjaa
set_option maxRecDepth 100000
set_option maxHeartbeats 4000000

/-- Nothing beside a variable's name and sort. -/
def Vok (ns : List Nd) : Prop := ∀ n ∈ ns, n.op = 2 → n = ⟨2, n.sort, 0, 0, 0, 0, 0, 0, 0#64, 0#64, n.name⟩

/-- What Make comes to: the nodes, the number, the error. -/
def makT (most : Int) (ns : List Nd) (n : Nd) : List Nd × Int × Int :=
  if formedF ns.length n = false then (ns, 0, 32)
  else if ¬ (sortedF ns n).2 = 0 then (ns, 0, (sortedF ns n).2)
  else match idx ns (sortedF ns n).1 with
    | some i => (ns, (i : Int) + 1, 0)
    | none => if most ≤ ns.length then (ns, 0, 33) else (ns ++ [(sortedF ns n).1], (ns.length : Int) + 1, 0)

/-- Kids come earlier. -/
def Kok (ns : List Nd) : Prop := ∀ (i : Nat) (n : Nd), ns[i]? = some n → (0 ≤ n.a ∧ n.a ≤ i) ∧ (0 ≤ n.b ∧ n.b ≤ i) ∧ (0 ≤ n.c ∧ n.c ≤ i)
theorem Kok.grow {ns : List Nd} {M : Nd} (h : Kok ns) (k : (0 ≤ M.a ∧ M.a ≤ ns.length) ∧ (0 ≤ M.b ∧ M.b ≤ ns.length) ∧ (0 ≤ M.c ∧ M.c ≤ ns.length)) : Kok (ns ++ [M]) := by
  intro i n hn
  by_cases c : i < ns.length
  · rw [List.getElem?_append_left c] at hn; exact h i n hn
  · rw [List.getElem?_append_right (by omega)] at hn
    have : i - ns.length = 0 := by
      have := (List.getElem?_eq_some_iff.1 hn).1
      simp at this; omega
    rw [this] at hn
    simp at hn
    subst hn
    have e : i = ns.length := by omega
    subst e; exact k
theorem formed_kids0 {ns : List Nd} {n : Nd} (h : formedF ns.length n = true) : 0 ≤ n.a ∧ 0 ≤ n.b ∧ 0 ≤ n.c := by
  unfold formedF at h
  simp only [kidsOK, Bool.and_eq_true] at h
  obtain ⟨⟨h1, h2, h3, -⟩, -⟩ := h
  have K : ∀ (i : Nat) (k : Int), kidOK ns.length (arity n.op) i k = true → 0 ≤ k := fun i k hk => by
    unfold kidOK at hk
    split at hk <;> simp at hk <;> omega
  exact ⟨K _ _ h1, K _ _ h2, K _ _ h3⟩
theorem sorted_kids (ns : List Nd) (n : Nd) : (sortedF ns n).1.a = n.a ∧ (sortedF ns n).1.b = n.b ∧ (sortedF ns n).1.c = n.c := by
  unfold sortedF
  split
  · exact ⟨rfl, rfl, rfl⟩
  · split <;> exact ⟨rfl, rfl, rfl⟩
theorem formed_kids {ns : List Nd} {n : Nd} (h : formedF ns.length n = true) : n.a ≤ ns.length ∧ n.b ≤ ns.length ∧ n.c ≤ ns.length := by
  unfold formedF at h
  simp only [kidsOK, Bool.and_eq_true] at h
  obtain ⟨⟨h1, h2, h3, -⟩, -⟩ := h
  have K : ∀ (i : Nat) (k : Int), kidOK ns.length (arity n.op) i k = true → k ≤ ns.length := fun i k hk => by
    unfold kidOK at hk
    split at hk <;> simp at hk <;> omega
  exact ⟨K _ _ h1, K _ _ h2, K _ _ h3⟩
theorem formed_var {ns : List Nd} {n : Nd} (h : formedF ns.length n = true) (h2 : n.op = 2) (hp : n.p = 0) (hq : n.q = 0) : n = ⟨2, n.sort, 0, 0, 0, 0, 0, 0, 0#64, 0#64, n.name⟩ := by
  unfold formedF at h
  obtain ⟨op, sort, a, b, c, p, q, vw, vl, vh, name⟩ := n
  simp only at h2 hp hq
  subst h2 hp hq
  have ar : arity 2 = 0 := by decide
  simp only [kidsOK, ar, kidOK] at h
  simp at h
  simp [h]
theorem vidx_some {ns : List Nd} {s : ByteArray} {i : Nat} (h : vidx ns s = some i) : ∃ m, ns[i]? = some m ∧ m ∈ ns ∧ m.op = 2 ∧ m.name = s := by
  unfold vidx at h
  obtain ⟨h1, h2, -⟩ := List.findIdx?_eq_some_iff_getElem.1 h
  simp at h2
  exact ⟨ns[i], by simp [h1], List.getElem_mem h1, h2.1, h2.2.symm⟩
theorem idx_none {ns : List Nd} {n : Nd} (h : idx ns n = none) : n ∉ ns := by
  unfold idx at h
  rw [List.findIdx?_eq_none_iff] at h
  intro hm
  have := h n hm
  simp at this
/-- Where a variable is new, so is its name. -/
theorem var_new {ns : List Nd} {n : Nd} (hv : Vok ns) (h : formedF ns.length n = true) (h2 : n.op = 2) (hs : (sortedF ns n).2 = 0) (hi : idx ns (sortedF ns n).1 = none) : vidx ns n.name = none ∧ (sortedF ns n).1 = n ∧ n = ⟨2, n.sort, 0, 0, 0, 0, 0, 0, 0#64, 0#64, n.name⟩ := by
  have hn1 : ¬ n.op = 1 := by omega
  unfold sortedF at hs hi ⊢
  rw [if_neg hn1, if_pos h2] at hs hi ⊢
  simp only at hs hi
  split at hs
  rotate_left
  · cases hs
  rename_i hc
  have hb : nameBad ns n = false := by
    cases hb : nameBad ns n with
    | false => rfl
    | true => rw [hb] at hs; cases hs
  have hn := formed_var h h2 hc.2.1 hc.2.2
  refine ⟨?_, rfl, hn⟩
  cases hx : vidx ns n.name with
  | none => rfl
  | some i =>
    exfalso
    obtain ⟨m, m1, m2, m3, m4⟩ := vidx_some hx
    have mo := hv m m2 m3
    unfold nameBad at hb
    rw [hx] at hb
    have hg : ns.getD i Nd.zero = m := by simp [List.getD_eq_getElem?_getD, m1]
    simp only [hg] at hb
    simp at hb
    have : n = m := by rw [hn, mo, m4, hb.2]
    exact idx_none hi (this ▸ m2)

/-- .. and the objects that it lies in. -/
def GT (H : AHeap) (g : Nat) (most : Int) (ns : List Nd) (F : List Nat) : Prop := ∃ o1 o2 o3, TG H g most ns o1 o2 o3 ∧ Vok ns ∧ Kok ns ∧ F = g :: o2 :: o3 :: objs (slv o1 ns)
/-- What a call that writes may do to the heap: the objects F become F'. -/
structure MvT (F : List Nat) (H : AHeap) (F' : List Nat) (H' : AHeap) : Prop where
  fr : Fr F H H'
  new : ∀ p, p ∈ F' → p ∈ F ∨ H.size ≤ p
theorem MvT.refl (F : List Nat) (H : AHeap) : MvT F H F H := ⟨Fr.refl _ _, fun _ h => .inl h⟩
theorem MvT.keeps {F : List Nat} {H H' : AHeap} (k : Keeps H H') : MvT F H F H' := ⟨k.fr F, fun _ h => .inl h⟩
theorem MvT.trans {F G E : List Nat} {A B D : AHeap} (h : MvT F A G B) (k : MvT G B E D) : MvT F A E D := by
  refine ⟨h.fr.trans k.fr h.new, fun p hp => ?_⟩
  rcases k.new p hp with h1 | h1
  · exact h.new p h1
  · exact .inr (Nat.le_trans h.fr.size h1)
def GvT (H : AHeap) (g : Nat) (most : Int) (F : List Nat) (x : List Nd × Int × Int) (r : Option (AV × AHeap)) : Prop :=
  ∃ H' F', r = some (.tup [.int .i64 x.2.1, .int .i64 x.2.2], H') ∧ GT H' g most x.1 F' ∧ MvT F H F' H'
theorem GvT.mk {H H' : AHeap} {g : Nat} {most l e : Int} {F : List Nat} {x : List Nd × Int × Int} {js : List Nd} {r : Option (AV × AHeap)} (h : some (.tup [.int .i64 l, .int .i64 e], H') = r) (hx : x = (js, l, e)) (F' : List Nat) (g' : GT H' g most js F') (k : MvT F H F' H') : GvT H g most F x r := by
  subst hx; exact ⟨H', F', h.symm, g', k⟩
theorem GT.keeps {H H' : AHeap} {g : Nat} {most : Int} {ns : List Nd} {F : List Nat} (h : GT H g most ns F) (k : Keeps H H') : GT H' g most ns F := by
  obtain ⟨o1, o2, o3, t, v, kk, rfl⟩ := h
  exact ⟨o1, o2, o3, t.keep k, v, kk, rfl⟩

theorem tell2 {es : List AEnt} {ns : List Nd} {M : Nd} {c : Nat} (i2 : ∀ n : Nd, (findE (.agg n.cs) es).map (·.val) = (idx ns n).map num) (n : Nd) : (findE (.agg n.cs) (es ++ [⟨.agg M.cs, num ns.length, c⟩])).map (·.val) = (idx (ns ++ [M]) n).map num := by
  have h := i2 n
  rw [findE_append, idx_append, keyEq_nd]
  cases hf : findE (.agg n.cs) es <;> cases hi : idx ns n <;> rw [hf, hi] at h <;> first | (cases h; done) | skip
  · by_cases e : n = M <;> simp [e]
  · simpa using h
theorem tell3 {es : List AEnt} {ns : List Nd} {M : Nd} {c : Nat} (hM : M.op = 2) (i3 : ∀ s, (findE (.str s) es).map (·.val) = (vidx ns s).map num) (s : ByteArray) : (findE (.str s) (es ++ [⟨.str M.name, num ns.length, c⟩])).map (·.val) = (vidx (ns ++ [M]) s).map num := by
  have h := i3 s
  have hk : keyEq (.str s) (.str M.name) = decide (s = M.name) := by simp [keyEq]
  rw [findE_append, vidx_append, hk]
  cases hf : findE (.str s) es <;> cases hi : vidx ns s <;> rw [hf, hi] at h <;> first | (cases h; done) | skip
  · by_cases e : s = M.name <;> simp [e, hM]
  · simpa using h
theorem tell3' {es : List AEnt} {ns : List Nd} {M : Nd} (hM : ¬ M.op = 2) (i3 : ∀ s, (findE (.str s) es).map (·.val) = (vidx ns s).map num) (s : ByteArray) : (findE (.str s) es).map (·.val) = (vidx (ns ++ [M]) s).map num := by
  rw [vidx_append, i3 s, if_neg (by simp [hM])]; simp
theorem grow {H H' : AHeap} {g : Nat} {most : Int} {ns : List Nd} {o1 o2 o3 o : Nat} {M : Nd} (t : TG H g most ns o1 o2 o3) (v : Vok ns) (kok : Kok (ns ++ [M])) (hm : M.op = 2 → M = ⟨2, M.sort, 0, 0, 0, 0, 0, 0, 0#64, 0#64, M.name⟩) (lim : (ns.length : Int) < most) (sz : H.size ≤ H'.size) (ho : H.size ≤ o) (ho' : o < H'.size)
    (hg : H'.obj g = .cells [.int .i64 most, .row o 0 11 (ns.length + 1) false, .map o2, .map o3]) (ho1 : H'.obj o = .cells (flat ns ++ M.cs))
    (h2 : ∃ es c, H'.obj o2 = .map shN' es c ∧ ∀ n : Nd, (findE (.agg n.cs) es).map (·.val) = (idx (ns ++ [M]) n).map num) (h3 : ∃ es c, H'.obj o3 = .map (.one .s) es c ∧ ∀ s, (findE (.str s) es).map (·.val) = (vidx (ns ++ [M]) s).map num) : GT H' g most (ns ++ [M]) [g, o2, o3, o] := by
  have hs : slv o (ns ++ [M]) = .row o 0 11 (ns.length + 1) false := by unfold slv; rw [if_neg (by simp)]; simp
  have lg := t.lg
  have l2 := t.l2
  have l3 := t.l3
  refine ⟨o, o2, o3, ⟨by omega, fun _ => ho', by omega, by omega, by rw [hs]; exact hg, fun _ => by rw [flat_append]; exact ho1, h2, h3, fun _ => by omega, t.n2, t.n3, fun _ => by omega, fun _ => by omega, t.n23, by simp; omega, t.lim2⟩, ?_, kok, by rw [hs]; simp⟩
  intro n hn
  simp at hn
  rcases hn with hn | rfl
  · exact v n hn
  · exact hm

theorem back_not {z : List Nat} {H H' : AHeap} {v : AV} (h : ¬ Shut H H') : back z H v H' = (v, H') := by unfold back; rw [if_neg (fun h2 => h h2.2)]

theorem mk_run {H : AHeap} {g : Nat} {most : Int} {ns : List Nd} {F : List Nat} (G : GT H g most ns F) {n : Nd} {r : Option (AV × AHeap)} (h : R f_plait_term_Graph_Make [.ptr g 0, .agg n.cs] H = r) : GvT H g most F (makT most ns n) r := by
  obtain ⟨o1, o2, o3, t, v, kok, rfl⟩ := id G
  rw [e_plait_term_Graph_Make] at h
  have k0 := Keeps.new H (.cells n.cs)
  have hfm := formed_run (t.keep k0) (n := n)
  cases c1 : formedF ns.length n with
  | false =>
    rw [c1] at hfm
    simp (maxDischargeDepth := 40) [c_plait_term_Graph_Make, Nd.cs] at h hfm
    simp (maxDischargeDepth := 40) [hfm] at h
    exact GvT.mk h (by unfold makT; rw [if_pos c1]) _ (G.keeps (by simp (maxDischargeDepth := 40))) (MvT.keeps (by simp (maxDischargeDepth := 40)))
  | true =>
    rw [c1] at hfm
    obtain ⟨ka, kb, kc⟩ := formed_kids c1
    have hsr := sorted_run (t.keep k0) ka kb kc
    have hnew := fun h2 h3 h4 => var_new v c1 h2 h3 h4
    have hmk : makT most ns n = if ¬ (sortedF ns n).2 = 0 then (ns, 0, (sortedF ns n).2) else match idx ns (sortedF ns n).1 with
      | some i => (ns, (i : Int) + 1, 0)
      | none => if most ≤ ns.length then (ns, 0, 33) else (ns ++ [(sortedF ns n).1], (ns.length : Int) + 1, 0) := by
      unfold makT; rw [if_neg (by simp [c1])]
    rw [hmk]
    clear hmk
    have lg := t.lg
    have l2 := t.l2
    have l3 := t.l3
    have ne2 := t.n2
    have ne3 := t.n3
    have ne23 := t.n23
    have og := t.og
    have hlen := slv_len o1 ns
    have lim := t.lim
    have lim2 := t.lim2
    obtain ⟨es2, cn2, b2, i2⟩ := t.b2
    obtain ⟨es3, cn3, b3, i3⟩ := t.b3
    have kb0 : ∀ m : Nd, Keeps H ((H.new (.cells n.cs)).set H.size (.cells m.cs)) := fun m => by simp (maxDischargeDepth := 40)
    have hkk : (0 ≤ (sortedF ns n).1.a ∧ (sortedF ns n).1.a ≤ ns.length) ∧ (0 ≤ (sortedF ns n).1.b ∧ (sortedF ns n).1.b ≤ ns.length) ∧ (0 ≤ (sortedF ns n).1.c ∧ (sortedF ns n).1.c ≤ ns.length) := by
      obtain ⟨s1, s2, s3⟩ := sorted_kids ns n
      obtain ⟨f1, f2, f3⟩ := formed_kids0 c1
      rw [s1, s2, s3]
      exact ⟨⟨f1, ka⟩, ⟨f2, kb⟩, ⟨f3, kc⟩⟩
    have kok' := kok.grow hkk
    have hop : (sortedF ns n).1.op = n.op := by unfold sortedF; split <;> first | rfl | (split <;> rfl)
    generalize hS : sortedF ns n = S at *
    obtain ⟨m, e⟩ := S
    have hm2 := i2 m
    clear hkk
    have hnm : e = 0 → m.op = 2 → idx ns m = none → vidx ns m.name = none ∧ m = ⟨2, m.sort, 0, 0, 0, 0, 0, 0, 0#64, 0#64, m.name⟩ := fun he h2 hi => by
      obtain ⟨a1, a2, a3⟩ := hnew (hop ▸ h2) he hi
      have a2' : m = n := a2
      rw [a2']; exact ⟨a1, a3⟩
    clear hnew hop
    obtain ⟨M, hM⟩ : ∃ M, M = m := ⟨_, rfl⟩
    rw [show ((m, e) : Nd × Int).1 = M from hM.symm] at kok'
    obtain ⟨op, sort, a, b, c, p, q, vw, vl, vh, name⟩ := n
    obtain ⟨op', sort', a', b', c', p', q', vw', vl', vh', name'⟩ := m
    simp only [Nd.cs] at h hfm hsr hm2
    simp only [shN'] at b2
    by_cases c2 : e = 0
    rotate_left
    · simp (maxDischargeDepth := 40) [c_plait_term_Graph_Make, hfm, hsr, c2] at h
      exact GvT.mk h (by simp [c2]) _ (G.keeps (by simp (maxDischargeDepth := 40))) (MvT.keeps (by simp (maxDischargeDepth := 40)))
    subst c2
    cases hi : idx ns M with
    | some j =>
      rw [← hM, hi] at hm2
      simp only [Option.map_some, Option.map_eq_some_iff] at hm2
      obtain ⟨x, hx1, hx2⟩ := hm2
      have p1 : (0 : Int) < (j : Int) + 1 := by omega
      simp (maxDischargeDepth := 40) [c_plait_term_Graph_Make, hfm, hsr, og, b2, hx1, hx2, num, lg, l2, p1] at h
      exact GvT.mk h (by simp [← hM, hi]) _ (G.keeps (by simp (maxDischargeDepth := 40))) (MvT.keeps (by simp (maxDischargeDepth := 40)))
    | none =>
      rw [← hM, hi] at hm2
      simp only [Option.map_none, Option.map_eq_none_iff] at hm2
      by_cases c3 : most ≤ ns.length
      · simp (maxDischargeDepth := 40) [c_plait_term_Graph_Make, hfm, hsr, og, b2, hm2, lg, l2, hlen, c3] at h
        exact GvT.mk h (by simp [← hM, hi, c3]) _ (G.keeps (by simp (maxDischargeDepth := 40))) (MvT.keeps (by simp (maxDischargeDepth := 40)))
      · simp (maxDischargeDepth := 40) [c_plait_term_Graph_Make, hfm, hsr, og, b2, hm2, lg, l2, hlen, c3] at h
        generalize hH1 : AHeap.set _ _ _ = H1 at h
        have k1 : Keeps H H1 := by rw [← hH1]; simp (maxDischargeDepth := 40)
        have z1 : H1.size = H.size + 1 := by rw [← hH1]; simp
        have c8 : H1.obj H.size = .cells M.cs := by rw [← hH1, hM]; simp [Nd.cs]
        clear hH1
        generalize hA : appU _ _ _ _ = q1 at h
        have t1 := t.keep (k1.new' (.cells M.cs))
        have hob : ∀ p, p ∈ objs (slv o1 ns) → ns ≠ [] ∧ p = o1 := fun p hp => by
          unfold slv at hp
          split at hp
          · simp at hp
          · rename_i hne; simp at hp; exact ⟨hne, hp⟩
        have hcs : [AV.int .i64 op', .int .i64 sort', .int .i64 a', .int .i64 b', .int .i64 c', .int .i64 p', .int .i64 q', .int .i64 vw', u vl', u vh', .str name'] = M.cs := by rw [hM]; rfl
        rw [hcs, ← z1] at hA
        obtain ⟨H2, rfl, f2, s2, oo, -⟩ := app_of hA (slv_reads t1.l1 t1.b1) (slv_grows _ _) (Reads.row' (all := M.cs) (by simp) (by simp) (by simp)) (by omega) rfl (by omega) (by omega) (by omega) (by simp [Nd.cs])
        simp only [new_size, z1] at s2 oo
        have F2 : ∀ p, p < H.size → (ns ≠ [] → p ≠ o1) → H2.obj p = H.obj p := fun p hp hne => by
          rw [f2.obj p (by simp; omega) (fun hh => hne (hob p hh).1 (hob p hh).2)]
          exact (k1.new' _).obj p hp
        have g2 : H2.obj g = .cells [.int .i64 most, slv o1 ns, .map o2, .map o3] := (F2 g lg t.n1).trans og
        have m2 := (F2 o2 l2 (fun e he => t.n12 e he.symm)).trans b2
        have m3 := (F2 o3 l3 (fun e he => t.n13 e he.symm)).trans b3
        have x2 : H2.obj H.size = .cells M.cs := by
          rw [f2.obj H.size (by simp; omega) (fun hh => by have := t.l1 (hob _ hh).1; have := (hob _ hh).2; omega)]
          rw [(Keeps.new H1 _).obj _ (by omega)]; exact c8
        rw [← hcs] at x2
        have ng : ¬ g = H.size := Nat.ne_of_lt lg
        have n2 : ¬ o2 = H.size := Nat.ne_of_lt l2
        have n3 : ¬ o3 = H.size := Nat.ne_of_lt l3
        have sz1 : H2.size = H.size + 3 := by omega
        have lg2 : g < H2.size := by omega
        have l22 : o2 < H2.size := by omega
        have l32 : o3 < H2.size := by omega
        have lim' : (ns.length : Int) < most := by omega
        have hres : (if ¬ (M, (0 : Int)).2 = 0 then (ns, (0 : Int), (M, (0 : Int)).2) else match idx ns (M, (0 : Int)).1 with
          | some i => (ns, (i : Int) + 1, 0)
          | none => if most ≤ ns.length then (ns, 0, 33) else (ns ++ [(M, (0 : Int)).1], (ns.length : Int) + 1, 0)) = (ns ++ [M], (ns.length : Int) + 1, 0) := by simp [hi, c3]
        have hMd : (⟨op', sort', a', b', c', p', q', vw', vl', vh', name'⟩ : Nd) = M := hM.symm
        rw [hMd, hres]
        have hop : M.op = op' := by rw [hM]
        have hname : M.name = name' := by rw [hM]
        have hnm' := fun e2 => hnm rfl e2 (hM ▸ hi)
        rw [hMd] at hnm'
        by_cases c4 : op' = 2
        · obtain ⟨v1, v2⟩ := hnm' (hop.trans c4)
          have hv3 := i3 name'
          rw [← hname, v1, hname] at hv3
          simp only [Option.map_none, Option.map_eq_none_iff] at hv3
          have hm2' := hm2
          rw [c4] at hm2'
          simp (maxDischargeDepth := 40) [g2, m2, m3, x2, Ne.symm ng, Ne.symm n2, hm2', hv3, c4, ne2, ne2.symm, ne3.symm, ne23.symm] at h
          generalize hH3 : AHeap.set _ _ _ = H3 at h
          have og3 : H3.obj g = .cells [.int .i64 most, .row (H1.size + 1) 0 11 (ns.length + 1) false, .map o2, .map o3] := by
            rw [← hH3]; simp [ne2, ne3]
          have oh3 : H3.obj (H1.size + 1) = .cells (flat ns ++ M.cs) := by
            have a1 : ¬ H1.size + 1 = g := by omega
            have a2 : ¬ H1.size + 1 = o2 := by omega
            have a3 : ¬ H1.size + 1 = o3 := by omega
            rw [← hH3]; simp [a1, a2, a3]; rw [z1]; exact oo
          have om2 : H3.obj o2 = .map shN' (es2 ++ [⟨.agg M.cs, num ns.length, cn2⟩]) (cn2 + 1) := by
            rw [← hH3, ← hcs]; simp [ne23, shN', num, c4]
          have om3 : H3.obj o3 = .map (.one .s) (es3 ++ [⟨.str M.name, num ns.length, cn3⟩]) (cn3 + 1) := by
            rw [← hH3]; simp [hname, num]
          have sz3 : H3.size = H.size + 3 := by rw [← hH3]; simp [sz1]
          have fr3 : Fr (g :: o2 :: o3 :: objs (slv o1 ns)) H H3 := by
            rw [← hH3]
            exact ((((k1.new' _).fr _).trans f2 (fun p hp => .inl (by simp [hp]))).set (.inl (by simp)) _ |>.set (.inl (by simp)) _ |>.set (.inl (by simp)) _)
          clear hH3
          have hns : ¬ Shut H H3 := fun hsh => by
            rcases hsh.obj g lg with e | e
            · rw [og3, og] at e
              have e2 : slv o1 ns = .row (H1.size + 1) 0 11 (ns.length + 1) false := by
                simp only [AObj.cells.injEq, List.cons.injEq] at e; exact e.2.1.symm
              unfold slv at e2
              split at e2
              · cases e2
              · simp at e2
            · rw [og3] at e
              simp [closedO] at e
              omega
          rw [back_not hns] at h
          refine GvT.mk h rfl [g, o2, o3, H1.size + 1] (grow t v kok' (fun e2 => (hnm' e2).2) lim' (by omega) (by omega) (by omega) og3 oh3 ⟨_, _, om2, tell2 i2⟩ ⟨_, _, om3, tell3 (hop.trans c4) i3⟩) ⟨fr3, fun p hp => ?_⟩
          simp at hp ⊢
          rcases hp with hp | hp | hp | hp
          · simp [hp]
          · simp [hp]
          · simp [hp]
          · right; omega
        · simp (maxDischargeDepth := 40) [g2, m2, x2, Ne.symm ng, Ne.symm n2, hm2, c4, ne2.symm] at h
          generalize hH3 : AHeap.set _ _ _ = H3 at h
          have og3 : H3.obj g = .cells [.int .i64 most, .row (H1.size + 1) 0 11 (ns.length + 1) false, .map o2, .map o3] := by
            rw [← hH3]; simp [ne2]
          have oh3 : H3.obj (H1.size + 1) = .cells (flat ns ++ M.cs) := by
            have a1 : ¬ H1.size + 1 = g := by omega
            have a2 : ¬ H1.size + 1 = o2 := by omega
            have a3 : ¬ H1.size + 1 = o3 := by omega
            rw [← hH3]; simp [a1, a2]; rw [z1]; exact oo
          have om2 : H3.obj o2 = .map shN' (es2 ++ [⟨.agg M.cs, num ns.length, cn2⟩]) (cn2 + 1) := by
            rw [← hH3, ← hcs]; simp [shN', num]
          have om3 : H3.obj o3 = .map (.one .s) es3 cn3 := by
            rw [← hH3]; simp [ne3.symm, ne23.symm, m3]
          have sz3 : H3.size = H.size + 3 := by rw [← hH3]; simp [sz1]
          have fr3 : Fr (g :: o2 :: o3 :: objs (slv o1 ns)) H H3 := by
            rw [← hH3]
            exact ((((k1.new' _).fr _).trans f2 (fun p hp => .inl (by simp [hp]))).set (.inl (by simp)) _ |>.set (.inl (by simp)) _)
          clear hH3
          have hns : ¬ Shut H H3 := fun hsh => by
            rcases hsh.obj g lg with e | e
            · rw [og3, og] at e
              have e2 : slv o1 ns = .row (H1.size + 1) 0 11 (ns.length + 1) false := by
                simp only [AObj.cells.injEq, List.cons.injEq] at e; exact e.2.1.symm
              unfold slv at e2
              split at e2
              · cases e2
              · simp at e2
            · rw [og3] at e
              simp [closedO] at e
              omega
          rw [back_not hns] at h
          refine GvT.mk h rfl [g, o2, o3, H1.size + 1] (grow t v kok' (fun e2 => (hnm' e2).2) lim' (by omega) (by omega) (by omega) og3 oh3 ⟨_, _, om2, tell2 i2⟩ ⟨_, _, om3, tell3' (fun e => c4 (hop.symm.trans e)) i3⟩) ⟨fr3, fun p hp => ?_⟩
          simp at hp ⊢
          rcases hp with hp | hp | hp | hp
          · simp [hp]
          · simp [hp]
          · simp [hp]
          · right; omega
end Go.Proofs.Ytiaoojghohfkjaa
