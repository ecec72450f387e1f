/- The law TermOnce. -/
import Derived.Test.YtphkkcocimmmfaaTM
import Derived.Test.YtphkkcocimmmfaaLTR
namespace Go.Proofs.Ytphkkcocimmmfaa
set_option maxRecDepth 100000
set_option maxHeartbeats 4000000

theorem TG.same {H H' : AHeap} {g : Nat} {most : Int} {ns : List Nd} {o1 o2 o3 : Nat} (h : TG H g most ns o1 o2 o3) (z : H.size ≤ H'.size) (k : ∀ p, p ∈ g :: o2 :: o3 :: objs (slv o1 ns) → H'.obj p = H.obj p) : TG H' g most ns o1 o2 o3 := by
  have k1 : ns ≠ [] → H'.obj o1 = H.obj o1 := fun e => k o1 (by
    unfold slv; rw [if_neg e]; simp)
  exact ⟨Nat.lt_of_lt_of_le h.lg z, fun e => Nat.lt_of_lt_of_le (h.l1 e) z, Nat.lt_of_lt_of_le h.l2 z, Nat.lt_of_lt_of_le h.l3 z, (k _ (by simp)).trans h.og, fun e => (k1 e).trans (h.b1 e), by rw [k o2 (by simp)]; exact h.b2, by rw [k o3 (by simp)]; exact h.b3, h.n1, h.n2, h.n3, h.n12, h.n13, h.n23, h.lim, h.lim2⟩
theorem GT.same {H H' : AHeap} {g : Nat} {most : Int} {ns : List Nd} {F : List Nat} (h : GT H g most ns F) (z : H.size ≤ H'.size) (k : ∀ p, p ∈ F → H'.obj p = H.obj p) : GT H' g most ns F := by
  obtain ⟨o1, o2, o3, t, v, kk, rfl⟩ := h
  exact ⟨o1, o2, o3, t.same z k, v, kk, rfl⟩
theorem GT.lt {H : AHeap} {g : Nat} {most : Int} {ns : List Nd} {F : List Nat} (h : GT H g most ns F) : ∀ p, p ∈ F → p < H.size := by
  obtain ⟨o1, o2, o3, t, v, kk, rfl⟩ := h
  intro p hp
  simp only [List.mem_cons] at hp
  rcases hp with rfl | rfl | rfl | hp
  · exact t.lg
  · exact t.l2
  · exact t.l3
  · unfold slv at hp
    split at hp
    · simp at hp
    · rename_i hne
      simp at hp
      subst hp
      exact t.l1 hne

/-- The graph and the numbers beside it. -/
structure On (H0 H : AHeap) (g : Nat) (most : Int) (ns : List Nd) (F : List Nat) (o : Nat) (ids : List Int) : Prop where
  gt : GT H g most ns F
  kp : Keeps H0 H
  fF : ∀ p, p ∈ F → H0.size ≤ p
  ob : H.obj o = .cells (ids.map (.int .i64))
  oF : o ∉ F
  oz : o < H.size
  o0 : H0.size ≤ o
  nd : ns.Nodup
theorem On.make {H0 H H' : AHeap} {g : Nat} {most l e : Int} {ns js : List Nd} {n : Nd} {F F' : List Nat} {o : Nat} {ids : List Int} (h : On H0 H g most ns F o ids) (hx : makT most ns n = (js, l, e)) (gt : GT H' g most js F') (m : MvT F H F' H') : On H0 H' g most js F' o ids := by
  refine ⟨gt, m.fr.keeps h.kp h.fF, fun p hp => ?_, (m.fr.obj o h.oz h.oF).trans h.ob, fun hp => ?_, Nat.lt_of_lt_of_le h.oz m.fr.size, h.o0, ?_⟩
  · rcases m.new p hp with h1 | h1
    · exact h.fF p h1
    · exact Nat.le_trans h.kp.size h1
  · rcases m.new o hp with h1 | h1
    · exact h.oF h1
    · have := h.oz; omega
  · have := make_nodup (most := most) (n := n) h.nd
    rw [hx] at this; exact this
theorem On.write {H0 H : AHeap} {g : Nat} {most : Int} {ns : List Nd} {F : List Nat} {o : Nat} {ids : List Int} (h : On H0 H g most ns F o ids) (j : Nat) (x : Int) : On H0 (H.set o (.cells ((ids.map (.int .i64)).set j (.int .i64 x)))) g most ns F o (ids.set j x) := by
  refine ⟨h.gt.same (by simp) fun p hp => ?_, ?_, h.fF, ?_, h.oF, by simpa using h.oz, h.o0, h.nd⟩
  · have : p ≠ o := fun e => h.oF (e ▸ hp)
    simp [this]
  · exact h.kp.set h.o0 _
  · simp
theorem On.keeps {H0 H H' : AHeap} {g : Nat} {most : Int} {ns : List Nd} {F : List Nat} {o : Nat} {ids : List Int} (h : On H0 H g most ns F o ids) (k : Keeps H H') : On H0 H' g most ns F o ids :=
  ⟨h.gt.keeps k, h.kp.trans k, h.fF, (k.obj o h.oz).trans h.ob, h.oF, k.lt h.oz, h.o0, h.nd⟩

/-- The numbers that were told. -/
def Told (ns : List Nd) (l : List Nd) (ids : List Int) (j : Nat) : Prop := ∀ i n, i < j → l[i]? = some n → ids.getD i 0 = 0 ∨ ∃ M k, Made ns n M k ∧ ids.getD i 0 = (k : Int) + 1
theorem Told.more {ns l : List Nd} {ids : List Int} {j : Nat} (h : Told ns l ids j) (ks : List Nd) : Told (ns ++ ks) l ids j := fun i n hi hn => by
  rcases h i n hi hn with h | ⟨M, k, h1, h2⟩
  · exact .inl h
  · exact .inr ⟨M, k, h1.more, h2⟩
theorem Told.next {ns l : List Nd} {ids : List Int} {j : Nat} {n : Nd} {x : Int} (h : Told ns l ids j) (hj : j < ids.length) (hn : l[j]? = some n) (hx : x = 0 ∨ ∃ M k, Made ns n M k ∧ x = (k : Int) + 1) : Told ns l (ids.set j x) (j + 1) := fun i m hi hm => by
  rw [List.getD_eq_getElem?_getD, List.getElem?_set]
  by_cases c : j = i
  · subst c
    rw [hn] at hm
    cases hm
    simp [hj]; exact hx
  · have := h i m (by omega) hm
    rw [List.getD_eq_getElem?_getD] at this
    rw [if_neg c]; exact this

theorem once_loop0 {H0 H : AHeap} {g o : Nat} {most : Int} {l : List Nd} {F : List Nat} (hl : l.length ≤ 200) (on : On H0 H g most [] F o (List.replicate l.length 0)) {e : Env} {r : Rn} (hL : loopL Go.Proofs.Try.prog KT R l_plaitlaw3_TermOnce_0 e H = r)
    (e1' : e 1 = some (NL l)) (e5 : e 5 = some (.ptr g 0)) (e6 : e 6 = some (.row o 0 1 l.length true)) (e7 : e 7 = some (.int .i64 0)) :
    ∃ y e' H', r = some (y, e', H') ∧ (y = .exit 0 ∧ ∃ ns F ids, On H0 H' g most ns F o ids ∧ ids.length = l.length ∧ Told ns l ids l.length) ∧ ∀ t, t ∉ defs l_plaitlaw3_TermOnce_0 → e' t = e t := by
  refine loop_count l_plaitlaw3_TermOnce_0.eq_1 hL l.length (fun i e1 H1 => e1 7 = some (.int .i64 i) ∧ ∃ ns F ids, On H0 H1 g most ns F o ids ∧ ids.length = l.length ∧ Told ns l ids i) _ 0 (by omega) ⟨e7, [], F, _, on, by simp, fun i n hi => by omega⟩ ?_ ?_
  · rintro i f H1 hf - hi ⟨f7, ns, F1, ids, on1, hids, told⟩
    have w1 : IntKind.i64.wrap ((i : Int) + 1) = (i : Int) + 1 := i64w (by omega) (by omega)
    have c1 : (i : Int) < l.length := by omega
    obtain ⟨n, hn⟩ : ∃ n, l[i]? = some n := ⟨l[i], by simp [hi]⟩
    have hat := flat_at hn
    have hfl := flat_len l
    have hle : i * 11 + 11 ≤ l.length * 11 := by omega
    have hlen : R f_plait_term_Graph_Len [.ptr g 0] H1 = some (.int .i64 ns.length, H1) := by
      obtain ⟨o1, o2, o3, t, -, -, -⟩ := on1.gt
      exact len_run t
    simp (maxDischargeDepth := 40) [hf, NL, e1', e5, f7, c1, hlen, hfl, hle, hat]
    generalize hN : R f_plait_term_Graph_Make _ _ = q
    obtain ⟨js, x, er, hmk⟩ : ∃ js x er, makT most ns n = (js, x, er) := ⟨_, _, _, rfl⟩
    obtain ⟨H2, F2, rfl, g2, m2⟩ := GvT.go on1.gt hmk hN
    have on2 := on1.make hmk g2 m2
    have ob := on2.ob
    have hi2 : i < ids.length := by omega
    have vok : Vok ns := by
      obtain ⟨o1, o2, o3, -, v, -, -⟩ := on1.gt; exact v
    rcases make_made vok hmk with ⟨rfl, M, k, md, rfl, ks, rfl⟩ | ⟨he, rfl, rfl⟩
    · simp (maxDischargeDepth := 40) [hf, e6, f7, ob, c1, hi, hids, w1]
      exact ⟨_, F2, _, on2.write i _, by simpa using hids, (told.more ks).next hi2 hn (.inr ⟨M, k, md, rfl⟩)⟩
    · have hlen2 : R f_plait_term_Graph_Len [.ptr g 0] H2 = some (.int .i64 js.length, H2) := by
        obtain ⟨o1, o2, o3, t, -, -, -⟩ := on2.gt
        exact len_run t
      simp (maxDischargeDepth := 40) [hf, e5, e6, f7, ob, c1, hi, hids, w1, he, hlen2]
      exact ⟨_, F2, _, on2.write i 0, by simpa using hids, told.next hi2 hn (.inl rfl)⟩
  · rintro f H1 hf ⟨f7, ns, F1, ids, on1, hids, told⟩
    simp [hf, NL, f7, e1']
    exact ⟨ns, F1, ids, on1, hids, told⟩

theorem once_loop1 {H0 H : AHeap} {g o : Nat} {most : Int} {l ns : List Nd} {ids : List Int} {F : List Nat} (hl : l.length ≤ 200) (hids : ids.length = l.length) (told : Told ns l ids l.length) (on : On H0 H g most ns F o ids) {e : Env} {r : Rn} (hL : loopL Go.Proofs.Try.prog KT R l_plaitlaw3_TermOnce_1 e H = r)
    (e1' : e 1 = some (NL l)) (e5 : e 5 = some (.ptr g 0)) (e6 : e 6 = some (.row o 0 1 l.length true)) (e11 : e 11 = some (.int .i64 0)) :
    ∃ y e' H', r = some (y, e', H') ∧ (y = .exit 2 ∧ ∃ F, On H0 H' g most ns F o ids) ∧ ∀ t, t ∉ defs l_plaitlaw3_TermOnce_1 → e' t = e t := by
  refine loop_count l_plaitlaw3_TermOnce_1.eq_1 hL l.length (fun i e1 H1 => e1 11 = some (.int .i64 i) ∧ ∃ F, On H0 H1 g most ns F o ids) _ 0 (by omega) ⟨e11, F, on⟩ ?_ ?_
  · rintro i f H1 hf - hi ⟨f11, F1, on1⟩
    have w1 : IntKind.i64.wrap ((i : Int) + 1) = (i : Int) + 1 := i64w (by omega) (by omega)
    have c1 : (i : Int) < l.length := by omega
    obtain ⟨n, hn⟩ : ∃ n, l[i]? = some n := ⟨l[i], by simp [hi]⟩
    have hat := flat_at hn
    have hfl := flat_len l
    have hb0 : i * 11 < (flat l).length := by omega
    have hat0 : (flat l)[i * 11] = .int .i64 n.op := (List.getElem?_eq_some_iff.1 (flat_get hn (j := 0) (by omega))).2
    have hle : i * 11 + 11 ≤ l.length * 11 := by omega
    have ob := on1.ob
    have hi2 : i < ids.length := by omega
    have hget : ids[i] = ids.getD i 0 := by simp [List.getD_eq_getElem?_getD, hi2]
    rcases told i n hi hn with h0 | ⟨M, k, md, hk⟩
    · rw [h0] at hget
      simp (maxDischargeDepth := 40) [hf, NL, e1', e6, f11, c1, hi, hids, ob, hget, w1]
      exact ⟨F1, on1⟩
    · rw [hk] at hget
      have c2 : ¬ ((k : Int) + 1 = 0) := by omega
      simp (maxDischargeDepth := 40) [hf, NL, e1', e5, e6, f11, c1, hi, hids, ob, hget, c2, hfl, hle, hat]
      generalize hN : R f_plait_term_Graph_Make _ _ = q
      obtain ⟨H2, F2, rfl, g2, m2⟩ := GvT.go on1.gt (md.make (most := most)) hN
      have on2 := on1.make (md.make (most := most)) g2 m2
      have ob2 := on2.ob
      obtain ⟨hMm, hkl⟩ := idx_mem md.at'
      have hMk : ns[k]? = some M := by
        have := md.at'
        unfold idx at this
        obtain ⟨h1, h2, -⟩ := List.findIdx?_eq_some_iff_getElem.1 this
        simp at h2
        rw [List.getElem?_eq_getElem h1, h2]
      have hnode : R f_plait_term_Graph_Node [.ptr g 0, .int .i64 ((k : Int) + 1)] H2 = some (.tup [.agg M.cs, .bool true], H2) := by
        obtain ⟨o1, o2, o3, t, -, -, -⟩ := on2.gt
        have := node_run t (id := (k : Int) + 1)
        rw [show nodeS ns ((k : Int) + 1) = some M from by unfold nodeS; rw [if_neg (by omega), show ((k : Int) + 1 - 1).toNat = k from by omega, hMk]] at this
        exact this
      have kok : Kok ns := by
        obtain ⟨o1, o2, o3, -, -, kk, -⟩ := on1.gt; exact kk
      obtain ⟨⟨a0, a1⟩, ⟨b0, b1⟩, ⟨d0, d1⟩⟩ := kok k M hMk
      have hop := (sorted_op md.sorted).1
      have oz2 := on2.oz
      obtain ⟨op, sort, a, b, d, p, q, vw, vl, vh, name⟩ := M
      simp only at a1 b1 d1 hop
      subst hop
      simp only [Nd.cs] at hnode
      have c3 : ¬ ((k : Int) + 1 ≤ a) := by omega
      have c4 : ¬ ((k : Int) + 1 ≤ b) := by omega
      have c5 : ¬ ((k : Int) + 1 ≤ d) := by omega
      have c6 : a < (k : Int) + 1 := by omega
      have c7 : b < (k : Int) + 1 := by omega
      have c8 : d < (k : Int) + 1 := by omega
      have no : ¬ o = H2.size := Nat.ne_of_lt oz2
      simp (maxDischargeDepth := 40) (maxSteps := 4000000) [hf, hnode, NL, e1', e5, e6, f11, c1, hi, hids, ob2, hget, hat0, hfl, c3, c4, c5, w1, no]
      exact ⟨F2, on2.keeps (by simp (maxDischargeDepth := 40))⟩
  · rintro f H1 hf ⟨f11, F1, on1⟩
    simp [hf, NL, f11, e1']
    exact ⟨F1, on1⟩

theorem once_loop3 {H0 H : AHeap} {g o p : Nat} {most : Int} {ns : List Nd} {ids : List Int} {F : List Nat} (on : On H0 H g most ns F o ids) {i : Nat} {n : Nd} (hn : ns[i]? = some n) (ho : H.obj p = .cells n.cs) (lp : p < H.size) {e : Env} {r : Rn} (hL : loopL Go.Proofs.Try.prog KT R l_plaitlaw3_TermOnce_3 e H = r)
    (e5 : e 5 = some (.ptr g 0)) (e16 : e 16 = some (.int .i64 ((i : Int) + 1))) (e17 : e 17 = some (.ptr p 0)) (e19 : e 19 = some (.int .i64 1)) :
    ∃ y e' H', r = some (y, e', H') ∧ (y = .exit 6 ∧ Keeps H H') ∧ ∀ t, t ∉ defs l_plaitlaw3_TermOnce_3 → e' t = e t := by
  have hi := (List.getElem?_eq_some_iff.1 hn).1
  obtain ⟨o1, o2, o3, t, -, -, -⟩ := on.gt
  have lim := t.lim
  have lim2 := t.lim2
  refine loop_count l_plaitlaw3_TermOnce_3.eq_1 hL i (fun k e1 H1 => e1 19 = some (.int .i64 ((k : Int) + 1)) ∧ Keeps H H1) _ 0 (by omega) ⟨e19, Keeps.refl _⟩ ?_ ?_
  · rintro k f H1 hf - hk ⟨f19, k1⟩
    have w1 : IntKind.i64.wrap ((k : Int) + 1 + 1) = (k : Int) + 1 + 1 := i64w (by omega) (by omega)
    have c1 : (k : Int) < i := by omega
    have hkl : k < ns.length := by omega
    obtain ⟨m, hm⟩ : ∃ m, ns[k]? = some m := ⟨ns[k], by simp [hkl]⟩
    have hnode : R f_plait_term_Graph_Node [.ptr g 0, .int .i64 ((k : Int) + 1)] H1 = some (.tup [.agg m.cs, .bool true], H1) := by
      have := node_run (t.keep k1) (id := (k : Int) + 1)
      rw [show nodeS ns ((k : Int) + 1) = some m from by unfold nodeS; rw [if_neg (by omega), show ((k : Int) + 1 - 1).toNat = k from by omega, hm]] at this
      exact this
    have hne : n ≠ m := by
      intro e
      subst e
      rw [List.getElem?_eq_getElem hi] at hn
      rw [List.getElem?_eq_getElem hkl] at hm
      rw [Option.some.injEq] at hn hm
      exact List.pairwise_iff_getElem.1 on.nd k i hkl hi hk (hm.trans hn.symm)
    have hq : scsEq n.cs m.cs = false := by
      have := keyEq_nd n m
      simp only [keyEq] at this
      rw [this]; simpa using hne
    have hop : H1.obj p = .cells n.cs := (k1.obj p lp).trans ho
    have hp : ¬ p = H1.size := by have := k1.size; omega
    obtain ⟨op, sort, a, b, c, p, q, vw, vl, vh, name⟩ := n
    obtain ⟨op', sort', a', b', c', p', q', vw', vl', vh', name'⟩ := m
    simp only [Nd.cs] at hnode hop hq
    simp (maxDischargeDepth := 40) (maxSteps := 4000000) [hf, hnode, e5, e16, e17, f19, c1, hop, hp, hq, w1]
    exact (k1.new' _).set k1.size _
  · rintro f H1 hf ⟨f19, k1⟩
    simp [hf, f19, e16]
    exact k1

theorem once_loop2 {H0 H : AHeap} {g o : Nat} {most : Int} {ns : List Nd} {ids : List Int} {F : List Nat} (on : On H0 H g most ns F o ids) {e : Env} {r : Rn} (hL : loopL Go.Proofs.Try.prog KT R l_plaitlaw3_TermOnce_2 e H = r)
    (e5 : e 5 = some (.ptr g 0)) (e16 : e 16 = some (.int .i64 1)) :
    ∃ y e' H', r = some (y, e', H') ∧ (y = .exit 4 ∧ Keeps H H') ∧ ∀ t, t ∉ defs l_plaitlaw3_TermOnce_2 → e' t = e t := by
  obtain ⟨o1, o2, o3, t, -, -, -⟩ := on.gt
  have lim := t.lim
  have lim2 := t.lim2
  refine loop_count l_plaitlaw3_TermOnce_2.eq_1 hL ns.length (fun k e1 H1 => e1 16 = some (.int .i64 ((k : Int) + 1)) ∧ Keeps H H1) _ 0 (by omega) ⟨e16, Keeps.refl _⟩ ?_ ?_
  · rintro i f H1 hf - hi ⟨f16, k1⟩
    have w1 : IntKind.i64.wrap ((i : Int) + 1 + 1) = (i : Int) + 1 + 1 := i64w (by omega) (by omega)
    have c1 : (i : Int) + 1 ≤ ns.length := by omega
    have c2 : (i : Int) < ns.length := by omega
    obtain ⟨n, hn⟩ : ∃ n, ns[i]? = some n := ⟨ns[i], by simp [hi]⟩
    have hlen := len_run (t.keep k1)
    have hnode : R f_plait_term_Graph_Node [.ptr g 0, .int .i64 ((i : Int) + 1)] H1 = some (.tup [.agg n.cs, .bool true], H1) := by
      have := node_run (t.keep k1) (id := (i : Int) + 1)
      rw [show nodeS ns ((i : Int) + 1) = some n from by unfold nodeS; rw [if_neg (by omega), show ((i : Int) + 1 - 1).toNat = i from by omega, hn]] at this
      exact this
    obtain ⟨op, sort, a, b, c, p, q, vw, vl, vh, name⟩ := n
    simp only [Nd.cs] at hnode
    simp (maxDischargeDepth := 40) (maxSteps := 4000000) [hf, hlen, hnode, e5, f16, c1]
    generalize hH2 : AHeap.set _ _ _ = H2
    have k2 : Keeps H1 H2 := by rw [← hH2]; exact (Keeps.new _ _).set (Nat.le_refl _) _
    have z2 : H1.size < H2.size := by rw [← hH2]; simp
    have ob : H2.obj H1.size = .cells (Nd.cs ⟨op, sort, a, b, c, p, q, vw, vl, vh, name⟩) := by rw [← hH2]; simp [Nd.cs]
    clear hH2
    generalize hL3 : loopL _ _ _ _ _ _ = q3
    obtain ⟨y, e3, H3, rfl, ⟨rfl, k3⟩, fr⟩ := once_loop3 (on.keeps (k1.trans k2)) hn ob z2 hL3 (by simp [hf, e5]) (by simp [f16]) (by simp) (by simp)
    simp (maxDischargeDepth := 40) [fr, f16, w1]
    exact k1.trans (k2.trans k3)
  · rintro f H1 hf ⟨f16, k1⟩
    have hlen := len_run (t.keep k1)
    have c1 : ¬ (ns.length : Int) + 1 ≤ ns.length := by omega
    simp (maxDischargeDepth := 40) [hf, f16, e5, hlen, c1]
    exact k1

theorem once_run {H : AHeap} {most : Int} {l : List Nd} : R f_plaitlaw3_TermOnce [.int .i64 most, NL l] H = some (.bool true, H) := by
  generalize h : R f_plaitlaw3_TermOnce _ _ = r
  have hk := fun H => known_run (H := H)
  obtain ⟨b, hli, hb⟩ := light_run (H := H) (l := l)
  rw [e_plaitlaw3_TermOnce] at h
  simp (maxDischargeDepth := 40) [c_plaitlaw3_TermOnce, hk, hli] at h
  cases b with
  | false => simp (maxDischargeDepth := 40) at h; exact h.symm
  | true =>
    have hl := hb rfl
    have hnl : sliceLen (NL l) = some l.length := rfl
    simp (maxDischargeDepth := 40) at h
    generalize hN : R f_term_New _ _ = q at h
    obtain ⟨H1, g, F1, rfl, g1, k1, f1⟩ := tnew_run hN
    have c1 : (l.length : Int) ≤ 9223372036854775807 := by omega
    have c2 : (l.length : Int) ≤ 140737488355328 := by omega
    have c3 : (l.length : Int) * 8 ≤ 140737488355328 := by omega
    simp (maxDischargeDepth := 40) [hnl, c1, c3] at h
    generalize hL : loopL _ _ _ _ _ _ = q at h
    have on : On H (H1.new (.cells (List.replicate l.length (.int .i64 0)))) g (min (max most 1) 4096) [] F1 H1.size (List.replicate l.length 0) := ⟨g1.keeps (Keeps.new _ _), k1.new' _, f1, by simp, fun hp => by have := g1.lt _ hp; omega, by simp, k1.size, by simp⟩
    obtain ⟨y, e2, H2, rfl, ⟨rfl, ns, F2, ids, on2, hids, told⟩, fr⟩ := once_loop0 hl on hL (by simp) (by simp) (by simp) (by simp)
    simp (maxDischargeDepth := 40) at h
    generalize hL : loopL _ _ _ _ _ _ = q at h
    obtain ⟨y, e3, H3, rfl, ⟨rfl, F3, on3⟩, fr3⟩ := once_loop1 hl hids told on2 hL (by simp [fr]) (by simp [fr]) (by simp [fr]) (by simp)
    simp (maxDischargeDepth := 40) at h
    generalize hL : loopL _ _ _ _ _ _ = q at h
    obtain ⟨y, e4, H4, rfl, ⟨rfl, k4⟩, fr4⟩ := once_loop2 on3 hL (by simp [fr, fr3]) (by simp)
    have on4 := on3.keeps k4
    obtain ⟨o1, o2, o3, t, -, -, -⟩ := on4.gt
    have lim := t.lim
    have hlen := len_run t
    have kp := on4.kp
    have c4 : (ns.length : Int) ≤ max most 1 := by omega
    simp (maxDischargeDepth := 40) [fr, fr3, fr4, hlen, c4, kp] at h
    exact h.symm
end Go.Proofs.Ytphkkcocimmmfaa
