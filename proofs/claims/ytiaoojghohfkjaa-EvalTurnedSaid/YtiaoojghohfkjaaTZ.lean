/- The document's graph of terms: Make. -/
import Derived.Test.YtiaoojghohfkjaaTX
namespace Go.Proofs.Ytiaoojghohfkjaa
set_option maxRecDepth 100000
set_option maxHeartbeats 4000000

theorem nodeS_some {ns : List Nd} {x : Int} (h1 : 1 ≤ x) (h2 : x ≤ ns.length) : nodeS ns x = some (ns.getD (x - 1).toNat Nd.zero) := by
  unfold nodeS
  rw [if_neg (by omega)]
  have : (x - 1).toNat < ns.length := by omega
  rw [List.getD_eq_getElem?_getD, List.getElem?_eq_getElem this]; rfl
theorem nodeS_none {ns : List Nd} {x : Int} (h : ¬ (1 ≤ x ∧ x ≤ ns.length)) : nodeS ns x = none := by
  unfold nodeS
  rw [if_pos (by omega)]

theorem rmk_loop0 {H : AHeap} {g q : Nat} {most : Int} {ns : List Nd} {o : Nat} (t : RG H g most ns o) {a : Int} {kids : List Int} {P : Nat → Bool} (hP : ∀ i, P i = kidOK ns.length a i (kids.getD i 0)) (h3 : kids.length = 3) (lq : q < H.size) (oq : H.obj q = .cells (kids.map (.int .i64))) {e : Env} {r : Rn} (hL : loopL Go.Proofs.Try.prog KT R l_plait_plaitref3_Graph_Make_0 e H = r)
    (e0 : e 0 = some (.ptr g 0)) (e6 : e 6 = some (.int .i64 a)) (e7 : e 7 = some (.row q 0 1 3 true)) (e8 : e 8 = some .nils) (e9 : e 9 = some (.int .i64 0)) :
    ∃ y e' H', r = some (y, e', H') ∧ (Keeps H H' ∧ ((y = .exit 0 ∧ (∀ i, i < 3 → P i = true) ∧ ∃ w, e' 8 = some w ∧ OutT H H' w (kids.flatMap (ksort ns))) ∨ (y = .ret ∧ (∃ i, i < 3 ∧ P i = false) ∧ e' 4 = some (.int .i64 0) ∧ e' 5 = some (.int .i64 32)))) ∧ ∀ t, t ∉ defs l_plait_plaitref3_Graph_Make_0 → e' t = e t := by
  have lim := t.lim
  have lim2 := t.lim2
  refine loop_count l_plait_plaitref3_Graph_Make_0.eq_1 hL 3 (fun i e1 H1 => e1 9 = some (.int .i64 i) ∧ Keeps H H1 ∧ (∀ j, j < i → P j = true) ∧ ∃ w, e1 8 = some w ∧ OutT H H1 w ((kids.take i).flatMap (ksort ns))) _ 0 (by omega) ⟨e9, Keeps.refl _, fun j hj => by omega, .nils, e8, ⟨by simpa using RI.nils, by simp, by simp⟩⟩ ?_ ?_
  · rintro i f H1 hf - hi ⟨f9, k1, hok, w, f8, hout⟩
    have w1 : IntKind.i64.wrap ((i : Int) + 1) = (i : Int) + 1 := i64w (by omega) (by omega)
    have c1 : (i : Int) < 3 := by omega
    have hik : i < kids.length := by omega
    have hget : kids[i] = kids.getD i 0 := by simp [List.getD_eq_getElem?_getD, hik]
    have oq1 : H1.obj q = .cells (kids.map (.int .i64)) := (k1.obj q lq).trans oq
    have lq1 := k1.lt lq
    have hqn : ¬ q = H1.size := Nat.ne_of_lt lq1
    have tk : (kids.take (i + 1)).flatMap (ksort ns) = (kids.take i).flatMap (ksort ns) ++ ksort ns (kids.getD i 0) := by rw [List.take_add_one, List.flatMap_append, List.getElem?_eq_getElem hik, ← hget]; simp
    rw [tk]
    have hlen : ((kids.take i).flatMap (ksort ns)).length ≤ 1000000 := by
      have : ∀ l : List Int, (l.flatMap (ksort ns)).length ≤ l.length := fun l => by
        induction l with
        | nil => simp
        | cons x l ih => have := ksort_len ns x; simp only [List.flatMap_cons, List.length_append, List.length_cons]; omega
      have := this (kids.take i)
      have : (kids.take i).length ≤ 3 := by rw [List.length_take]; omega
      omega
    have hat := fun H2 (k : Keeps H1 H2) => at_run (t.keep (k1.trans k)) (id := kids.getD i 0)
    have hko : kidOK ns.length a i (kids.getD i 0) = true → ∀ j, j < i + 1 → P j = true := fun h j hj => by
      by_cases e : j = i
      · rw [e, hP]; exact h
      · exact hok j (by omega)
    have hkf : kidOK ns.length a i (kids.getD i 0) = false → ∃ i, i < 3 ∧ P i = false := fun h => ⟨i, hi, by rw [hP]; exact h⟩
    clear hP
    generalize kids.getD i 0 = x at *
    unfold kidOK at hko hkf
    by_cases c2 : (i : Int) < a
    · have c2' : ¬ a ≤ (i : Int) := by omega
      rw [if_pos c2] at hko hkf
      by_cases c3 : 1 ≤ x ∧ x ≤ ns.length
      · rw [nodeS_some c3.1 c3.2] at hat
        have c4 : 0 < x := by omega
        have hxx := hko (by simp; omega)
        clear hko hkf
        rw [show ksort ns x = [(ns.getD (x - 1).toNat Nd.zero).sort] from by unfold ksort; rw [if_pos c4]]
        generalize ns.getD (x - 1).toNat Nd.zero = m at *
        obtain ⟨op, sort, ma, mb, mc, p, qq, vw, vl, vh, name⟩ := m
        simp only [Option.getD_some, Option.isSome_some, Nd.cs] at hat
        simp (maxDischargeDepth := 40) [hf, e0, e6, e7, f8, f9, c1, hi, h3, oq1, hget, hat, c2, c2']
        generalize hH2 : AHeap.set _ _ _ = H2
        have k2 : Keeps H1 H2 := by rw [← hH2]; exact (Keeps.new _ _).set (Nat.le_refl _) _
        have z2 : H2.size = H1.size + 1 := by rw [← hH2]; simp
        clear hH2
        rw [← z2]
        generalize hA : appU _ _ _ _ = qa
        obtain ⟨w', H3, rfl, h2, k3⟩ := (hout.keep k2).push (k1.trans k2) hlen hA
        simp (maxDischargeDepth := 40) [f9, w1, k3]
        exact ⟨hxx, h2⟩
      · rw [nodeS_none c3] at hat
        have hxx := hkf (by simp; omega)
        clear hko hkf
        simp only [Option.getD_none, Option.isSome_none, Nd.cs, Nd.zero] at hat
        simp (maxDischargeDepth := 40) [hf, e0, e6, e7, f9, c1, hi, h3, oq1, hget, hat, c2]
        exact ⟨k1.trans ((Keeps.new _ _).set (Nat.le_refl _) _), hxx⟩
    · have c2' : a ≤ (i : Int) := by omega
      rw [if_neg c2] at hko hkf
      generalize hS : nodeS ns x = S at hat
      obtain ⟨m, hm⟩ : ∃ m, m = S.getD Nd.zero := ⟨_, rfl⟩
      rw [← hm] at hat
      clear hm
      generalize S.isSome = b at hat
      obtain ⟨op, sort, ma, mb, mc, p, qq, vw, vl, vh, name⟩ := m
      simp only [Nd.cs] at hat
      by_cases c3 : x = 0
      · subst c3
        have hxx := hko (by simp)
        rw [show ksort ns 0 = [] from rfl, List.append_nil]
        clear hko hkf
        simp (maxDischargeDepth := 40) [hf, e0, e6, e7, f8, f9, c1, hi, h3, oq1, hqn, hget, hat, c2, c2', w1]
        exact ⟨k1.trans ((Keeps.new _ _).set (Nat.le_refl _) _), hxx, hout.keep ((Keeps.new _ _).set (Nat.le_refl _) _)⟩
      · have hxx := hkf (by simp [c3])
        clear hko hkf
        simp (maxDischargeDepth := 40) [hf, e0, e6, e7, f9, c1, hi, h3, oq1, hqn, hget, hat, c2, c2', c3]
        exact ⟨k1.trans ((Keeps.new _ _).set (Nat.le_refl _) _), hxx⟩
  · rintro f H1 hf ⟨f9, k1, hok, w, f8, hout⟩
    simp [f8, f9, k1]
    rw [List.take_of_length_le (by omega)] at hout
    exact ⟨hok, hout⟩

theorem idx_take {ns : List Nd} {n m : Nd} {i : Nat} (hn : ns[i]? = some m) : idx (ns.take (i + 1)) n = (idx (ns.take i) n).or (if n = m then some i else none) := by
  have hi := (List.getElem?_eq_some_iff.1 hn).1
  rw [List.take_add_one, hn, Option.toList_some, idx_append, List.length_take, Nat.min_eq_left (by omega)]
theorem rmk_loop1 {H : AHeap} {g p : Nat} {most : Int} {ns : List Nd} {o : Nat} (t : RG H g most ns o) {M : Nd} (op : H.obj p = .cells M.cs) {e : Env} {r : Rn} (hL : loopL Go.Proofs.Try.prog KT R l_plait_plaitref3_Graph_Make_1 e H = r)
    (e0 : e 0 = some (.ptr g 0)) (e3 : e 3 = some (.ptr p 0)) (e16 : e 16 = some (.int .i64 0)) :
    ∃ y e' H', r = some (y, e', H') ∧ (H' = H ∧ ((y = .exit 3 ∧ idx ns M = none) ∨ (y = .ret ∧ ∃ i, idx ns M = some i ∧ e' 4 = some (num i) ∧ e' 5 = some (.int .i64 0)))) ∧ ∀ t, t ∉ defs l_plait_plaitref3_Graph_Make_1 → e' t = e t := by
  have hl := t.lim
  have hl2 := t.lim2
  refine loop_count l_plait_plaitref3_Graph_Make_1.eq_1 hL ns.length (fun i e1 H1 => e1 16 = some (.int .i64 i) ∧ H1 = H ∧ idx (ns.take i) M = none) _ 0 (by omega) ⟨e16, rfl, rfl⟩ ?_ ?_
  · rintro i f H1 hf - hi ⟨f16, rfl, hv⟩
    have w1 : IntKind.i64.wrap ((i : Int) + 1) = (i : Int) + 1 := i64w (by omega) (by omega)
    have c1 : (i : Int) < ns.length := by omega
    have hne : ns ≠ [] := by rintro rfl; simp at hi
    obtain ⟨n, hn⟩ : ∃ n, ns[i]? = some n := ⟨ns[i], by simp [hi]⟩
    have hs := slv_row (o := o) hi
    have ho := t.b1 hne
    have hfl := flat_len ns
    have hle : i * 11 + 11 ≤ ns.length * 11 := by omega
    have hat := flat_at hn
    have hg := t.og
    rw [hs] at hg
    have ht := idx_take (n := M) hn
    rw [hv, Option.none_or] at ht
    have hm : ∀ j, idx (ns.take (i + 1)) M = some j → idx ns M = some j := fun j h => by
      have := idx_more (ks := ns.drop (i + 1)) h
      rwa [List.take_append_drop] at this
    have hq : scsEq n.cs M.cs = decide (n = M) := by
      have := keyEq_nd n M
      simpa only [keyEq] using this
    rw [ht] at hm ⊢
    by_cases d : n = M
    · rw [if_pos d.symm] at hm
      simp only [d, decide_true] at hq hat
      have hm2 := hm i rfl
      clear hm ht d hv hn
      generalize hidx : idx ns M = X at *
      obtain ⟨op', sort', a', b', c', p', q', vw', vl', vh', name'⟩ := M
      simp only [Nd.cs] at op hat hq
      simp (maxDischargeDepth := 40) (maxSteps := 4000000) [hf, e0, e3, f16, c1, hg, ho, hfl, hle, hat, op, w1]
      exact ⟨i, hm2, rfl⟩
    · rw [if_neg (fun e => d e.symm)]
      rw [decide_eq_false d] at hq
      clear hm ht hv hn
      obtain ⟨op', sort', a', b', c', p', q', vw', vl', vh', name'⟩ := M
      obtain ⟨op2, sort2, a2, b2, c2, p2, q2, vw2, vl2, vh2, name2⟩ := n
      simp only [Nd.cs] at op hat hq
      simp (maxDischargeDepth := 40) (maxSteps := 4000000) [hf, e0, e3, f16, c1, hg, ho, hfl, hle, hat, op, hq, w1]
  · rintro f H1 hf ⟨f16, rfl, hv⟩
    have hg := t.og
    have hsl := slv_len o ns
    simp (maxDischargeDepth := 40) [hf, e0, f16, hg, hsl]
    rw [List.take_of_length_le (Nat.le_refl _)] at hv
    exact hv
end Go.Proofs.Ytiaoojghohfkjaa
