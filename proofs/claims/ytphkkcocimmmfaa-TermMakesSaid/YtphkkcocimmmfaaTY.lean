/- The document's graph of terms: Cone. -/
import Derived.Test.YtphkkcocimmmfaaTX
namespace Go.Proofs.Ytphkkcocimmmfaa
set_option maxRecDepth 100000
set_option maxHeartbeats 4000000

theorem OutT.fr {H0 A B : AHeap} {F : List Nat} {v : AV} {l : List Int} (h : OutT H0 A v l) (k : Fr F A B) (hF : ∀ p, p ∈ objs v → p ∉ F) : OutT H0 B v l := by
  refine ⟨Reads.fr h.rd k ?_, h.gr, h.new⟩
  cases v <;> first | trivial | exact hF _ (by simp)
theorem mark1T_high {ns : List Nd} (kok : Kok ns) {n j : Nat} (hn : n < ns.length) (hj : n < j) {v : List Bool} : (mark1T ns n v).getD j false = v.getD j false := by
  obtain ⟨m, hm⟩ : ∃ m, ns[n]? = some m := ⟨ns[n], List.getElem?_eq_getElem hn⟩
  have hg : ns.getD n Nd.zero = m := by simp [List.getD_eq_getElem?_getD, hm]
  obtain ⟨⟨a0, a1⟩, ⟨b0, b1⟩, ⟨d0, d1⟩⟩ := kok n m hm
  unfold mark1T
  rw [hg]
  split
  · simp only [List.getD_eq_getElem?_getD]
    rw [List.getElem?_set_ne (by omega), List.getElem?_set_ne (by omega), List.getElem?_set_ne (by omega)]
  · rfl
theorem markT_high {ns : List Nd} (kok : Kok ns) : ∀ {n : Nat} {v : List Bool}, n ≤ ns.length → ∀ j, n ≤ j → (markT ns n v).getD j false = v.getD j false
  | 0, _, _, _, _ => rfl
  | n + 1, v, hn, j, hj => by rw [markT, markT_high kok (by omega) j (by omega), mark1T_high kok hn (by omega)]

theorem rcone_loop0 {H0 H : AHeap} {g : Nat} {most : Int} {ns : List Nd} {o : Nat} (t : RG H0 g most ns o) (kok : Kok ns) {e : Env} {r : Rn} (hL : loopL Go.Proofs.Try.prog KT R l_plait_plaitref3_Graph_Cone_0 e H = r)
    (k0 : Keeps H0 H) (z : H0.size < H.size) {n len : Nat} {v : List Bool} (hl : v.length = len) (hn : n < len) (hnk : n ≤ ns.length) (hv : H.obj H0.size = .cells (v.map .bool))
    (e0 : e 0 = some (.ptr g 0)) (e5 : e 5 = some (.row H0.size 0 1 len true)) (e6 : e 6 = some .nils) (e7 : e 7 = some (.int .i64 n)) :
    ∃ x e' H', r = some (x, e', H') ∧ (x = .exit 0 ∧ Keeps H0 H' ∧ ∃ w bk, e' 6 = some w ∧ OutT H0 H' w bk ∧ outT (markT ns n v) (n + 1) = bk.reverse ∧ bk.length ≤ n) ∧ ∀ t, t ∉ defs l_plait_plaitref3_Graph_Cone_0 → e' t = e t := by
  have lim := t.lim
  have lim2 := t.lim2
  have hw0 : OutT H0 H .nils [] := ⟨RI.nils, by simp, by simp⟩
  refine loop_rule l_plait_plaitref3_Graph_Cone_0.eq_1 hL (fun i e1 H1 => ∃ v1 : List Bool, ∃ w bk, i < len ∧ i ≤ ns.length ∧ v1.length = len ∧ e1 7 = some (.int .i64 i) ∧ e1 6 = some w ∧ OutT H0 H1 w bk ∧ (∀ p, p ∈ objs w → H0.size < p) ∧ bk.length + i ≤ n ∧ outT (markT ns n v) (n + 1) = outT (markT ns n v) (i + 1) ++ bk.reverse ∧ Keeps H0 H1 ∧ H0.size < H1.size ∧ H1.obj H0.size = .cells (v1.map .bool) ∧ markT ns i v1 = markT ns n v) _ n ⟨v, .nils, [], hn, hnk, hl, e7, e6, hw0, by simp, by simp, by simp, k0, z, hv, rfl⟩ ?_
  rintro i e1 H1 hf ⟨v1, w, bk, hi, hik, hl1, f7, f6, hout, hob, hci, hok, k1, z1, ho, hmk⟩
  cases i with
  | zero =>
    simp [f7]
    exact ⟨k1, w, f6, bk, hout, by rw [hok, outT_one, List.nil_append], by omega⟩
  | succ i =>
    have hik' : i < ns.length := hik
    have hne : ns ≠ [] := by rintro rfl; simp at hik'
    obtain ⟨m, hm⟩ : ∃ m, ns[i]? = some m := ⟨ns[i], List.getElem?_eq_getElem hik'⟩
    have hg : ns.getD i Nd.zero = m := by simp [List.getD_eq_getElem?_getD, hm]
    obtain ⟨⟨a0, a1⟩, ⟨b0, b1⟩, ⟨d0, d1⟩⟩ := kok i m hm
    have hself : ∀ H', Keeps H0 H' → H'.obj g = .cells [.row o 0 11 ns.length false, .int .i64 most] := fun H' k => ((k.obj g t.lg).trans t.og).trans (by rw [slv_row hik'])
    have hb1 : ∀ H2, Keeps H0 H2 → H2.obj o = .cells (flat ns) := fun H2 k => (k.obj _ (t.l1 hne)).trans (t.b1 hne)
    have hat := flat_at hm
    have hfl := flat_len ns
    have hle2 : i * 11 + 11 ≤ ns.length * 11 := by omega
    have w1 : IntKind.i64.wrap (i : Int) = (i : Int) := i64w (by omega) (by omega)
    have c1 : ¬ ((i : Int) + 1 ≤ 0) := by omega
    have c2 : (i : Int) + 1 < len := by omega
    have c3 : (i : Int) < ns.length := by omega
    have t1 : ((i : Int) + 1).toNat = i + 1 := by omega
    have p1 : (0 : Int) < (i : Int) + 1 := by omega
    have mk := marks_at (v := v1) (j := i + 1) (by omega)
    have hfin : (markT ns n v).getD (i + 1) false = v1.getD (i + 1) false := by rw [← hmk]; exact markT_high kok hik (i + 1) (Nat.le_refl _)
    rw [outT_succ (i := i + 1) _ (by omega), hfin] at hok
    rw [markT] at hmk
    cases hx : v1.getD (i + 1) false with
    | false =>
      rw [hx] at mk hok
      rw [mark1T, hx] at hmk
      simp (maxDischargeDepth := 20) [hf, f6, f7, e5, w1, z1, k1, c2, t1, p1, ho, mk]
      exact ⟨i, by omega, by omega, by omega, v1, hl1, rfl, bk, hout, hob, by omega, by simpa using hok, rfl, by simpa using hmk⟩
    | true =>
      rw [hx] at mk hok
      rw [mark1T, hx, hg] at hmk
      obtain ⟨op, sort, a, b, d, p, q, vw, vl, vh, name⟩ := m
      simp only at a0 a1 b0 b1 d0 d1 hmk
      simp only [Nd.cs] at hat
      obtain ⟨a, rfl⟩ := Int.eq_ofNat_of_zero_le a0
      obtain ⟨b, rfl⟩ := Int.eq_ofNat_of_zero_le b0
      obtain ⟨d, rfl⟩ := Int.eq_ofNat_of_zero_le d0
      have q4 : (a : Int) < (len : Int) := by omega
      have q5 : (b : Int) < (len : Int) := by omega
      have q6 : (d : Int) < (len : Int) := by omega
      have n4 : a < len := by omega
      have n5 : b < len := by omega
      have n6 : d < len := by omega
      simp (maxDischargeDepth := 20) [-List.map_set, hf, f6, f7, e5, c2, t1, p1, ho, mk]
      generalize hA : appU _ _ _ _ = qq
      obtain ⟨w', H2, rfl, h2, k2, ob2, z2, o2⟩ := hout.push2 hob k1 z1 (by omega) hA
      have ho2 := o2.trans ho
      have z3 : H0.size ≤ H2.size := Nat.le_of_lt z2
      have nz : ¬ H0.size = H2.size := Nat.ne_of_lt z2
      have hs2 := hself H2 k2
      have hbb2 := hb1 H2 k2
      have lo2 : ¬ o = H2.size := Nat.ne_of_lt (k2.lt (t.l1 hne))
      simp (maxDischargeDepth := 20) [-List.map_set, hf, f7, e0, e5, hs2, hbb2, hat, hfl, hle2, w1, z2, z3, nz, k2, c3, ho2, q4, q5, q6, n4, n5, n6, marks_set, hl1]
      have F2 : Fr [H0.size] H2 (((((H2.new (.cells [.int .i64 0, .int .i64 0, .int .i64 0, .int .i64 0, .int .i64 0, .int .i64 0, .int .i64 0, .int .i64 0, u 0#64, u 0#64, .str .empty])).set H2.size (.cells [.int .i64 op, .int .i64 sort, .int .i64 a, .int .i64 b, .int .i64 d, .int .i64 p, .int .i64 q, .int .i64 vw, u vl, u vh, .str name])).set H0.size (.cells ((v1.set a true).map .bool))).set H0.size (.cells (((v1.set a true).set b true).map .bool))).set H0.size (.cells ((((v1.set a true).set b true).set d true).map .bool))) :=
        (((((Fr.refl _ _).new _).set (.inr (Nat.le_refl _)) _).set (.inl (by simp)) _).set (.inl (by simp)) _).set (.inl (by simp)) _
      refine ⟨i, by omega, by omega, by omega, _, by simp [hl1], rfl, bk ++ [(i : Int) + 1], h2.fr F2 (fun p hp => by have := ob2 p hp; simp; omega), ob2, by simp; omega, ?_, rfl, by simpa using hmk⟩
      rw [hok]; simp
  
theorem rcone_loop1 {H0 H : AHeap} {w : AV} {bk : List Int} (hw : OutT H0 H w bk) (hm : bk.length ≤ 100000) (k0 : Keeps H0 H) {e : Env} {r : Rn} (hL : loopL Go.Proofs.Try.prog KT R l_plait_plaitref3_Graph_Cone_1 e H = r)
    (e6 : e 6 = some w) (e9 : e 9 = some .nils) (e10 : e 10 = some (.int .i64 ((bk.length : Int) - 1))) :
    ∃ x e' H', r = some (x, e', H') ∧ (x = .exit 2 ∧ Keeps H0 H' ∧ ∃ w, e' 9 = some w ∧ OutT H0 H' w bk.reverse) ∧ ∀ t, t ∉ defs l_plait_plaitref3_Graph_Cone_1 → e' t = e t := by
  refine loop_rule l_plait_plaitref3_Graph_Cone_1.eq_1 hL (fun i e1 H1 => ∃ u, i ≤ bk.length ∧ e1 10 = some (.int .i64 ((i : Int) - 1)) ∧ e1 9 = some u ∧ Keeps H H1 ∧ OutT H H1 u (bk.drop i).reverse) _ bk.length ⟨.nils, Nat.le_refl _, e10, e9, Keeps.refl _, by simpa using (⟨RI.nils, by simp, by simp⟩ : OutT H H .nils [])⟩ ?_
  rintro i e1 H1 hf ⟨u, hi, f10, f9, k1, hout⟩
  cases i with
  | zero =>
    have c : ¬ (0 : Int) ≤ ((0 : Nat) : Int) - 1 := by omega
    simp [f10]
    exact ⟨k0.trans k1, u, f9, by
      rw [List.drop_zero] at hout
      exact ⟨hout.rd, hout.gr, fun p hp => Nat.le_trans k0.size (hout.new p hp)⟩⟩
  | succ i =>
    have hi' : i < bk.length := hi
    obtain ⟨a1, a2⟩ := loadi_of hw.rd hi'
    replace a2 := a2 H1 k1
    have w1 : IntKind.i64.wrap ((i : Int) - 1) = (i : Int) - 1 := i64w (by omega) (by omega)
    have e1i : ((i : Int) + 1 - 1) = (i : Int) := by omega
    have c1 : (0 : Int) ≤ (i : Int) := by omega
    have hd : bk.drop i = bk.getD i 0 :: bk.drop (i + 1) := by rw [List.drop_eq_getElem_cons hi']; simp [List.getD_eq_getElem?_getD, hi']
    have hdl : (bk.drop (i + 1)).reverse.length ≤ 1000000 := by simp; omega
    simp (maxDischargeDepth := 20) [hf, e6, f9, f10, e1i, a1, a2]
    generalize hA : appU _ _ _ _ = q
    obtain ⟨w', H2, rfl, h2, k2⟩ := hout.push k1 hdl hA
    simp (maxDischargeDepth := 20) [f10, w1]
    exact ⟨i, by omega, by omega, rfl, k2, by rw [hd, List.reverse_cons]; exact h2⟩

theorem rcone_run {H : AHeap} {g : Nat} {most : Int} {ns : List Nd} {F : List Nat} (G : GR H g most ns F) {id : Int} : ∃ v, R f_plait_plaitref3_Graph_Cone [.ptr g 0, .int .i64 id] H = some (v, H) ∧ ∀ H', RI H' v (coneT ns id) := by
  obtain ⟨o, t, v, kok, rfl⟩ := G
  rw [e_plait_plaitref3_Graph_Cone]
  have hlen := slv_len o ns
  have lim := t.lim
  have lim2 := t.lim2
  have og := t.og
  unfold coneT
  by_cases c1 : id < 1
  · rw [if_pos (.inl c1)]
    simp (maxDischargeDepth := 40) [c_plait_plaitref3_Graph_Cone, c1]
    exact fun _ => RI.nils
  by_cases c2 : (ns.length : Int) < id
  · rw [if_pos (.inr c2)]
    simp (maxDischargeDepth := 40) [c_plait_plaitref3_Graph_Cone, c1, c2, og, hlen]
    exact fun _ => RI.nils
  rw [if_neg (by omega)]
  obtain ⟨n, rfl⟩ : ∃ n : Nat, id = (n : Int) := ⟨id.toNat, by omega⟩
  have hnl : n ≤ ns.length := by omega
  have w1 : IntKind.i64.wrap ((n : Int) + 1) = (n : Int) + 1 := i64w (by omega) (by omega)
  have c3 : (n : Int) + 1 ≤ 140737488355328 := by omega
  have c4 : (n : Int) + 1 ≤ 9223372036854775807 := by omega
  have c5 : n < n + 1 := by omega
  have c6 : (n : Int) < (n : Int) + 1 := by omega
  have c7 : (0 : Int) ≤ (n : Int) + 1 := by omega
  simp (maxDischargeDepth := 40) [c_plait_plaitref3_Graph_Cone, c1, c2, og, hlen, w1, c3, c4, c5, c6, c7]
  generalize hL : loopL _ _ _ _ _ _ = q
  obtain ⟨x, e1, H1, rfl, ⟨rfl, k1, w, bk, e6, hout, hbk, hbl⟩, fr1⟩ := rcone_loop0 t kok hL (by simp) (by simp) (n := n) (v := (List.replicate (n + 1) false).set n true) (len := n + 1) (by simp) (by omega) hnl (by rw [List.map_set]; simp) (by simp) (by simp) (by simp) (by simp)
  have hbl2 := hout.rd.len
  have w2 : IntKind.i64.wrap ((bk.length : Int) - 1) = (bk.length : Int) - 1 := i64w (by omega) (by omega)
  simp (maxDischargeDepth := 40) [e6, hbl2, w2]
  generalize hL2 : loopL _ _ _ _ _ _ = q
  obtain ⟨x, e2, H2, rfl, ⟨rfl, k2, w2, e9, hout2⟩, fr2⟩ := rcone_loop1 hout (by omega) k1 hL2 (by simp [e6]) (by simp) (by simp)
  simp (maxDischargeDepth := 40) [e9]
  rw [← hbk] at hout2
  exact back_ints2 k2 hout2
end Go.Proofs.Ytphkkcocimmmfaa
