/- Texts TY EY EZ EZR EZC EK TZ TZ2 TZ3 TZ4 TW EL EM EN LEE TVB LEEV of this claim, one behind the other. -/
import Derived.Test.YtiaoojghohfkjaaGreatK7
section
namespace Go.Proofs.YtiaoojghohfkjaaGreat
set_option maxRecDepth 100000
set_option maxHeartbeats 4000000
theorem OutT.fr {H0 A B : AHeap} {F : List Nat} {v : AV} {l : List Int} (h : OutT H0 A v l) (k : Fr F A B) (hF : ∀ p, p ∈ objs v → p ∉ F) : OutT H0 B v l := by
  refine ⟨Reads.fr h.rd k ?_, h.gr, h.new⟩
  cases v <;> first | trivial | exact hF _ (by simp)
theorem mark1T_high {ns : List Nd} (kok : Kok ns) {n j : Nat} (hn : n < ns.length) (hj : n < j) {v : List Bool} : (mark1T ns n v).getD j false = v.getD j false := by
  obtain ⟨m, hm⟩ : ∃ m, ns[n]? = some m := ⟨ns[n], List.getElem?_eq_getElem hn⟩
  have hg : ns.getD n Nd.zero = m := by simp [List.getD_eq_getElem?_getD, hm]
  obtain ⟨⟨a0, a1⟩, ⟨b0, b1⟩, ⟨d0, d1⟩⟩ := kok n m hm
  unfold mark1T
  rw [hg]
  split
  · simp only [List.getD_eq_getElem?_getD]
    rw [List.getElem?_set_ne (by omega), List.getElem?_set_ne (by omega), List.getElem?_set_ne (by omega)]
  · rfl
theorem markT_high {ns : List Nd} (kok : Kok ns) : ∀ {n : Nat} {v : List Bool}, n ≤ ns.length → ∀ j, n ≤ j → (markT ns n v).getD j false = v.getD j false
  | 0, _, _, _, _ => rfl
  | n + 1, v, hn, j, hj => by rw [markT, markT_high kok (by omega) j (by omega), mark1T_high kok hn (by omega)]
theorem rcone_loop0 {H0 H : AHeap} {g : Nat} {most : Int} {ns : List Nd} {o : Nat} (t : RG H0 g most ns o) (kok : Kok ns) {e : Env} {r : Rn} (hL : loopL Tryz.prog KT R Zbk e H = r)
    (k0 : Keeps H0 H) (z : H0.size < H.size) {n len : Nat} {v : List Bool} (hl : v.length = len) (hn : n < len) (hnk : n ≤ ns.length) (hv : H.obj H0.size = .cells (v.map .bool))
    (e0 : e 0 = some (.ptr g 0)) (e5 : e 5 = some (.row H0.size 0 1 len true)) (e6 : e 6 = some .nils) (e7 : e 7 = some (.int .i64 n)) :
    ∃ x e' H', r = some (x, e', H') ∧ (x = .exit 0 ∧ Keeps H0 H' ∧ ∃ w bk, e' 6 = some w ∧ OutT H0 H' w bk ∧ outT (markT ns n v) (n + 1) = bk.reverse ∧ bk.length ≤ n) ∧ ∀ t, t ∉ defs Zbk → e' t = e t := by
  have lim := t.lim
  have lim2 := t.lim2
  have hw0 : OutT H0 H .nils [] := ⟨RI.nils, by simp, by simp⟩
  refine loop_rule Zbk.eq_1 hL (fun i e1 H1 => ∃ v1 : List Bool, ∃ w bk, i < len ∧ i ≤ ns.length ∧ v1.length = len ∧ e1 7 = some (.int .i64 i) ∧ e1 6 = some w ∧ OutT H0 H1 w bk ∧ (∀ p, p ∈ objs w → H0.size < p) ∧ bk.length + i ≤ n ∧ outT (markT ns n v) (n + 1) = outT (markT ns n v) (i + 1) ++ bk.reverse ∧ Keeps H0 H1 ∧ H0.size < H1.size ∧ H1.obj H0.size = .cells (v1.map .bool) ∧ markT ns i v1 = markT ns n v) _ n ⟨v, .nils, [], hn, hnk, hl, e7, e6, hw0, by simp, by simp, by simp, k0, z, hv, rfl⟩ ?_
  rintro i e1 H1 hf ⟨v1, w, bk, hi, hik, hl1, f7, f6, hout, hob, hci, hok, k1, z1, ho, hmk⟩
  cases i with
  | zero =>
    simp [f7]
    exact ⟨k1, w, f6, bk, hout, by rw [hok, outT_one, List.nil_append], by omega⟩
  | succ i =>
    have hik' : i < ns.length := hik
    have hne : ns ≠ [] := by rintro rfl; simp at hik'
    obtain ⟨m, hm⟩ : ∃ m, ns[i]? = some m := ⟨ns[i], List.getElem?_eq_getElem hik'⟩
    have hg : ns.getD i Nd.zero = m := by simp [List.getD_eq_getElem?_getD, hm]
    obtain ⟨⟨a0, a1⟩, ⟨b0, b1⟩, ⟨d0, d1⟩⟩ := kok i m hm
    have hself : ∀ H', Keeps H0 H' → H'.obj g = .cells [.row o 0 11 ns.length false, .int .i64 most] := fun H' k => ((k.obj g t.lg).trans t.og).trans (by rw [slv_row hik'])
    have hb1 : ∀ H2, Keeps H0 H2 → H2.obj o = .cells (flat ns) := fun H2 k => (k.obj _ (t.l1 hne)).trans (t.b1 hne)
    have hat := flat_at hm
    have hfl := flat_len ns
    have hle2 : i * 11 + 11 ≤ ns.length * 11 := by omega
    have w1 : IntKind.i64.wrap (i : Int) = (i : Int) := i64w (by omega) (by omega)
    have c1 : ¬ ((i : Int) + 1 ≤ 0) := by omega
    have c2 : (i : Int) + 1 < len := by omega
    have c3 : (i : Int) < ns.length := by omega
    have t1 : ((i : Int) + 1).toNat = i + 1 := by omega
    have p1 : (0 : Int) < (i : Int) + 1 := by omega
    have mk := marks_at (v := v1) (j := i + 1) (by omega)
    have hfin : (markT ns n v).getD (i + 1) false = v1.getD (i + 1) false := by rw [← hmk]; exact markT_high kok hik (i + 1) (Nat.le_refl _)
    rw [outT_succ (i := i + 1) _ (by omega), hfin] at hok
    rw [markT] at hmk
    cases hx : v1.getD (i + 1) false with
    | false =>
      rw [hx] at mk hok
      rw [mark1T, hx] at hmk
      simp (maxDischargeDepth := 20) [hf, f6, f7, e5, w1, z1, k1, c2, t1, p1, ho, mk]
      exact ⟨i, by omega, by omega, by omega, v1, hl1, rfl, bk, hout, hob, by omega, by simpa using hok, rfl, by simpa using hmk⟩
    | true =>
      rw [hx] at mk hok
      rw [mark1T, hx, hg] at hmk
      obtain ⟨op, sort, a, b, d, p, q, vw, vl, vh, name⟩ := m
      simp only at a0 a1 b0 b1 d0 d1 hmk
      simp only [Nd.cs] at hat
      obtain ⟨a, rfl⟩ := Int.eq_ofNat_of_zero_le a0
      obtain ⟨b, rfl⟩ := Int.eq_ofNat_of_zero_le b0
      obtain ⟨d, rfl⟩ := Int.eq_ofNat_of_zero_le d0
      have q4 : (a : Int) < (len : Int) := by omega
      have q5 : (b : Int) < (len : Int) := by omega
      have q6 : (d : Int) < (len : Int) := by omega
      have n4 : a < len := by omega
      have n5 : b < len := by omega
      have n6 : d < len := by omega
      simp (maxDischargeDepth := 20) [-List.map_set, hf, f6, f7, e5, c2, t1, p1, ho, mk]
      generalize hA : appU _ _ _ _ = qq
      obtain ⟨w', H2, rfl, h2, k2, ob2, z2, o2⟩ := hout.push2 hob k1 z1 (by omega) hA
      have ho2 := o2.trans ho
      have z3 : H0.size ≤ H2.size := Nat.le_of_lt z2
      have nz : ¬ H0.size = H2.size := Nat.ne_of_lt z2
      have hs2 := hself H2 k2
      have hbb2 := hb1 H2 k2
      have lo2 : ¬ o = H2.size := Nat.ne_of_lt (k2.lt (t.l1 hne))
      simp (maxDischargeDepth := 20) [-List.map_set, hf, f7, e0, e5, hs2, hbb2, hat, hfl, hle2, w1, z2, z3, nz, k2, c3, ho2, q4, q5, q6, n4, n5, n6, marks_set, hl1]
      have F2 : Fr [H0.size] H2 (((((H2.new (.cells [.int .i64 0, .int .i64 0, .int .i64 0, .int .i64 0, .int .i64 0, .int .i64 0, .int .i64 0, .int .i64 0, u 0#64, u 0#64, .str .empty])).set H2.size (.cells [.int .i64 op, .int .i64 sort, .int .i64 a, .int .i64 b, .int .i64 d, .int .i64 p, .int .i64 q, .int .i64 vw, u vl, u vh, .str name])).set H0.size (.cells ((v1.set a true).map .bool))).set H0.size (.cells (((v1.set a true).set b true).map .bool))).set H0.size (.cells ((((v1.set a true).set b true).set d true).map .bool))) :=
        (((((Fr.refl _ _).new _).set (.inr (Nat.le_refl _)) _).set (.inl (by simp)) _).set (.inl (by simp)) _).set (.inl (by simp)) _
      refine ⟨i, by omega, by omega, by omega, _, by simp [hl1], rfl, bk ++ [(i : Int) + 1], h2.fr F2 (fun p hp => by have := ob2 p hp; simp; omega), ob2, by simp; omega, ?_, rfl, by simpa using hmk⟩
      rw [hok]; simp
  
theorem rcone_loop1 {H0 H : AHeap} {w : AV} {bk : List Int} (hw : OutT H0 H w bk) (hm : bk.length ≤ 100000) (k0 : Keeps H0 H) {e : Env} {r : Rn} (hL : loopL Tryz.prog KT R Zbl e H = r)
    (e6 : e 6 = some w) (e9 : e 9 = some .nils) (e10 : e 10 = some (.int .i64 ((bk.length : Int) - 1))) :
    ∃ x e' H', r = some (x, e', H') ∧ (x = .exit 2 ∧ Keeps H0 H' ∧ ∃ w, e' 9 = some w ∧ OutT H0 H' w bk.reverse) ∧ ∀ t, t ∉ defs Zbl → e' t = e t := by
  refine loop_rule Zbl.eq_1 hL (fun i e1 H1 => ∃ u, i ≤ bk.length ∧ e1 10 = some (.int .i64 ((i : Int) - 1)) ∧ e1 9 = some u ∧ Keeps H H1 ∧ OutT H H1 u (bk.drop i).reverse) _ bk.length ⟨.nils, Nat.le_refl _, e10, e9, Keeps.refl _, by simpa using (⟨RI.nils, by simp, by simp⟩ : OutT H H .nils [])⟩ ?_
  rintro i e1 H1 hf ⟨u, hi, f10, f9, k1, hout⟩
  cases i with
  | zero =>
    have c : ¬ (0 : Int) ≤ ((0 : Nat) : Int) - 1 := by omega
    simp [f10]
    exact ⟨k0.trans k1, u, f9, by
      rw [List.drop_zero] at hout
      exact ⟨hout.rd, hout.gr, fun p hp => Nat.le_trans k0.size (hout.new p hp)⟩⟩
  | succ i =>
    have hi' : i < bk.length := hi
    obtain ⟨a1, a2⟩ := loadi_of hw.rd hi'
    replace a2 := a2 H1 k1
    have w1 : IntKind.i64.wrap ((i : Int) - 1) = (i : Int) - 1 := i64w (by omega) (by omega)
    have e1i : ((i : Int) + 1 - 1) = (i : Int) := by omega
    have c1 : (0 : Int) ≤ (i : Int) := by omega
    have hd : bk.drop i = bk.getD i 0 :: bk.drop (i + 1) := by rw [List.drop_eq_getElem_cons hi']; simp [List.getD_eq_getElem?_getD, hi']
    have hdl : (bk.drop (i + 1)).reverse.length ≤ 1000000 := by simp; omega
    simp (maxDischargeDepth := 20) [hf, e6, f9, f10, e1i, a1, a2]
    generalize hA : appU _ _ _ _ = q
    obtain ⟨w', H2, rfl, h2, k2⟩ := hout.push k1 hdl hA
    simp (maxDischargeDepth := 20) [f10, w1]
    exact ⟨i, by omega, by omega, rfl, k2, by rw [hd, List.reverse_cons]; exact h2⟩
theorem rcone_run {H : AHeap} {g : Nat} {most : Int} {ns : List Nd} {F : List Nat} (G : GR H g most ns F) {id : Int} : ∃ v, R Zbr [.ptr g 0, .int .i64 id] H = some (v, H) ∧ ∀ H', RI H' v (coneT ns id) := by
  obtain ⟨o, t, v, kok, rfl⟩ := G
  rw [Zg6]
  have hlen := slv_len o ns
  have lim := t.lim
  have lim2 := t.lim2
  have og := t.og
  unfold coneT
  by_cases c1 : id < 1
  · rw [if_pos (.inl c1)]
    simp (maxDischargeDepth := 40) [Zcg, c1]
    exact fun _ => RI.nils
  by_cases c2 : (ns.length : Int) < id
  · rw [if_pos (.inr c2)]
    simp (maxDischargeDepth := 40) [Zcg, c1, c2, og, hlen]
    exact fun _ => RI.nils
  rw [if_neg (by omega)]
  obtain ⟨n, rfl⟩ : ∃ n : Nat, id = (n : Int) := ⟨id.toNat, by omega⟩
  have hnl : n ≤ ns.length := by omega
  have w1 : IntKind.i64.wrap ((n : Int) + 1) = (n : Int) + 1 := i64w (by omega) (by omega)
  have c3 : (n : Int) + 1 ≤ 140737488355328 := by omega
  have c4 : (n : Int) + 1 ≤ 9223372036854775807 := by omega
  have c5 : n < n + 1 := by omega
  have c6 : (n : Int) < (n : Int) + 1 := by omega
  have c7 : (0 : Int) ≤ (n : Int) + 1 := by omega
  simp (maxDischargeDepth := 40) [Zcg, c1, c2, og, hlen, w1, c3, c4, c5, c6, c7]
  generalize hL : loopL _ _ _ _ _ _ = q
  obtain ⟨x, e1, H1, rfl, ⟨rfl, k1, w, bk, e6, hout, hbk, hbl⟩, fr1⟩ := rcone_loop0 t kok hL (by simp) (by simp) (n := n) (v := (List.replicate (n + 1) false).set n true) (len := n + 1) (by simp) (by omega) hnl (by rw [List.map_set]; simp) (by simp) (by simp) (by simp) (by simp)
  have hbl2 := hout.rd.len
  have w2 : IntKind.i64.wrap ((bk.length : Int) - 1) = (bk.length : Int) - 1 := i64w (by omega) (by omega)
  simp (maxDischargeDepth := 40) [e6, hbl2, w2]
  generalize hL2 : loopL _ _ _ _ _ _ = q
  obtain ⟨x, e2, H2, rfl, ⟨rfl, k2, w2, e9, hout2⟩, fr2⟩ := rcone_loop1 hout (by omega) k1 hL2 (by simp [e6]) (by simp) (by simp)
  simp (maxDischargeDepth := 40) [e9]
  rw [← hbk] at hout2
  exact back_ints2 k2 hout2
end Go.Proofs.YtiaoojghohfkjaaGreat
end
section
namespace Go.Proofs.YtiaoojghohfkjaaGreat
set_option maxRecDepth 100000
set_option maxHeartbeats 4000000
theorem const_reads' {v : AV} {sz n : Nat} {cs : List AV} (h : ∀ H, Reads H v sz n cs) : n = 0 ∨ v = .lst sz n cs := by
  obtain ⟨h1, h2, h3, h4⟩ := h ⟨0, fun _ => .dead, fun _ => 0⟩
  cases v <;> first | (exact h4.elim) | skip
  · simp [sliceLen] at h1; exact .inl (by omega)
  · exact absurd h4.2 (by simp)
  · right
    have h4 : _ = sz := h4
    subst h4
    simp [sliceLen] at h1
    simp [sliceCells] at h2
    rw [h1, h2]
theorem flatN_get' {l : List Nm} {i : Nat} {n : Nm} (h : l[i]? = some n) : (flatN l)[i * 4]? = some (.str n.name) ∧ ((flatN l).drop (i * 4 + 1)).take 3 = [.int .i64 n.v.w, u (lo n.v.n), u (hi n.v.n)] := by
  have h4 := flatN_at h
  constructor
  · have := congrArg (fun l => l[0]?) h4
    simp only [Nm.cs, List.getElem?_cons_zero] at this
    rw [← this, List.getElem?_take_of_lt (by omega), List.getElem?_drop]
    simp
  · have := congrArg (fun l => l.drop 1) h4
    simp only [Nm.cs, Vl.cs, List.drop_succ_cons, List.drop_zero] at this
    rw [← this, List.drop_take, List.drop_drop]
theorem find_loop {H : AHeap} {v : AV} {l : List Nm} (hv : ∀ H, RN H v l) (hm : l.length ≤ 1000000) {s : ByteArray} {o4 : Nat} (lo4 : o4 < H.size) (o4' : H.obj o4 = .cells [.int .i64 0, u 0#64, u 0#64]) {e : Env} {r : Rn} (hL : loopL Tryz.prog KT R Zea e H = r)
    (e0 : e 0 = some v) (e1 : e 1 = some (.str s)) (e4 : e 4 = some (.ptr o4 0)) (e6 : e 6 = some (.int .i64 0)) :
    ∃ y e' H', r = some (y, e', H') ∧ ((lookL l s = none ∧ H' = H ∧ y = .exit 0) ∨ ∃ w, lookL l s = some w ∧ y = .ret ∧ H' = H.set o4 (.cells [.int .i64 w.w, u (lo w.n), u (hi w.n)]) ∧ e' 5 = some (.bool true)) ∧ ∀ t, t ∉ defs Zea → e' t = e t := by
  refine loop_count Zea.eq_1 hL l.length (fun i e1 H1 => e1 6 = some (.int .i64 i) ∧ H1 = H ∧ lookL (l.take i) s = none) _ 0 (Nat.zero_le _) ⟨e6, rfl, by simp [lookL]⟩ ?_ ?_
  · rintro i f H1 hf - hi ⟨f6, rfl, hn⟩
    have w1 : IntKind.i64.wrap ((i : Int) + 1) = (i : Int) + 1 := i64w (by omega) (by omega)
    have c1 : (i : Int) < l.length := by omega
    obtain ⟨x, hx⟩ : ∃ x, l[i]? = some x := ⟨l[i], by simp [hi]⟩
    have hvc : v = .lst 4 l.length (flatN l) := (const_reads' hv).resolve_left (by omega)
    obtain ⟨g1, g2⟩ := flatN_get' hx
    have hfl := flatN_len l
    have hle : i * 4 + 1 + 3 ≤ l.length * 4 := by omega
    have ht : l.take (i + 1) = l.take i ++ [x] := by rw [List.take_add_one, hx]; rfl
    by_cases c : x.name = s
    · have hl : lookL l s = some x.v := by
        rw [← List.take_append_drop (i + 1) l, ht, List.append_assoc]
        unfold lookL at hn ⊢
        rw [List.find?_append]
        have hn' : (l.take i).find? (fun n => decide (n.name = s)) = none := by simpa using hn
        rw [hn']
        simp [c]
      simp (maxDischargeDepth := 20) [hf, e0, e1, e4, f6, hvc, c1, hfl, g1, g2, hle, c, o4']
      exact ⟨x.v, hl, rfl⟩
    · have c' : ¬ s = x.name := fun h => c h.symm
      have hl : lookL (l.take i ++ [x]) s = none := by rw [lookL_snoc, hn, if_neg c']; rfl
      simp (maxDischargeDepth := 20) [hf, e0, e1, f6, hvc, c1, g1, w1, c]
      rw [ht]
      exact hl
  · rintro f H1 hf ⟨f6, rfl, hn⟩
    rw [List.take_of_length_le (Nat.le_refl _)] at hn
    have hlen := (hv H1).len
    simp [hf, e0, f6, hlen]
    exact hn
theorem find_run {H : AHeap} {v : AV} {l : List Nm} (hv : ∀ H, RN H v l) (hm : l.length ≤ 1000000) {s : ByteArray} : R Zev [v, .str s] H = some (.tup [((lookL l s).getD Vl.zero).av, .bool (lookL l s).isSome], H) := by
  rw [Zj7]
  simp (maxDischargeDepth := 40) [Zh8]
  generalize hL : loopL _ _ _ _ _ _ = q
  obtain ⟨y, e1, H1, rfl, hy, fr⟩ := find_loop hv hm (s := s) (o4 := H.size) (by simp) (by simp) hL (by simp) (by simp) (by simp) (by simp)
  rcases hy with ⟨hl, rfl, rfl⟩ | ⟨w, hl, rfl, rfl, e5⟩
  · rw [hl]
    simp (maxDischargeDepth := 40) [fr, Vl.zero]
  · rw [hl]
    simp (maxDischargeDepth := 40) [fr, e5]
end Go.Proofs.YtiaoojghohfkjaaGreat
end
section
namespace Go.Proofs.YtiaoojghohfkjaaGreat
set_option maxRecDepth 100000
set_option maxHeartbeats 4000000
theorem flatV_drop (l : List Vl) : ∀ k, flatV (l.drop k) = (flatV l).drop (k * 3) := by
  induction l with
  | nil => intro k; simp [flatV]
  | cons x l ih =>
    intro k
    cases k with
    | zero => simp [flatV]
    | succ k =>
      rw [show (k + 1) * 3 = k * 3 + 3 from by omega]
      simpa [flatV, Vl.cs] using ih k
theorem flatV_app (l m : List Vl) : flatV (l ++ m) = flatV l ++ flatV m := by simp [flatV]
theorem flatV_set {l : List Vl} {k : Nat} (hk : k < l.length) (x : Vl) : (flatV l).take (k * 3) ++ (.int .i64 x.w :: u (lo x.n) :: u (hi x.n) :: (flatV l).drop (k * 3 + 3)) = flatV (l.set k x) := by
  rw [List.set_eq_take_append_cons_drop, if_pos hk, flatV_app, flatV_take, show k * 3 + 3 = (k + 1) * 3 from by omega, ← flatV_drop]
  simp [flatV, Vl.cs]
theorem flatV_zero (n : Nat) : flatV (List.replicate n Vl.zero) = (List.replicate n [AV.int .i64 0, u 0#64, u 0#64]).flatten := by
  induction n with
  | zero => rfl
  | succ n ih =>
    rw [List.replicate_succ, List.replicate_succ, List.flatten_cons, ← ih]
    rfl
def ValL (L : List Vl) (look : ByteArray → Option Vl) (ns : List Nd) (c : List Int) : Prop := ∀ k, k < L.length → L.getD k Vl.zero = if (k : Int) ∈ c then V look ns k else Vl.zero
theorem ValL.at {L : List Vl} {look : ByteArray → Option Vl} {ns : List Nd} {c : List Int} (h : ValL L look ns c) {k : Int} (h0 : 0 ≤ k) (hk : k.toNat < L.length) (hc : k ∈ c ∨ k ≤ 0) : L[k.toNat]? = some (V look ns k) := by
  obtain ⟨k, rfl⟩ := Int.eq_ofNat_of_zero_le h0
  simp only [Int.toNat_natCast] at hk ⊢
  have := h k hk
  rw [List.getD_eq_getElem?_getD, List.getElem?_eq_getElem hk] at this
  rw [List.getElem?_eq_getElem hk]
  simp only [Option.getD_some] at this
  rw [this]
  by_cases e : (k : Int) ∈ c
  · rw [if_pos e]
  · rw [if_neg e, V_zero _ _ (hc.resolve_left e)]
theorem ValL.add {L : List Vl} {look : ByteArray → Option Vl} {ns : List Nd} {c : List Int} (h : ValL L look ns c) {k : Nat} (hk : k < L.length) : ValL (L.set k (V look ns k)) look ns (c ++ [(k : Int)]) := by
  intro j hj
  rw [List.length_set] at hj
  rw [List.getD_eq_getElem?_getD, List.getElem?_set]
  by_cases e : k = j
  · subst e
    simp [hk]
  · have := h j hj
    rw [List.getD_eq_getElem?_getD] at this
    have e' : ¬ (j : Int) = k := fun h => e (by omega)
    simp only [e, if_false, List.mem_append, List.mem_singleton, e', or_false]
    exact this
theorem cone_le {ns : List Nd} {a x : Int} (h : x ∈ coneT ns a) : x ≤ a := by
  unfold coneT at h
  split at h
  · cases h
  · rename_i c
    unfold outT at h
    simp only [List.mem_map, List.mem_filter, List.mem_range] at h
    obtain ⟨k, ⟨h1, -⟩, rfl⟩ := h
    omega
theorem reval_loop {H0 H : AHeap} {g : Nat} {most : Int} {ns : List Nd} {F : List Nat} (G : GR H0 g most ns F) (gok : Gok ns) {env : List Nm} {ev : AV} (hev : ∀ H, RN H ev env) (hel : env.length ≤ 1000000)
    {id : Int} (h1 : 1 ≤ id) (hid : id ≤ ns.length) {s : AV} (k0 : Keeps H0 H) (z : H0.size + 1 < H.size)
    (o6 : H.obj H0.size = .cells [.int .i64 0, u 0#64, u 0#64]) (ob : H.obj (H0.size + 1) = .cells (flatV (List.replicate (id.toNat + 1) Vl.zero)))
    {e : Env} {r : Rn} (hL : loopL Tryz.prog KT R Zd9 e H = r) (e0 : e 0 = some (.ptr g 0)) (e2 : e 2 = some ev) (e6 : e 6 = some (.ptr H0.size 0)) (e8 : e 8 = some s) (e9 : e 9 = some (.row (H0.size + 1) 0 3 (id.toNat + 1) true)) (e10 : e 10 = some (.int .i64 0)) (hs : ∀ H', RI H' s (coneT ns id)) :
    ∃ y e' H', r = some (y, e', H') ∧ (((coneT ns id).any (unfit (lookL env) ns) = false ∧ y = .exit 0 ∧ Keeps H0 H' ∧ H0.size + 1 < H'.size ∧ H'.obj H0.size = .cells [.int .i64 0, u 0#64, u 0#64] ∧ ∃ L, L.length = id.toNat + 1 ∧ H'.obj (H0.size + 1) = .cells (flatV L) ∧ ValL L (lookL env) ns (coneT ns id)) ∨
      ((coneT ns id).any (unfit (lookL env) ns) = true ∧ y = .ret ∧ Keeps H0 H' ∧ H0.size + 1 < H'.size ∧ H'.obj H0.size = .cells [.int .i64 0, u 0#64, u 0#64] ∧ e' 7 = some (.int .i64 41))) ∧ ∀ t, t ∉ defs Zd9 → e' t = e t := by
  obtain ⟨N, hN⟩ : ∃ N, N = coneT ns id := ⟨_, rfl⟩
  obtain ⟨o, t, vok, kok, rfl⟩ := G
  have lim := t.lim
  have lim2 := t.lim2
  have hlen : N.length ≤ 5000 := by
    rw [hN]
    unfold coneT
    rw [if_neg (by omega)]
    have := outT_len (coneM ns id.toNat) (id.toNat + 1)
    omega
  have hne : ns ≠ [] := by rintro rfl; simp at hid; omega
  have hnz : 0 < ns.length := by omega
  have hself : ∀ H', Keeps H0 H' → H'.obj g = .cells [.row o 0 11 ns.length false, .int .i64 most] := fun H' k => ((k.obj g t.lg).trans t.og).trans (by rw [slv_row hnz])
  have hb1 : ∀ H2, Keeps H0 H2 → H2.obj o = .cells (flat ns) := fun H2 k => (k.obj _ (t.l1 hne)).trans (t.b1 hne)
  have lo1 := t.l1 hne
  have lg := t.lg
  obtain ⟨M, hM⟩ : ∃ M, M = id.toNat + 1 := ⟨_, rfl⟩
  rw [← hN] at hs ⊢
  rw [← hM] at e9 ob ⊢
  refine loop_count Zd9.eq_1 hL N.length (fun i e1 H1 => e1 10 = some (.int .i64 i) ∧ (∀ x, x ∈ N.take i → unfit (lookL env) ns x = false) ∧ Keeps H0 H1 ∧ H0.size + 1 < H1.size ∧ H1.obj H0.size = .cells [.int .i64 0, u 0#64, u 0#64] ∧ ∃ L, L.length = M ∧ H1.obj (H0.size + 1) = .cells (flatV L) ∧ ValL L (lookL env) ns (N.take i)) _ 0 (by omega)
    ⟨e10, by simp, k0, z, o6, List.replicate M Vl.zero, by simp, ob, fun k hk => by simp at hk ⊢; simp [hk]⟩ ?_ ?_
  · rintro i f H1 hf - hlt ⟨f10, hfit, k, z1, o1, L, hL, o2, hv⟩
    have w1 := i64w (n := (i : Int) + 1) (by omega) (by omega)
    have c1 : (i : Int) < N.length := by omega
    obtain ⟨x, hx⟩ : ∃ x, N[i]? = some x := ⟨N[i], by simp [hlt]⟩
    have ht : N.take (i + 1) = N.take i ++ [x] := by rw [List.take_add_one, hx]; rfl
    have hxm : x ∈ N := List.mem_of_getElem? hx
    have hxid : x ≤ id := cone_le (hN ▸ hxm)
    obtain ⟨j, hxj, hj1, hj2⟩ := cone_mem (hN ▸ hxm)
    obtain ⟨j, rfl⟩ : ∃ j', j = j' + 1 := ⟨j - 1, by omega⟩
    have hxe : x = (j : Int) + 1 := by omega
    have hjl : j < ns.length := by omega
    have hjM : j + 1 < M := by omega
    obtain ⟨n, hn⟩ : ∃ n, ns[j]? = some n := ⟨ns[j], List.getElem?_eq_getElem hjl⟩
    obtain ⟨x0, y0⟩ := loadi_of (hs H1) hlt
    have hg : N.getD i 0 = x := by simp [List.getD_eq_getElem?_getD, hx]
    have y1 : ∀ H', aload Tryz.prog H' Zc (ixp s 1 i) = some (.int .i64 ((j : Int) + 1)) := fun H' => by
      have := (loadi_of (hs H') hlt).2 H' (Keeps.refl _)
      rw [hg, hxe] at this
      exact this
    have hgd : ns.getD (x - 1).toNat Nd.zero = n := by
      rw [show (x - 1).toNat = j from by omega, List.getD_eq_getElem?_getD, hn]; rfl
    have hVx : V (lookL env) ns x = nodeV (lookL env) (valsV (lookL env) ns) n := by
      rw [hxe]
      exact V_node gok.kok hn
    have hun : unfit (lookL env) ns x = (decide (n.op = 2) && !varFit (lookL env) n) := by unfold unfit; rw [hgd]
    have hadd := hv.add (k := j + 1) (by omega)
    rw [show ((j + 1 : Nat) : Int) = x from by omega] at hadd
    have hset := fun X => flatV_set (l := L) (k := j + 1) (by omega) X
    have hfl : (flatV L).length = M * 3 := by rw [flatV_len, hL]
    have hlM : (j + 1) * 3 + 3 ≤ M * 3 := by omega
    have hlenS := (hs H1).len
    have n1 : ¬ H0.size = H1.size := by omega
    have n2 : ¬ H1.size = H0.size := by omega
    have n3 : H0.size ≤ H1.size := by omega
    have n4 : ¬ H0.size + 1 = H1.size := by omega
    have n5 : ¬ H1.size = H0.size + 1 := by omega
    have hs1 := hself H1 k
    have hbb1 := hb1 H1 k
    have hat := flat_at hn
    have hfl2 := flat_len ns
    have hle2 : j * 11 + 11 ≤ ns.length * 11 := by omega
    have w2 : IntKind.i64.wrap (j : Int) = (j : Int) := i64w (by omega) (by omega)
    have c3 : (j : Int) < ns.length := by omega
    have t1 : ((j : Int) + 1).toNat = j + 1 := by omega
    have c4 : (j : Int) + 1 < M := by omega
    have lo2 : ¬ o = H1.size := Nat.ne_of_lt (k.lt lo1)
    have lg2 : ¬ g = H1.size := Nat.ne_of_lt (k.lt lg)
    rw [ht]
    obtain ⟨⟨a0, a1⟩, ⟨b0, b1⟩, ⟨d0, d1⟩⟩ := gok.kok _ _ hn
    have hfits : unfit (lookL env) ns x = false → ∀ y, y ∈ N.take i ∨ y = x → unfit (lookL env) ns y = false := fun h y hy => by
      rcases hy with h1 | h1
      · exact hfit y h1
      · rw [h1]; exact h
    by_cases p1 : n.op = 1
    · have hu : unfit (lookL env) ns x = false := by rw [hun]; simp [p1]
      have hV : V (lookL env) ns x = n.v := by rw [hVx]; unfold nodeV; rw [if_pos p1]
      have hs2 := hset (V (lookL env) ns x)
      rw [hV] at hs2
      simp only [Nd.v, lo_mk, hi_mk] at hs2
      have hsv : (⟨n.vw, mkN n.vl n.vh⟩ : Vl) = V (lookL env) ns x := by rw [hV]; rfl
      rw [hsv] at hs2
      replace hfits := hfits hu
      obtain ⟨op, sort, a, b, d, p, q, vw, vl, vh, name⟩ := n
      simp only at p1 hs2
      subst p1
      simp only [Nd.cs] at hat
      simp (maxDischargeDepth := 20) [hf, e0, e8, e9, f10, c1, c3, c4, x0, y1, o1, o2, w1, w2, t1, n1, n3, n4, k, hs1, hbb1, hat, hfl, hfl2, hle2, hlM, hlenS, hs2]
      exact ⟨hfits, by omega, L.set (j + 1) (V (lookL env) ns x), by simp [hL], rfl, hadd⟩
    by_cases p2 : n.op = 2
    · have hV : V (lookL env) ns x = (lookL env n.name).getD Vl.zero := by rw [hVx]; unfold nodeV; rw [if_neg p1, if_pos p2]
      have hs2 := hset (V (lookL env) ns x)
      have hfind := fun H => find_run (H := H) hev hel (s := n.name)
      have q1 : ¬ H0.size = H1.size + 1 := by omega
      have q2 : ¬ H1.size + 1 = H0.size := by omega
      have q3 : ¬ H0.size + 1 = H1.size + 1 := by omega
      have q4 : ¬ H1.size + 1 = H0.size + 1 := by omega
      rw [← hV] at hfind
      have hun' : unfit (lookL env) ns x = !((lookL env n.name).isSome && ((V (lookL env) ns x).ok && decide ((V (lookL env) ns x).w = n.sort))) := by
        rw [hun, hV]
        unfold varFit
        cases lookL env n.name <;> simp [p2]
      obtain ⟨op, sort, a, b, d, p, q, vw, vl, vh, name⟩ := n
      simp only at p2 hun' hfind
      subst p2
      simp only [Nd.cs] at hat
      clear hV hVx hun hgd
      generalize V (lookL env) ns x = X at *
      have hr := fun H => rightR_run (w := X.w) (l := lo X.n) (h := hi X.n) (H := H)
      rw [show rightF X.w (lo X.n) (hi X.n) = X.ok from rfl] at hr
      generalize (lookL env name).isSome = is at *
      by_cases ok : (is && (X.ok && decide (X.w = sort))) = true
      · have hu : unfit (lookL env) ns x = false := by rw [hun', ok]; rfl
        simp only [Bool.and_eq_true, decide_eq_true_eq] at ok
        obtain ⟨k1, k2, k3⟩ := ok
        subst k1
        rw [k2] at hr
        rw [← k3] at hat
        simp (maxDischargeDepth := 20) [hf, e0, e2, e8, e9, f10, c1, c3, c4, x0, y1, o1, o2, w1, w2, t1, n1, n3, n4, q1, k, hs1, hbb1, hat, hfl, hfl2, hle2, hlM, hlenS, hs2, hfind, hr]
        exact ⟨hfits hu, by omega, L.set (j + 1) X, by simp [hL], rfl, hadd⟩
      · rw [Bool.not_eq_true] at ok
        have hany : ∃ y, y ∈ N ∧ unfit (lookL env) ns y = true := ⟨x, hxm, by rw [hun', ok]; rfl⟩
        cases is with
        | false =>
          simp (maxDischargeDepth := 20) [hf, e0, e2, e6, e8, f10, c1, c3, x0, y1, o1, o2, w2, n1, n3, n4, q1, k, hs1, hbb1, hat, hfl2, hle2, hlenS, hfind]
          exact ⟨hany, by omega⟩
        | true =>
          cases hok : X.ok with
          | false =>
            rw [hok] at hr
            simp (maxDischargeDepth := 20) [hf, e0, e2, e6, e8, f10, c1, c3, x0, y1, o1, o2, w2, n1, n3, n4, q1, k, hs1, hbb1, hat, hfl2, hle2, hlenS, hfind, hr]
            exact ⟨hany, by omega⟩
          | true =>
            rw [hok] at hr
            have hw' : ¬ X.w = sort := by rw [hok] at ok; simpa using ok
            simp (maxDischargeDepth := 20) [hf, e0, e2, e6, e8, f10, c1, c3, x0, y1, o1, o2, w2, n1, n3, n4, q1, k, hs1, hbb1, hat, hfl2, hle2, hlenS, hfind, hr, hw']
            exact ⟨hany, by omega⟩
    · have hmem : n ∈ ns := List.mem_of_getElem? hn
      have hkk : ∀ k, (k = n.a ∨ k = n.b ∨ k = n.c) → k ∈ N.take i ∨ k ≤ 0 := fun kk hk => by
        by_cases h0 : 0 < kk
        · obtain ⟨h2, h3⟩ := cone_kid gok.kok h1 hid (j := j) (by rw [← hxe]; exact hN ▸ hxm) hn hk h0
          have h4 : kk ∈ N.take (i + 1) := take_low (hN ▸ cone_rises ns id) (y := x) (by rw [ht]; simp) (hN ▸ h2) (by omega)
          rw [ht] at h4
          rcases List.mem_append.1 h4 with h5 | h5
          · exact .inl h5
          · simp at h5; omega
        · exact .inr (by omega)
      have hu : unfit (lookL env) ns x = false := by rw [hun]; simp [p2]
      replace hfits := hfits hu
      have hgood := val_good gok (cone_part gok.kok h1 hid (i + 1)) (look := lookL env) (fun i' m hS hm hop => by
        rw [← hN, ht] at hS
        have h6 := hfits _ (by simpa using hS)
        have h7 : unfit (lookL env) ns ((i' : Int) + 1) = (decide (m.op = 2) && !varFit (lookL env) m) := by
          unfold unfit
          rw [show ((i' : Int) + 1 - 1).toNat = i' from by omega, List.getD_eq_getElem?_getD, hm]; rfl
        rw [h7] at h6
        simpa [hop] using h6) j n (by rw [← hN, ht, ← hxe]; simp) hn
      rw [← hxe] at hgood
      have hfit3 := (hgood.2.2 p1 p2).1
      have happ := (hgood.2.2 p1 p2).2
      have hmean : meanV n.op n.p n.q (kidsV (valsV (lookL env) ns) n) = V (lookL env) ns x := by
        rw [hVx]; unfold nodeV; rw [if_neg p1, if_neg p2]
      have ha0 : 0 ≤ arity n.op := by
        have := gok.form n hmem
        unfold formedF at this
        simp only [Bool.and_eq_true, decide_eq_true_eq] at this
        exact this.2.1.1
      have ha1 := arity_some ha0 p1 p2
      have ha3 := arity_le n.op
      obtain ⟨K, hK⟩ : ∃ K : Nat, arity n.op = K := ⟨(arity n.op).toNat, by omega⟩
      have hkv : kidsV (valsV (lookL env) ns) n = [V (lookL env) ns n.a, V (lookL env) ns n.b, V (lookL env) ns n.c].take K := by unfold kidsV; rw [hK]; rfl
      have lkA := flatV_at (hv.at a0 (by omega) (hkk n.a (.inl rfl)))
      have lkB := flatV_at (hv.at b0 (by omega) (hkk n.b (.inr (.inl rfl))))
      have lkC := flatV_at (hv.at d0 (by omega) (hkk n.c (.inr (.inr rfl))))
      rw [hkv] at hmean hfit3
      have har := fun H => arityR_run (op := n.op) (H := H)
      rw [hK] at har
      have hs2 := hset (V (lookL env) ns x)
      clear hgood hVx hun hgd hfit happ
      generalize V (lookL env) ns n.a = A at *
      generalize V (lookL env) ns n.b = B' at *
      generalize V (lookL env) ns n.c = D at *
      have hap : ∀ (H2 : AHeap) (o : Nat) (full : Bool), o < H2.size → H2.obj o = .cells [.int .i64 A.w, u (lo A.n), u (hi A.n), .int .i64 B'.w, u (lo B'.n), u (hi B'.n), .int .i64 D.w, u (lo D.n), u (hi D.n)] → R Zp [.int .i64 n.op, .int .i64 n.p, .int .i64 n.q, .row o 0 3 K full] H2 = some ((V (lookL env) ns x).av, H2) := fun H2 o full lo' ho => by
        have hrv : RV H2 (.row o 0 3 K full) ([A, B', D].take K) := by
          have h8 := Reads.row (full := full) (off := 0) (n := K) (sz := 3) lo' ho (by simp; omega)
          unfold RV
          rw [flatV_take, show ([A, B', D].take K).length = K from by simp; omega]
          exact h8
        have := rmeaning_run hrv hfit3
        rw [hmean] at this
        exact this
      have hsl : ∀ H o, aslice Tryz.prog H Zf (.row o 0 3 3 true) none (some (.int .i64 (K : Int))) none = some (.row o 0 3 K (true && decide ((K : Int) = (3 : Nat)))) := fun H o => aslice_to (by simp) (by omega)
      generalize V (lookL env) ns x = X at *
      obtain ⟨op, sort, a, b, d, p, q, vw, vl, vh, name⟩ := n
      simp only at p1 p2 hap lkA lkB lkC har a0 b0 d0 a1 b1 d1
      simp only [Nd.cs] at hat
      obtain ⟨a, rfl⟩ := Int.eq_ofNat_of_zero_le a0
      obtain ⟨b, rfl⟩ := Int.eq_ofNat_of_zero_le b0
      obtain ⟨d, rfl⟩ := Int.eq_ofNat_of_zero_le d0
      simp only [Int.toNat_natCast, Vl.cs] at lkA lkB lkC
      have q1 : ¬ H0.size = H1.size + 1 := by omega
      have q2 : ¬ H1.size + 1 = H0.size := by omega
      have q3 : ¬ H0.size + 1 = H1.size + 1 := by omega
      have q4 : ¬ H1.size + 1 = H0.size + 1 := by omega
      have r1 : (a : Int) < M := by omega
      have r2 : (b : Int) < M := by omega
      have r3 : (d : Int) < M := by omega
      have r4 : a < M := by omega
      have r5 : b < M := by omega
      have r6 : d < M := by omega
      have r7 : a * 3 + 3 ≤ M * 3 := by omega
      have r8 : b * 3 + 3 ≤ M * 3 := by omega
      have r9 : d * 3 + 3 ≤ M * 3 := by omega
      simp (maxDischargeDepth := 20) [hf, e0, e8, e9, f10, c1, c3, c4, x0, y1, o1, o2, w1, w2, t1, n1, n3, n4, q1, r1, r2, r3, r7, r8, r9, k, hs1, hbb1, hat, hfl, hfl2, hle2, hlM, hlenS, hs2, p1, p2, lkA, lkB, lkC, har, hsl, hap]
      exact ⟨hfits, by omega, L.set (j + 1) X, by simp [hL], rfl, hadd⟩
  · rintro f H1 hf ⟨f10, hfit, k, z1, o1, L, hL, o2, hv⟩
    rw [List.take_of_length_le (Nat.le_refl _)] at hfit hv
    have hlenS := (hs H1).len
    simp [hf, e8, f10, hlenS]
    exact ⟨hfit, k, z1, o1, L, hL, o2, hv⟩
end Go.Proofs.YtiaoojghohfkjaaGreat
end
section
namespace Go.Proofs.YtiaoojghohfkjaaGreat
set_option maxRecDepth 100000
set_option maxHeartbeats 4000000
theorem reval_run {H : AHeap} {g : Nat} {most : Int} {ns : List Nd} {F : List Nat} (G : GR H g most ns F) (gok : Gok ns) {env : List Nm} {ev : AV} (hev : ∀ H, RN H ev env) (hel : env.length ≤ 1000000) {id : Int} :
    R Zc8 [.ptr g 0, .int .i64 id, ev] H = some (.tup [(worthS (lookL env) ns id).1.av, .int .i64 (worthS (lookL env) ns id).2], H) := by
  obtain ⟨s, hc, hs⟩ := rcone_run (G.keeps (Keeps.new H (.cells [.int .i64 0, u 0#64, u 0#64]))) (id := id)
  have hlen := (hs H).len
  have hlim : ns.length ≤ 4096 := by
    obtain ⟨o, t, -⟩ := G
    have := t.lim
    have := t.lim2
    omega
  obtain ⟨W, hW⟩ : ∃ W, W = worthS (lookL env) ns id := ⟨_, rfl⟩
  rw [← hW]
  unfold worthS at hW
  rw [Zj6]
  by_cases c1 : id < 1 ∨ (ns.length : Int) < id
  · have hn : coneT ns id = [] := by unfold coneT; rw [if_pos c1]
    rw [if_pos c1] at hW
    rw [hn] at hlen
    rw [hW]
    simp only [List.length_nil] at hlen
    simp (maxDischargeDepth := 40) [Zg0, hc, hlen, Vl.zero]
  rw [if_neg c1] at hW
  have hid0 : id ∈ coneT ns id := by
    obtain ⟨i, rfl⟩ := Int.eq_ofNat_of_zero_le (show 0 ≤ id by omega)
    exact (mem_cone gok.kok (by omega) (by omega) (by omega)).2 (by rw [Int.toNat_natCast]; exact cP_self gok.kok i (by omega))
  obtain ⟨n, hn⟩ : ∃ n, (coneT ns id).length = n + 1 := ⟨(coneT ns id).length - 1, by have := List.length_pos_of_mem hid0; omega⟩
  rw [hn] at hlen
  have c0 : ¬ ((n : Int) + 1 = 0) := by omega
  obtain ⟨m, rfl⟩ := Int.eq_ofNat_of_zero_le (show 0 ≤ id by omega)
  have w1 : IntKind.i64.wrap ((m : Int) + 1) = (m : Int) + 1 := i64w (by omega) (by omega)
  have c3 : ((m : Int) + 1) * 24 ≤ 140737488355328 := by omega
  have c4 : (m : Int) + 1 ≤ 9223372036854775807 := by omega
  have c7 : (0 : Int) ≤ (m : Int) + 1 := by omega
  have t1 : ((m : Int) + 1).toNat = m + 1 := by omega
  simp (maxDischargeDepth := 40) [Zg0, hc, hlen, c0, w1, c3, c4, c7, t1]
  generalize hL : loopL _ _ _ _ _ _ = y
  obtain ⟨y, e1, H1, rfl, hy, fr⟩ := reval_loop G gok hev hel (id := (m : Int)) (by omega) (by omega) (by simp (maxDischargeDepth := 40)) (by simp) (by simp) (by rw [flatV_zero]; simp) hL (by simp) (by simp) (by simp) (by simp) (by simp) (by simp) hs
  rcases hy with ⟨hany, rfl, k, z1, o1, L, hLl, o2, hvl⟩ | ⟨hany, rfl, k, z1, o1, e7⟩
  · have lk := flatV_at (hvl.at (k := (m : Int)) (by omega) (by rw [hLl]; simp) (.inl hid0))
    simp only [Int.toNat_natCast, Vl.cs] at lk hLl
    have hfl : (flatV L).length = (m + 1) * 3 := by rw [flatV_len, hLl]
    have n1 : H.size ≤ H1.size := by omega
    have hle : m * 3 + 3 ≤ (m + 1) * 3 := by omega
    have c8 : (m : Int) < (m : Int) + 1 := by omega
    rw [if_neg (by rw [hany]; simp)] at hW
    rw [hW]
    simp (maxDischargeDepth := 40) [fr, o1, o2, lk, k, hfl, hle, c8]
  · rw [if_pos hany] at hW
    rw [hW]
    simp (maxDischargeDepth := 40) [fr, e7, o1, k, Vl.zero]
end Go.Proofs.YtiaoojghohfkjaaGreat
end
section
namespace Go.Proofs.YtiaoojghohfkjaaGreat
set_option maxRecDepth 100000
set_option maxHeartbeats 4000000
theorem rcomplete_loop {H0 H : AHeap} {g : Nat} {most : Int} {ns : List Nd} {F : List Nat} (G : GR H0 g most ns F) {env : List Nm} {ev : AV} (hev : ∀ H, RN H ev env) (hel : env.length ≤ 1000000) (k0 : Keeps H0 H)
    {s : AV} {e : Env} {r : Rn} (hL : loopL Tryz.prog KT R Zbg e H = r) (e0 : e 0 = some (.ptr g 0)) (e1' : e 1 = some ev) (e5 : e 5 = some .nils) (e6 : e 6 = some s) (e7 : e 7 = some (.int .i64 0)) (hs : ∀ H', RI H' s (varsT ns ns.length)) :
    ∃ y e' H', r = some (y, e', H') ∧ (y = .exit 0 ∧ Keeps H0 H' ∧ ∃ w, e' 5 = some w ∧ OutC H0 H' w 4 (varsT ns ns.length).length (flatN (fullS (lookL env) ns (varsT ns ns.length)))) ∧ ∀ t, t ∉ defs Zbg → e' t = e t := by
  obtain ⟨o, t, vok, kok, rfl⟩ := G
  have lim := t.lim
  have lim2 := t.lim2
  have hvl := varsT_len ns ns.length
  have hmem : ∀ x, x ∈ varsT ns ns.length → _ := fun x hx => mem_vars hx
  have lg := t.lg
  have hog := t.og
  generalize varsT ns ns.length = N at *
  refine loop_count Zbg.eq_1 hL N.length (fun i e1 H1 => e1 7 = some (.int .i64 i) ∧ Keeps H0 H1 ∧ ∃ w, e1 5 = some w ∧ OutC H0 H1 w 4 i (flatN (fullS (lookL env) ns (N.take i)))) _ 0 (by omega)
    ⟨e7, k0, .nils, e5, OutC.nils⟩ ?_ ?_
  · rintro i f H1 hf - hlt ⟨f7, k, w, f5, hw⟩
    have w1 := i64w (n := (i : Int) + 1) (by omega) (by omega)
    have c1 : (i : Int) < N.length := by omega
    obtain ⟨x, hx⟩ : ∃ x, N[i]? = some x := ⟨N[i], by simp [hlt]⟩
    obtain ⟨j, hxj, hj1, hj2⟩ := hmem x (List.mem_of_getElem? hx)
    obtain ⟨n, hn⟩ : ∃ n, ns[j]? = some n := ⟨ns[j], List.getElem?_eq_getElem hj1⟩
    have hne : ns ≠ [] := by rintro rfl; simp at hj1
    obtain ⟨x0, y0⟩ := loadi_of (hs H1) hlt
    have hg : N.getD i 0 = x := by simp [List.getD_eq_getElem?_getD, hx]
    have y1 : ∀ H', aload Tryz.prog H' Zc (ixp s 1 i) = some (.int .i64 ((j : Int) + 1)) := fun H' => by
      have := (loadi_of (hs H') hlt).2 H' (Keeps.refl _)
      rw [hg, hxj] at this
      exact this
    have hgd : ns.getD (x - 1).toNat Nd.zero = n := by
      rw [show (x - 1).toNat = j from by omega, List.getD_eq_getElem?_getD, hn]; rfl
    have ht := fullS_take (look := lookL env) hx hgd
    have hlenS := (hs H1).len
    have hs1 : H1.obj g = .cells [.row o 0 11 ns.length false, .int .i64 most] := ((k.obj g lg).trans hog).trans (by rw [slv_row hj1])
    have hbb1 : H1.obj o = .cells (flat ns) := (k.obj _ (t.l1 hne)).trans (t.b1 hne)
    have hat := flat_at hn
    have hfl2 := flat_len ns
    have hle2 : j * 11 + 11 ≤ ns.length * 11 := by omega
    have w2 : IntKind.i64.wrap (j : Int) = (j : Int) := i64w (by omega) (by omega)
    have c3 : (j : Int) < ns.length := by omega
    have lo2 : ¬ o = H1.size := Nat.ne_of_lt (k.lt (t.l1 hne))
    have lg2 : ¬ g = H1.size := Nat.ne_of_lt (k.lt lg)
    have hfind := fun H => find_run (H := H) hev hel (s := n.name)
    have hfv : fullV (lookL env) n = if (((lookL env n.name).getD Vl.zero).ok && decide (((lookL env n.name).getD Vl.zero).w = n.sort)) = true then (lookL env n.name).getD Vl.zero else ⟨n.sort, 0#128⟩ := rfl
    have hz : (lookL env n.name).isSome = false → (lookL env n.name).getD Vl.zero = Vl.zero := fun h => by
      cases hl : lookL env n.name with
      | none => rfl
      | some v => rw [hl] at h; cases h
    have hr := fun H => rightR_run (w := ((lookL env n.name).getD Vl.zero).w) (l := lo ((lookL env n.name).getD Vl.zero).n) (h := hi ((lookL env n.name).getD Vl.zero).n) (H := H)
    rw [show rightF ((lookL env n.name).getD Vl.zero).w (lo ((lookL env n.name).getD Vl.zero).n) (hi ((lookL env n.name).getD Vl.zero).n) = ((lookL env n.name).getD Vl.zero).ok from rfl] at hr
    rw [ht]
    generalize fullV (lookL env) n = X at *
    generalize (lookL env n.name).getD Vl.zero = W at *
    generalize (lookL env n.name).isSome = is at *
    have key : ∀ (H2 : AHeap) (r : Option (AV × AHeap)), Keeps H1 H2 → appU (H2.new (.cells [.str n.name, .int .i64 X.w, u (lo X.n), u (hi X.n)])) w (.row H2.size 0 4 1 true) (some (4, 40, [.str .empty, .int .i64 0, u 0#64, u 0#64])) = r → ∃ v' H', r = some (v', H') ∧ OutC H0 H' v' 4 (i + 1) (flatN (fullS (lookL env) ns (N.take i) ++ [⟨n.name, X⟩])) ∧ Keeps H0 H' := fun H2 r k2 hA => by
      obtain ⟨v', H', h1, h2, h3, -⟩ := (hw.keep k2).push (k.trans k2) hA rfl rfl (by omega) (by omega) (by omega) rfl
      refine ⟨v', H', h1, ?_, h3⟩
      rw [flatN_append]
      simpa [flatN, Nm.cs, Vl.cs] using h2
    obtain ⟨op, sort, a, b, d, p, q, vw, vl, vh, name⟩ := n
    simp only [Nd.cs] at hat
    simp only at hfv hfind key
    have z0 : lo (0#128) = 0#64 := rfl
    have z1 : hi (0#128) = 0#64 := rfl
    have tail : X = ⟨sort, 0#128⟩ → (is = false ∨ W.ok = false ∨ ¬ W.w = sort) → Wp (evalL Tryz.prog KT R Zbg f H1) fun x e2 H2 => match x with
        | .normal => e2 7 = some (.int .i64 ((i + 1 : Nat) : Int)) ∧ Keeps H0 H2 ∧ ∃ w, e2 5 = some w ∧ OutC H0 H2 w 4 (i + 1) (flatN (fullS (lookL env) ns (N.take i) ++ [⟨name, X⟩]))
        | x => x = AX.exit 0 ∧ Keeps H0 H2 ∧ ∃ w, e2 5 = some w ∧ OutC H0 H2 w 4 N.length (flatN (fullS (lookL env) ns N)) := fun hX hc => by
      subst hX
      simp only [z0, z1] at key
      rw [Zbg.eq_1]
      cases is with
      | false =>
        simp (maxDischargeDepth := 20) [hf, e0, e1', e6, f7, f5, c1, c3, x0, y1, w2, hs1, hbb1, hat, hfl2, hle2, hlenS, hfind]
        generalize hA : appU _ _ _ _ = q
        obtain ⟨v', H', rfl, h2, h3⟩ := key _ q (by simp (maxDischargeDepth := 20)) hA
        simp [f7, w1, h3]
        exact h2
      | true =>
        cases hok : W.ok with
        | false =>
          rw [hok] at hr
          simp (maxDischargeDepth := 20) [hf, e0, e1', e6, f7, f5, c1, c3, x0, y1, w2, hs1, hbb1, hat, hfl2, hle2, hlenS, hfind, hr]
          generalize hA : appU _ _ _ _ = q
          obtain ⟨v', H', rfl, h2, h3⟩ := key _ q (by simp (maxDischargeDepth := 20)) hA
          simp [f7, w1, h3]
          exact h2
        | true =>
          rw [hok] at hr hc
          have hw' : ¬ W.w = sort := by simpa using hc
          simp (maxDischargeDepth := 20) [hf, e0, e1', e6, f7, f5, c1, c3, x0, y1, w2, hs1, hbb1, hat, hfl2, hle2, hlenS, hfind, hr, hw']
          generalize hA : appU _ _ _ _ = q
          obtain ⟨v', H', rfl, h2, h3⟩ := key _ q (by simp (maxDischargeDepth := 20)) hA
          simp [f7, w1, h3]
          exact h2
    rw [Zbg.eq_1] at tail
    cases his : is with
    | false =>
      refine tail ?_ (.inl his)
      have hW := hz his
      subst hW
      rw [hfv]
      split
      · rename_i h
        simp at h
        rw [← h.2]; rfl
      · rfl
    | true =>
      by_cases ok : (W.ok && decide (W.w = sort)) = true
      · rw [if_pos ok] at hfv
        subst hfv
        simp only [Bool.and_eq_true, decide_eq_true_eq] at ok
        obtain ⟨ok1, ok2⟩ := ok
        rw [ok1] at hr
        rw [his] at hfind
        subst ok2
        clear tail
        simp (maxDischargeDepth := 20) [hf, e0, e1', e6, f7, f5, c1, c3, x0, y1, w2, hs1, hbb1, hat, hfl2, hle2, hlenS, hfind, hr]
        generalize hA : appU _ _ _ _ = q
        obtain ⟨v', H', rfl, h2, h3⟩ := key _ q (by simp (maxDischargeDepth := 20)) hA
        simp [f7, w1, h3]
        exact h2
      · rw [if_neg ok] at hfv
        refine tail hfv (.inr ?_)
        rw [Bool.not_eq_true] at ok
        simp only [Bool.and_eq_false_iff, decide_eq_false_iff_not] at ok
        exact ok
  · rintro f H1 hf ⟨f7, k, w, f5, hw⟩
    rw [List.take_of_length_le (Nat.le_refl _)] at hw
    have hlenS := (hs H1).len
    simp [hf, e6, f7, hlenS]
    exact ⟨k, w, f5, hw⟩
theorem rcomplete_run {H : AHeap} {g : Nat} {most : Int} {ns : List Nd} {F : List Nat} (G : GR H g most ns F) {env : List Nm} {ev : AV} (hev : ∀ H, RN H ev env) (hel : env.length ≤ 1000000) :
    ∃ v, R Zdc [.ptr g 0, ev] H = some (v, H) ∧ ∀ H', RN H' v (fullS (lookL env) ns (varsT ns ns.length)) := by
  obtain ⟨v, hv, hvr⟩ := rvars_run G
  rw [Ziz]
  simp (maxDischargeDepth := 40) [Zg5, hv]
  generalize hL : loopL _ _ _ _ _ _ = r
  obtain ⟨y, e1, H2, rfl, ⟨rfl, k2, w, e5, hw⟩, fr⟩ := rcomplete_loop G hev hel (Keeps.refl _) hL (by simp) (by simp) (by simp) (by simp) (by simp) hvr
  simp (maxDischargeDepth := 40) [e5]
  obtain ⟨v', b1, b2⟩ := back_out k2 hw (closed_flatN _)
  refine ⟨v', b1, fun H' => ?_⟩
  have := b2 H'
  unfold RN
  rw [show (fullS (lookL env) ns (varsT ns ns.length)).length = (varsT ns ns.length).length from by simp [fullS]]
  exact this
end Go.Proofs.YtiaoojghohfkjaaGreat
end
section
namespace Go.Proofs.YtiaoojghohfkjaaGreat
set_option maxRecDepth 100000
set_option maxHeartbeats 2000000
theorem flatV_append (l m : List Vl) : flatV (l ++ m) = flatV l ++ flatV m := by simp [flatV]
theorem closed_flatV {n : Nat} : ∀ l : List Vl, closedL n (flatV l) = true
  | [] => rfl
  | x :: l => by
    rw [show flatV (x :: l) = x.cs ++ flatV l from rfl, closedL_append, closed_flatV l]
    simp [Vl.cs]
theorem all_loop {H0 H : AHeap} {g em : Nat} {most : Int} {ns : List Nd} {F : List Nat} (G : GT H0 g most ns F) (gok : Gok ns) {look : ByteArray → Option Vl} {es0 : List AEnt} {c0 : Nat} (lem : em < H0.size) (oem : H0.obj em = .map (.one .s) es0 c0) (hem : EnvM es0 look) (k0 : Keeps H0 H)
    {s : AV} {ids : List Int} (hs : RI H0 s ids) (hm : ids.length ≤ 1000000) {e : Env} {r : Rn} (hL : loopL Tryz.prog KT R Zgq e H = r) (e0 : e 0 = some (.ptr g 0)) (e8 : e 8 = some (.map em)) (e9 : e 9 = some .nils) (e16 : e 16 = some s) (e17 : e 17 = some (.int .i64 ids.length)) (e18 : e 18 = some (.int .i64 0)) :
    ∃ y e' H', r = some (y, e', H') ∧ (Keeps H0 H' ∧ (((∀ x, x ∈ ids → (worthS look ns x).2 = 0) ∧ y = .exit 0 ∧ ∃ w, e' 9 = some w ∧ OutC H0 H' w 3 ids.length (flatV (ids.map fun x => (worthS look ns x).1))) ∨
      ∃ i x, (∀ y, y ∈ ids.take i → (worthS look ns y).2 = 0) ∧ ids[i]? = some x ∧ ¬ (worthS look ns x).2 = 0 ∧ y = .ret ∧ e' 6 = some .nils ∧ e' 7 = some (.int .i64 (worthS look ns x).2))) ∧ ∀ t, t ∉ defs Zgq → e' t = e t := by
  refine loop_count Zgq.eq_1 hL ids.length (fun i e1 H1 => e1 18 = some (.int .i64 i) ∧ Keeps H0 H1 ∧ (∀ y, y ∈ ids.take i → (worthS look ns y).2 = 0) ∧ ∃ w, e1 9 = some w ∧ OutC H0 H1 w 3 i (flatV ((ids.take i).map fun x => (worthS look ns x).1))) _ 0 (by omega)
    ⟨e18, k0, by simp, .nils, e9, OutC.nils⟩ ?_ ?_
  · rintro i f H1 hf - hlt ⟨f18, k, hok, w, f9, hw⟩
    have w1 := i64w (n := (i : Int) + 1) (by omega) (by omega)
    have c1 : (i : Int) < ids.length := by omega
    obtain ⟨x, hx⟩ : ∃ x, ids[i]? = some x := ⟨ids[i], by simp [hlt]⟩
    have ht : ids.take (i + 1) = ids.take i ++ [x] := by rw [List.take_add_one, hx]; rfl
    obtain ⟨x0, y0⟩ := loadi_of hs hlt
    replace y0 := y0 H1 k
    have hg : ids.getD i 0 = x := by simp [List.getD_eq_getElem?_getD, hx]
    rw [hg] at y0
    have lem1 : em < H1.size := k.lt lem
    have oem1 := (k.obj _ lem).trans oem
    have hwr := worth_run (G.keeps k) gok lem1 oem1 hem (id := x)
    have hmap : (ids.take (i + 1)).map (fun x => (worthS look ns x).1) = (ids.take i).map (fun x => (worthS look ns x).1) ++ [(worthS look ns x).1] := by rw [ht]; simp
    rw [hmap]
    by_cases c0 : (worthS look ns x).2 = 0
    · rw [c0] at hwr
      have hok' : ∀ y, y ∈ ids.take i ∨ y = x → (worthS look ns y).2 = 0 := fun y hy => by
        rcases hy with h | h
        · exact hok y h
        · rw [h]; exact c0
      rw [ht]
      generalize (worthS look ns x).1 = X at *
      have key : ∀ (H2 : AHeap) (r : Option (AV × AHeap)), Keeps H1 H2 → appU (H2.new (.cells [.int .i64 X.w, u (lo X.n), u (hi X.n)])) w (.row H2.size 0 3 1 true) (some (3, 24, [.int .i64 0, u 0#64, u 0#64])) = r → ∃ v' H', r = some (v', H') ∧ OutC H0 H' v' 3 (i + 1) (flatV ((ids.take i).map (fun x => (worthS look ns x).1) ++ [X])) ∧ Keeps H0 H' := fun H2 r k2 hA => by
        obtain ⟨v', H', h1, h2, h3, -⟩ := (hw.keep k2).push (k.trans k2) hA rfl rfl (by omega) (by omega) (by omega) rfl
        refine ⟨v', H', h1, ?_, h3⟩
        rw [flatV_append]
        simpa [flatV, Vl.cs] using h2
      simp (maxDischargeDepth := 20) [hf, e0, e8, e16, e17, f18, f9, c1, x0, y0, hwr]
      generalize hA : appU _ _ _ _ = q
      obtain ⟨v', H', rfl, h2, h3⟩ := key _ q (by simp (maxDischargeDepth := 20)) hA
      simp [f18, w1, h3]
      exact ⟨hok', by simpa using h2⟩
    · simp (maxDischargeDepth := 20) [hf, e0, e8, e16, e17, f18, c1, x0, y0, k, hwr, c0]
      exact ⟨(k.new' _).set k.size _, i, hok, x, hx, c0, rfl⟩
  · rintro f H1 hf ⟨f18, k, hok, w, f9, hw⟩
    rw [List.take_of_length_le (Nat.le_refl _)] at hw hok
    simp [hf, e17, f18]
    exact ⟨k, hok, w, f9, hw⟩
theorem all_run {H : AHeap} {g : Nat} {most : Int} {ns : List Nd} {F : List Nat} (G : GT H g most ns F) (gok : Gok ns) {s t : AV} {env : List Nm} (hs : RN H s env) (hm : env.length ≤ 1000000) {ids : List Int} (ht : RI H t ids) (hi' : ids.length ≤ 1000000) :
    ((∀ x, x ∈ ids → (worthS (lookL env) ns x).2 = 0) ∧ ∃ v, R Ze0 [.ptr g 0, t, s] H = some (.tup [v, .int .i64 0], H) ∧ ∀ H', RV H' v (ids.map fun x => (worthS (lookL env) ns x).1)) ∨
    ∃ i x, (∀ y, y ∈ ids.take i → (worthS (lookL env) ns y).2 = 0) ∧ ids[i]? = some x ∧ ¬ (worthS (lookL env) ns x).2 = 0 ∧ R Ze0 [.ptr g 0, t, s] H = some (.tup [.nils, .int .i64 (worthS (lookL env) ns x).2], H) := by
  obtain ⟨H1, es, c, hk, k1, z1, o1, he⟩ := known_env hs hm
  have hlen := ht.len
  rw [Zmv]
  simp (maxDischargeDepth := 40) [Zle, hk, hlen]
  generalize hL : loopL _ _ _ _ _ _ = r
  obtain ⟨y, e1, H2, rfl, ⟨k2, hy⟩, fr⟩ := all_loop (G.keeps k1) gok z1 o1 he (Keeps.refl _) (ht.keep k1) hi' hL (by simp) (by simp) (by simp) (by simp) (by simp) (by simp)
  have kk := k1.trans k2
  rcases hy with ⟨hok, rfl, w, e9, hw⟩ | ⟨i, x, hok, hx, h0, rfl, e6, e7⟩
  · left
    refine ⟨hok, ?_⟩
    simp (maxDischargeDepth := 40) [e9]
    obtain ⟨v', b1, b2⟩ := back_outI (kk := .i64) (i := 0) kk (hw.base k1.size) (closed_flatV _)
    refine ⟨v', by rw [b1], fun H' => ?_⟩
    have := b2 H'
    unfold RV
    rw [List.length_map]
    exact this
  · right
    refine ⟨i, hok, x, hx, h0, ?_⟩
    simp (maxDischargeDepth := 40) [e6, e7]
    rw [back_cons (by simp) kk.shut, cut_keeps kk]
    simp
end Go.Proofs.YtiaoojghohfkjaaGreat
end
section
namespace Go.Proofs.YtiaoojghohfkjaaGreat
set_option maxRecDepth 100000
set_option maxHeartbeats 4000000
theorem nodeS_some {ns : List Nd} {x : Int} (h1 : 1 ≤ x) (h2 : x ≤ ns.length) : nodeS ns x = some (ns.getD (x - 1).toNat Nd.zero) := by
  unfold nodeS
  rw [if_neg (by omega)]
  have : (x - 1).toNat < ns.length := by omega
  rw [List.getD_eq_getElem?_getD, List.getElem?_eq_getElem this]; rfl
theorem nodeS_none {ns : List Nd} {x : Int} (h : ¬ (1 ≤ x ∧ x ≤ ns.length)) : nodeS ns x = none := by
  unfold nodeS
  rw [if_pos (by omega)]
theorem rmk_loop0 {H : AHeap} {g q : Nat} {most : Int} {ns : List Nd} {o : Nat} (t : RG H g most ns o) {a : Int} {kids : List Int} {P : Nat → Bool} (hP : ∀ i, P i = kidOK ns.length a i (kids.getD i 0)) (h3 : kids.length = 3) (lq : q < H.size) (oq : H.obj q = .cells (kids.map (.int .i64))) {e : Env} {r : Rn} (hL : loopL Tryz.prog KT R Zbj e H = r)
    (e0 : e 0 = some (.ptr g 0)) (e6 : e 6 = some (.int .i64 a)) (e7 : e 7 = some (.row q 0 1 3 true)) (e8 : e 8 = some .nils) (e9 : e 9 = some (.int .i64 0)) :
    ∃ y e' H', r = some (y, e', H') ∧ (Keeps H H' ∧ ((y = .exit 0 ∧ (∀ i, i < 3 → P i = true) ∧ ∃ w, e' 8 = some w ∧ OutT H H' w (kids.flatMap (ksort ns))) ∨ (y = .ret ∧ (∃ i, i < 3 ∧ P i = false) ∧ e' 4 = some (.int .i64 0) ∧ e' 5 = some (.int .i64 32)))) ∧ ∀ t, t ∉ defs Zbj → e' t = e t := by
  have lim := t.lim
  have lim2 := t.lim2
  refine loop_count Zbj.eq_1 hL 3 (fun i e1 H1 => e1 9 = some (.int .i64 i) ∧ Keeps H H1 ∧ (∀ j, j < i → P j = true) ∧ ∃ w, e1 8 = some w ∧ OutT H H1 w ((kids.take i).flatMap (ksort ns))) _ 0 (by omega) ⟨e9, Keeps.refl _, fun j hj => by omega, .nils, e8, ⟨by simpa using RI.nils, by simp, by simp⟩⟩ ?_ ?_
  · rintro i f H1 hf - hi ⟨f9, k1, hok, w, f8, hout⟩
    have w1 : IntKind.i64.wrap ((i : Int) + 1) = (i : Int) + 1 := i64w (by omega) (by omega)
    have c1 : (i : Int) < 3 := by omega
    have hik : i < kids.length := by omega
    have hget : kids[i] = kids.getD i 0 := by simp [List.getD_eq_getElem?_getD, hik]
    have oq1 : H1.obj q = .cells (kids.map (.int .i64)) := (k1.obj q lq).trans oq
    have lq1 := k1.lt lq
    have hqn : ¬ q = H1.size := Nat.ne_of_lt lq1
    have tk : (kids.take (i + 1)).flatMap (ksort ns) = (kids.take i).flatMap (ksort ns) ++ ksort ns (kids.getD i 0) := by rw [List.take_add_one, List.flatMap_append, List.getElem?_eq_getElem hik, ← hget]; simp
    rw [tk]
    have hlen : ((kids.take i).flatMap (ksort ns)).length ≤ 1000000 := by
      have : ∀ l : List Int, (l.flatMap (ksort ns)).length ≤ l.length := fun l => by
        induction l with
        | nil => simp
        | cons x l ih => have := ksort_len ns x; simp only [List.flatMap_cons, List.length_append, List.length_cons]; omega
      have := this (kids.take i)
      have : (kids.take i).length ≤ 3 := by rw [List.length_take]; omega
      omega
    have hat := fun H2 (k : Keeps H1 H2) => at_run (t.keep (k1.trans k)) (id := kids.getD i 0)
    have hko : kidOK ns.length a i (kids.getD i 0) = true → ∀ j, j < i + 1 → P j = true := fun h j hj => by
      by_cases e : j = i
      · rw [e, hP]; exact h
      · exact hok j (by omega)
    have hkf : kidOK ns.length a i (kids.getD i 0) = false → ∃ i, i < 3 ∧ P i = false := fun h => ⟨i, hi, by rw [hP]; exact h⟩
    clear hP
    generalize kids.getD i 0 = x at *
    unfold kidOK at hko hkf
    by_cases c2 : (i : Int) < a
    · have c2' : ¬ a ≤ (i : Int) := by omega
      rw [if_pos c2] at hko hkf
      by_cases c3 : 1 ≤ x ∧ x ≤ ns.length
      · rw [nodeS_some c3.1 c3.2] at hat
        have c4 : 0 < x := by omega
        have hxx := hko (by simp; omega)
        clear hko hkf
        rw [show ksort ns x = [(ns.getD (x - 1).toNat Nd.zero).sort] from by unfold ksort; rw [if_pos c4]]
        generalize ns.getD (x - 1).toNat Nd.zero = m at *
        obtain ⟨op, sort, ma, mb, mc, p, qq, vw, vl, vh, name⟩ := m
        simp only [Option.getD_some, Option.isSome_some, Nd.cs] at hat
        simp (maxDischargeDepth := 40) [hf, e0, e6, e7, f8, f9, c1, hi, h3, oq1, hget, hat, c2, c2']
        generalize hH2 : AHeap.set _ _ _ = H2
        have k2 : Keeps H1 H2 := by rw [← hH2]; exact (Keeps.new _ _).set (Nat.le_refl _) _
        have z2 : H2.size = H1.size + 1 := by rw [← hH2]; simp
        clear hH2
        rw [← z2]
        generalize hA : appU _ _ _ _ = qa
        obtain ⟨w', H3, rfl, h2, k3⟩ := (hout.keep k2).push (k1.trans k2) hlen hA
        simp (maxDischargeDepth := 40) [f9, w1, k3]
        exact ⟨hxx, h2⟩
      · rw [nodeS_none c3] at hat
        have hxx := hkf (by simp; omega)
        clear hko hkf
        simp only [Option.getD_none, Option.isSome_none, Nd.cs, Nd.zero] at hat
        simp (maxDischargeDepth := 40) [hf, e0, e6, e7, f9, c1, hi, h3, oq1, hget, hat, c2]
        exact ⟨k1.trans ((Keeps.new _ _).set (Nat.le_refl _) _), hxx⟩
    · have c2' : a ≤ (i : Int) := by omega
      rw [if_neg c2] at hko hkf
      generalize hS : nodeS ns x = S at hat
      obtain ⟨m, hm⟩ : ∃ m, m = S.getD Nd.zero := ⟨_, rfl⟩
      rw [← hm] at hat
      clear hm
      generalize S.isSome = b at hat
      obtain ⟨op, sort, ma, mb, mc, p, qq, vw, vl, vh, name⟩ := m
      simp only [Nd.cs] at hat
      by_cases c3 : x = 0
      · subst c3
        have hxx := hko (by simp)
        rw [show ksort ns 0 = [] from rfl, List.append_nil]
        clear hko hkf
        simp (maxDischargeDepth := 40) [hf, e0, e6, e7, f8, f9, c1, hi, h3, oq1, hqn, hget, hat, c2, c2', w1]
        exact ⟨k1.trans ((Keeps.new _ _).set (Nat.le_refl _) _), hxx, hout.keep ((Keeps.new _ _).set (Nat.le_refl _) _)⟩
      · have hxx := hkf (by simp [c3])
        clear hko hkf
        simp (maxDischargeDepth := 40) [hf, e0, e6, e7, f9, c1, hi, h3, oq1, hqn, hget, hat, c2, c2', c3]
        exact ⟨k1.trans ((Keeps.new _ _).set (Nat.le_refl _) _), hxx⟩
  · rintro f H1 hf ⟨f9, k1, hok, w, f8, hout⟩
    simp [f8, f9, k1]
    rw [List.take_of_length_le (by omega)] at hout
    exact ⟨hok, hout⟩
theorem idx_take {ns : List Nd} {n m : Nd} {i : Nat} (hn : ns[i]? = some m) : idx (ns.take (i + 1)) n = (idx (ns.take i) n).or (if n = m then some i else none) := by
  have hi := (List.getElem?_eq_some_iff.1 hn).1
  rw [List.take_add_one, hn, Option.toList_some, idx_append, List.length_take, Nat.min_eq_left (by omega)]
theorem rmk_loop1 {H : AHeap} {g p : Nat} {most : Int} {ns : List Nd} {o : Nat} (t : RG H g most ns o) {M : Nd} (op : H.obj p = .cells M.cs) {e : Env} {r : Rn} (hL : loopL Tryz.prog KT R Zs e H = r)
    (e0 : e 0 = some (.ptr g 0)) (e3 : e 3 = some (.ptr p 0)) (e16 : e 16 = some (.int .i64 0)) :
    ∃ y e' H', r = some (y, e', H') ∧ (H' = H ∧ ((y = .exit 3 ∧ idx ns M = none) ∨ (y = .ret ∧ ∃ i, idx ns M = some i ∧ e' 4 = some (num i) ∧ e' 5 = some (.int .i64 0)))) ∧ ∀ t, t ∉ defs Zs → e' t = e t := by
  have hl := t.lim
  have hl2 := t.lim2
  refine loop_count Zs.eq_1 hL ns.length (fun i e1 H1 => e1 16 = some (.int .i64 i) ∧ H1 = H ∧ idx (ns.take i) M = none) _ 0 (by omega) ⟨e16, rfl, rfl⟩ ?_ ?_
  · rintro i f H1 hf - hi ⟨f16, rfl, hv⟩
    have w1 : IntKind.i64.wrap ((i : Int) + 1) = (i : Int) + 1 := i64w (by omega) (by omega)
    have c1 : (i : Int) < ns.length := by omega
    have hne : ns ≠ [] := by rintro rfl; simp at hi
    obtain ⟨n, hn⟩ : ∃ n, ns[i]? = some n := ⟨ns[i], by simp [hi]⟩
    have hs := slv_row (o := o) hi
    have ho := t.b1 hne
    have hfl := flat_len ns
    have hle : i * 11 + 11 ≤ ns.length * 11 := by omega
    have hat := flat_at hn
    have hg := t.og
    rw [hs] at hg
    have ht := idx_take (n := M) hn
    rw [hv, Option.none_or] at ht
    have hm : ∀ j, idx (ns.take (i + 1)) M = some j → idx ns M = some j := fun j h => by
      have := idx_more (ks := ns.drop (i + 1)) h
      rwa [List.take_append_drop] at this
    have hq : scsEq n.cs M.cs = decide (n = M) := by
      have := keyEq_nd n M
      simpa only [keyEq] using this
    rw [ht] at hm ⊢
    by_cases d : n = M
    · rw [if_pos d.symm] at hm
      simp only [d, decide_true] at hq hat
      have hm2 := hm i rfl
      clear hm ht d hv hn
      generalize hidx : idx ns M = X at *
      obtain ⟨op', sort', a', b', c', p', q', vw', vl', vh', name'⟩ := M
      simp only [Nd.cs] at op hat hq
      simp (maxDischargeDepth := 40) (maxSteps := 4000000) [hf, e0, e3, f16, c1, hg, ho, hfl, hle, hat, op, w1]
      exact ⟨i, hm2, rfl⟩
    · rw [if_neg (fun e => d e.symm)]
      rw [decide_eq_false d] at hq
      clear hm ht hv hn
      obtain ⟨op', sort', a', b', c', p', q', vw', vl', vh', name'⟩ := M
      obtain ⟨op2, sort2, a2, b2, c2, p2, q2, vw2, vl2, vh2, name2⟩ := n
      simp only [Nd.cs] at op hat hq
      simp (maxDischargeDepth := 40) (maxSteps := 4000000) [hf, e0, e3, f16, c1, hg, ho, hfl, hle, hat, op, hq, w1]
  · rintro f H1 hf ⟨f16, rfl, hv⟩
    have hg := t.og
    have hsl := slv_len o ns
    simp (maxDischargeDepth := 40) [hf, e0, f16, hg, hsl]
    rw [List.take_of_length_le (Nat.le_refl _)] at hv
    exact hv
end Go.Proofs.YtiaoojghohfkjaaGreat
end
section
namespace Go.Proofs.YtiaoojghohfkjaaGreat
set_option maxRecDepth 100000
set_option maxHeartbeats 4000000
def GvR (H : AHeap) (g : Nat) (most : Int) (F : List Nat) (x : List Nd × Int × Int) (r : Option (AV × AHeap)) : Prop :=
  ∃ H' F', r = some (.tup [.int .i64 x.2.1, .int .i64 x.2.2], H') ∧ GR H' g most x.1 F' ∧ MvT F H F' H'
theorem GvR.mk {H H' : AHeap} {g : Nat} {most l e : Int} {F : List Nat} {x : List Nd × Int × Int} {js : List Nd} {r : Option (AV × AHeap)} (h : some (.tup [.int .i64 l, .int .i64 e], H') = r) (hx : x = (js, l, e)) (F' : List Nat) (g' : GR H' g most js F') (k : MvT F H F' H') : GvR H g most F x r := by
  subst hx; exact ⟨H', F', h.symm, g', k⟩
theorem GvR.keep {H H' : AHeap} {g : Nat} {most l e : Int} {F : List Nat} {ns : List Nd} {x : List Nd × Int × Int} {r : Option (AV × AHeap)} (G : GR H g most ns F) (h : some (.tup [.int .i64 l, .int .i64 e], H') = r) (hx : x = (ns, l, e)) (k : Keeps H H') : GvR H g most F x r :=
  GvR.mk h hx _ (G.keeps k) (MvT.keeps k)
theorem kids3 (N a x y z : Int) : kidsOK N a [x, y, z] 0 = true ↔ ∀ i, i < 3 → kidOK N a i ([x, y, z].getD i 0) = true := by
  simp only [kidsOK, Bool.and_eq_true, and_true]
  constructor
  · rintro ⟨h1, h2, h3⟩ i hi
    rcases (show i = 0 ∨ i = 1 ∨ i = 2 by omega) with rfl | rfl | rfl
    · exact h1
    · exact h2
    · exact h3
  · intro h
    exact ⟨h 0 (by omega), h 1 (by omega), h 2 (by omega)⟩
theorem kids3' (N a x y z : Int) (h : ∃ i, i < 3 ∧ kidOK N a i ([x, y, z].getD i 0) = false) : kidsOK N a [x, y, z] 0 = false := by
  obtain ⟨i, hi, h⟩ := h
  rw [Bool.eq_false_iff]
  intro hk
  rw [(kids3 N a x y z).1 hk i hi] at h
  cases h
theorem rmk1_run {H : AHeap} {g : Nat} {most : Int} {ns : List Nd} {F : List Nat} (G : GR H g most ns F) {n : Nd} (hop : n.op = 1) {r : Option (AV × AHeap)} (h : R Z2 [.ptr g 0, .agg n.cs] H = r) : GvR H g most F (makT most ns n) r := by
  obtain ⟨o, t, v, kok, rfl⟩ := id G
  rw [Zdf] at h
  obtain ⟨S, hS⟩ : ∃ S, S = makT most ns n := ⟨_, rfl⟩
  obtain ⟨B, hB⟩ : ∃ B, B = formedF ns.length n := ⟨_, rfl⟩
  have hSB : B = false → S = (ns, 0, 32) := fun e => by rw [hS]; unfold makT; rw [if_pos (hB.symm.trans e)]
  have hSs : B = true → S = if ¬ (sortedF ns n).2 = 0 then (ns, 0, (sortedF ns n).2) else match idx ns (sortedF ns n).1 with
      | some i => (ns, (i : Int) + 1, 0)
      | none => if most ≤ ns.length then (ns, 0, 33) else (ns ++ [(sortedF ns n).1], (ns.length : Int) + 1, 0) := fun e => by
    rw [hS]; unfold makT; rw [if_neg (by simp [← hB, e])]; rfl
  have hkk : B = true → Kok (ns ++ [n]) := fun e => by
    obtain ⟨f1, f2, f3⟩ := formed_kids0 (hB.symm.trans e)
    obtain ⟨ka, kb, kc⟩ := formed_kids (hB.symm.trans e)
    exact kok.grow ⟨⟨f1, ka⟩, ⟨f2, kb⟩, ⟨f3, kc⟩⟩
  rw [← hS]
  clear hS
  obtain ⟨M, hM⟩ : ∃ M, M = n := ⟨_, rfl⟩
  have hcs0 : n.cs = M.cs := by rw [hM]
  have hsf : sortedF ns n = (M, if rightF n.vw n.vl n.vh = true ∧ n.vw = n.sort ∧ n.p = 0 ∧ n.q = 0 then 0 else 30) := by unfold sortedF; rw [if_pos hop, hM]
  rw [← hM] at hkk
  have hMo : M.op = 1 := by rw [hM, hop]
  have har := fun H => arityR_run (op := n.op) (H := H)
  have ar1 : arity 1 = 0 := by decide
  rw [hsf] at hSs
  clear hsf hM
  unfold formedF at hB
  obtain ⟨op, sort, a, b, c, p, q, vw, vl, vh, name⟩ := n
  simp only at hop
  subst hop
  simp only [ar1] at har hB
  simp only [Nd.cs] at h
  by_cases c1 : name = ⟨#[]⟩
  rotate_left
  · have c1' : ¬ name = .empty := c1
    simp (maxDischargeDepth := 40) [Zw, har, c1] at h
    exact GvR.keep G h (hSB (by rw [hB]; simp [c1'])) (by simp (maxDischargeDepth := 40))
  subst c1
  have hBk : B = kidsOK ns.length 0 [a, b, c] 0 := by rw [hB]; simp [show (⟨#[]⟩ : ByteArray) = .empty from rfl]
  clear hB
  simp (maxDischargeDepth := 40) [Zw, har] at h
  generalize hL : loopL _ _ _ _ _ _ = q0 at h
  have kb : Keeps H ((H.new (.cells [.int .i64 1, .int .i64 sort, .int .i64 a, .int .i64 b, .int .i64 c, .int .i64 p, .int .i64 q, .int .i64 vw, u vl, u vh, .str ⟨#[]⟩])).new (.cells [.int .i64 a, .int .i64 b, .int .i64 c])) := (Keeps.new _ _).trans (Keeps.new _ _)
  obtain ⟨y, e1, H1, rfl, ⟨k1, hy⟩, fr⟩ := rmk_loop0 (q := H.size + 1) (kids := [a, b, c]) (a := 0) (t.keep kb) (fun _ => rfl) rfl (by simp) (by simp) hL (by simp) (by simp) (by simp) (by simp) (by simp)
  have k2 := kb.trans k1
  have ob : H1.obj H.size = .cells (Nd.cs ⟨1, sort, a, b, c, p, q, vw, vl, vh, ⟨#[]⟩⟩) := by rw [k1.obj _ (by simp)]; simp [Nd.cs]
  simp only [Nd.cs] at hcs0
  simp only [Nd.cs] at ob
  clear hL
  rcases hy with ⟨rfl, hk, w, e8, hout⟩ | ⟨rfl, hk, e4, e5⟩
  rotate_left
  · simp (maxDischargeDepth := 40) [e4, e5, k2] at h
    exact GvR.keep G h (hSB (by rw [hBk]; exact kids3' _ _ _ _ _ hk)) (Keeps.refl _)
  have hBt : B = true := by rw [hBk]; exact (kids3 _ _ _ _ _).2 hk
  replace hSs := hSs hBt
  have kok' := hkk hBt
  clear hkk hSB hBk hk
  have hr := fun H => rightR_run (w := vw) (l := vl) (h := vh) (H := H)
  generalize rightF vw vl vh = rt at *
  by_cases d : rt = true ∧ vw = sort ∧ p = 0 ∧ q = 0
  rotate_left
  · rw [if_neg d] at hSs
    simp only [show ¬ ((30 : Int) = 0) from by decide, not_false_eq_true, if_true] at hSs
    refine GvR.keep (l := 0) (e := 30) (H' := H) G ?_ hSs (Keeps.refl _)
    cases rt with
    | false => simpa (maxDischargeDepth := 40) [fr, ob, hr, k2] using h
    | true =>
      by_cases d2 : vw = sort
      rotate_left
      · simpa (maxDischargeDepth := 40) [fr, ob, hr, d2, k2] using h
      subst d2
      by_cases d3 : p = 0
      rotate_left
      · simpa (maxDischargeDepth := 40) [fr, ob, hr, d3, k2] using h
      by_cases d4 : q = 0
      rotate_left
      · simpa (maxDischargeDepth := 40) [fr, ob, hr, d3, d4, k2] using h
      exact absurd ⟨rfl, rfl, d3, d4⟩ d
  rw [if_pos d] at hSs
  obtain ⟨rfl, rfl, rfl, rfl⟩ := d
  simp only [not_true_eq_false, if_false] at hSs
  simp (maxDischargeDepth := 40) [fr, ob, hr] at h
  have hcs := hcs0
  rw [hcs] at ob
  have hmv : idx ns M = none → M.op = 2 → M = ⟨2, M.sort, 0, 0, 0, 0, 0, 0, 0#64, 0#64, M.name⟩ := fun _ e => by omega
  have lg := t.lg
  have og2 := (k2.obj g lg).trans t.og
  have hlen := slv_len o ns
  have lim := t.lim
  have lim2 := t.lim2
  generalize hL : loopL _ _ _ Zs _ _ = q1 at h
  obtain ⟨y, e3, H3, rfl, ⟨rfl, hy⟩, fr3⟩ := rmk_loop1 (p := H.size) (M := M) (t.keep k2) ob hL (by simp [fr]) (by simp [fr]) (by simp)
  rcases hy with ⟨rfl, hi⟩ | ⟨rfl, i, hi, e4, e5⟩
  rotate_left
  · simp (maxDischargeDepth := 40) [e4, e5, num, k2] at h
    exact GvR.keep G h (by rw [hSs, hi]) (Keeps.refl _)
  rw [hi] at hSs
  by_cases c9 : most ≤ ns.length
  · simp (maxDischargeDepth := 40) [fr, fr3, og2, hlen, c9, k2] at h
    exact GvR.keep G h (by rw [hSs]; simp [c9]) (Keeps.refl _)
  have hSs2 : S = (ns ++ [M], (ns.length : Int) + 1, 0) := by rw [hSs]; simp [c9]
  simp (maxDischargeDepth := 40) [fr, fr3, ob, og2, hlen, c9] at h
  generalize hA : appU _ _ _ _ = q2 at h
  have hob : ∀ p, p ∈ objs (slv o ns) → ns ≠ [] ∧ p = o := fun p hp => by
    unfold slv at hp
    split at hp
    · simp at hp
    · rename_i hne; simp at hp; exact ⟨hne, hp⟩
  have t3 := t.keep (k2.new' (.cells M.cs))
  rw [show [AV.int .i64 M.op, .int .i64 M.sort, .int .i64 M.a, .int .i64 M.b, .int .i64 M.c, .int .i64 M.p, .int .i64 M.q, .int .i64 M.vw, u M.vl, u M.vh, .str M.name] = M.cs from rfl] at hA
  obtain ⟨H4, rfl, f4, s4, oo, -⟩ := app_of hA (slv_reads t3.l1 t3.b1) (slv_grows _ _) (Reads.row' (all := M.cs) (by simp) (by simp) (by simp)) (by omega) rfl (by omega) (by omega) (by omega) (by simp [Nd.cs])
  simp only [new_size] at s4 oo
  have F4 : ∀ p, p < H.size → (ns ≠ [] → p ≠ o) → H4.obj p = H.obj p := fun p hp hne => by
    have := k2.size
    rw [f4.obj p (by simp; omega) (fun hh => hne (hob p hh).1 (hob p hh).2)]
    exact (k2.new' _).obj p hp
  have g4 : H4.obj g = .cells [slv o ns, .int .i64 most] := (F4 g lg t.n1).trans t.og
  have lg4 : g < H4.size := by have := k2.size; omega
  have sz2 := k2.size
  simp (maxDischargeDepth := 40) [fr, fr3, g4] at h
  generalize hH5 : AHeap.set _ _ _ = H5 at h
  have og5 : H5.obj g = .cells [.row (H3.size + 1) 0 11 (ns.length + 1) false, .int .i64 most] := by rw [← hH5]; simp
  have oh5 : H5.obj (H3.size + 1) = .cells (flat ns ++ M.cs) := by
    have : ¬ H3.size + 1 = g := by omega
    rw [← hH5]; simp [this]; exact oo
  have sz5 : H5.size = H3.size + 2 := by rw [← hH5]; simp; omega
  have fr5 : Fr (g :: objs (slv o ns)) H H5 := by
    rw [← hH5]
    exact (((k2.new' _).fr _).trans f4 (fun p hp => .inl (by simp [hp]))).set (.inl (by simp)) _
  clear hH5
  have hns : ¬ Shut H H5 := fun hsh => by
    rcases hsh.obj g lg with e | e
    · rw [og5, t.og] at e
      have e2 : slv o ns = .row (H3.size + 1) 0 11 (ns.length + 1) false := by
        simp only [AObj.cells.injEq, List.cons.injEq] at e; exact e.1.symm
      unfold slv at e2
      split at e2
      · cases e2
      · simp at e2
    · rw [og5] at e
      simp [closedO] at e
      omega
  rw [back_not hns] at h
  have hsl : slv (H3.size + 1) (ns ++ [M]) = .row (H3.size + 1) 0 11 (ns.length + 1) false := by unfold slv; rw [if_neg (by simp)]; simp
  refine GvR.mk h hSs2 [g, H3.size + 1] ⟨H3.size + 1, ⟨by omega, fun _ => by omega, by rw [hsl]; exact og5, fun _ => by rw [flat_append]; exact oh5, fun _ => by omega, by simp; omega, lim2⟩, ?_, kok', by rw [hsl]; simp⟩ ⟨fr5, fun p hp => ?_⟩
  · intro m hm
    simp at hm
    rcases hm with hm | rfl
    · exact v m hm
    · exact hmv hi
  · simp at hp ⊢
    rcases hp with hp | hp
    · simp [hp]
    · right; omega
end Go.Proofs.YtiaoojghohfkjaaGreat
end
section
namespace Go.Proofs.YtiaoojghohfkjaaGreat
set_option maxRecDepth 100000
set_option maxHeartbeats 4000000
theorem rmk2_run {H : AHeap} {g : Nat} {most : Int} {ns : List Nd} {F : List Nat} (G : GR H g most ns F) {n : Nd} (hop : n.op = 2) {r : Option (AV × AHeap)} (h : R Z2 [.ptr g 0, .agg n.cs] H = r) : GvR H g most F (makT most ns n) r := by
  obtain ⟨o, t, v, kok, rfl⟩ := id G
  rw [Zdf] at h
  obtain ⟨S, hS⟩ : ∃ S, S = makT most ns n := ⟨_, rfl⟩
  obtain ⟨B, hB⟩ : ∃ B, B = formedF ns.length n := ⟨_, rfl⟩
  have hSB : B = false → S = (ns, 0, 32) := fun e => by rw [hS]; unfold makT; rw [if_pos (hB.symm.trans e)]
  have hSs : B = true → S = if ¬ (sortedF ns n).2 = 0 then (ns, 0, (sortedF ns n).2) else match idx ns (sortedF ns n).1 with
      | some i => (ns, (i : Int) + 1, 0)
      | none => if most ≤ ns.length then (ns, 0, 33) else (ns ++ [(sortedF ns n).1], (ns.length : Int) + 1, 0) := fun e => by
    rw [hS]; unfold makT; rw [if_neg (by simp [← hB, e])]; rfl
  have hkk : B = true → Kok (ns ++ [n]) := fun e => by
    obtain ⟨f1, f2, f3⟩ := formed_kids0 (hB.symm.trans e)
    obtain ⟨ka, kb, kc⟩ := formed_kids (hB.symm.trans e)
    exact kok.grow ⟨⟨f1, ka⟩, ⟨f2, kb⟩, ⟨f3, kc⟩⟩
  rw [← hS]
  clear hS
  obtain ⟨M, hM⟩ : ∃ M, M = n := ⟨_, rfl⟩
  have hcs0 : n.cs = M.cs := by rw [hM]
  have hsf : sortedF ns n = (M, if isSort n.sort = true ∧ n.p = 0 ∧ n.q = 0 then (if nameBad ns n then 34 else 0) else 30) := by unfold sortedF; rw [if_neg (by omega), if_pos hop, hM]
  have hbad : nameBad ns n = (decide (n.name = ⟨#[]⟩) || match vidx ns n.name with | some i => decide (¬ (ns.getD i Nd.zero).sort = n.sort) | none => false) := rfl
  have hmv0 : B = true → n.p = 0 → n.q = 0 → M = ⟨2, M.sort, 0, 0, 0, 0, 0, 0, 0#64, 0#64, M.name⟩ := fun e hp hq => by
    rw [hM]; exact formed_var (hB.symm.trans e) hop hp hq
  rw [← hM] at hkk
  have har := fun H => arityR_run (op := n.op) (H := H)
  have ar1 : arity 2 = 0 := by decide
  rw [hsf] at hSs
  clear hsf hM
  unfold formedF at hB
  obtain ⟨op, sort, a, b, c, p, q, vw, vl, vh, name⟩ := n
  simp only at hop
  subst hop
  simp only [ar1] at har hB
  simp only at hbad hmv0
  simp only [Nd.cs] at h
  cases hz : (decide (vw = 0) && (decide (vl = 0#64) && decide (vh = 0#64))) with
  | false =>
    simp (maxDischargeDepth := 40) [Zw, har, hz] at h
    exact GvR.keep G h (hSB (by rw [hB]; simp only [Bool.decide_and, hz]; simp)) (Keeps.refl _)
  | true =>
  simp only [Bool.and_eq_true, decide_eq_true_eq] at hz
  obtain ⟨rfl, rfl, rfl⟩ := hz
  have hBk : B = kidsOK ns.length 0 [a, b, c] 0 := by rw [hB]; simp
  clear hB
  simp (maxDischargeDepth := 40) [Zw, har] at h
  generalize hL : loopL _ _ _ _ _ _ = q0 at h
  have kb : Keeps H ((H.new (.cells [.int .i64 2, .int .i64 sort, .int .i64 a, .int .i64 b, .int .i64 c, .int .i64 p, .int .i64 q, .int .i64 0, u 0#64, u 0#64, .str name])).new (.cells [.int .i64 a, .int .i64 b, .int .i64 c])) := (Keeps.new _ _).trans (Keeps.new _ _)
  obtain ⟨y, e1, H1, rfl, ⟨k1, hy⟩, fr⟩ := rmk_loop0 (q := H.size + 1) (kids := [a, b, c]) (a := 0) (t.keep kb) (fun _ => rfl) rfl (by simp) (by simp) hL (by simp) (by simp) (by simp) (by simp) (by simp)
  have k2 := kb.trans k1
  have ob : H1.obj H.size = .cells (Nd.cs ⟨2, sort, a, b, c, p, q, 0, 0#64, 0#64, name⟩) := by rw [k1.obj _ (by simp)]; simp [Nd.cs]
  simp only [Nd.cs] at hcs0
  simp only [Nd.cs] at ob
  clear hL
  rcases hy with ⟨rfl, hk, w, e8, hout⟩ | ⟨rfl, hk, e4, e5⟩
  rotate_left
  · simp (maxDischargeDepth := 40) [e4, e5, k2] at h
    exact GvR.keep G h (hSB (by rw [hBk]; exact kids3' _ _ _ _ _ hk)) (Keeps.refl _)
  have hBt : B = true := by rw [hBk]; exact (kids3 _ _ _ _ _).2 hk
  replace hSs := hSs hBt
  have kok' := hkk hBt
  replace hmv0 := hmv0 hBt
  clear hkk hSB hBk hk
  have hr := fun H => isR_run (n := sort) (H := H)
  have hvr := rvar_run (t.keep k2) (s := name)
  rw [hbad] at hSs
  clear hbad
  generalize isSort sort = rt at *
  by_cases d : rt = true ∧ p = 0 ∧ q = 0
  rotate_left
  · rw [if_neg d] at hSs
    simp only [show ¬ ((30 : Int) = 0) from by decide, not_false_eq_true, if_true] at hSs
    refine GvR.keep (l := 0) (e := 30) (H' := H) G ?_ hSs (Keeps.refl _)
    cases rt with
    | false => simpa (maxDischargeDepth := 40) [fr, ob, hr, k2] using h
    | true =>
      by_cases d3 : p = 0
      rotate_left
      · simpa (maxDischargeDepth := 40) [fr, ob, hr, d3, k2] using h
      by_cases d4 : q = 0
      rotate_left
      · simpa (maxDischargeDepth := 40) [fr, ob, hr, d3, d4, k2] using h
      exact absurd ⟨rfl, d3, d4⟩ d
  rw [if_pos d] at hSs
  obtain ⟨rfl, rfl, rfl⟩ := d
  have hmv : idx ns M = none → M.op = 2 → M = ⟨2, M.sort, 0, 0, 0, 0, 0, 0, 0#64, 0#64, M.name⟩ := fun _ _ => hmv0 rfl rfl
  clear hmv0
  by_cases c1 : name = ⟨#[]⟩
  · subst c1
    simp only [decide_true, Bool.true_or, if_true, show ¬ ((34 : Int) = 0) from by decide, not_false_eq_true] at hSs
    refine GvR.keep (l := 0) (e := 34) (H' := H) G ?_ hSs (Keeps.refl _)
    cases hv : vidx ns (⟨#[]⟩ : ByteArray) with
    | none =>
      rw [hv] at hvr
      simp only [Option.map_none, Option.getD_none, Option.isSome_none] at hvr
      simpa (maxDischargeDepth := 40) [fr, ob, hr, hvr, k2] using h
    | some j =>
      rw [hv] at hvr
      simp only [Option.map_some, Option.getD_some, Option.isSome_some, num] at hvr
      simpa (maxDischargeDepth := 40) [fr, ob, hr, hvr, k2] using h
  rw [decide_eq_false c1, Bool.false_or] at hSs
  have hcs := hcs0
  obtain ⟨D, hD⟩ : ∃ D : Bool, D = match vidx ns name with | some i => decide (¬ (ns.getD i Nd.zero).sort = sort) | none => false := ⟨_, rfl⟩
  rw [← hD] at hSs
  cases D with
  | true =>
    simp only [if_true, show ¬ ((34 : Int) = 0) from by decide, not_false_eq_true] at hSs
    refine GvR.keep (l := 0) (e := 34) (H' := H) G ?_ hSs (Keeps.refl _)
    cases hv : vidx ns name with
    | none => rw [hv] at hD; cases hD
    | some j =>
      rw [hv] at hvr hD
      simp only [Option.map_some, Option.getD_some, Option.isSome_some, num] at hvr
      have hj := vidx_lt hv
      have hne : ns ≠ [] := by rintro rfl; simp at hj
      have lim := t.lim
      have lim2 := t.lim2
      have wj : IntKind.i64.wrap (j : Int) = (j : Int) := i64w (by omega) (by omega)
      have cj : (j : Int) < ns.length := by omega
      have hat : (flat ns)[j * 11 + 1]? = some (.int .i64 (ns.getD j Nd.zero).sort) := by
        rw [flat_get (n := ns.getD j Nd.zero) (by simp [hj]) (by omega)]; rfl
      have t2 := t.keep k2
      have og2 := t2.og
      rw [slv_row hj] at og2
      have hb := t2.b1 hne
      have d6 : ¬ (ns.getD j Nd.zero).sort = sort := by simpa only [decide_eq_true_eq] using hD.symm
      generalize (ns.getD j Nd.zero).sort = s at *
      simpa (maxDischargeDepth := 40) [fr, ob, hr, hvr, c1, k2, wj, cj, og2, hb, hat, d6] using h
  | false =>
  simp only [Bool.false_eq_true, if_false, not_true_eq_false] at hSs
  cases hv : vidx ns name with
  | none =>
    rw [hv] at hvr
    simp only [Option.map_none, Option.getD_none, Option.isSome_none] at hvr
    simp (maxDischargeDepth := 40) [fr, ob, hr, hvr, c1] at h
    rw [hcs] at ob
    have lg := t.lg
    have og2 := (k2.obj g lg).trans t.og
    have hlen := slv_len o ns
    have lim := t.lim
    have lim2 := t.lim2
    generalize hL : loopL _ _ _ Zs _ _ = q1 at h
    obtain ⟨y, e3, H3, rfl, ⟨rfl, hy⟩, fr3⟩ := rmk_loop1 (p := H.size) (M := M) (t.keep k2) ob hL (by simp [fr]) (by simp [fr]) (by simp)
    rcases hy with ⟨rfl, hi⟩ | ⟨rfl, i, hi, e4, e5⟩
    rotate_left
    · simp (maxDischargeDepth := 40) [e4, e5, num, k2] at h
      exact GvR.keep G h (by rw [hSs, hi]) (Keeps.refl _)
    rw [hi] at hSs
    by_cases c9 : most ≤ ns.length
    · simp (maxDischargeDepth := 40) [fr, fr3, og2, hlen, c9, k2] at h
      exact GvR.keep G h (by rw [hSs]; simp [c9]) (Keeps.refl _)
    have hSs2 : S = (ns ++ [M], (ns.length : Int) + 1, 0) := by rw [hSs]; simp [c9]
    simp (maxDischargeDepth := 40) [fr, fr3, ob, og2, hlen, c9] at h
    generalize hA : appU _ _ _ _ = q2 at h
    have hob : ∀ p, p ∈ objs (slv o ns) → ns ≠ [] ∧ p = o := fun p hp => by
      unfold slv at hp
      split at hp
      · simp at hp
      · rename_i hne; simp at hp; exact ⟨hne, hp⟩
    have t3 := t.keep (k2.new' (.cells M.cs))
    rw [show [AV.int .i64 M.op, .int .i64 M.sort, .int .i64 M.a, .int .i64 M.b, .int .i64 M.c, .int .i64 M.p, .int .i64 M.q, .int .i64 M.vw, u M.vl, u M.vh, .str M.name] = M.cs from rfl] at hA
    obtain ⟨H4, rfl, f4, s4, oo, -⟩ := app_of hA (slv_reads t3.l1 t3.b1) (slv_grows _ _) (Reads.row' (all := M.cs) (by simp) (by simp) (by simp)) (by omega) rfl (by omega) (by omega) (by omega) (by simp [Nd.cs])
    simp only [new_size] at s4 oo
    have F4 : ∀ p, p < H.size → (ns ≠ [] → p ≠ o) → H4.obj p = H.obj p := fun p hp hne => by
      have := k2.size
      rw [f4.obj p (by simp; omega) (fun hh => hne (hob p hh).1 (hob p hh).2)]
      exact (k2.new' _).obj p hp
    have g4 : H4.obj g = .cells [slv o ns, .int .i64 most] := (F4 g lg t.n1).trans t.og
    have lg4 : g < H4.size := by have := k2.size; omega
    have sz2 := k2.size
    simp (maxDischargeDepth := 40) [fr, fr3, g4] at h
    generalize hH5 : AHeap.set _ _ _ = H5 at h
    have og5 : H5.obj g = .cells [.row (H3.size + 1) 0 11 (ns.length + 1) false, .int .i64 most] := by rw [← hH5]; simp
    have oh5 : H5.obj (H3.size + 1) = .cells (flat ns ++ M.cs) := by
      have : ¬ H3.size + 1 = g := by omega
      rw [← hH5]; simp [this]; exact oo
    have sz5 : H5.size = H3.size + 2 := by rw [← hH5]; simp; omega
    have fr5 : Fr (g :: objs (slv o ns)) H H5 := by
      rw [← hH5]
      exact (((k2.new' _).fr _).trans f4 (fun p hp => .inl (by simp [hp]))).set (.inl (by simp)) _
    clear hH5
    have hns : ¬ Shut H H5 := fun hsh => by
      rcases hsh.obj g lg with e | e
      · rw [og5, t.og] at e
        have e2 : slv o ns = .row (H3.size + 1) 0 11 (ns.length + 1) false := by
          simp only [AObj.cells.injEq, List.cons.injEq] at e; exact e.1.symm
        unfold slv at e2
        split at e2
        · cases e2
        · simp at e2
      · rw [og5] at e
        simp [closedO] at e
        omega
    rw [back_not hns] at h
    have hsl : slv (H3.size + 1) (ns ++ [M]) = .row (H3.size + 1) 0 11 (ns.length + 1) false := by unfold slv; rw [if_neg (by simp)]; simp
    refine GvR.mk h hSs2 [g, H3.size + 1] ⟨H3.size + 1, ⟨by omega, fun _ => by omega, by rw [hsl]; exact og5, fun _ => by rw [flat_append]; exact oh5, fun _ => by omega, by simp; omega, lim2⟩, ?_, kok', by rw [hsl]; simp⟩ ⟨fr5, fun p hp => ?_⟩
    · intro m hm
      simp at hm
      rcases hm with hm | rfl
      · exact v m hm
      · exact hmv hi
    · simp at hp ⊢
      rcases hp with hp | hp
      · simp [hp]
      · right; omega
  | some j =>
    rw [hv] at hvr hD
    simp only [Option.map_some, Option.getD_some, Option.isSome_some, num] at hvr
    have hj := vidx_lt hv
    have hne : ns ≠ [] := by rintro rfl; simp at hj
    have limj := t.lim
    have limj2 := t.lim2
    have wj : IntKind.i64.wrap (j : Int) = (j : Int) := i64w (by omega) (by omega)
    have cj : (j : Int) < ns.length := by omega
    have hat : (flat ns)[j * 11 + 1]? = some (.int .i64 (ns.getD j Nd.zero).sort) := by
      rw [flat_get (n := ns.getD j Nd.zero) (by simp [hj]) (by omega)]; rfl
    have t2 := t.keep k2
    have og2j := t2.og
    rw [slv_row hj] at og2j
    have hb := t2.b1 hne
    have d6 : (ns.getD j Nd.zero).sort = sort := by
      have := hD.symm
      simpa only [decide_eq_false_iff_not, Decidable.not_not] using this
    rw [d6] at hat
    clear hD d6
    simp (maxDischargeDepth := 40) [fr, ob, hr, hvr, c1, wj, cj, og2j, hb, hat] at h
    rw [hcs] at ob
    have lg := t.lg
    have og2 := (k2.obj g lg).trans t.og
    have hlen := slv_len o ns
    have lim := t.lim
    have lim2 := t.lim2
    generalize hL : loopL _ _ _ Zs _ _ = q1 at h
    obtain ⟨y, e3, H3, rfl, ⟨rfl, hy⟩, fr3⟩ := rmk_loop1 (p := H.size) (M := M) (t.keep k2) ob hL (by simp [fr]) (by simp [fr]) (by simp)
    rcases hy with ⟨rfl, hi⟩ | ⟨rfl, i, hi, e4, e5⟩
    rotate_left
    · simp (maxDischargeDepth := 40) [e4, e5, num, k2] at h
      exact GvR.keep G h (by rw [hSs, hi]) (Keeps.refl _)
    rw [hi] at hSs
    by_cases c9 : most ≤ ns.length
    · simp (maxDischargeDepth := 40) [fr, fr3, og2, hlen, c9, k2] at h
      exact GvR.keep G h (by rw [hSs]; simp [c9]) (Keeps.refl _)
    have hSs2 : S = (ns ++ [M], (ns.length : Int) + 1, 0) := by rw [hSs]; simp [c9]
    simp (maxDischargeDepth := 40) [fr, fr3, ob, og2, hlen, c9] at h
    generalize hA : appU _ _ _ _ = q2 at h
    have hob : ∀ p, p ∈ objs (slv o ns) → ns ≠ [] ∧ p = o := fun p hp => by
      unfold slv at hp
      split at hp
      · simp at hp
      · rename_i hne; simp at hp; exact ⟨hne, hp⟩
    have t3 := t.keep (k2.new' (.cells M.cs))
    rw [show [AV.int .i64 M.op, .int .i64 M.sort, .int .i64 M.a, .int .i64 M.b, .int .i64 M.c, .int .i64 M.p, .int .i64 M.q, .int .i64 M.vw, u M.vl, u M.vh, .str M.name] = M.cs from rfl] at hA
    obtain ⟨H4, rfl, f4, s4, oo, -⟩ := app_of hA (slv_reads t3.l1 t3.b1) (slv_grows _ _) (Reads.row' (all := M.cs) (by simp) (by simp) (by simp)) (by omega) rfl (by omega) (by omega) (by omega) (by simp [Nd.cs])
    simp only [new_size] at s4 oo
    have F4 : ∀ p, p < H.size → (ns ≠ [] → p ≠ o) → H4.obj p = H.obj p := fun p hp hne => by
      have := k2.size
      rw [f4.obj p (by simp; omega) (fun hh => hne (hob p hh).1 (hob p hh).2)]
      exact (k2.new' _).obj p hp
    have g4 : H4.obj g = .cells [slv o ns, .int .i64 most] := (F4 g lg t.n1).trans t.og
    have lg4 : g < H4.size := by have := k2.size; omega
    have sz2 := k2.size
    simp (maxDischargeDepth := 40) [fr, fr3, g4] at h
    generalize hH5 : AHeap.set _ _ _ = H5 at h
    have og5 : H5.obj g = .cells [.row (H3.size + 1) 0 11 (ns.length + 1) false, .int .i64 most] := by rw [← hH5]; simp
    have oh5 : H5.obj (H3.size + 1) = .cells (flat ns ++ M.cs) := by
      have : ¬ H3.size + 1 = g := by omega
      rw [← hH5]; simp [this]; exact oo
    have sz5 : H5.size = H3.size + 2 := by rw [← hH5]; simp; omega
    have fr5 : Fr (g :: objs (slv o ns)) H H5 := by
      rw [← hH5]
      exact (((k2.new' _).fr _).trans f4 (fun p hp => .inl (by simp [hp]))).set (.inl (by simp)) _
    clear hH5
    have hns : ¬ Shut H H5 := fun hsh => by
      rcases hsh.obj g lg with e | e
      · rw [og5, t.og] at e
        have e2 : slv o ns = .row (H3.size + 1) 0 11 (ns.length + 1) false := by
          simp only [AObj.cells.injEq, List.cons.injEq] at e; exact e.1.symm
        unfold slv at e2
        split at e2
        · cases e2
        · simp at e2
      · rw [og5] at e
        simp [closedO] at e
        omega
    rw [back_not hns] at h
    have hsl : slv (H3.size + 1) (ns ++ [M]) = .row (H3.size + 1) 0 11 (ns.length + 1) false := by unfold slv; rw [if_neg (by simp)]; simp
    refine GvR.mk h hSs2 [g, H3.size + 1] ⟨H3.size + 1, ⟨by omega, fun _ => by omega, by rw [hsl]; exact og5, fun _ => by rw [flat_append]; exact oh5, fun _ => by omega, by simp; omega, lim2⟩, ?_, kok', by rw [hsl]; simp⟩ ⟨fr5, fun p hp => ?_⟩
    · intro m hm
      simp at hm
      rcases hm with hm | rfl
      · exact v m hm
      · exact hmv hi
    · simp at hp ⊢
      rcases hp with hp | hp
      · simp [hp]
      · right; omega
end Go.Proofs.YtiaoojghohfkjaaGreat
end
section
namespace Go.Proofs.YtiaoojghohfkjaaGreat
set_option maxRecDepth 100000
set_option maxHeartbeats 4000000
theorem rmk3_run {H : AHeap} {g : Nat} {most : Int} {ns : List Nd} {F : List Nat} (G : GR H g most ns F) {n : Nd} (hop1 : ¬ n.op = 1) (hop2 : ¬ n.op = 2) {r : Option (AV × AHeap)} (h : R Z2 [.ptr g 0, .agg n.cs] H = r) : GvR H g most F (makT most ns n) r := by
  obtain ⟨o, t, v, kok, rfl⟩ := id G
  rw [Zdf] at h
  obtain ⟨S, hS⟩ : ∃ S, S = makT most ns n := ⟨_, rfl⟩
  obtain ⟨B, hB⟩ : ∃ B, B = formedF ns.length n := ⟨_, rfl⟩
  have hSB : B = false → S = (ns, 0, 32) := fun e => by rw [hS]; unfold makT; rw [if_pos (hB.symm.trans e)]
  have hSs : B = true → S = if ¬ (sortedF ns n).2 = 0 then (ns, 0, (sortedF ns n).2) else match idx ns (sortedF ns n).1 with
      | some i => (ns, (i : Int) + 1, 0)
      | none => if most ≤ ns.length then (ns, 0, 33) else (ns ++ [(sortedF ns n).1], (ns.length : Int) + 1, 0) := fun e => by
    rw [hS]; unfold makT; rw [if_neg (by simp [← hB, e])]; rfl
  have hkk : B = true → Kok (ns ++ [{ n with sort := (sortS n.op n.p n.q (ksort ns n.a ++ ksort ns n.b ++ ksort ns n.c)).1 }]) := fun e => by
    obtain ⟨f1, f2, f3⟩ := formed_kids0 (hB.symm.trans e)
    obtain ⟨ka, kb, kc⟩ := formed_kids (hB.symm.trans e)
    exact kok.grow ⟨⟨f1, ka⟩, ⟨f2, kb⟩, ⟨f3, kc⟩⟩
  rw [← hS]
  clear hS
  obtain ⟨M, hM⟩ : ∃ M, M = { n with sort := (sortS n.op n.p n.q (ksort ns n.a ++ ksort ns n.b ++ ksort ns n.c)).1 } := ⟨_, rfl⟩
  have hcs0 : Nd.cs { n with sort := (sortS n.op n.p n.q (ksort ns n.a ++ ksort ns n.b ++ ksort ns n.c)).1 } = M.cs := by rw [hM]
  have hsf : sortedF ns n = (M, (sortS n.op n.p n.q (ksort ns n.a ++ ksort ns n.b ++ ksort ns n.c)).2) := by unfold sortedF; rw [if_neg hop1, if_neg hop2, hM]
  have hMo : ¬ M.op = 2 := by rw [hM]; exact hop2
  rw [← hM] at hkk
  have har := fun H => arityR_run (op := n.op) (H := H)
  rw [hsf] at hSs
  clear hsf hM
  unfold formedF at hB
  obtain ⟨op, sort, a, b, c, p, q, vw, vl, vh, name⟩ := n
  simp only at hop1 hop2
  simp only [Nd.cs] at h
  by_cases c0 : arity op < 0
  · have c0' : ¬ 0 ≤ arity op := by omega
    simp (maxDischargeDepth := 40) [Zw, har, c0] at h
    exact GvR.keep G h (hSB (by rw [hB]; simp [c0'])) (Keeps.refl _)
  have c0' : 0 ≤ arity op := by omega
  cases hz : (decide (vw = 0) && (decide (vl = 0#64) && decide (vh = 0#64))) with
  | false =>
    simp (maxDischargeDepth := 40) [Zw, har, c0, hop1, hz] at h
    exact GvR.keep G h (hSB (by rw [hB]; simp only [Bool.decide_and, hz]; simp [hop1])) (Keeps.refl _)
  | true =>
  simp only [Bool.and_eq_true, decide_eq_true_eq] at hz
  obtain ⟨rfl, rfl, rfl⟩ := hz
  by_cases c1 : name = ⟨#[]⟩
  rotate_left
  · have c1' : ¬ name = .empty := c1
    simp (maxDischargeDepth := 40) [Zw, har, c0, hop1, hop2, c1] at h
    exact GvR.keep G h (hSB (by rw [hB]; simp [c1', hop2])) (Keeps.refl _)
  subst c1
  have hBk : B = kidsOK ns.length (arity op) [a, b, c] 0 := by rw [hB]; simp [show (⟨#[]⟩ : ByteArray) = .empty from rfl, c0']
  clear hB
  simp (maxDischargeDepth := 40) [Zw, har, c0, hop1, hop2] at h
  generalize hL : loopL _ _ _ _ _ _ = q0 at h
  have kb : Keeps H ((H.new (.cells [.int .i64 op, .int .i64 sort, .int .i64 a, .int .i64 b, .int .i64 c, .int .i64 p, .int .i64 q, .int .i64 0, u 0#64, u 0#64, .str ⟨#[]⟩])).new (.cells [.int .i64 a, .int .i64 b, .int .i64 c])) := (Keeps.new _ _).trans (Keeps.new _ _)
  obtain ⟨y, e1, H1, rfl, ⟨k1, hy⟩, fr⟩ := rmk_loop0 (q := H.size + 1) (kids := [a, b, c]) (a := arity op) (t.keep kb) (fun _ => rfl) rfl (by simp) (by simp) hL (by simp) (by simp) (by simp) (by simp) (by simp)
  have k2 := kb.trans k1
  have ob : H1.obj H.size = .cells (Nd.cs ⟨op, sort, a, b, c, p, q, 0, 0#64, 0#64, ⟨#[]⟩⟩) := by rw [k1.obj _ (by simp)]; simp [Nd.cs]
  simp only [Nd.cs] at hcs0
  simp only [Nd.cs] at ob
  clear hL
  rcases hy with ⟨rfl, hk, w, e8, hout⟩ | ⟨rfl, hk, e4, e5⟩
  rotate_left
  · simp (maxDischargeDepth := 40) [e4, e5, k2] at h
    exact GvR.keep G h (hSB (by rw [hBk]; exact kids3' _ _ _ _ _ hk)) (Keeps.refl _)
  have hBt : B = true := by rw [hBk]; exact (kids3 _ _ _ _ _).2 hk
  replace hSs := hSs hBt
  have kok' := hkk hBt
  clear hkk hSB hBk hk
  have hr := refSort_run hout.rd (op := op) (p := p) (q := q)
  rw [show [a, b, c].flatMap (ksort ns) = ksort ns a ++ ksort ns b ++ ksort ns c from by simp [List.flatMap_cons]] at hr
  simp only at hSs
  generalize hSS : sortS op p q (ksort ns a ++ ksort ns b ++ ksort ns c) = SS at *
  obtain ⟨s, er⟩ := SS
  simp only [pair] at hr
  simp only at hSs hcs0
  by_cases d : er = 0
  rotate_left
  · rw [if_pos d] at hSs
    refine GvR.keep (l := 0) (e := er) (H' := H) G ?_ hSs (Keeps.refl _)
    simpa (maxDischargeDepth := 40) [fr, ob, hr, e8, hop1, hop2, d, k2] using h
  subst d
  simp only [not_true_eq_false, if_false] at hSs
  have lz : H.size < H1.size := Nat.lt_of_lt_of_le (by simp) k1.size
  simp (maxDischargeDepth := 40) [fr, ob, hr, e8, hop1, hop2] at h
  generalize hHx : AHeap.set _ _ _ = Hx at h
  have k3 : Keeps H Hx := by rw [← hHx]; exact k2.set (Nat.le_refl _) _
  replace ob : Hx.obj H.size = .cells [.int .i64 M.op, .int .i64 M.sort, .int .i64 M.a, .int .i64 M.b, .int .i64 M.c, .int .i64 M.p, .int .i64 M.q, .int .i64 M.vw, u M.vl, u M.vh, .str M.name] := by rw [← hHx, ← hcs0]; simp
  clear hHx k2
  have k2 := k3
  have hmv : idx ns M = none → M.op = 2 → M = ⟨2, M.sort, 0, 0, 0, 0, 0, 0, 0#64, 0#64, M.name⟩ := fun _ e => absurd e hMo
  have lg := t.lg
  have og2 := (k2.obj g lg).trans t.og
  have hlen := slv_len o ns
  have lim := t.lim
  have lim2 := t.lim2
  generalize hL : loopL _ _ _ Zs _ _ = q1 at h
  obtain ⟨y, e3, H3, rfl, ⟨rfl, hy⟩, fr3⟩ := rmk_loop1 (p := H.size) (M := M) (t.keep k2) ob hL (by simp [fr]) (by simp [fr]) (by simp)
  rcases hy with ⟨rfl, hi⟩ | ⟨rfl, i, hi, e4, e5⟩
  rotate_left
  · simp (maxDischargeDepth := 40) [e4, e5, num, k2] at h
    exact GvR.keep G h (by rw [hSs, hi]) (Keeps.refl _)
  rw [hi] at hSs
  by_cases c9 : most ≤ ns.length
  · simp (maxDischargeDepth := 40) [fr, fr3, og2, hlen, c9, k2] at h
    exact GvR.keep G h (by rw [hSs]; simp [c9]) (Keeps.refl _)
  have hSs2 : S = (ns ++ [M], (ns.length : Int) + 1, 0) := by rw [hSs]; simp [c9]
  simp (maxDischargeDepth := 40) [fr, fr3, ob, og2, hlen, c9] at h
  generalize hA : appU _ _ _ _ = q2 at h
  have hob : ∀ p, p ∈ objs (slv o ns) → ns ≠ [] ∧ p = o := fun p hp => by
    unfold slv at hp
    split at hp
    · simp at hp
    · rename_i hne; simp at hp; exact ⟨hne, hp⟩
  have t3 := t.keep (k2.new' (.cells M.cs))
  rw [show [AV.int .i64 M.op, .int .i64 M.sort, .int .i64 M.a, .int .i64 M.b, .int .i64 M.c, .int .i64 M.p, .int .i64 M.q, .int .i64 M.vw, u M.vl, u M.vh, .str M.name] = M.cs from rfl] at hA
  obtain ⟨H4, rfl, f4, s4, oo, -⟩ := app_of hA (slv_reads t3.l1 t3.b1) (slv_grows _ _) (Reads.row' (all := M.cs) (by simp) (by simp) (by simp)) (by omega) rfl (by omega) (by omega) (by omega) (by simp [Nd.cs])
  simp only [new_size] at s4 oo
  have F4 : ∀ p, p < H.size → (ns ≠ [] → p ≠ o) → H4.obj p = H.obj p := fun p hp hne => by
    have := k2.size
    rw [f4.obj p (by simp; omega) (fun hh => hne (hob p hh).1 (hob p hh).2)]
    exact (k2.new' _).obj p hp
  have g4 : H4.obj g = .cells [slv o ns, .int .i64 most] := (F4 g lg t.n1).trans t.og
  have lg4 : g < H4.size := by have := k2.size; omega
  have sz2 := k2.size
  simp (maxDischargeDepth := 40) [fr, fr3, g4] at h
  generalize hH5 : AHeap.set _ _ _ = H5 at h
  have og5 : H5.obj g = .cells [.row (H3.size + 1) 0 11 (ns.length + 1) false, .int .i64 most] := by rw [← hH5]; simp
  have oh5 : H5.obj (H3.size + 1) = .cells (flat ns ++ M.cs) := by
    have : ¬ H3.size + 1 = g := by omega
    rw [← hH5]; simp [this]; exact oo
  have sz5 : H5.size = H3.size + 2 := by rw [← hH5]; simp; omega
  have fr5 : Fr (g :: objs (slv o ns)) H H5 := by
    rw [← hH5]
    exact (((k2.new' _).fr _).trans f4 (fun p hp => .inl (by simp [hp]))).set (.inl (by simp)) _
  clear hH5
  have hns : ¬ Shut H H5 := fun hsh => by
    rcases hsh.obj g lg with e | e
    · rw [og5, t.og] at e
      have e2 : slv o ns = .row (H3.size + 1) 0 11 (ns.length + 1) false := by
        simp only [AObj.cells.injEq, List.cons.injEq] at e; exact e.1.symm
      unfold slv at e2
      split at e2
      · cases e2
      · simp at e2
    · rw [og5] at e
      simp [closedO] at e
      omega
  rw [back_not hns] at h
  have hsl : slv (H3.size + 1) (ns ++ [M]) = .row (H3.size + 1) 0 11 (ns.length + 1) false := by unfold slv; rw [if_neg (by simp)]; simp
  refine GvR.mk h hSs2 [g, H3.size + 1] ⟨H3.size + 1, ⟨by omega, fun _ => by omega, by rw [hsl]; exact og5, fun _ => by rw [flat_append]; exact oh5, fun _ => by omega, by simp; omega, lim2⟩, ?_, kok', by rw [hsl]; simp⟩ ⟨fr5, fun p hp => ?_⟩
  · intro m hm
    simp at hm
    rcases hm with hm | rfl
    · exact v m hm
    · exact hmv hi
  · simp at hp ⊢
    rcases hp with hp | hp
    · simp [hp]
    · right; omega
end Go.Proofs.YtiaoojghohfkjaaGreat
end
section
namespace Go.Proofs.YtiaoojghohfkjaaGreat
set_option maxRecDepth 100000
set_option maxHeartbeats 4000000
theorem rmk_run {H : AHeap} {g : Nat} {most : Int} {ns : List Nd} {F : List Nat} (G : GR H g most ns F) {n : Nd} {r : Option (AV × AHeap)} (h : R Z2 [.ptr g 0, .agg n.cs] H = r) : GvR H g most F (makT most ns n) r := by
  by_cases h1 : n.op = 1
  · exact rmk1_run G h1 h
  by_cases h2 : n.op = 2
  · exact rmk2_run G h2 h
  exact rmk3_run G h1 h2 h
structure Two (H0 H : AHeap) (g q : Nat) (most : Int) (ns : List Nd) (F E : List Nat) : Prop where
  gt : GT H g most ns F
  gr : GR H q most ns E
  kp : Keeps H0 H
  fF : ∀ p, p ∈ F → H0.size ≤ p
  fE : ∀ p, p ∈ E → H0.size ≤ p
  dj : ∀ p, p ∈ F → p ∉ E
theorem Two.make {H0 H H1 H2 : AHeap} {g q : Nat} {most : Int} {ns js : List Nd} {F E F' E' : List Nat} (T : Two H0 H g q most ns F E) (g1 : GT H1 g most js F') (m1 : MvT F H F' H1) (g2 : GR H2 q most js E') (m2 : MvT E H1 E' H2) : Two H0 H2 g q most js F' E' := by
  have hF' : ∀ p, p ∈ F' → H0.size ≤ p := fun p hp => by
    rcases m1.new p hp with h | h
    · exact T.fF p h
    · exact Nat.le_trans T.kp.size h
  have dj1 : ∀ p, p ∈ F' → p ∉ E := fun p hp hE => by
    rcases m1.new p hp with h | h
    · exact T.dj p h hE
    · have := T.gr.lt p hE; omega
  have k1 := m1.fr.keeps T.kp T.fF
  refine ⟨g1.same m2.fr.size fun p hp => m2.fr.obj p (g1.lt p hp) (dj1 p hp), g2, m2.fr.keeps k1 T.fE, hF', fun p hp => ?_, fun p hp hE => ?_⟩
  · rcases m2.new p hp with h | h
    · exact T.fE p h
    · exact Nat.le_trans k1.size h
  · rcases m2.new p hE with h | h
    · exact dj1 p hp h
    · have := g1.lt p hp; omega
theorem Two.keeps {H0 H H' : AHeap} {g q : Nat} {most : Int} {ns : List Nd} {F E : List Nat} (T : Two H0 H g q most ns F E) (k : Keeps H H') : Two H0 H' g q most ns F E :=
  ⟨T.gt.keeps k, T.gr.keeps k, T.kp.trans k, T.fF, T.fE, T.dj⟩
end Go.Proofs.YtiaoojghohfkjaaGreat
end
section
namespace Go.Proofs.YtiaoojghohfkjaaGreat
set_option maxRecDepth 100000
set_option maxHeartbeats 4000000
theorem makT_len {most : Int} {ns : List Nd} {n : Nd} : (makT most ns n).1.length ≤ ns.length + 1 := by
  unfold makT
  repeat' split
  all_goals simp
theorem made_loop {H0 H : AHeap} {g q : Nat} {l : List Nd} {F E : List Nat} (hl : l.length ≤ 120) (T : Two H0 H g q 4096 [] F E) {e : Env} {r : Rn} (hL : loopL Tryz.prog KT R Zd8 e H = r)
    (e0 : e 0 = some (NL l)) (e5 : e 5 = some (.ptr g 0)) (e6 : e 6 = some (.ptr q 0)) (e7 : e 7 = some (.int .i64 0)) :
    ∃ y e' H', r = some (y, e', H') ∧ (Keeps H0 H' ∧ ((y = .exit 0 ∧ ∃ ns F E, Two H0 H' g q 4096 ns F E ∧ Gok ns ∧ ns.length ≤ l.length) ∨ (y = .ret ∧ e' 2 = some .nilp ∧ e' 3 = some .nilp ∧ e' 4 = some (.bool false)))) ∧ ∀ t, t ∉ defs Zd8 → e' t = e t := by
  refine loop_count Zd8.eq_1 hL l.length (fun i e1 H1 => e1 7 = some (.int .i64 i) ∧ ∃ ns F E, Two H0 H1 g q 4096 ns F E ∧ Gok ns ∧ ns.length ≤ i) _ 0 (by omega) ⟨e7, [], F, E, T, Gok.nil, Nat.le_refl _⟩ ?_ ?_
  · rintro i f H1 hf - hi ⟨f7, ns, F1, E1, T1, gok, hnl⟩
    have w1 : IntKind.i64.wrap ((i : Int) + 1) = (i : Int) + 1 := i64w (by omega) (by omega)
    have c1 : (i : Int) < l.length := by omega
    obtain ⟨n, hn⟩ : ∃ n, l[i]? = some n := ⟨l[i], by simp [hi]⟩
    have hat := flat_at hn
    have hfl := flat_len l
    have hle : i * 11 + 11 ≤ l.length * 11 := by omega
    have hle10 : i * 11 + 10 < l.length * 11 := by omega
    have hat10 : (flat l)[i * 11 + 8 + 2]? = some (.str n.name) := by
      rw [show i * 11 + 8 + 2 = i * 11 + 10 from by omega, flat_get hn (by omega)]; rfl
    have kp := T1.kp
    by_cases c2 : (100 : Int) < n.name.size
    · simp (maxDischargeDepth := 40) [hf, NL, e0, f7, c1, hat10, c2]
      exact kp
    · simp (maxDischargeDepth := 40) [hf, NL, e0, e5, f7, c1, hfl, hle, hat, hat10, c2]
      generalize hN : R Zu _ _ = qq
      obtain ⟨js, x, er, hmk⟩ : ∃ js x er, makT 4096 ns n = (js, x, er) := ⟨_, _, _, rfl⟩
      have gk : Gok js := by have := gok.make (most := 4096) (n := n); rw [hmk] at this; exact this
      have hjl : js.length ≤ ns.length + 1 := by have := makT_len (most := 4096) (ns := ns) (n := n); rw [hmk] at this; exact this
      obtain ⟨H2, F2, rfl, g2, m2⟩ := GvT.go T1.gt hmk hN
      simp (maxDischargeDepth := 40) [hf, NL, e0, e6, f7, c1, hfl, hle, hat]
      generalize hN2 : R Z2 _ _ = qq
      have G1 : GR H2 q 4096 ns E1 := T1.gr.same m2.fr.size fun p hp => m2.fr.obj p (T1.gr.lt p hp) (fun h => T1.dj p h hp)
      obtain ⟨H3, E3, rfl, g3, m3⟩ := rmk_run G1 hN2
      rw [hmk] at g3
      rw [hmk]
      have T3 := T1.make g2 m2 g3 m3
      simp (maxDischargeDepth := 40) [f7, w1]
      exact ⟨js, ⟨F2, E3, T3⟩, gk, by omega⟩
  · rintro f H1 hf ⟨f7, ns, F1, E1, T1, gok, hnl⟩
    simp [hf, NL, f7, e0]
    exact ⟨T1.kp, ns, ⟨F1, E1, T1⟩, gok, by omega⟩
theorem made_run {H : AHeap} {l : List Nd} {r : Option (AV × AHeap)} (h : R Zeu [NL l] H = r) :
    r = some (.tup [.nilp, .nilp, .bool false], H) ∨ ∃ g q ns F E H', r = some (.tup [.ptr g 0, .ptr q 0, .bool true], H') ∧ Two H H' g q 4096 ns F E ∧ Gok ns ∧ ns.length ≤ 120 := by
  rw [Zj5] at h
  by_cases c1 : (120 : Int) < l.length
  · simp (maxDischargeDepth := 40) [Zgz, NL, c1] at h
    exact .inl h.symm
  · have hl : l.length ≤ 120 := by omega
    simp (maxDischargeDepth := 40) [Zgz, NL, c1] at h
    generalize hN : R Zgg _ _ = q at h
    obtain ⟨H1, g, F1, rfl, g1, k1, f1⟩ := tnew_run hN
    simp (maxDischargeDepth := 40) at h
    generalize hN : R Zff _ _ = q at h
    obtain ⟨H2, q, E2, rfl, g2, k2, f2⟩ := rnew_run hN
    simp (maxDischargeDepth := 40) at h
    have T2 : Two H H2 g q 4096 [] F1 E2 := ⟨g1.keeps k2, g2, k1.trans k2, f1, fun p hp => Nat.le_trans k1.size (f2 p hp), fun p hp hE => by have := g1.lt p hp; have := f2 p hE; omega⟩
    generalize hL : loopL _ _ _ _ _ _ = q2 at h
    obtain ⟨y, e3, H3, rfl, ⟨k3, hy⟩, fr⟩ := made_loop hl T2 hL (by simp [NL]) (by simp) (by simp) (by simp)
    rcases hy with ⟨rfl, ns, F3, E3, T3, gok, hnl⟩ | ⟨rfl, a2, a3, a4⟩
    · right
      simp (maxDischargeDepth := 40) [fr] at h
      have hg : H.size ≤ g := by
        obtain ⟨p1, p2, p3, t, -, -, hF⟩ := T3.gt
        exact T3.fF g (by rw [hF]; simp)
      rw [back_open (by simp [closed]; omega)] at h
      exact ⟨g, q, ns, F3, E3, H3, h.symm, T3, gok, by omega⟩
    · left
      simp (maxDischargeDepth := 40) [a2, a3, a4, k3] at h
      exact h.symm
end Go.Proofs.YtiaoojghohfkjaaGreat
end
section
namespace Go.Proofs.YtiaoojghohfkjaaGreat
set_option maxRecDepth 100000
set_option maxHeartbeats 4000000
instance : DecidableEq Nm := fun a b => decidable_of_iff (a.name = b.name ∧ a.v = b.v) (by cases a; cases b; simp)
theorem nm_eq {a b : Nm} : decide (a = b) = (decide (a.name = b.name) && (decide (a.v.w = b.v.w) && (decide (lo a.v.n = lo b.v.n) && decide (hi a.v.n = hi b.v.n)))) := by
  rw [← Bool.decide_and, ← Bool.decide_and, ← Bool.decide_and, decide_eq_decide]
  constructor
  · rintro rfl; exact ⟨rfl, rfl, rfl, rfl⟩
  · rintro ⟨h1, h2, h3, h4⟩
    obtain ⟨n, v⟩ := a
    obtain ⟨n', v'⟩ := b
    simp only at h1 h2 h3 h4
    rw [h1, Vl.ext' h2 h3 h4]
theorem named_loop {H : AHeap} {v w : AV} {a b : List Nm} (hv : RN H v a) (hw : RN H w b) (hm : a.length ≤ 1000000) (hl : a.length = b.length)
    {e : Env} {r : Rn} (hL : loopL Tryz.prog KT R Zdy e H = r) (e0 : e 0 = some v) (e1 : e 1 = some w) (e5 : e 5 = some (.int .i64 0)) :
    ∃ x e' H', r = some (x, e', H') ∧ (H' = H ∧ ((x = .exit 0 ∧ a = b) ∨ (x = .ret ∧ e' 4 = some (.bool false) ∧ a ≠ b))) ∧ ∀ t, t ∉ defs Zdy → e' t = e t := by
  have hl' : (a.length : Int) = b.length := by omega
  refine loop_count Zdy.eq_1 hL a.length (fun i e1 H1 => H1 = H ∧ e1 5 = some (.int .i64 i) ∧ a.take i = b.take i) _ 0 (Nat.zero_le _) ⟨rfl, e5, rfl⟩ ?_ ?_
  · rintro i f H1 hf - hi ⟨rfl, f5, ht⟩
    have hib : i < b.length := by omega
    obtain ⟨x, hx⟩ : ∃ x, a[i]? = some x := ⟨a[i], by simp [hi]⟩
    obtain ⟨y, hy⟩ : ∃ y, b[i]? = some y := ⟨b[i], by simp [hib]⟩
    obtain ⟨a1, a2⟩ := hv.at hx
    obtain ⟨b1, b2⟩ := hw.at hy
    replace a2 := a2 H1 (Keeps.refl _)
    replace b2 := b2 H1 (Keeps.refl _)
    have w1 : IntKind.i64.wrap ((i : Int) + 1) = (i : Int) + 1 := i64w (by omega) (by omega)
    have c1 : (i : Int) < b.length := by omega
    have ta : a.take (i + 1) = a.take i ++ [x] := by rw [List.take_add_one, hx]; rfl
    have tb : b.take (i + 1) = b.take i ++ [y] := by rw [List.take_add_one, hy]; rfl
    have hq := nm_eq (a := x) (b := y)
    rw [ta, tb, ht]
    by_cases hab : x = y
    · subst hab
      simp [hf, f5, e0, e1, hv.len, hl', c1, a1, b1, a2, b2, w1]
    · rw [decide_eq_false hab] at hq
      have hne : a ≠ b := by
        rintro rfl
        rw [hx] at hy
        cases hy
        exact hab rfl
      simp [hf, f5, e0, e1, hv.len, hl', c1, a1, b1, a2, b2, ← hq, hne]
  · rintro e1 H1 hf ⟨rfl, f5, ht⟩
    simp [hf, f5, e0, hv.len, hl']
    rw [List.take_of_length_le (Nat.le_refl _), List.take_of_length_le (by omega)] at ht
    exact ht
theorem named_run {H : AHeap} {v w : AV} {a b : List Nm} (hv : RN H v a) (hw : RN H w b) (hm : a.length ≤ 1000000) : R Zcu [v, w] H = some (.bool (decide (a = b)), H) := by
  generalize h : R Zcu [v, w] H = r
  rw [Zjo] at h
  by_cases hl : a.length = b.length
  rotate_left
  · have hl' : ¬ (a.length : Int) = b.length := by omega
    have hne : a ≠ b := fun e => hl (by rw [e])
    simp [Zgk, hv.len, hw.len, hl'] at h
    rw [← h]; simp [hne]
  have hl' : (a.length : Int) = b.length := by omega
  simp [Zgk, hv.len, hw.len, hl'] at h
  generalize hL : loopL _ _ _ _ _ _ = q at h
  obtain ⟨x, e1, H1, rfl, ⟨rfl, hx⟩, fr⟩ := named_loop hv hw hm hl hL (by simp) (by simp) (by simp)
  rcases hx with ⟨rfl, hab⟩ | ⟨rfl, h4, hab⟩
  · simp at h
    rw [← h]; simp [hab]
  · simp [h4] at h
    rw [← h]; simp [hab]
def kX : Nd := ⟨2, 4, 0, 0, 0, 0, 0, 0, 0#64, 0#64, ⟨#[120]⟩⟩
def kA : Nd := ⟨18, 0, 1, 1, 0, 0, 0, 0, 0#64, 0#64, .empty⟩
def kA' : Nd := ⟨18, 4, 1, 1, 0, 0, 0, 0, 0#64, 0#64, .empty⟩
def kU : Nd := ⟨29, 0, 1, 2, 0, 0, 0, 0, 0#64, 0#64, .empty⟩
def kN : List Nm := [⟨⟨#[120]⟩, ⟨4, 9#128⟩⟩]
theorem kmk1 : makT 9 [] kX = ([kX], 1, 0) := by decide
theorem kmk2 : makT 9 [kX] kA = ([kX, kA'], 2, 0) := by decide
theorem kmk3 : makT 9 [kX, kA'] kU = ([kX, kA', kU], 3, 0) := by decide
theorem kv1 : worthS (lookL kN) [kX, kA', kU] 1 = (⟨4, 9#128⟩, 0) := by decide
theorem kv2 : worthS (lookL kN) [kX, kA', kU] 2 = (⟨4, 2#128⟩, 0) := by decide
theorem kv3 : worthS (lookL kN) [kX, kA', kU] 3 = (⟨0, 0#128⟩, 0) := by decide
theorem kv4 : worthS (lookL kN) [kX, kA', kU] 4 = (⟨0, 0#128⟩, 40) := by decide
theorem kv5 : worthS (lookL []) [kX, kA', kU] 3 = (⟨0, 0#128⟩, 41) := by decide
theorem kf1 : fullS (lookL []) [kX, kA', kU] (varsT [kX, kA', kU] 3) = [⟨⟨#[120]⟩, ⟨4, 0#128⟩⟩] := by decide
theorem ka1 : applyS 9 0 0 [⟨0, 1#128⟩, ⟨2, 3#128⟩, ⟨2, 0#128⟩] = (⟨2, 3#128⟩, 0) := by decide
end Go.Proofs.YtiaoojghohfkjaaGreat
end
section
namespace Go.Proofs.YtiaoojghohfkjaaGreat
set_option maxRecDepth 100000
set_option maxHeartbeats 4000000
theorem known4_run {H : AHeap} : R Zel [] H = some (.bool true, H) := by
  generalize h : R Zel [] H = r
  rw [Zjn] at h
  simp (maxDischargeDepth := 40) [Zhs] at h
  generalize hN : R Zgg _ _ = q at h
  obtain ⟨H1, g, F1, rfl, g1, k1, f1⟩ := tnew_run hN
  rw [show min (max (9 : Int) 1) 4096 = 9 from by decide] at g1
  simp (maxDischargeDepth := 40) at h
  generalize hN : R Zu _ _ = q at h
  obtain ⟨H2, F2, rfl, g2, m2⟩ := GvT.go (n := kX) g1 kmk1 hN
  simp (maxDischargeDepth := 40) at h
  generalize hN : R Zu _ _ = q at h
  obtain ⟨H3, F3, rfl, g3, m3⟩ := GvT.go (n := kA) g2 kmk2 hN
  simp (maxDischargeDepth := 40) at h
  generalize hN : R Zu _ _ = q at h
  obtain ⟨H4, F4, rfl, g4, m4⟩ := GvT.go (n := kU) g3 kmk3 hN
  have gok : Gok [kX, kA', kU] := by
    have a1 := Gok.nil.make (most := 9) (n := kX)
    rw [kmk1] at a1
    have a2 := a1.make (most := 9) (n := kA)
    rw [kmk2] at a2
    have a3 := a2.make (most := 9) (n := kU)
    rw [kmk3] at a3
    exact a3
  have kH : Keeps H H4 := (m2.trans (m3.trans m4)).fr.keeps k1 f1
  obtain ⟨K, hK⟩ : ∃ K, K = H4.new (.cells [.str ⟨#[120]⟩, .int .i64 4, u 9#64, u 0#64]) := ⟨_, rfl⟩
  have k4 : Keeps H4 K := by rw [hK]; exact Keeps.new _ _
  have zK : H4.size < K.size := by rw [hK]; simp
  have oK : K.obj H4.size = .cells (flatN kN) := by rw [hK]; simp; rfl
  have hrn : ∀ H', Keeps K H' → RN H' (.row H4.size 0 4 1 true) kN := fun H' k => (Reads.row' zK oK rfl).keep k
  have hE : ∀ H', Keeps K H' → ∀ (id : Int) (v : Vl) (e : Int), worthS (lookL kN) [kX, kA', kU] id = (v, e) → R Zdt [.ptr g 0, .int .i64 id, .row H4.size 0 4 1 true] H' = some (.tup [v.av, .int .i64 e], H') := fun H' k id v e hw => by
    have := eval_run (g4.keeps (k4.trans k)) gok (hrn H' k) (by simp [kN]) (id := id)
    rw [hw] at this
    exact this
  have e2 := fun H' k => hE H' k 2 _ _ kv2
  have e3 := fun H' k => hE H' k 3 _ _ kv3
  have e4 := fun H' k => hE H' k 4 _ _ kv4
  have e5 : ∀ H', Keeps K H' → R Zdt [.ptr g 0, .int .i64 3, .nils] H' = some (.tup [(⟨0, 0#128⟩ : Vl).av, .int .i64 41], H') := fun H' k => by
    have := eval_run (g4.keeps (k4.trans k)) gok (s := .nils) (env := []) Reads.nils (by simp) (id := 3)
    rw [kv5] at this
    exact this
  have ap : ∀ H' o, o < H'.size → H'.obj o = .cells [.int .i64 0, u 1#64, u 0#64, .int .i64 2, u 3#64, u 0#64, .int .i64 2, u 0#64, u 0#64] → R Zfe [.int .i64 9, .int .i64 0, .int .i64 0, .row o 0 3 3 true] H' = some (.tup [(⟨2, 3#128⟩ : Vl).av, .int .i64 0], H') := fun H' o ho ob => by
    have := apply_run (op := 9) (p := 0) (q := 0) (H := H') (s := .row o 0 3 3 true) (l := [⟨0, 1#128⟩, ⟨2, 3#128⟩, ⟨2, 0#128⟩]) (Reads.row' ho (by rw [ob]; rfl) rfl) (by simp)
    rw [ka1] at this
    exact this
  have al : ∃ A : AHeap × Nat → AV, ∀ x : AHeap × Nat, (Keeps K x.1 ∧ x.2 < x.1.size ∧ x.1.obj x.2 = .cells [.int .i64 1, .int .i64 2]) → R Ze0 [.ptr g 0, .row x.2 0 1 2 true, .row H4.size 0 4 1 true] x.1 = some (.tup [A x, .int .i64 0], x.1) ∧ sliceLen (A x) = some 2 := by
    refine choose_on AV.nils (Q := fun x : AHeap × Nat => Keeps K x.1 ∧ x.2 < x.1.size ∧ x.1.obj x.2 = .cells [.int .i64 1, .int .i64 2]) (P := fun x v => R Ze0 [.ptr g 0, .row x.2 0 1 2 true, .row H4.size 0 4 1 true] x.1 = some (.tup [v, .int .i64 0], x.1) ∧ sliceLen v = some 2) ?_
    rintro ⟨H', o⟩ ⟨k, ho, ob⟩
    simp only at k ho ob ⊢
    rcases all_run (g4.keeps (k4.trans k)) gok (hrn H' k) (by simp [kN]) (ids := [1, 2]) (t := .row o 0 1 2 true) (RI.row ho (by rw [ob]; rfl) rfl) (by simp) with ⟨-, v, h1, h2⟩ | ⟨i, x, h1, h2, h3, -⟩
    · exact ⟨v, h1, (h2 H').len⟩
    · exfalso
      have hx : x ∈ [(1 : Int), 2] := List.mem_of_getElem? h2
      simp at hx
      rcases hx with rfl | rfl
      · exact h3 (by rw [kv1])
      · exact h3 (by rw [kv2])
  obtain ⟨A, hA⟩ := al
  have hA1 : ∀ H' o, Keeps K H' → o < H'.size → H'.obj o = .cells [.int .i64 1, .int .i64 2] → R Ze0 [.ptr g 0, .row o 0 1 2 true, .row H4.size 0 4 1 true] H' = some (.tup [A (H', o), .int .i64 0], H') := fun H' o k ho ob => (hA (H', o) ⟨k, ho, ob⟩).1
  have hA2 : ∀ H' o, Keeps K H' → o < H'.size → H'.obj o = .cells [.int .i64 1, .int .i64 2] → sliceLen (A (H', o)) = some 2 := fun H' o k ho ob => (hA (H', o) ⟨k, ho, ob⟩).2
  have co : ∃ C : AHeap → AV, ∀ H', Keeps K H' → R Zc0 [.ptr g 0, .nils] H' = some (C H', H') ∧ ∀ H2, RN H2 (C H') [⟨⟨#[120]⟩, ⟨4, 0#128⟩⟩] := by
    refine choose_on AV.nils (Q := fun H' => Keeps K H') (P := fun H' v => R Zc0 [.ptr g 0, .nils] H' = some (v, H') ∧ ∀ H2, RN H2 v [⟨⟨#[120]⟩, ⟨4, 0#128⟩⟩]) fun H' k => ?_
    obtain ⟨v, h1, h2⟩ := complete_run (g4.keeps (k4.trans k)) (s := .nils) (env := []) Reads.nils (by simp)
    rw [show ([kX, kA', kU] : List Nd).length = 3 from rfl, kf1] at h2
    exact ⟨v, h1, h2⟩
  obtain ⟨C, hC⟩ := co
  have hC1 := fun H' k => (hC H' k).1
  have hC2 : ∀ H' H2 o, Keeps K H' → o < H2.size → H2.obj o = .cells [.str ⟨#[120]⟩, .int .i64 4, u 0#64, u 0#64] → R Zcu [C H', .row o 0 4 1 true] H2 = some (.bool true, H2) := fun H' H2 o k ho ob => by
    have := named_run ((hC H' k).2 H2) (w := .row o 0 4 1 true) (b := [⟨⟨#[120]⟩, ⟨4, 0#128⟩⟩]) (Reads.row' ho (by rw [ob]; rfl) rfl) (by simp)
    rw [this]; simp
  simp (maxDischargeDepth := 40) at h
  rw [← hK] at h
  have zl : H4.size + 1 = K.size := by rw [hK]; rfl
  have k5 := kH.trans k4
  have z5 : H.size ≤ K.size := k5.size
  have l0 : lo 0#128 = 0#64 := by decide
  have l0' : hi 0#128 = 0#64 := by decide
  have l2 : lo 2#128 = 2#64 := by decide
  have l2' : hi 2#128 = 0#64 := by decide
  have l3 : lo 3#128 = 3#64 := by decide
  have l3' : hi 3#128 = 0#64 := by decide
  simp (maxDischargeDepth := 40) (maxSteps := 4000000) [e2, e3, e4, e5, ap, hA1, hA2, hC1, hC2, k5, z5, l0, l0', l2, l2', l3, l3'] at h
  exact h.symm
end Go.Proofs.YtiaoojghohfkjaaGreat
end
section
namespace Go.Proofs.YtiaoojghohfkjaaGreat
set_option maxRecDepth 100000
set_option maxHeartbeats 4000000
theorem terms_loop0 {H0 H : AHeap} {g q : Nat} {ns : List Nd} {F E : List Nat} (T : Two H0 H g q 4096 ns F E) (gok : Gok ns) {env : List Nm} {ev : AV} (hev : ∀ H, RN H ev env) (hel : env.length ≤ 1000000)
    {e : Env} {r : Rn} (hL : loopL Tryz.prog KT R Zcn e H = r) (e1' : e 1 = some ev) (e7 : e 7 = some (.ptr g 0)) (e8 : e 8 = some (.ptr q 0)) (e10 : e 10 = some (.int .i64 0)) :
    ∃ y e' H', r = some (y, e', H') ∧ (y = .exit 0 ∧ Keeps H H') ∧ ∀ t, t ∉ defs Zcn → e' t = e t := by
  obtain ⟨o, t, -, -, -⟩ := id T.gr
  have lim := t.lim
  have lim2 := t.lim2
  have lq := t.lg
  have og := t.og
  have hsl := slv_len o ns
  obtain ⟨N, hN⟩ : ∃ N, N = ns.length + 1 := ⟨_, rfl⟩
  refine loop_count Zcn.eq_1 hL N (fun i e1 H1 => e1 10 = some (.int .i64 i) ∧ Keeps H H1) _ 0 (by omega) ⟨e10, Keeps.refl _⟩ ?_ ?_
  · rintro i f H1 hf - hi ⟨f10, k⟩
    have w1 := i64w (n := (i : Int) + 1) (by omega) (by omega)
    have c1 : (i : Int) ≤ ns.length := by omega
    have c2 : i ≤ ns.length := by omega
    have og1 := (k.obj _ lq).trans og
    have hE : ∀ H', Keeps H H' → R Zdt [.ptr g 0, .int .i64 i, ev] H' = some (.tup [(worthS (lookL env) ns i).1.av, .int .i64 (worthS (lookL env) ns i).2], H') := fun H' k' => eval_run (T.gt.keeps k') gok (hev H') hel (id := (i : Int))
    have hR : ∀ H', Keeps H H' → R Zc8 [.ptr q 0, .int .i64 i, ev] H' = some (.tup [(worthS (lookL env) ns i).1.av, .int .i64 (worthS (lookL env) ns i).2], H') := fun H' k' => reval_run (T.gr.keeps k') gok hev hel (id := (i : Int))
    have z1 := k.size
    generalize worthS (lookL env) ns (i : Int) = W at *
    simp (maxDischargeDepth := 20) [hf, e1', e7, e8, f10, og1, hsl, c1, w1, k, hE, hR, z1]
  · rintro f H1 hf ⟨f10, k⟩
    have og1 := (k.obj _ lq).trans og
    have c1 : ¬ (N : Int) ≤ ns.length := by omega
    have c2 : ¬ N ≤ ns.length := by omega
    simp [hf, e8, f10, og1, hsl, c1, k]
theorem terms_loop1 {H0 H : AHeap} {g q : Nat} {ns : List Nd} {F E : List Nat} (T : Two H0 H g q 4096 ns F E) (gok : Gok ns) {env : List Nm} {ev : AV} (hev : ∀ H, RN H ev env) (hel : env.length ≤ 1000000) {ids : List Int} {s av : AV} (hs : ∀ H, RI H s ids) (hil : ids.length ≤ 1000000)
    (hok : ∀ x, x ∈ ids → (worthS (lookL env) ns x).2 = 0) (hav : ∀ H, RV H av (ids.map fun x => (worthS (lookL env) ns x).1))
    {e : Env} {r : Rn} (hL : loopL Tryz.prog KT R Zbf e H = r) (e1' : e 1 = some ev) (e2 : e 2 = some s) (e8 : e 8 = some (.ptr q 0)) (e15 : e 15 = some av) (e17 : e 17 = some (.int .i64 0)) :
    ∃ y e' H', r = some (y, e', H') ∧ (y = .exit 2 ∧ Keeps H H') ∧ ∀ t, t ∉ defs Zbf → e' t = e t := by
  refine loop_count Zbf.eq_1 hL ids.length (fun i e1 H1 => e1 17 = some (.int .i64 i) ∧ Keeps H H1) _ 0 (by omega) ⟨e17, Keeps.refl _⟩ ?_ ?_
  · rintro i f H1 hf - hi ⟨f17, k⟩
    have w1 := i64w (n := (i : Int) + 1) (by omega) (by omega)
    have c1 : (i : Int) < ids.length := by omega
    have hlen := (hs H1).len
    have hlenA : ∀ H', Keeps H H' → sliceLen av = some ids.length := fun H' _ => by
      have := (hav H').len
      rw [List.length_map] at this
      exact this
    have hla := hlenA H1 k
    obtain ⟨x, hx⟩ : ∃ x, ids[i]? = some x := ⟨ids[i], by simp [hi]⟩
    have hg : ids.getD i 0 = x := by simp [List.getD_eq_getElem?_getD, hx]
    obtain ⟨a1, a2⟩ := loadi_of (hs H1) hi
    replace a2 := a2 H1 (Keeps.refl _)
    rw [hg] at a2
    have hR := fun H' k' => reval_run (H := H') (T.gr.keeps k') gok hev hel (id := x)
    rw [hok x (List.mem_of_getElem? hx)] at hR
    have hxm : (ids.map fun x => (worthS (lookL env) ns x).1)[i]? = some (worthS (lookL env) ns x).1 := by simp [hx]
    obtain ⟨b1, -⟩ := (hav H1).at hxm
    have b2 : ∀ H', aload Tryz.prog H' Za (ixp av 3 i) = some (worthS (lookL env) ns x).1.av := fun H' => ((hav H').at hxm).2 H' (Keeps.refl _)
    have z1 := k.size
    generalize (worthS (lookL env) ns x).1 = W at *
    simp (maxDischargeDepth := 20) [hf, e1', e2, e8, e15, f17, hlen, hla, a1, a2, b1, b2, c1, w1, k, hR, z1]
  · rintro f H1 hf ⟨f17, k⟩
    have hlen := (hs H1).len
    simp [hf, e2, f17, hlen, k]
theorem terms_loop2 {H0 H : AHeap} {g q : Nat} {ns : List Nd} {F E : List Nat} (T : Two H0 H g q 4096 ns F E) (gok : Gok ns) {env : List Nm} {ev : AV} (hev : ∀ H, RN H ev env) (hel : env.length ≤ 1000000) {ids : List Int} {s : AV} (hs : ∀ H, RI H s ids) (hil : ids.length ≤ 1000000)
    {n : Nat} {z : Int} (hok : ∀ x, x ∈ ids.take n → (worthS (lookL env) ns x).2 = 0) (hz : ids[n]? = some z) (hz0 : ¬ (worthS (lookL env) ns z).2 = 0)
    {e : Env} {r : Rn} (hL : loopL Tryz.prog KT R Zbf e H = r) (e1' : e 1 = some ev) (e2 : e 2 = some s) (e8 : e 8 = some (.ptr q 0)) (e15 : e 15 = some .nils) (e16 : e 16 = some (.int .i64 (worthS (lookL env) ns z).2)) (e17 : e 17 = some (.int .i64 0)) :
    ∃ y e' H', r = some (y, e', H') ∧ (y = .ret ∧ Keeps H H' ∧ e' 6 = some (.bool true)) ∧ ∀ t, t ∉ defs Zbf → e' t = e t := by
  have hnl := (List.getElem?_eq_some_iff.1 hz).1
  refine loop_count Zbf.eq_1 hL n (fun i e1 H1 => e1 17 = some (.int .i64 i) ∧ Keeps H H1) _ 0 (by omega) ⟨e17, Keeps.refl _⟩ ?_ ?_
  · rintro i f H1 hf - hi ⟨f17, k⟩
    have w1 := i64w (n := (i : Int) + 1) (by omega) (by omega)
    have c1 : (i : Int) < ids.length := by omega
    have hlen := (hs H1).len
    obtain ⟨x, hx⟩ : ∃ x, ids[i]? = some x := ⟨ids[i], List.getElem?_eq_getElem (by omega)⟩
    have hg : ids.getD i 0 = x := by simp [List.getD_eq_getElem?_getD, hx]
    obtain ⟨a1, a2⟩ := loadi_of (hs H1) (i := i) (by omega)
    replace a2 := a2 H1 (Keeps.refl _)
    rw [hg] at a2
    have hR := fun H' k' => reval_run (H := H') (T.gr.keeps k') gok hev hel (id := x)
    rw [hok x (List.mem_of_getElem? (i := i) (by rw [List.getElem?_take_of_lt hi]; exact hx))] at hR
    have z1 := k.size
    generalize (worthS (lookL env) ns x).1 = W at *
    simp (maxDischargeDepth := 20) [hf, e1', e2, e8, e15, f17, hlen, a1, a2, c1, w1, k, hR, z1]
  · rintro f H1 hf ⟨f17, k⟩
    have hlen := (hs H1).len
    have c1 : (n : Int) < ids.length := by omega
    have hg : ids.getD n 0 = z := by simp [List.getD_eq_getElem?_getD, hz]
    obtain ⟨a1, a2⟩ := loadi_of (hs H1) hnl
    replace a2 := a2 H1 (Keeps.refl _)
    rw [hg] at a2
    have hR := fun H' k' => reval_run (H := H') (T.gr.keeps k') gok hev hel (id := z)
    have z1 := k.size
    generalize worthS (lookL env) ns z = W at *
    simp (maxDischargeDepth := 20) [hf, e1', e2, e8, e15, e16, f17, hlen, a1, a2, c1, k, hR, z1, hz0]
theorem terms_run {H : AHeap} {l : List Nd} {s t : AV} {env : List Nm} {ids : List Int} (hs : ∀ H, RN H s env) (ht : ∀ H, RI H t ids) : R Zcc [NL l, s, t] H = some (.bool true, H) := by
  generalize h : R Zcc _ _ = r
  have hk := fun H => known4_run (H := H)
  have hlen := (hs H).len
  have hlent := (ht H).len
  rw [Zih] at h
  by_cases c1 : (50 : Int) < env.length
  · simp (maxDischargeDepth := 40) [Zd7, hk, hlen, c1] at h
    exact h.symm
  by_cases c2 : (50 : Int) < ids.length
  · simp (maxDischargeDepth := 40) [Zd7, hk, hlen, hlent, c1, c2] at h
    exact h.symm
  have hm : env.length ≤ 1000000 := by omega
  simp (maxDischargeDepth := 40) [Zd7, hk, hlen, hlent, c1, c2] at h
  generalize hM : R Zeu _ _ = q at h
  rcases made_run hM with rfl | ⟨g, q, ns, F, E, H1, rfl, T, gok, hnl⟩
  · simp (maxDischargeDepth := 40) at h
    exact h.symm
  simp (maxDischargeDepth := 40) at h
  generalize hL : loopL _ _ _ _ _ _ = q2 at h
  obtain ⟨y, e3, H3, rfl, ⟨rfl, k3⟩, fr⟩ := terms_loop0 T gok hs hm hL (by simp) (by simp) (by simp) (by simp)
  have T3 := T.keeps k3
  have kp := T3.kp
  rcases all_run T3.gt gok (hs H3) hm (ht H3) (by omega) with ⟨hok, w, hw, hwr⟩ | ⟨i, x, hok, hx, h0, hw⟩
  · simp (maxDischargeDepth := 40) [fr, hw] at h
    generalize hL : loopL _ _ _ _ _ _ = q2 at h
    obtain ⟨y, e4, H4, rfl, ⟨rfl, k4⟩, fr4⟩ := terms_loop1 T3 gok hs hm ht (by omega) hok hwr hL (by simp [fr]) (by simp [fr]) (by simp [fr]) (by simp) (by simp)
    have T4 := T3.keeps k4
    have kp4 := T4.kp
    have hla : sliceLen w = some ids.length := by
      have := (hwr H4).len
      rw [List.length_map] at this
      exact this
    obtain ⟨v1, hv1, hr1⟩ := complete_run T4.gt (hs H4) hm
    obtain ⟨v2, hv2, hr2⟩ := rcomplete_run T4.gr hs hm
    have hel : (fullS (lookL env) ns (varsT ns ns.length)).length ≤ 1000000 := by
      unfold fullS
      rw [List.length_map]
      have := varsT_len ns ns.length
      omega
    have hnm := named_run (hr1 H4) (hr2 H4) hel
    rw [decide_eq_true rfl] at hnm
    simp (maxDischargeDepth := 40) [fr, fr4, hla, hlent, hv1, hv2, hnm, kp4] at h
    exact h.symm
  · simp (maxDischargeDepth := 40) [fr, hw] at h
    generalize hL : loopL _ _ _ _ _ _ = q2 at h
    obtain ⟨y, e4, H4, rfl, ⟨rfl, k4, e6⟩, fr4⟩ := terms_loop2 T3 gok hs hm ht (by omega) hok hx h0 hL (by simp [fr]) (by simp [fr]) (by simp [fr]) (by simp) (by simp) (by simp)
    have kp4 := (T3.keeps k4).kp
    simp (maxDischargeDepth := 40) [e6, kp4] at h
    exact h.symm
end Go.Proofs.YtiaoojghohfkjaaGreat
end
section
namespace Go.Proofs.YtiaoojghohfkjaaGreat
set_option maxRecDepth 100000
theorem tv_int {d : Nat} {a : AV} (h : TV Tryz.prog (d + 1) 3 a) : ∃ n, a = .int .i64 n ∧ -9223372036854775808 ≤ n ∧ n ≤ 9223372036854775807 := tv_i64 Tryz.underlying3 h
theorem cs3 {cs : List AV} (h : cs.length = 3) : ∃ x0 x1 x2, cs = [x0, x1, x2] := by
  match cs, h with
  | [x0, x1, x2], _ => exact ⟨x0, x1, x2, rfl⟩
theorem tc_bits {d : Nat} {cs : List AV} (h : TC Tryz.prog (d + 2) 34 cs) : ∃ v : Vl, cs = v.cs := by
  have c3 : Tryz.prog.cellsOf 34 = 3 := by kernel_rfl
  have c1 : Tryz.prog.cellsOf 3 = 1 := by kernel_rfl
  have cu : Tryz.prog.cellsOf 32 = 1 := by kernel_rfl
  obtain ⟨hl, hf⟩ := tc_struct Tryz.underlying34 h
  rw [c3] at hl
  obtain ⟨x0, x1, x2, rfl⟩ := cs3 hl
  simp [c1, cu] at hf
  obtain ⟨g0, g1, g2⟩ := hf
  obtain ⟨n0, e0, -⟩ := tc_i64 Tryz.underlying3 g0
  obtain ⟨y1, e1⟩ := tc_u64 Tryz.underlying32 g1
  obtain ⟨y2, e2⟩ := tc_u64 Tryz.underlying32 g2
  simp at e0 e1 e2
  exact ⟨⟨n0, mkN y1 y2⟩, by rw [e0, e1, e2, Vl.cs, lo_mk, hi_mk]⟩
theorem tv_bits {d : Nat} {a : AV} (h : TV Tryz.prog (d + 2) 34 a) : ∃ v : Vl, a = v.av := by
  obtain ⟨cs, rfl, h2⟩ := tv_struct Tryz.underlying34 h
  obtain ⟨v, rfl⟩ := tc_bits h2
  exact ⟨v, rfl⟩
theorem tv_vals {d : Nat} {a : AV} (h : TV Tryz.prog (d + 3) 40 a) : ∃ l : List Vl, ∀ H, RV H a l := by
  obtain ⟨n, ds, rfl, h2, h3, h4⟩ := tv_slice Tryz.underlying40 h
  have c3 : Tryz.prog.cellsOf 34 = 3 := by kernel_rfl
  rw [c3] at h2 h4
  obtain ⟨ss, e1, e2, -⟩ := chunks Vl.cs (fun _ => True) (fun _ => rfl) h2 fun i hi => by
    obtain ⟨v, hv⟩ := tc_bits (h4 i hi)
    exact ⟨v, trivial, hv⟩
  subst e2
  exact ⟨ss, fun H => by rw [c3]; subst e1; exact Reads.lst h2⟩
theorem ints_cells : ∀ ss : List Int, ss.flatMap (fun x : Int => [AV.int .i64 x]) = ss.map (.int .i64)
  | [] => rfl
  | x :: l => by rw [List.flatMap_cons, ints_cells l]; rfl
theorem tv_ints {d : Nat} {a : AV} (h : TV Tryz.prog (d + 2) 24 a) : ∃ l : List Int, (∀ H, RI H a l) ∧ ∀ x, x ∈ l → -9223372036854775808 ≤ x ∧ x ≤ 9223372036854775807 := by
  obtain ⟨n, ds, rfl, h2, h3, h4⟩ := tv_slice Tryz.underlying24 h
  have c1 : Tryz.prog.cellsOf 3 = 1 := by kernel_rfl
  rw [c1] at h2 h4
  obtain ⟨ss, e1, e2, e3⟩ := chunks (fun x : Int => [AV.int .i64 x]) (fun x => -9223372036854775808 ≤ x ∧ x ≤ 9223372036854775807) (fun _ => rfl) h2 fun i hi => by
    obtain ⟨n0, e0, b1, b2⟩ := tc_i64 Tryz.underlying3 (h4 i hi)
    exact ⟨n0, ⟨b1, b2⟩, e0⟩
  subst e2
  have e4 := ints_cells ss
  exact ⟨ss, fun H => by rw [c1]; subst e1; rw [e4] at h2 ⊢; exact Reads.lst h2, e3⟩
theorem cs4 {cs : List AV} (h : cs.length = 4) : ∃ x0 x1 x2 x3, cs = [x0, x1, x2, x3] := by
  match cs, h with
  | [x0, x1, x2, x3], _ => exact ⟨x0, x1, x2, x3, rfl⟩
theorem tv_named {d : Nat} {a : AV} (h : TV Tryz.prog (d + 4) 23 a) : ∃ l : List Nm, ∀ H, RN H a l := by
  obtain ⟨n, ds, rfl, h2, h3, h4⟩ := tv_slice Tryz.underlying23 h
  have c4 : Tryz.prog.cellsOf 53 = 4 := by kernel_rfl
  have c3 : Tryz.prog.cellsOf 34 = 3 := by kernel_rfl
  have c9 : Tryz.prog.cellsOf 9 = 1 := by kernel_rfl
  rw [c4] at h2 h4
  obtain ⟨ss, e1, e2, -⟩ := chunks Nm.cs (fun _ => True) (fun _ => rfl) h2 fun i hi => by
    have hs := h4 i hi
    generalize (ds.drop (i * 4)).take 4 = cs at hs
    obtain ⟨hl, hf⟩ := tc_struct Tryz.underlying53 hs
    rw [c4] at hl
    obtain ⟨x0, x1, x2, x3, rfl⟩ := cs4 hl
    simp [c3, c9] at hf
    obtain ⟨g0, g1⟩ := hf
    obtain ⟨s, e0, -⟩ := tc_str Tryz.underlying9 g0
    obtain ⟨v, hv⟩ := tc_bits g1
    simp at e0
    exact ⟨⟨s, v⟩, trivial, by rw [e0]; simp only [Nm.cs]; rw [← hv]⟩
  subst e2
  exact ⟨ss, fun H => by rw [c4]; subst e1; exact Reads.lst h2⟩
theorem cs11 {cs : List AV} (h : cs.length = 11) : ∃ x0 x1 x2 x3 x4 x5 x6 x7 x8 x9 x10, cs = [x0, x1, x2, x3, x4, x5, x6, x7, x8, x9, x10] := by
  match cs, h with
  | [x0, x1, x2, x3, x4, x5, x6, x7, x8, x9, x10], _ => exact ⟨x0, x1, x2, x3, x4, x5, x6, x7, x8, x9, x10, rfl⟩
theorem tc_node {d : Nat} {cs : List AV} (h : TC Tryz.prog (d + 3) 51 cs) : ∃ n : Nd, cs = n.cs := by
  have c11 : Tryz.prog.cellsOf 51 = 11 := by kernel_rfl
  have c1 : Tryz.prog.cellsOf 3 = 1 := by kernel_rfl
  have c3 : Tryz.prog.cellsOf 34 = 3 := by kernel_rfl
  have c9 : Tryz.prog.cellsOf 9 = 1 := by kernel_rfl
  obtain ⟨hl, hf⟩ := tc_struct Tryz.underlying51 h
  rw [c11] at hl
  obtain ⟨x0, x1, x2, x3, x4, x5, x6, x7, x8, x9, x10, rfl⟩ := cs11 hl
  simp [c1, c3, c9] at hf
  obtain ⟨g0, g1, g2, g3, g4, g5, g6, g7, g8⟩ := hf
  obtain ⟨n0, e0, -⟩ := tc_i64 Tryz.underlying3 g0
  obtain ⟨n1, e1, -⟩ := tc_i64 Tryz.underlying3 g1
  obtain ⟨n2, e2, -⟩ := tc_i64 Tryz.underlying3 g2
  obtain ⟨n3, e3, -⟩ := tc_i64 Tryz.underlying3 g3
  obtain ⟨n4, e4, -⟩ := tc_i64 Tryz.underlying3 g4
  obtain ⟨n5, e5, -⟩ := tc_i64 Tryz.underlying3 g5
  obtain ⟨n6, e6, -⟩ := tc_i64 Tryz.underlying3 g6
  obtain ⟨s, e10, -⟩ := tc_str Tryz.underlying9 g8
  obtain ⟨v, hv⟩ := tc_bits g7
  simp [Vl.cs] at e0 e1 e2 e3 e4 e5 e6 e10 hv
  exact ⟨⟨n0, n1, n2, n3, n4, n5, n6, v.w, lo v.n, hi v.n, s⟩, by rw [e0, e1, e2, e3, e4, e5, e6, e10, hv.1, hv.2.1, hv.2.2]; rfl⟩
theorem tv_nodes {d : Nat} {a : AV} (h : TV Tryz.prog (d + 4) 22 a) : ∃ l : List Nd, a = NL l := by
  obtain ⟨n, ds, rfl, h2, h3, h4⟩ := tv_slice Tryz.underlying22 h
  have c11 : Tryz.prog.cellsOf 51 = 11 := by kernel_rfl
  rw [c11] at h2 h4
  obtain ⟨ss, e1, e2, -⟩ := chunks Nd.cs (fun _ => True) (fun _ => rfl) h2 fun i hi => by
    obtain ⟨n, hn⟩ := tc_node (h4 i hi)
    exact ⟨n, trivial, hn⟩
  exact ⟨ss, by rw [NL, e2, c11, e1]; rfl⟩
end Go.Proofs.YtiaoojghohfkjaaGreat
end
section
namespace Go.Proofs.YtiaoojghohfkjaaGreat
set_option maxRecDepth 100000
theorem EvalTerms_law {a0 a1 a2 : AV} (y0 : TV Tryz.prog 8 Zh a0) (y1 : TV Tryz.prog 8 Zj a1) (y2 : TV Tryz.prog 8 Zk a2) : ∃ H', R Zcc [a0, a1, a2] H0 = some (.bool true, H') := by
  obtain ⟨l, rfl⟩ := tv_nodes (d := 4) y0
  obtain ⟨env, hs⟩ := tv_named (d := 4) y1
  obtain ⟨ids, ht, -⟩ := tv_ints (d := 6) y2
  exact ⟨_, terms_run hs ht⟩
end Go.Proofs.YtiaoojghohfkjaaGreat
end
