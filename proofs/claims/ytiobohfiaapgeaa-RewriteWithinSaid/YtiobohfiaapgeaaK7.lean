/- Texts SG SH SI SJ SK SL SM SN SO SP BVN SQ SR SRB SS ST SU SV SX TDV SW SY EQ SZ RWM RWA of this claim, one behind the other. -/
import Derived.Test.YtiobohfiaapgeaaK6
section
namespace Go.Proofs.Ytiobohfiaapgeaa
set_option maxRecDepth 100000
set_option maxHeartbeats 4000000
section
variable {look : ByteArray → Option Vl} {ns : List Nd}
theorem bool_inj {a b : Bool} (h : Vl.bool a = Vl.bool b) : a = b := by cases a <;> cases b <;> first | rfl | (exact absurd (congrArg Vl.n h) (by decide))
theorem powF_val {v : Vl} {i : Nat} (h : powF v = some i) : i < v.w.toNat ∧ v.n = 1#128 <<< i := by
  unfold powF at h
  have h1 := List.find?_some h
  have h2 := List.mem_of_find?_eq_some h
  exact ⟨List.mem_range.1 h2, of_decide_eq_true h1⟩
theorem pow_word {n i : Nat} (hn : n ≤ 128) (_hi : i < n) {x : BitVec n} (h : E x = 1#128 <<< i) : x = 1#n <<< i := by
  rw [← E_set hn x, h]
  apply BitVec.eq_of_getLsbD_eq
  intro t ht
  rw [BitVec.getLsbD_setWidth, BitVec.getLsbD_shiftLeft, BitVec.getLsbD_shiftLeft]
  have h1 : t < 128 := by omega
  have h2 : 0 < n := by omega
  simp [ht, h1, h2]
theorem double_val (g : Gok ns) (hA : AllFit look ns) {n : Nd} {N : Nat} {x y : BitVec N} (hN1 : 1 ≤ N) (hN : N ≤ 128) (f1 : 1 ≤ n.a) (f2 : n.a ≤ ns.length) (f3 : 1 ≤ n.b) (f4 : n.b ≤ ns.length) (ha : V look ns n.a = Vl.of x) (hb : V look ns n.b = Vl.of y) (hsa : (ndF ns n.a).sort = N) (hsb : (ndF ns n.b).sort = N)
    (hS : (sortedF ns n).1.sort = N) (hv : nodeV look (valsV look ns) n = Vl.of (wordV 20 x y)) : PV look ns n (doubleF ns n) := by
  have shl_ok : ∀ (k : Int) (i : Nat) (z : BitVec N), i < N → 1 ≤ k → k ≤ ns.length → (ndF ns k).sort = N → V look ns k = Vl.of z → wordV 20 x y = wordV 26 z (BitVec.ofNat N i) → PV look ns n (.shl k ⟨N, BitVec.ofNat 128 i⟩) := fun k i z hi k1 k2 ks kv kw => by
    have e : (⟨(N : Int), BitVec.ofNat 128 i⟩ : Vl) = Vl.of (BitVec.ofNat N i) := by
      unfold Vl.of E
      congr 1
      apply BitVec.eq_of_toNat_eq
      have hlt : i < 2 ^ N := Nat.lt_trans hi Nat.lt_two_pow_self
      have hlt2 : i < 2 ^ 128 := Nat.lt_trans (by omega : i < 128) (by decide)
      rw [BitVec.toNat_setWidth, BitVec.toNat_ofNat, BitVec.toNat_ofNat, Nat.mod_eq_of_lt hlt, Nat.mod_eq_of_lt hlt2]
    rw [e]
    refine ⟨Vl.of_ok hN1 hN _, hS.symm, by rw [of_w]; omega, k1, k2, by rw [ks, of_w], ?_⟩
    rw [kv, two_word (by omega) (by omega) hN, hv, kw]
  unfold doubleF
  cases hcb : (conF ns n.b).bind powF with
  | some i =>
    simp only
    obtain ⟨v, hc, hp⟩ := Option.bind_eq_some_iff.1 hcb
    obtain ⟨p1, p2⟩ := powF_val hp
    have hvb := con_all g hA hc
    rw [hb] at hvb
    rw [hc]
    subst hvb
    rw [of_w] at p1
    have hw := w_double (x := x) (y := y) (i := i) (by omega) (pow_word hN (by omega) p2)
    exact shl_ok n.a i x (by omega) f1 f2 hsa ha hw.1
  | none =>
    simp only
    cases hca : (conF ns n.a).bind powF with
    | some i =>
      simp only
      obtain ⟨v, hc, hp⟩ := Option.bind_eq_some_iff.1 hca
      obtain ⟨p1, p2⟩ := powF_val hp
      have hva := con_all g hA hc
      rw [ha] at hva
      rw [hc]
      subst hva
      rw [of_w] at p1
      have hw := w_double (x := y) (y := x) (i := i) (by omega) (pow_word hN (by omega) p2)
      exact shl_ok n.b i y (by omega) f3 f4 hsb hb hw.2
    | none => trivial
theorem beside_val (g : Gok ns) (hA : AllFit look ns) {n : Nd} {N : Nat} {x y : BitVec N} (hN1 : 1 ≤ N) (hN : N ≤ 128) (_h12 : 12 ≤ n.op) (_h28 : n.op ≤ 28) (f1 : 1 ≤ n.a) (f2 : n.a ≤ ns.length) (f3 : 1 ≤ n.b) (f4 : n.b ≤ ns.length) (ha : V look ns n.a = Vl.of x) (hb : V look ns n.b = Vl.of y) (hsa : (ndF ns n.a).sort = N) (hsb : (ndF ns n.b).sort = N)
    (hS : (sortedF ns n).1.sort = N) (hv : nodeV look (valsV look ns) n = Vl.of (wordV n.op x y)) : PV look ns n (besideF ns n) := by
  unfold besideF
  split
  · rename_i c
    show nodeV look (valsV look ns) n = _
    rw [hv, hsa, ← of_zero]
    rcases c with ⟨c, d | d⟩ | ⟨c, d⟩
    · rw [isF0 g hA d hN ha, (w_zero c y).2]
    · rw [isF0 g hA d hN hb, (w_zero c x).1]
    · rw [isF0 g hA d hN ha, w_shift0 c y]
  · split
    · rename_i c
      refine ⟨f1, f2, ?_⟩
      rw [hv, ha]
      rcases c with ⟨c, d⟩ | ⟨c, d⟩
      · rw [isF0 g hA d hN hb, w_right hN1 c x]
      · rw [isF1 g hA d hN1 hN hb, w_one hN1 c x]
    · split
      · rename_i c
        refine ⟨f3, f4, ?_⟩
        rw [hv, hb]
        rcases c with ⟨c, d⟩ | ⟨c, d⟩
        · rw [isF0 g hA d hN ha, w_left c y]
        · rw [isF1 g hA d hN1 hN ha, c]
          have := w_one hN1 (op := 20) (.inl rfl) y
          simp only [wordV] at this ⊢
          simp at this ⊢
      · split
        · rename_i c
          rw [c] at hv
          exact double_val g hA hN1 hN f1 f2 f3 f4 ha hb hsa hsb hS hv
        · trivial
theorem beside_none {n : Nd} (h : n.op < 12 ∨ 28 < n.op) : besideF ns n = .mk := by
  unfold besideF
  rw [if_neg (by omega), if_neg (by omega), if_neg (by omega), if_neg (by omega)]
theorem bin_val (g : Gok ns) (hA : AllFit look ns) {n : Nd} (hf : formedF ns.length n = true) (hs : (sortedF ns n).2 = 0) (h1 : ¬ n.op = 1) (h2 : ¬ n.op = 2) (har : arity n.op = 2) : PV look ns n (binC ns n) := by
  unfold binC
  cases hfo : foldF ns n with
  | some v => exact fold_val g hA h1 h2 hfo
  | none =>
    simp only
    obtain ⟨f1, f2, f3, f4, f5⟩ := formed2 hf har
    have KA := kid_ok g hA f1 f2
    have KB := kid_ok g hA f3 f4
    have F := node_fit g hA hf hs h1 h2
    have hv := nodeV_op (look := look) (acc := valsV look ns) h1 h2
    rw [kidsV_2 har] at F hv
    obtain ⟨s, hse⟩ : ∃ s, s = (sortedF ns n).1.sort := ⟨_, rfl⟩
    rw [← hse] at F
    have hka := KA.w
    have hkb := KB.w
    obtain ⟨A, hAe⟩ : ∃ A, A = V look ns n.a := ⟨_, rfl⟩
    obtain ⟨B', hBe⟩ : ∃ B', B' = V look ns n.b := ⟨_, rfl⟩
    have hAB : n.a = n.b → A = B' := fun h => by rw [hAe, hBe, h]
    rw [← hAe, ← hBe] at F hv
    rw [← hAe] at hka
    rw [← hBe] at hkb
    obtain ⟨no, hno⟩ : ∃ x, x = n.op := ⟨_, rfl⟩
    obtain ⟨np, hnp⟩ : ∃ x, x = n.p := ⟨_, rfl⟩
    obtain ⟨nq, hnq⟩ : ∃ x, x = n.q := ⟨_, rfl⟩
    rw [← hno, ← hnp, ← hnq] at F hv
    have lg : ∀ c, logicF ns n = some c → no = 4 ∨ no = 5 ∨ no = 6 ∨ no = 7 ∨ no = 8 := fun c hc => by
      unfold logicF at hc
      by_cases d : n.op < 4 ∨ 8 < n.op
      · rw [if_pos d] at hc; cases hc
      · omega
    have logic_ok : ∀ c, logicF ns n = some c → A.ok = true → B'.ok = true → A.w = B'.w → (sortedF ns n).1.sort = 0 → nodeV look (valsV look ns) n = Vl.bool (boolV n.op A B') → PV look ns n c := fun c hc oa ob hw hS hn => by
      have hop := lg c hc
      rw [hno] at hop
      unfold logicF at hc
      rw [if_neg (by omega)] at hc
      cases hca : conF ns n.a with
      | some v =>
        rw [hca] at hc
        simp only at hc
        have hva := con_all g hA hca
        rw [← hAe] at hva
        subst hva
        refine logicC_val hop hc oa f1 f2 f3 f4 hAe.symm (fun h => ?_) (by rw [← hBe]; exact hw) hS (by rw [← hBe]; exact hn)
        rw [← hBe] at h ⊢
        exact ⟨ob, by omega⟩
      | none =>
        rw [hca] at hc
        simp only at hc
        by_cases d : n.op = 7
        · rw [if_pos d] at hc; cases hc
        rw [if_neg d] at hc
        cases hcb : conF ns n.b with
        | none => rw [hcb] at hc; cases hc
        | some v =>
          rw [hcb] at hc
          simp only at hc
          have hvb := con_all g hA hcb
          rw [← hBe] at hvb
          subst hvb
          refine logicC_val hop hc ob f3 f4 f1 f2 hBe.symm (fun h => ?_) (by rw [← hAe]; exact hw.symm) hS ?_
          · rw [← hAe] at h ⊢
            exact ⟨oa, by omega⟩
          · rw [← hAe, hn]
            congr 1
            rcases hop with h | h | h | h | h
            · rw [h]; simp [boolV, Bool.and_comm]
            · rw [h]; simp [boolV, Bool.or_comm]
            · rw [h]; simp [boolV, Bool.xor_comm]
            · exact absurd h d
            · rw [h]; simp only [boolV]; simp; exact ⟨Eq.symm, Eq.symm⟩
    rw [← hno]
    by_cases c1 : n.a = n.b ∧ (no = 4 ∨ no = 5 ∨ no = 12 ∨ no = 13)
    · rw [if_pos c1]
      refine ⟨f1, f2, ?_⟩
      obtain ⟨c0, c1⟩ := c1
      have hab := hAB c0
      rw [← hAe, hv]
      have hyes : ∀ t, (Vl.bool t).yes = t := fun t => by cases t <;> rfl
      cases F with
      | two a b q1 q2 q3 q4 =>
        obtain rfl := bool_inj hab
        rw [mean_bool (by omega)]
        rcases (by omega : no = 4 ∨ no = 5) with rfl | rfl <;> simp [boolV, hyes]
      | word N x y q1 q2 q3 q4 q5 q6 =>
        obtain rfl := of_inj q2 hab
        rw [two_word q3 q4 q2, w_same (by omega)]
      | _ => omega
    rw [if_neg c1]
    by_cases c2 : n.a = n.b ∧ (no = 6 ∨ no = 29 ∨ no = 31 ∨ no = 33 ∨ no = 35 ∨ no = 14 ∨ no = 19)
    · rw [if_pos c2]
      show nodeV look (valsV look ns) n = _
      obtain ⟨c0, c2⟩ := c2
      have hab := hAB c0
      rw [hv]
      cases F with
      | two a b q1 q2 q3 q4 =>
        obtain rfl := bool_inj hab
        rw [mean_bool (by omega), if_neg (by omega)]
        obtain rfl : no = 6 := by omega
        simp [boolV]
      | word N x y q1 q2 q3 q4 q5 q6 =>
        obtain rfl := of_inj q2 hab
        rw [two_word q3 q4 q2, w_none (by omega), if_pos (by omega), ← hka, of_w, of_zero]
      | cmp N x y q1 q2 q3 q4 q5 q6 =>
        obtain rfl := of_inj q2 hab
        rw [two_cmp q3 q4 q2, c_same no q3 q4, if_neg (by omega), decide_eq_false (by omega)]
      | _ => omega
    rw [if_neg c2]
    by_cases c3 : n.a = n.b ∧ (no = 8 ∨ no = 30 ∨ no = 32 ∨ no = 34 ∨ no = 36 ∨ no = 7)
    · rw [if_pos c3]
      show nodeV look (valsV look ns) n = _
      obtain ⟨c0, c3⟩ := c3
      have hab := hAB c0
      rw [hv]
      cases F with
      | two a b q1 q2 q3 q4 =>
        obtain rfl := bool_inj hab
        rw [mean_bool (by omega)]
        obtain rfl : no = 7 := by omega
        simp [boolV]
      | eq _ _ q1 q2 q3 q4 q5 q6 =>
        subst q1
        rw [mean_bool (by omega), hab]
        simp [boolV]
      | cmp N x y q1 q2 q3 q4 q5 q6 =>
        obtain rfl := of_inj q2 hab
        rw [two_cmp q3 q4 q2, c_same no q3 q4, decide_eq_true (by omega)]
      | _ => omega
    rw [if_neg c3]
    have getF : ∀ (a b : Vl), [a, b].getD 0 Vl.zero = a ∧ [a, b].getD 1 Vl.zero = b := fun a b => ⟨rfl, rfl⟩
    cases hlo : logicF ns n with
    | some c =>
      simp only
      have hop := lg c hlo
      have hb8 : no ≤ 8 := by omega
      rw [mean_bool hb8, (getF A B').1, (getF A B').2] at hv
      rw [hno] at hv
      cases F with
      | two a b q1 q2 q3 q4 => exact logic_ok c hlo (Vl.bool_ok _) (Vl.bool_ok _) rfl hse.symm hv
      | eq _ _ q1 q2 q3 q4 q5 q6 => exact logic_ok c hlo q4 q5 q6 hse.symm hv
      | _ => omega
    | none =>
      simp only
      by_cases hw : 12 ≤ no ∧ no ≤ 28
      · cases F with
        | word N x y q1 q2 q3 q4 q5 q6 =>
          rw [two_word q3 q4 q2] at hv
          rw [of_w] at hka hkb
          rw [hno] at q3 q4 hv
          exact beside_val g hA q1 q2 q3 q4 f1 f2 f3 f4 hAe.symm hBe.symm hka.symm hkb.symm hse.symm hv
        | _ => omega
      · rw [beside_none (by omega)]; trivial
theorem path_val (g : Gok ns) (hA : AllFit look ns) {n : Nd} (hf : formedF ns.length n = true) (hs : (sortedF ns n).2 = 0) (h1 : ¬ n.op = 1) (h2 : ¬ n.op = 2) : PV look ns n (pathF ns n) := by
  have h0 := (formed_arity hf).2
  have h3 := arity_le n.op
  unfold pathF
  by_cases c0 : arity n.op = 0
  · rw [if_pos c0]; trivial
  rw [if_neg c0]
  by_cases c1 : arity n.op = 1
  · rw [if_pos c1]; exact un_val g hA hf hs h1 h2 c1
  rw [if_neg c1]
  by_cases c3 : arity n.op = 3
  · rw [if_pos c3]; exact ite_val g hA hf hs h1 h2 c3
  rw [if_neg c3]
  exact bin_val g hA hf hs h1 h2 (by omega)
end
end Go.Proofs.Ytiobohfiaapgeaa
end
section
namespace Go.Proofs.Ytiobohfiaapgeaa
set_option maxRecDepth 100000
set_option maxHeartbeats 2000000
theorem mak_ok {most : Int} {ns : List Nd} {n : Nd} (g : Gok ns) (hf : formedF ns.length n = true) (hs : (sortedF ns n).2 = 0) : Gok (makT most ns n).1 ∧
    ((makT most ns n).2.2 = 0 ∧ (∃ t, (makT most ns n).1 = ns ++ t ∧ ∀ m, m ∈ t → m = (sortedF ns n).1) ∧ 1 ≤ (makT most ns n).2.1 ∧ (makT most ns n).2.1 ≤ (makT most ns n).1.length ∧ ndF (makT most ns n).1 (makT most ns n).2.1 = (sortedF ns n).1 ∨
    (makT most ns n).2.2 = 33 ∧ (makT most ns n).1 = ns ∧ (makT most ns n).2.1 = 0) := by
  refine ⟨g.make, ?_⟩
  unfold makT
  rw [if_neg (by rw [hf]; simp), if_neg (by rw [hs]; simp)]
  cases hi : idx ns (sortedF ns n).1 with
  | some i =>
    simp only
    unfold idx at hi
    obtain ⟨h1, h2, -⟩ := List.findIdx?_eq_some_iff_getElem.1 hi
    have h2 := of_decide_eq_true h2
    refine .inl ⟨by first | trivial | rfl, ⟨[], by simp, by simp⟩, by omega, by omega, ?_⟩
    unfold ndF nodeS
    rw [if_neg (by omega), show ((i : Int) + 1 - 1).toNat = i by omega, List.getElem?_eq_getElem h1, h2]
    rfl
  | none =>
    simp only
    by_cases c : most ≤ ns.length
    · rw [if_pos c]; exact .inr ⟨rfl, rfl, rfl⟩
    · rw [if_neg c]
      refine .inl ⟨rfl, ⟨_, rfl, by simp⟩, (by show (1 : Int) ≤ (ns.length : Int) + 1; omega), by simp, ?_⟩
      unfold ndF nodeS
      rw [if_neg (by simp; omega), show ((ns.length : Int) + 1 - 1).toNat = ns.length by omega]
      simp
theorem ndF_more {ns t : List Nd} {k : Int} (h1 : 1 ≤ k) (h2 : k ≤ ns.length) : ndF (ns ++ t) k = ndF ns k := by
  unfold ndF nodeS
  rw [if_neg (by simp; omega), if_neg (by omega), List.getElem?_append_left (by omega)]
theorem AllFit.appends {look : ByteArray → Option Vl} {ns t : List Nd} (h : AllFit look ns) (ht : ∀ m, m ∈ t → ¬ m.op = 2) : AllFit look (ns ++ t) := by
  intro i n hn h2
  by_cases c : i < ns.length
  · rw [List.getElem?_append_left c] at hn; exact h i n hn h2
  · rw [List.getElem?_append_right (by omega)] at hn
    exact absurd h2 (ht n (List.mem_of_getElem? hn))
theorem sorted_parts {ns : List Nd} {n : Nd} (h1 : ¬ n.op = 2) : (sortedF ns n).1.op = n.op ∧ (sortedF ns n).1.p = n.p ∧ (sortedF ns n).1.q = n.q ∧ (sortedF ns n).1.a = n.a ∧ (sortedF ns n).1.b = n.b ∧ (sortedF ns n).1.c = n.c ∧ (sortedF ns n).1.v = n.v ∧ (sortedF ns n).1.name = n.name := by
  unfold sortedF
  by_cases c : n.op = 1
  · rw [if_pos c]; exact ⟨rfl, rfl, rfl, rfl, rfl, rfl, rfl, rfl⟩
  · rw [if_neg c, if_neg h1]; exact ⟨rfl, rfl, rfl, rfl, rfl, rfl, rfl, rfl⟩
theorem nodeV_sorted {look : ByteArray → Option Vl} {acc : List Vl} {ns : List Nd} {n : Nd} (h2 : ¬ n.op = 2) : nodeV look acc (sortedF ns n).1 = nodeV look acc n := by
  obtain ⟨h1, hp, hq, ha, hb, hc, hv, hn⟩ := sorted_parts (ns := ns) h2
  unfold nodeV kidsV
  rw [h1, hp, hq, ha, hb, hc, hv, hn]
structure NV (ns : List Nd) (n : Nd) (s : Int) (x : List Nd × Int × Int) : Prop where
  more : ∃ t, x.1 = ns ++ t ∧ ∀ m, m ∈ t → ¬ m.op = 2
  gok : Gok x.1
  lo : 1 ≤ x.2.1
  hi : x.2.1 ≤ x.1.length
  srt : (ndF x.1 x.2.1).sort = s
  val : ∀ look, AllFit look ns → V look x.1 x.2.1 = nodeV look (valsV look ns) n
theorem NV.made {most : Int} {ns : List Nd} {n : Nd} (g : Gok ns) (hf : formedF ns.length n = true) (hs : (sortedF ns n).2 = 0) (h2 : ¬ n.op = 2) (h0 : (makT most ns n).2.2 = 0) : NV ns n (sortedF ns n).1.sort (makT most ns n) := by
  obtain ⟨g1, hm⟩ := mak_ok (most := most) g hf hs
  rcases hm with ⟨-, ⟨t, ht, hmt⟩, l1, l2, hn⟩ | ⟨he, -⟩
  rotate_left
  · rw [he] at h0; cases h0
  have hop := (sorted_parts (ns := ns) h2).1
  have hno : ∀ m, m ∈ t → ¬ m.op = 2 := fun m hm => by rw [hmt m hm, hop]; exact h2
  refine ⟨⟨t, ht, hno⟩, g1, l1, l2, by rw [hn], fun look hA => ?_⟩
  obtain ⟨i, hi, hni⟩ := nd_at l1 l2
  rw [hi, V_node g1.kok hni, hn, nodeV_sorted h2]
  obtain ⟨u, hu⟩ := valsV_more look ns t
  rw [ht, hu]
  obtain ⟨k1, k2, k3⟩ := formed_kids hf
  exact (nodeV_more (by rw [valsV_len]; exact k1) (by rw [valsV_len]; exact k2) (by rw [valsV_len]; exact k3)).1
theorem look_any {ns : List Nd} (g : Gok ns) : ∃ look, AllFit look ns := ⟨_, full_fit (look := fun _ => none) g⟩
theorem con_formed {ns : List Nd} {v : Vl} (hv : v.ok = true) : formedF ns.length (constN v) = true ∧ sortedF ns (constN v) = (constN v, 0) := by
  have har : arity 1 = 0 := by decide
  refine ⟨?_, ?_⟩
  · unfold formedF constN
    simp [kidsOK, kidOK, har]
  · unfold sortedF constN
    have h : rightF v.w (lo v.n) (hi v.n) = true := hv
    simp [h]
theorem con_val {look : ByteArray → Option Vl} {acc : List Vl} {v : Vl} : nodeV look acc (constN v) = v := by
  unfold nodeV constN Nd.v
  simp only [if_true]
  have : mkN (lo v.n) (hi v.n) = v.n := pair_ext (by rw [lo_mk]) (by rw [hi_mk])
  rw [this]
theorem sorted_shl {ns : List Nd} {x c s : Int} (h1 : 1 ≤ x) (h2 : x ≤ ns.length) (h3 : 1 ≤ c) (h4 : c ≤ ns.length) (hx : (ndF ns x).sort = s) (hc : (ndF ns c).sort = s) (hs : 0 < s) (hs2 : s ≤ 128) : formedF ns.length (nodeO 26 x c 0 0 0) = true ∧ sortedF ns (nodeO 26 x c 0 0 0) = ({ nodeO 26 x c 0 0 0 with sort := s }, 0) := by
  obtain ⟨i, rfl, hi⟩ := nd_at h1 h2
  obtain ⟨j, rfl, hj⟩ := nd_at h3 h4
  have hk : ksort ns ((i : Int) + 1) = [s] := by rw [ksort_pos (by omega) (m := ndF ns ((i : Int) + 1)) (by rw [show ((i : Int) + 1 - 1).toNat = i by omega]; exact hi), hx]
  have hk2 : ksort ns ((j : Int) + 1) = [s] := by rw [ksort_pos (by omega) (m := ndF ns ((j : Int) + 1)) (by rw [show ((j : Int) + 1 - 1).toNat = j by omega]; exact hj), hc]
  have hk0 : ksort ns 0 = [] := ksort_none rfl
  have har : arity 26 = 2 := by decide
  refine ⟨?_, ?_⟩
  · unfold formedF nodeO
    simp [kidsOK, kidOK, har]
    omega
  · have h6 : isSort s = true := by unfold isSort; simp; omega
    have hss : sortS 26 0 0 [s, s] = (s, 0) := by
      unfold sortS toldB toldV
      simp [har, h6]
      rw [if_neg (by omega), if_neg (by omega)]
    unfold sortedF nodeO
    simp only [hk, hk2, hk0, List.append_nil, List.singleton_append, hss]
    simp
theorem norm_val {most : Int} : ∀ (f : Nat) {ns : List Nd} {n : Nd}, Gok ns → formedF ns.length n = true → (sortedF ns n).2 = 0 → ¬ n.op = 1 → ¬ n.op = 2 → (normF most f ns n).2.2 ≠ -1 →
    ((normF most f ns n).2.2 = 0 → NV ns n (sortedF ns n).1.sort (normF most f ns n)) ∧ ((normF most f ns n).2.2 = 0 ∨ (normF most f ns n).2.2 = 33)
  | 0, _, _, _, _, _, _, _, h => absurd rfl h
  | f + 1, ns, n, g, hf, hs, h1, h2, hne => by
    have mk2 : ∀ m : Nd, formedF ns.length m = true → (sortedF ns m).2 = 0 → (makT most ns m).2.2 = 0 ∨ (makT most ns m).2.2 = 33 := fun m a b => by
      obtain ⟨-, h | h⟩ := mak_ok (most := most) g a b
      · exact .inl h.1
      · exact .inr h.1
    obtain ⟨look0, hA0⟩ := look_any g
    have hfit0 := node_fit g hA0 hf hs h1 h2
    have hgood0 := hfit0.good
    have hpv := fun look (hA : AllFit look ns) => path_val g hA hf hs h1 h2
    unfold normF at hne ⊢
    cases hp : pathF ns n with
    | «at» k =>
      simp only [hp] at hne hpv ⊢
      obtain ⟨k1, k2, k3⟩ := hpv look0 hA0
      refine ⟨fun _ => ⟨⟨[], by simp, by simp⟩, g, k1, k2, ?_, fun look hA => (hpv look hA).2.2⟩, by simp⟩
      have K := kid_ok g hA0 k1 k2
      show (ndF ns k).sort = _
      rw [← K.w, k3, nodeV_op h1 h2]
      exact hgood0.2
    | con v =>
      simp only [hp] at hne hpv ⊢
      have hv0 := hpv look0 hA0
      change nodeV look0 (valsV look0 ns) n = v at hv0
      rw [nodeV_op h1 h2] at hv0
      have hvo : v.ok = true := by rw [← hv0]; exact hgood0.1
      have hvw : v.w = (sortedF ns n).1.sort := by rw [← hv0]; exact hgood0.2
      obtain ⟨c1, c2⟩ := con_formed (ns := ns) hvo
      refine ⟨fun h0 => ?_, mk2 _ c1 (by rw [c2])⟩
      have M := NV.made (n := constN v) g c1 (by rw [c2]) (by simp [constN]) h0
      rw [c2] at M
      exact ⟨M.more, M.gok, M.lo, M.hi, M.srt.trans hvw, fun look hA => by rw [M.val look hA, con_val]; exact (hpv look hA).symm⟩
    | mk =>
      simp only [hp] at hne ⊢
      exact ⟨fun h0 => NV.made g hf hs h2 h0, mk2 n hf hs⟩
    | again m =>
      simp only [hp] at hne hpv ⊢
      obtain ⟨m1, m2, m3, m4, -⟩ := hpv look0 hA0
      obtain ⟨r1, r2⟩ := norm_val f g m3 (by rw [m4]) m1 m2 hne
      refine ⟨fun h0 => ?_, r2⟩
      have M := r1 h0
      rw [m4] at M
      exact ⟨M.more, M.gok, M.lo, M.hi, M.srt, fun look hA => by rw [M.val look hA]; exact (hpv look hA).2.2.2.2⟩
    | shl x v =>
      simp only [hp] at hne hpv ⊢
      obtain ⟨v1, v2, v3, x1, x2, x3, -⟩ := hpv look0 hA0
      obtain ⟨c1, c2⟩ := con_formed (ns := ns) v1
      by_cases h0 : (makT most ns (constN v)).2.2 = 0
      · rw [if_pos h0] at hne ⊢
        have M := NV.made (n := constN v) g c1 (by rw [c2]) (by simp [constN]) h0
        rw [c2] at M
        obtain ⟨X, hX⟩ : ∃ X, X = makT most ns (constN v) := ⟨_, rfl⟩
        rw [← hX] at M hne ⊢
        obtain ⟨t, ht, hno⟩ := M.more
        have hle : ns.length ≤ X.1.length := by rw [ht]; simp
        have hxs : (ndF X.1 x).sort = v.w := by rw [ht, ndF_more x1 x2]; exact x3
        have hw128 : v.w ≤ 128 := by
          unfold Vl.ok rightF at v1
          rw [if_neg (by omega)] at v1
          simp at v1
          omega
        obtain ⟨s1, s2⟩ := sorted_shl (x := x) (c := X.2.1) x1 (by omega) M.lo M.hi hxs (by rw [M.srt]; rfl) v3 hw128
        obtain ⟨r1, r2⟩ := norm_val f M.gok s1 (by rw [s2]) (by simp [nodeO]) (by simp [nodeO]) hne
        refine ⟨fun h0 => ?_, r2⟩
        have Q := r1 h0
        rw [s2] at Q
        obtain ⟨t2, ht2, hno2⟩ := Q.more
        refine ⟨⟨t ++ t2, by rw [ht2, ht, List.append_assoc], fun m hm => ?_⟩, Q.gok, Q.lo, Q.hi, Q.srt.trans v2, fun look hA => ?_⟩
        · rcases List.mem_append.1 hm with h | h
          · exact hno m h
          · exact hno2 m h
        · have hA2 : AllFit look X.1 := by rw [ht]; exact hA.appends hno
          rw [Q.val look hA2, nodeV_op (by simp [nodeO]) (by simp [nodeO]), kidsV_2 (n := nodeO 26 x X.2.1 0 0 0) (by show arity 26 = 2; decide)]
          have e1 : V look X.1 x = V look ns x := by rw [ht]; exact V_more x2
          have e2 : V look X.1 X.2.1 = v := by rw [M.val look hA, con_val]
          show meanV 26 0 0 [V look X.1 x, V look X.1 X.2.1] = _
          rw [e1, e2]
          exact (hpv look hA).2.2.2.2.2.2
      · rw [if_neg h0] at hne ⊢
        refine ⟨fun h => absurd h h0, ?_⟩
        rcases mk2 (constN v) c1 (by rw [c2]) with h | h
        · exact absurd h h0
        · exact .inr h
end Go.Proofs.Ytiobohfiaapgeaa
end
section
namespace Go.Proofs.Ytiobohfiaapgeaa
set_option maxRecDepth 100000
set_option maxHeartbeats 2000000
def rankF (n : Nd) : Nat := if n.op = 39 then n.a.toNat + 1 else if (4 ≤ n.op ∧ n.op ≤ 8) ∨ n.op = 20 then 2 else 1
theorem rank_pos (n : Nd) : 1 ≤ rankF n := by
  unfold rankF
  split
  · omega
  · split <;> omega
def downF (n : Nd) : Ch → Prop
  | .again m => rankF m < rankF n
  | .shl _ _ => n.op = 20
  | _ => True
theorem slice_down {ns : List Nd} (kok : Kok ns) {n : Nd} (h39 : n.op = 39) (h1 : 1 ≤ n.a) (h2 : n.a ≤ ns.length) : downF n (sliceF ns n (ndF ns n.a)) := by
  obtain ⟨i, hi, hn⟩ := nd_at h1 h2
  obtain ⟨⟨a0, a1⟩, ⟨b0, b1⟩, -⟩ := kok i _ hn
  have ex : ∀ k p q : Int, k ≤ i → rankF (nodeO 39 k 0 0 p q) < rankF n := fun k p q hk => by
    unfold rankF nodeO
    simp only [h39, if_true]
    omega
  unfold sliceF
  split
  · exact ex _ _ _ a1
  · split
    · split
      · exact ex _ _ _ a1
      · split
        · exact ex _ _ _ b1
        · trivial
    · split
      · split
        · exact ex _ _ _ a1
        · trivial
      · trivial
theorem logicC_down {n : Nd} {v : Vl} {a b : Int} {c : Ch} (h4 : 4 ≤ n.op) (h8 : n.op ≤ 8) (h : logicC n.op v a b = some c) : downF n c := by
  have hr : rankF (nodeO 3 b 0 0 0 0) < rankF n := by
    unfold rankF nodeO
    simp
    rw [if_neg (by omega), if_pos (by omega)]
    omega
  unfold logicC at h
  split at h
  · cases h
  · split at h
    · cases h; split <;> trivial
    · split at h
      · cases h; split <;> trivial
      · split at h
        · cases h; split <;> trivial
        · split at h
          · cases h
            split
            · exact hr
            · trivial
          · cases h
            split
            · trivial
            · exact hr
theorem path_down {ns : List Nd} (kok : Kok ns) {n : Nd} (hf : formedF ns.length n = true) : downF n (pathF ns n) := by
  unfold pathF
  split
  · trivial
  · split
    · rename_i h1
      obtain ⟨f1, f2, -⟩ := formed1 hf h1
      unfold unC
      split
      · trivial
      · simp only
        split
        · trivial
        · split
          · trivial
          · split
            · trivial
            · split
              · trivial
              · split
                · trivial
                · split
                  · rename_i h39
                    exact slice_down kok h39 f1 f2
                  · trivial
    · split
      · unfold iteC
        split
        · trivial
        · split
          · split <;> trivial
          · trivial
      · unfold binC
        split
        · trivial
        · split
          · trivial
          · split
            · trivial
            · split
              · trivial
              · split
                · rename_i c hc
                  unfold logicF at hc
                  split at hc
                  · cases hc
                  · rename_i ho
                    split at hc
                    · exact logicC_down (by omega) (by omega) hc
                    · split at hc
                      · cases hc
                      · split at hc
                        · exact logicC_down (by omega) (by omega) hc
                        · cases hc
                · unfold besideF
                  split
                  · trivial
                  · split
                    · trivial
                    · split
                      · trivial
                      · split
                        · rename_i h20
                          unfold doubleF
                          split
                          · exact h20
                          · split
                            · exact h20
                            · trivial
                        · trivial
theorem norm_fuel {most : Int} : ∀ (f : Nat) {ns : List Nd} {n : Nd}, Gok ns → formedF ns.length n = true → (sortedF ns n).2 = 0 → ¬ n.op = 1 → ¬ n.op = 2 → rankF n ≤ f → (normF most f ns n).2.2 ≠ -1
  | 0, _, n, _, _, _, _, _, h => by have := rank_pos n; omega
  | f + 1, ns, n, g, hf, hs, h1, h2, hr => by
    have mk2 : ∀ m : Nd, formedF ns.length m = true → (sortedF ns m).2 = 0 → (makT most ns m).2.2 ≠ -1 := fun m a b => by
      obtain ⟨-, h | h⟩ := mak_ok (most := most) g a b
      · rw [h.1]; decide
      · rw [h.1]; decide
    obtain ⟨look0, hA0⟩ := look_any g
    have hgood0 := (node_fit g hA0 hf hs h1 h2).good
    have hpv := path_val g hA0 hf hs h1 h2
    have hd := path_down g.kok hf
    unfold normF
    cases hp : pathF ns n with
    | «at» k => simp
    | con v =>
      rw [hp] at hpv
      change nodeV look0 (valsV look0 ns) n = v at hpv
      rw [nodeV_op h1 h2] at hpv
      obtain ⟨c1, c2⟩ := con_formed (ns := ns) (v := v) (by rw [← hpv]; exact hgood0.1)
      exact mk2 _ c1 (by rw [c2])
    | mk => exact mk2 _ hf hs
    | again m =>
      rw [hp] at hpv hd
      obtain ⟨m1, m2, m3, m4, -⟩ := hpv
      change rankF m < rankF n at hd
      exact norm_fuel f g m3 (by rw [m4]) m1 m2 (by omega)
    | shl x v =>
      rw [hp] at hpv hd
      obtain ⟨v1, v2, v3, x1, x2, x3, -⟩ := hpv
      change n.op = 20 at hd
      obtain ⟨c1, c2⟩ := con_formed (ns := ns) v1
      simp only
      by_cases h0 : (makT most ns (constN v)).2.2 = 0
      · rw [if_pos h0]
        have M := NV.made (n := constN v) g c1 (by rw [c2]) (by simp [constN]) h0
        rw [c2] at M
        obtain ⟨X, hX⟩ : ∃ X, X = makT most ns (constN v) := ⟨_, rfl⟩
        rw [← hX] at M ⊢
        obtain ⟨t, ht, hno⟩ := M.more
        have hle : ns.length ≤ X.1.length := by rw [ht]; simp
        have hxs : (ndF X.1 x).sort = v.w := by rw [ht, ndF_more x1 x2]; exact x3
        have hw128 : v.w ≤ 128 := by
          unfold Vl.ok rightF at v1
          rw [if_neg (by omega)] at v1
          simp at v1
          omega
        obtain ⟨s1, s2⟩ := sorted_shl (x := x) (c := X.2.1) x1 (by omega) M.lo M.hi hxs (by rw [M.srt]; rfl) v3 hw128
        refine norm_fuel f M.gok s1 (by rw [s2]) (by simp [nodeO]) (by simp [nodeO]) ?_
        have : rankF n = 2 := by unfold rankF; rw [if_neg (by omega), if_pos (by omega)]
        have : rankF (nodeO 26 x X.2.1 0 0 0) = 1 := by unfold rankF nodeO; simp
        omega
      · rw [if_neg h0]
        exact mk2 _ c1 (by rw [c2])
end Go.Proofs.Ytiobohfiaapgeaa
end
section
namespace Go.Proofs.Ytiobohfiaapgeaa
set_option maxRecDepth 100000
set_option maxHeartbeats 2000000
def simF (most : Int) (f : Nat) : List Int → List Nd → (Int → Int) → List Nd × (Int → Int) × Int
  | [], ns, d => (ns, d, 0)
  | k :: l, ns, d =>
    if (normF most f ns { ndF ns k with a := d (ndF ns k).a, b := d (ndF ns k).b, c := d (ndF ns k).c }).2.2 = 0 then simF most f l (normF most f ns { ndF ns k with a := d (ndF ns k).a, b := d (ndF ns k).b, c := d (ndF ns k).c }).1 (fun x => if x = k then (normF most f ns { ndF ns k with a := d (ndF ns k).a, b := d (ndF ns k).b, c := d (ndF ns k).c }).2.1 else d x)
    else ((normF most f ns { ndF ns k with a := d (ndF ns k).a, b := d (ndF ns k).b, c := d (ndF ns k).c }).1, d, (normF most f ns { ndF ns k with a := d (ndF ns k).a, b := d (ndF ns k).b, c := d (ndF ns k).c }).2.2)
structure Did (ns0 ns : List Nd) (d : Int → Int) (P : Int → Prop) : Prop where
  more : ∃ t, ns = ns0 ++ t ∧ ∀ m, m ∈ t → ¬ m.op = 2
  gok : Gok ns
  zero : ∀ x, x ≤ 0 → d x = 0
  did : ∀ x, P x → 1 ≤ x → x ≤ ns0.length → 1 ≤ d x ∧ d x ≤ ns.length ∧ (ndF ns (d x)).sort = (ndF ns0 x).sort ∧ ∀ look, AllFit look ns0 → V look ns (d x) = V look ns0 x
theorem Did.fit {ns0 ns : List Nd} {d : Int → Int} {P : Int → Prop} (h : Did ns0 ns d P) {look : ByteArray → Option Vl} (hA : AllFit look ns0) : AllFit look ns := by
  obtain ⟨t, ht, hno⟩ := h.more
  rw [ht]; exact hA.appends hno
theorem ksort_at {ns : List Nd} {k : Int} (h1 : 1 ≤ k) (h2 : k ≤ ns.length) : ksort ns k = [(ndF ns k).sort] := by
  obtain ⟨i, rfl, hi⟩ := nd_at h1 h2
  exact ksort_pos (by omega) (by rw [show ((i : Int) + 1 - 1).toNat = i by omega]; exact hi)
structure Next (ns0 ns : List Nd) (d : Int → Int) (k : Int) : Prop where
  form : formedF ns.length { ndF ns k with a := d (ndF ns k).a, b := d (ndF ns k).b, c := d (ndF ns k).c } = true
  srt : sortedF ns { ndF ns k with a := d (ndF ns k).a, b := d (ndF ns k).b, c := d (ndF ns k).c } = ({ ndF ns k with a := d (ndF ns k).a, b := d (ndF ns k).b, c := d (ndF ns k).c }, 0)
  nd : ndF ns k = ndF ns0 k
  low : (ndF ns k).op = 1 ∨ (ndF ns k).op = 2 → ({ ndF ns k with a := d (ndF ns k).a, b := d (ndF ns k).b, c := d (ndF ns k).c } : Nd) = ndF ns k
  val : ∀ look, AllFit look ns0 → nodeV look (valsV look ns) { ndF ns k with a := d (ndF ns k).a, b := d (ndF ns k).b, c := d (ndF ns k).c } = V look ns0 k
theorem next_ok {ns0 ns : List Nd} {d : Int → Int} {P : Int → Prop} (g0 : Gok ns0) (h : Did ns0 ns d P) {k : Int} (h1 : 1 ≤ k) (h2 : k ≤ ns0.length) (hP : ∀ y, (y = (ndF ns0 k).a ∨ y = (ndF ns0 k).b ∨ y = (ndF ns0 k).c) → 0 < y → P y) : Next ns0 ns d k := by
  obtain ⟨t, ht, hno⟩ := h.more
  have hnd : ndF ns k = ndF ns0 k := by rw [ht, ndF_more h1 h2]
  obtain ⟨i, hi, hn⟩ := nd_at h1 h2
  have hmem0 : ndF ns0 k ∈ ns0 := List.mem_of_getElem? hn
  have hf0 := g0.form _ hmem0
  have hs0 := g0.srt _ hmem0
  obtain ⟨⟨a0, a1⟩, ⟨b0, b1⟩, ⟨c0, c1⟩⟩ := g0.kok i _ hn
  obtain ⟨m, hm⟩ : ∃ m, m = ndF ns0 k := ⟨_, rfl⟩
  have hnk : ndF ns k = m := hnd.trans hm.symm
  rw [← hm] at hf0 hs0 hmem0 hP a0 a1 b0 b1 c0 c1
  have hlen : i < ns0.length := (List.getElem?_eq_some_iff.1 hn).1
  have kid : ∀ y, (y = m.a ∨ y = m.b ∨ y = m.c) → (y = 0 ∧ d y = 0) ∨ (1 ≤ y ∧ y ≤ ns0.length ∧ 1 ≤ d y ∧ d y ≤ ns.length ∧ (ndF ns (d y)).sort = (ndF ns0 y).sort ∧ ∀ look, AllFit look ns0 → V look ns (d y) = V look ns0 y) := fun y hy => by
    have hy1 : 0 ≤ y ∧ y ≤ i := by rcases hy with rfl | rfl | rfl <;> omega
    by_cases c : y = 0
    · exact .inl ⟨c, h.zero y (by omega)⟩
    · have := h.did y (hP y hy (by omega)) (by omega) (by omega)
      exact .inr ⟨by omega, by omega, this.1, this.2.1, this.2.2.1, this.2.2.2⟩
  have kok : ∀ (ar : Int) (j : Nat) (y : Int), (y = m.a ∨ y = m.b ∨ y = m.c) → kidOK ns0.length ar j y = true → kidOK ns.length ar j (d y) = true := fun ar j y hy hk => by
    unfold kidOK at hk ⊢
    rcases kid y hy with ⟨e1, e2⟩ | ⟨e1, e2, e3, e4, -⟩
    · rw [e2]; rw [e1] at hk
      split
      · rename_i c; rw [if_pos c] at hk; simp at hk
      · simp
    · split
      · simp [e3, e4]
      · rename_i c; rw [if_neg c] at hk
        simp at hk; omega
  have ks : ∀ y, (y = m.a ∨ y = m.b ∨ y = m.c) → ksort ns (d y) = ksort ns0 y := fun y hy => by
    rcases kid y hy with ⟨e1, e2⟩ | ⟨e1, e2, e3, e4, e5, -⟩
    · rw [e2, e1, ksort_none rfl, ksort_none rfl]
    · rw [ksort_at e3 e4, ksort_at e1 e2, e5]
  have ha := kid m.a (.inl rfl)
  have hb := kid m.b (.inr (.inl rfl))
  have hc := kid m.c (.inr (.inr rfl))
  have hlow : m.op = 1 ∨ m.op = 2 → ({ m with a := d m.a, b := d m.b, c := d m.c } : Nd) = m := fun ho => by
    unfold formedF at hf0
    have har : arity m.op = 0 := by rcases ho with h | h <;> rw [h] <;> decide
    simp only [kidsOK, kidOK, har, Bool.and_eq_true] at hf0
    obtain ⟨⟨z1, z2, z3, -⟩, -⟩ := hf0
    simp at z1 z2 z3
    obtain ⟨op, sort, a, b, c, p, q, vw, vl, vh, name⟩ := m
    simp only at z1 z2 z3 ⊢
    subst z1; subst z2; subst z3
    rw [h.zero 0 (by omega)]
  refine ⟨?_, ?_, hnd, fun ho => by rw [hnk] at ho ⊢; exact hlow ho, fun look hA => ?_⟩
  · rw [hnk]
    unfold formedF at hf0 ⊢
    simp only [kidsOK, Bool.and_eq_true] at hf0 ⊢
    obtain ⟨⟨z1, z2, z3, -⟩, z4⟩ := hf0
    exact ⟨⟨kok _ _ _ (.inl rfl) z1, kok _ _ _ (.inr (.inl rfl)) z2, kok _ _ _ (.inr (.inr rfl)) z3, trivial⟩, z4⟩
  · rw [hnk]
    by_cases o12 : m.op = 1 ∨ m.op = 2
    · rw [hlow o12]
      exact h.gok.srt m (by rw [ht]; exact List.mem_append_left _ hmem0)
    · unfold sortedF at hs0 ⊢
      rw [if_neg (by omega), if_neg (by omega)] at hs0
      simp only
      rw [if_neg (by omega), if_neg (by omega), ks _ (.inl rfl), ks _ (.inr (.inl rfl)), ks _ (.inr (.inr rfl))]
      have q1 := congrArg Prod.snd hs0
      have q2 := congrArg (fun x => x.1.sort) hs0
      simp only at q1 q2
      rw [q1, q2]
  · have hv0 : V look ns0 k = nodeV look (valsV look ns0) m := by
      have := V_node (look := look) g0.kok hn
      rw [← hi, ← hm] at this
      exact this
    rw [hv0, hnk]
    have pk : ∀ y, (y = m.a ∨ y = m.b ∨ y = m.c) → pick (valsV look ns) (d y) = pick (valsV look ns0) y := fun y hy => by
      rcases kid y hy with ⟨e1, e2⟩ | ⟨e1, e2, e3, e4, e5, e6⟩
      · rw [e2, e1]; rfl
      · exact e6 look hA
    unfold nodeV kidsV
    simp only
    rw [pk _ (.inl rfl), pk _ (.inr (.inl rfl)), pk _ (.inr (.inr rfl))]
    rfl
theorem norm_low {most : Int} {f : Nat} {ns : List Nd} {n : Nd} (h : n.op = 1 ∨ n.op = 2) : normF most (f + 1) ns n = makT most ns n := by
  unfold normF pathF
  have har : arity n.op = 0 := by rcases h with h | h <;> rw [h] <;> decide
  rw [if_pos har]
theorem mak_there {most : Int} {ns : List Nd} {n : Nd} (g : Gok ns) (hn : n ∈ ns) : ∃ i : Nat, makT most ns n = (ns, (i : Int) + 1, 0) ∧ ns[i]? = some n := by
  unfold makT
  have hs := g.srt n hn
  rw [if_neg (by rw [g.form n hn]; simp), if_neg (by rw [hs]; simp), hs]
  simp only
  cases hi : idx ns n with
  | none => exact absurd hn (idx_none hi)
  | some i =>
    unfold idx at hi
    obtain ⟨h1, h2, -⟩ := List.findIdx?_eq_some_iff_getElem.1 hi
    have h2 := of_decide_eq_true h2
    exact ⟨i, rfl, by rw [List.getElem?_eq_getElem h1, h2]⟩
theorem norm_next {most : Int} {f : Nat} {ns0 ns : List Nd} {d : Int → Int} {P : Int → Prop} (_g0 : Gok ns0) (h : Did ns0 ns d P) {k : Int} (h1 : 1 ≤ k) (h2 : k ≤ ns0.length) (N : Next ns0 ns d k) {n : Nd} (hn : n = { ndF ns k with a := d (ndF ns k).a, b := d (ndF ns k).b, c := d (ndF ns k).c }) (hf : (ns.length : Int) + 2 ≤ f) :
    ((normF most f ns n).2.2 = 0 ∨ (normF most f ns n).2.2 = 33) ∧ ((normF most f ns n).2.2 = 0 → Did ns0 (normF most f ns n).1 (fun x => if x = k then (normF most f ns n).2.1 else d x) (fun x => P x ∨ x = k)) := by
  obtain ⟨t, ht, hno⟩ := h.more
  have g := h.gok
  have nf := N.form
  have nsr := N.srt
  have nv := N.val
  rw [← hn] at nf nsr nv
  have hle : ns0.length ≤ ns.length := by rw [ht]; simp
  obtain ⟨f, rfl⟩ : ∃ f', f = f' + 1 := ⟨f - 1, by omega⟩
  have fin : ∀ x : List Nd × Int × Int, NV ns n (ndF ns0 k).sort x → Did ns0 x.1 (fun y => if y = k then x.2.1 else d y) (fun y => P y ∨ y = k) := fun x X => by
    obtain ⟨t2, ht2, hno2⟩ := X.more
    have hl2 : ns.length ≤ x.1.length := by rw [ht2]; simp
    refine ⟨⟨t ++ t2, by rw [ht2, ht, List.append_assoc], fun m hm => ?_⟩, X.gok, fun y hy => ?_, fun y hy y1 y2 => ?_⟩
    · rcases List.mem_append.1 hm with h | h
      · exact hno m h
      · exact hno2 m h
    · rw [if_neg (by omega)]; exact h.zero y hy
    · by_cases c : y = k
      · subst c
        simp only [if_true]
        exact ⟨X.lo, X.hi, X.srt, fun look hA => by rw [X.val look (h.fit hA), nv look hA]⟩
      · simp only [if_neg c]
        rcases hy with hy | hy
        · obtain ⟨d1, d2, d3, d4⟩ := h.did y hy y1 y2
          refine ⟨d1, by omega, ?_, fun look hA => ?_⟩
          · rw [ht2, ndF_more d1 d2]; exact d3
          · rw [ht2, V_more d2]; exact d4 look hA
        · exact absurd hy c
  have hsort : n.sort = (ndF ns0 k).sort := by rw [hn, ← N.nd]
  by_cases o12 : n.op = 1 ∨ n.op = 2
  · have hno2 : n = ndF ns k := by rw [hn]; exact N.low (by rw [hn] at o12; exact o12)
    obtain ⟨i, hi, hni⟩ := nd_at (ns := ns) h1 (by omega)
    have hmem : n ∈ ns := by rw [hno2]; exact List.mem_of_getElem? hni
    obtain ⟨j, hj, hnj⟩ := mak_there (most := most) g hmem
    rw [norm_low o12, hj]
    refine ⟨.inl rfl, fun _ => fin (ns, (j : Int) + 1, 0) ⟨⟨[], by simp, by simp⟩, g, by show (1 : Int) ≤ (j : Int) + 1; omega, ?_, ?_, fun look hA => V_node g.kok hnj⟩⟩
    · have := (List.getElem?_eq_some_iff.1 hnj).1
      show (j : Int) + 1 ≤ ns.length
      omega
    · show (ndF ns ((j : Int) + 1)).sort = _
      obtain ⟨j', hj', hnj'⟩ := nd_at (ns := ns) (k := (j : Int) + 1) (by omega) (by have := (List.getElem?_eq_some_iff.1 hnj).1; omega)
      have : j' = j := by omega
      subst this
      rw [hnj] at hnj'
      cases hnj'
      rw [← hsort]
  · have hr : rankF n ≤ f + 1 := by
      obtain ⟨k1, -, -⟩ := formed_kids nf
      unfold rankF
      split
      · omega
      · split <;> omega
    have hne := norm_fuel (most := most) (f + 1) g nf (by rw [nsr]) (by omega) (by omega) hr
    obtain ⟨r1, r2⟩ := norm_val (f + 1) g nf (by rw [nsr]) (by omega) (by omega) hne
    rw [nsr] at r1
    refine ⟨r2, fun h0 => fin _ ?_⟩
    rw [← hsort]
    exact r1 h0
end Go.Proofs.Ytiobohfiaapgeaa
end
section
namespace Go.Proofs.Ytiobohfiaapgeaa
set_option maxRecDepth 100000
set_option maxHeartbeats 2000000
theorem mak_len {most L : Int} {ns : List Nd} {n : Nd} (h1 : (ns.length : Int) ≤ L) (h2 : most ≤ L) : (((makT most ns n).1).length : Int) ≤ L := by
  unfold makT
  split
  · exact h1
  · split
    · exact h1
    · split
      · exact h1
      · split
        · exact h1
        · simp; omega
theorem norm_len {most L : Int} (h2 : most ≤ L) : ∀ (f : Nat) {ns : List Nd} {n : Nd}, (ns.length : Int) ≤ L → (((normF most f ns n).1).length : Int) ≤ L
  | 0, _, _, h => h
  | f + 1, ns, n, h => by
    unfold normF
    split
    · exact h
    · exact mak_len h h2
    · exact mak_len h h2
    · exact norm_len h2 f h
    · split
      · exact norm_len h2 f (mak_len h h2)
      · exact mak_len h h2
theorem mem_pre {l pre : List Int} {k y : Int} (hp : (pre ++ k :: l).Pairwise (· < ·)) (hy : y ∈ pre ++ k :: l) (hk : y < k) : y ∈ pre := by
  rcases List.mem_append.1 hy with h | h
  · exact h
  · rcases List.mem_cons.1 h with rfl | h
    · omega
    · have := (List.pairwise_cons.1 (List.pairwise_append.1 hp).2.1).1 y h
      omega
theorem sim_ok {most L : Int} {f : Nat} {ns0 : List Nd} {id : Int} (g0 : Gok ns0) (h1 : 1 ≤ id) (h2 : id ≤ ns0.length) (hL : most ≤ L) (hf : L + 2 ≤ f) : ∀ (l pre : List Int) (ns : List Nd) (d : Int → Int), coneT ns0 id = pre ++ l → Did ns0 ns d (fun x => x ∈ pre) → (ns.length : Int) ≤ L →
    ((simF most f l ns d).2.2 = 0 ∨ (simF most f l ns d).2.2 = 33) ∧ ((simF most f l ns d).2.2 = 0 → Did ns0 (simF most f l ns d).1 (simF most f l ns d).2.1 (fun x => x ∈ coneT ns0 id))
  | [], pre, ns, d, hc, hd, _ => by
    unfold simF
    refine ⟨.inl rfl, fun _ => ?_⟩
    rw [hc, List.append_nil]
    exact hd
  | k :: l, pre, ns, d, hc, hd, hl => by
    have hk : k ∈ coneT ns0 id := by rw [hc]; simp
    obtain ⟨j, rfl, j1, j2⟩ := cone_mem hk
    have hrise := cone_rises ns0 id
    rw [hc] at hrise
    have k1 : (1 : Int) ≤ (j : Int) := by omega
    have k2 : (j : Int) ≤ ns0.length := by omega
    obtain ⟨i, hi, hni⟩ := nd_at k1 k2
    have N := next_ok g0 hd k1 k2 fun y hy h0 => by
      have := cone_kid g0.kok h1 h2 (j := i) (n := ndF ns0 j) (by rw [← hi]; exact hk) hni hy h0
      rw [← hi] at this
      refine mem_pre hrise ?_ this.2
      rw [← hc]; exact this.1
    obtain ⟨n, hn⟩ : ∃ n, n = ({ ndF ns j with a := d (ndF ns j).a, b := d (ndF ns j).b, c := d (ndF ns j).c } : Nd) := ⟨_, rfl⟩
    obtain ⟨r1, r2⟩ := norm_next (most := most) (f := f) g0 hd k1 k2 N hn (by omega)
    have hlen := norm_len hL f (n := n) hl
    unfold simF
    rw [← hn]
    by_cases h0 : (normF most f ns n).2.2 = 0
    · rw [if_pos h0]
      refine sim_ok g0 h1 h2 hL hf l (pre ++ [(j : Int)]) _ _ (by rw [hc]; simp) ?_ hlen
      have D := r2 h0
      exact ⟨D.more, D.gok, D.zero, fun x hx => D.did x (by simpa using hx)⟩
    · rw [if_neg h0]
      exact ⟨r1, fun h => absurd h h0⟩
def simT (most : Int) (f : Nat) (ns : List Nd) (id : Int) : List Nd × Int × Int :=
  if id < 1 ∨ (ns.length : Int) < id then (ns, 0, 70)
  else if (simF most f (coneT ns id) ns fun _ => 0).2.2 = 0 then ((simF most f (coneT ns id) ns fun _ => 0).1, (simF most f (coneT ns id) ns fun _ => 0).2.1 id, 0)
  else ((simF most f (coneT ns id) ns fun _ => 0).1, 0, (simF most f (coneT ns id) ns fun _ => 0).2.2)
theorem cone_self {ns : List Nd} (kok : Kok ns) {id : Int} (h1 : 1 ≤ id) (h2 : id ≤ ns.length) : id ∈ coneT ns id := by
  obtain ⟨j, rfl⟩ : ∃ j : Nat, id = j := ⟨id.toNat, by omega⟩
  refine (mem_cone kok (by omega) h2 (by omega)).2 ?_
  exact cP_self kok _ (by omega)
structure Simp (ns : List Nd) (id : Int) (x : List Nd × Int × Int) : Prop where
  more : ∃ t, x.1 = ns ++ t ∧ ∀ m, m ∈ t → ¬ m.op = 2
  gok : Gok x.1
  lo : 1 ≤ x.2.1
  hi : x.2.1 ≤ x.1.length
  srt : (ndF x.1 x.2.1).sort = (ndF ns id).sort
  val : ∀ look, AllFit look ns → V look x.1 x.2.1 = V look ns id
theorem simT_ok {most L : Int} {f : Nat} {ns : List Nd} {id : Int} (g : Gok ns) (h1 : 1 ≤ id) (h2 : id ≤ ns.length) (hL : most ≤ L) (hl : (ns.length : Int) ≤ L) (hf : L + 2 ≤ f) : ((simT most f ns id).2.2 = 0 ∧ Simp ns id (simT most f ns id)) ∨ (simT most f ns id).2.2 = 33 := by
  have D0 : Did ns ns (fun _ => 0) (fun x => x ∈ ([] : List Int)) := ⟨⟨[], by simp, by simp⟩, g, fun _ _ => rfl, fun x hx => by cases hx⟩
  obtain ⟨r1, r2⟩ := sim_ok (most := most) g h1 h2 hL hf (coneT ns id) [] ns (fun _ => 0) (by simp) D0 hl
  unfold simT
  rw [if_neg (by omega)]
  by_cases h0 : (simF most f (coneT ns id) ns fun _ => 0).2.2 = 0
  · rw [if_pos h0]
    have D := r2 h0
    obtain ⟨d1, d2, d3, d4⟩ := D.did id (cone_self g.kok h1 h2) h1 h2
    exact .inl ⟨rfl, D.more, D.gok, d1, d2, d3, d4⟩
  · rw [if_neg h0]
    exact .inr (r1.resolve_left h0)
end Go.Proofs.Ytiobohfiaapgeaa
end
section
namespace Go.Proofs.Ytiobohfiaapgeaa
set_option maxRecDepth 100000
set_option maxHeartbeats 2000000
theorem Fr.cutF {F : List Nat} {H H' : AHeap} (k : Fr F H H') : Fr F H (H.cut H') :=
  ⟨Nat.le_refl _, fun p hp hF => by simp only [AHeap.cut]; rw [if_pos hp]; exact k.obj p hp hF, fun p hp hF => by simp only [AHeap.cut]; rw [if_pos hp]; exact k.wr p hp hF⟩
theorem TG.move {A B : AHeap} {g : Nat} {most : Int} {ns : List Nd} {o1 o2 o3 : Nat} (h : TG A g most ns o1 o2 o3) (hm : ∀ p, p ∈ g :: o2 :: o3 :: objs (slv o1 ns) → p < B.size ∧ B.obj p = A.obj p) : TG B g most ns o1 o2 o3 := by
  have m1 := hm g (by simp)
  have m2 := hm o2 (by simp)
  have m3 := hm o3 (by simp)
  have m4 : ns ≠ [] → o1 < B.size ∧ B.obj o1 = A.obj o1 := fun e => hm o1 (by simp [slv, e])
  exact ⟨m1.1, fun e => (m4 e).1, m2.1, m3.1, by rw [m1.2]; exact h.og, fun e => by rw [(m4 e).2]; exact h.b1 e, by rw [m2.2]; exact h.b2, by rw [m3.2]; exact h.b3, h.n1, h.n2, h.n3, h.n12, h.n13, h.n23, h.lim, h.lim2⟩
theorem GT.move {A B : AHeap} {g : Nat} {most : Int} {ns : List Nd} {F : List Nat} (h : GT A g most ns F) (hm : ∀ p, p ∈ F → p < B.size ∧ B.obj p = A.obj p) : GT B g most ns F := by
  obtain ⟨o1, o2, o3, t, v, kk, rfl⟩ := h
  exact ⟨o1, o2, o3, t.move hm, v, kk, rfl⟩
theorem GT.ltF {H : AHeap} {g : Nat} {most : Int} {ns : List Nd} {F : List Nat} (h : GT H g most ns F) {p : Nat} (hp : p ∈ F) : p < H.size := by
  obtain ⟨o1, o2, o3, t, v, kk, rfl⟩ := h
  simp only [List.mem_cons] at hp
  rcases hp with rfl | rfl | rfl | hp
  · exact t.lg
  · exact t.l2
  · exact t.l3
  · unfold slv at hp
    split at hp
    · simp at hp
    · rename_i hne
      simp at hp
      subst hp
      exact t.l1 hne
theorem GT.frame {A B : AHeap} {g : Nat} {most : Int} {ns : List Nd} {F X : List Nat} (h : GT A g most ns F) (k : Fr X A B) (hx : ∀ p, p ∈ F → p ∉ X) : GT B g most ns F :=
  h.move fun p hp => ⟨k.lt (h.ltF hp), k.obj p (h.ltF hp) (hx p hp)⟩
theorem GT.lim {H : AHeap} {g : Nat} {most : Int} {ns : List Nd} {F : List Nat} (h : GT H g most ns F) : (ns.length : Int) ≤ most ∧ most ≤ 4096 := by
  obtain ⟨o1, o2, o3, t, v, kk, rfl⟩ := h
  exact ⟨t.lim, t.lim2⟩
theorem GT.mem {H : AHeap} {g : Nat} {most : Int} {ns : List Nd} {F : List Nat} (h : GT H g most ns F) : g ∈ F := by
  obtain ⟨o1, o2, o3, t, v, kk, rfl⟩ := h
  simp
theorem GT.cut {H H' : AHeap} {g : Nat} {most : Int} {ns js : List Nd} {F F' : List Nat} (g0 : GT H g most ns F) (g1 : GT H' g most js F') (hs : Shut H H') : GT (H.cut H') g most js F' ∧ ∀ p, p ∈ F' → p < H.size := by
  have hlt : ∀ p, p ∈ F' → p < H.size := by
    obtain ⟨o1, o2, o3, t0, v0, kk0, rfl⟩ := g0
    obtain ⟨p1, p2, p3, t, v, kk, rfl⟩ := g1
    intro p hp
    simp only [List.mem_cons] at hp
    rcases hs.obj g t0.lg with e | e
    · rw [t.og, t0.og] at e
      simp only [AObj.cells.injEq, List.cons.injEq, AV.map.injEq, and_true, true_and] at e
      obtain ⟨e1, rfl, rfl⟩ := e
      rcases hp with rfl | rfl | rfl | hp
      · exact t0.lg
      · exact t0.l2
      · exact t0.l3
      · rw [e1] at hp
        exact (slv_reads t0.l1 t0.b1).lt hp
    · rw [t.og] at e
      simp only [closedO, closedL, closed, Bool.and_eq_true, decide_eq_true_eq, Bool.true_and, Bool.and_true] at e
      rcases hp with rfl | rfl | rfl | hp
      · exact t0.lg
      · exact e.2.1
      · exact e.2.2
      · have e1 := e.1
        unfold slv at hp e1
        split at hp
        · simp at hp
        · rename_i hne
          rw [if_neg hne] at e1
          simp at hp
          subst hp
          simpa [closed] using e1
  exact ⟨g1.move fun p hp => ⟨hlt p hp, cut_obj (hlt p hp)⟩, hlt⟩
structure WG (H : AHeap) (w dn g : Nat) (most : Int) (ns : List Nd) (F : List Nat) (e : Int) : Prop where
  self : H.obj w = .cells [.ptr g 0, .map dn, .int .i64 e]
  lo : w < H.size
  ld : dn < H.size
  G : GT H g most ns F
  off : ∀ p, p ∈ F → p ≠ w ∧ p ≠ dn
  ne : w ≠ dn
theorem WG.keeps {H H' : AHeap} {w dn g : Nat} {most : Int} {ns : List Nd} {F : List Nat} {e : Int} (h : WG H w dn g most ns F e) (k : Keeps H H') : WG H' w dn g most ns F e :=
  ⟨by rw [k.obj w h.lo]; exact h.self, k.lt h.lo, k.lt h.ld, h.G.keeps k, h.off, h.ne⟩
theorem WG.back {H H' : AHeap} {w dn g : Nat} {most : Int} {ns js : List Nd} {F F' : List Nat} {e0 e1 : Int} (h0 : WG H w dn g most ns F e0) (h1 : WG H' w dn g most js F' e1) (k : Fr (w :: F) H H') (id : Int) :
    ∃ D, back [] H (.int .i64 id) H' = (.int .i64 id, D) ∧ WG D w dn g most js F' e1 ∧ Fr (w :: F) H D := by
  by_cases hs : Shut H H'
  · rw [back_nil (by simp) hs]
    obtain ⟨g2, -⟩ := h0.G.cut h1.G hs
    exact ⟨_, rfl, ⟨by rw [cut_obj h0.lo]; exact h1.self, h0.lo, h0.ld, g2, h1.off, h1.ne⟩, k.cutF⟩
  · rw [back_not hs]
    exact ⟨_, rfl, h1, k⟩
def Wv (H : AHeap) (w dn g : Nat) (most : Int) (F : List Nat) (x : List Nd × Int × Int) (r : Option (AV × AHeap)) : Prop :=
  ∃ H' F' ns' id e, r = some (.int .i64 id, H') ∧ WG H' w dn g most ns' F' e ∧ Fr (w :: F) H H' ∧ (∀ p, p ∈ F' → p ∈ F ∨ H.size ≤ p) ∧ (x.2.2 = 0 → ns' = x.1 ∧ id = x.2.1 ∧ e = 0) ∧ (¬ x.2.2 = 0 → e = x.2.2)
theorem nd_v (n : Nd) : lo n.v.n = n.vl ∧ hi n.v.n = n.vh ∧ n.v.w = n.vw := ⟨lo_mk _ _, hi_mk _ _, rfl⟩
section
variable {H : AHeap} {w dn g : Nat} {most : Int} {ns : List Nd} {F : List Nat} {e : Int}
theorem WG.node (h : WG H w dn g most ns F e) (id : Int) : R Zm [.ptr g 0, .int .i64 id] H = some (.tup [.agg (ndF ns id).cs, .bool (nodeS ns id).isSome], H) := by
  obtain ⟨o1, o2, o3, t, -⟩ := h.G
  exact node_run t
theorem value_run (h : WG H w dn g most ns F e) (id : Int) : R Zz [.ptr w 0, .int .i64 id] H = some (.tup [.agg [.int .i64 (ndF ns id).vw, u (ndF ns id).vl, u (ndF ns id).vh], .bool (decide ((ndF ns id).op = 1))], H) := by
  have hn := fun H' (k : Keeps H H') => (h.keeps k).node id
  have hn1 := hn (H.new (.cells [.int .i64 0, u 0#64, u 0#64])) (Keeps.new H _)
  rw [Zfo]
  obtain ⟨n, hnn⟩ : ∃ n, n = ndF ns id := ⟨_, rfl⟩
  rw [← hnn] at hn1 ⊢
  obtain ⟨op, sort, a, b, c, p, q, vw, vl, vh, name⟩ := n
  simp only [Nd.cs] at hn1
  have hsep : sepT [3, 5, 999, 1006] = some 6 := rfl
  have hsl : ∀ o os, sepL [3, 5, 999, 1006] o os = decide (os ≤ o) := fun o os => rfl
  have hlo := h.lo
  have hself := h.self
  simp (maxDischargeDepth := 40) [Zd1, hself, hlo, hn1, hsep, hsl, objOf_ptr]
theorem constant_run (h : WG H w dn g most ns F 0) {v : Vl} {r : Option (AV × AHeap)} (hr : R Zg [.ptr w 0, .agg [.int .i64 v.w, u (lo v.n), u (hi v.n)]] H = r)
    (hmk : ∀ H' r', Keeps H H' → R Zf [.ptr w 0, .agg (constN v).cs] H' = r' → Wv H' w dn g most F (makT most ns (constN v)) r') : Wv H w dn g most F (makT most ns (constN v)) r := by
  rw [Ze4] at hr
  simp (maxDischargeDepth := 40) [Zdh] at hr
  generalize hA : R Zf _ _ = q at hr
  obtain ⟨H1, F1, ns1, id, e1, rfl, g1, k1, n1, ok, bad⟩ := hmk _ _ (Keeps.new H (.cells [.int .i64 v.w, u (lo v.n), u (hi v.n)])) hA
  simp at hr
  have k2 : Fr (w :: F) H H1 := ((Keeps.new H _).fr _).trans k1 fun p hp => .inl hp
  obtain ⟨D, hD, g2, k3⟩ := h.back g1 k2 id
  rw [hD] at hr
  refine ⟨D, F1, ns1, id, e1, hr.symm, g2, k3, fun p hp => ?_, ok, bad⟩
  rcases n1 p hp with h | h
  · exact .inl h
  · simp at h; exact .inr (by omega)
theorem make_run (h : WG H w dn g most ns F 0) {n : Nd} {r : Option (AV × AHeap)} (hr : R Zf [.ptr w 0, .agg n.cs] H = r) : Wv H w dn g most F (makT most ns n) r := by
  rw [Zd7] at hr
  have hcs : ∃ op sort a b c p q vw vl vh name, n = ⟨op, sort, a, b, c, p, q, vw, vl, vh, name⟩ := ⟨_, _, _, _, _, _, _, _, _, _, _, rfl⟩
  obtain ⟨op, sort, a, b, c, p, q, vw, vl, vh, name, hn⟩ := hcs
  have hcs : n.cs = [.int .i64 op, .int .i64 sort, .int .i64 a, .int .i64 b, .int .i64 c, .int .i64 p, .int .i64 q, .int .i64 vw, u vl, u vh, .str name] := by rw [hn]; rfl
  rw [hcs] at hr
  simp (maxDischargeDepth := 40) [Zc4, h.self, h.lo] at hr
  rw [← hcs] at hr
  generalize hA : R Zo _ _ = q at hr
  have kn := Keeps.new H (.cells n.cs)
  obtain ⟨H1, F1, rfl, G1, m1⟩ := mk_run (h.G.keeps kn) hA
  have k1 : Fr F H H1 := (kn.fr _).trans m1.fr fun p hp => .inl hp
  have hw : w ∉ F := fun hm => (h.off w hm).1 rfl
  have o1 : H1.obj w = .cells [.ptr g 0, .map dn, .int .i64 0] := by rw [k1.obj w h.lo hw]; exact h.self
  have l1 := k1.lt h.lo
  have n1 : ∀ p, p ∈ F1 → p ∈ F ∨ H.size ≤ p := fun p hp => by
    rcases m1.new p hp with h | h
    · exact .inl h
    · simp at h; exact .inr (by omega)
  simp (maxDischargeDepth := 40) [o1] at hr
  generalize hX : H1.set w (.cells [.ptr g 0, .map dn, .int .i64 (makT most ns n).2.2]) = H2 at hr
  have k2 : Fr (w :: F) H H2 := by rw [← hX]; exact (k1.weak fun p hp => .inl (by simp [hp])).set (.inl (by simp)) _
  have off1 : ∀ p, p ∈ F1 → p ≠ w ∧ p ≠ dn := fun p hp => by
    rcases n1 p hp with h1 | h1
    · exact h.off p h1
    · have := h.lo; have := h.ld; omega
  have g2 : WG H2 w dn g most (makT most ns n).1 F1 (makT most ns n).2.2 := by
    refine ⟨by rw [← hX]; simp, k2.lt h.lo, k2.lt h.ld, G1.frame (X := [w]) (by rw [← hX]; exact (Fr.refl _ H1).set (.inl (by simp)) _) fun p hp => by simpa using (off1 p hp).1, off1, h.ne⟩
  obtain ⟨D, hD, g3, k3⟩ := h.back g2 k2 (makT most ns n).2.1
  rw [hD] at hr
  exact ⟨D, F1, _, _, _, hr.symm, g3, k3, n1, fun h0 => ⟨rfl, rfl, h0⟩, fun _ => rfl⟩
end
end Go.Proofs.Ytiobohfiaapgeaa
end
section
namespace Go.Proofs.Ytiobohfiaapgeaa
set_option maxRecDepth 100000
set_option maxHeartbeats 4000000
theorem Nd.parts' (n : Nd) : n.cs = [.int .i64 n.op, .int .i64 n.sort, .int .i64 n.a, .int .i64 n.b, .int .i64 n.c, .int .i64 n.p, .int .i64 n.q, .int .i64 n.vw, u n.vl, u n.vh, .str n.name] := rfl
theorem consF_snoc (ns : List Nd) (k : Int) : ∀ l : List Int, consF ns (l ++ [k]) = (consF ns l).bind fun vs => (conF ns k).map fun v => vs ++ [v]
  | [] => by
    simp only [List.nil_append, consF]
    cases conF ns k <;> rfl
  | x :: l => by
    simp only [List.cons_append, consF]
    cases conF ns x with
    | none => rfl
    | some v =>
      simp only
      rw [consF_snoc ns k l]
      cases consF ns l with
      | none => rfl
      | some vs =>
        cases conF ns k <;> rfl
theorem consF_none (ns : List Nd) {k : Int} (h : conF ns k = none) : ∀ l m : List Int, consF ns (l ++ k :: m) = none
  | [], m => by simp [consF, h]
  | x :: l, m => by
    simp only [List.cons_append, consF]
    cases conF ns x with
    | none => rfl
    | some v => simp only; rw [consF_none ns h l m]; rfl
theorem consF_len {ns : List Nd} : ∀ {l : List Int} {vs : List Vl}, consF ns l = some vs → vs.length = l.length
  | [], vs, h => by cases h; rfl
  | x :: l, vs, h => by
    simp only [consF] at h
    cases hx : conF ns x with
    | none => rw [hx] at h; cases h
    | some v =>
      rw [hx] at h
      simp only at h
      cases hl : consF ns l with
      | none => rw [hl] at h; cases h
      | some ws =>
        rw [hl] at h
        cases h
        simp [consF_len hl]
theorem conF_cs {ns : List Nd} {k : Int} {v : Vl} (h : conF ns k = some v) : (ndF ns k).op = 1 ∧ v = (ndF ns k).v := by
  unfold conF at h
  split at h
  · rename_i ho; cases h; exact ⟨ho, rfl⟩
  · cases h
theorem conF_no {ns : List Nd} {k : Int} (h : conF ns k = none) : ¬ (ndF ns k).op = 1 := by
  unfold conF at h
  split at h
  · cases h
  · assumption
theorem flatV_snoc (l : List Vl) (v : Vl) : flatV (l ++ [v]) = flatV l ++ v.cs := by simp [flatV]
section
variable {H : AHeap} {w dn g : Nat} {most : Int} {ns : List Nd} {F : List Nat} {e : Int}
theorem Wv.up (h : WG H w dn g most ns F 0) {H1 : AHeap} (k : Keeps H H1) {x : List Nd × Int × Int} {r1 : Option (AV × AHeap)} (hw : Wv H1 w dn g most F x r1) : ∃ id H2, r1 = some (.int .i64 id, H2) ∧ Wv H w dn g most F x (some (back [] H (.int .i64 id) H2)) := by
  obtain ⟨H2, F2, ns2, id, e2, rfl, g2, k2, n2, ok, bad⟩ := hw
  have k3 : Fr (w :: F) H H2 := (k.fr _).trans k2 fun p hp => .inl hp
  obtain ⟨D, hD, g4, k4⟩ := h.back g2 k3 id
  refine ⟨id, H2, rfl, D, F2, ns2, id, e2, by rw [hD], g4, k4, fun p hp => ?_, ok, bad⟩
  have := k.size
  rcases n2 p hp with h | h
  · exact .inl h
  · exact .inr (by omega)
theorem folded_loop (h : WG H w dn g most ns F 0) {o m : Nat} {f : Bool} {ks all : List Int} (hm : m ≤ 3) (ho : o < H.size) (hob : H.obj o = .cells (all.map (.int .i64))) (hks : ks = all.take m) (hl : all.length = 3) {ev : Env} {r : Rn}
    (hL : loopL Try.prog KT R Zbq ev H = r) (e0 : ev 0 = some (.ptr w 0)) (e5 : ev 5 = some .nils) (e22 : ev 22 = some (.row o 0 1 m f)) (e23 : ev 23 = some (.int .i64 m)) (e24 : ev 24 = some (.int .i64 0)) :
    ∃ x ev' H', r = some (x, ev', H') ∧ (Keeps H H' ∧ ((x = .ret ∧ ev' 4 = some (.int .i64 0) ∧ consF ns ks = none) ∨ (x = .exit 0 ∧ ∃ v vs, consF ns ks = some vs ∧ ev' 5 = some v ∧ RV H' v vs))) ∧ ∀ t, t ∉ defs Zbq → ev' t = ev t := by
  have hkl : ks.length = m := by rw [hks]; simp; omega
  refine loop_count Zbq.eq_1 hL m (fun i e1 H1 => e1 24 = some (.int .i64 i) ∧ Keeps H H1 ∧ ∃ v vs, consF ns (ks.take i) = some vs ∧ vs.length = i ∧ e1 5 = some v ∧ Reads H1 v 3 vs.length (flatV vs) ∧ grows v ∧ ∀ p, p ∈ objs v → H.size ≤ p) _ 0 (Nat.zero_le _) ⟨e24, Keeps.refl _, .nils, [], by simp [consF], rfl, e5, by simp [flatV], by simp, by simp⟩ ?_ ?_
  · rintro i e1 H1 hf - hi ⟨f24, k1, v, vs, hc, hvl, f5, rv, gv, nv⟩
    have w1 : IntKind.i64.wrap ((i : Int) + 1) = (i : Int) + 1 := i64w (by omega) (by omega)
    have c1 : (i : Int) < m := by omega
    have hob1 : H1.obj o = .cells (all.map (.int .i64)) := by rw [k1.obj o ho]; exact hob
    have hia : i < all.length := by omega
    have hik : i < ks.length := by omega
    have hget : (all.map (AV.int .i64))[i]? = some (.int .i64 (ks.getD i 0)) := by
      rw [List.getElem?_map, List.getElem?_eq_getElem hia]
      rw [hks, List.getD_eq_getElem?_getD, List.getElem?_take_of_lt hi, List.getElem?_eq_getElem hia]
      rfl
    have ta : ks.take (i + 1) = ks.take i ++ [ks.getD i 0] := by rw [List.take_add_one]; simp [List.getD_eq_getElem?_getD, hik]
    have td : ks = ks.take i ++ ks.getD i 0 :: ks.drop (i + 1) := by
      have : ks.getD i 0 = ks[i] := by simp [List.getD_eq_getElem?_getD, hik]
      rw [this, ← List.drop_eq_getElem_cons hik, List.take_append_drop]
    have hval := value_run (h.keeps k1) (ks.getD i 0)
    obtain ⟨k, hk⟩ : ∃ k, k = ks.getD i 0 := ⟨_, rfl⟩
    rw [← hk] at hget ta td hval
    obtain ⟨L, hL'⟩ : ∃ L, L = all.map (AV.int .i64) := ⟨_, rfl⟩
    rw [← hL'] at hob1 hget
    rw [ta, consF_snoc, hc]
    cases hco : conF ns k with
    | none =>
      have hno := conF_no hco
      have hcn : consF ns ks = none := by rw [td]; exact consF_none ns hco _ _
      simp (maxDischargeDepth := 40) [hf, f24, e0, e22, e23, c1, hob1, hget, hval, hno, hcn, k1]
      exact k1.trans ((Keeps.new H1 _).set (Nat.le_refl _) _)
    | some u' =>
      obtain ⟨hop, hu⟩ := conF_cs hco
      simp (maxDischargeDepth := 40) [hf, f24, f5, e0, e22, e23, c1, hob1, hget, hval, hop]
      generalize hA : appU _ _ _ _ = q
      obtain ⟨nu1, nu2, nu3⟩ := nd_v (ndF ns k)
      have hcs : u'.cs = [.int .i64 (ndF ns k).vw, u (ndF ns k).vl, u (ndF ns k).vh] := by rw [hu]; unfold Vl.cs; rw [nu1, nu2, nu3]
      have kn := (((Keeps.new H1 (.cells [.int .i64 0, u 0#64, u 0#64])).set (Nat.le_refl _) (.cells [.int .i64 (ndF ns k).vw, u (ndF ns k).vl, u (ndF ns k).vh])).new' (.cells [.int .i64 (ndF ns k).vw, u (ndF ns k).vl, u (ndF ns k).vh]))
      obtain ⟨H2, rfl, F2, s2, o2, rd2⟩ := app_of hA (rv.keep kn) gv (Reads.row' (all := [.int .i64 (ndF ns k).vw, u (ndF ns k).vl, u (ndF ns k).vh]) (by simp) (by simp) (by simp)) (by omega) rfl (by omega) (by omega) (by omega) (by simp)
      simp [f24, w1]
      refine ⟨F2.keeps (k1.trans kn) nv, hvl, ?_, ?_⟩
      · rw [flatV_snoc, hcs]
        simpa using rd2
      · have := k1.size
        omega
  · rintro e1 H1 hf ⟨f24, k1, v, vs, hc, hvl, f5, rv, gv, nv⟩
    rw [List.take_of_length_le (by omega)] at hc
    simp [hf, f24, e23, f5]
    exact ⟨k1, v, vs, hc, rfl, rv⟩
theorem folded_run (h : WG H w dn g most ns F 0) {n : Nd} (har : 0 ≤ arity n.op) {r : Option (AV × AHeap)} (hr : R Zx [.ptr w 0, .agg n.cs] H = r) :
    match foldF ns n with
    | none => r = some (.int .i64 0, H)
    | some v => Wv H w dn g most F (makT most ns (constN v)) r := by
  rw [Zfj] at hr
  have h3 := arity_le n.op
  obtain ⟨m, hm⟩ : ∃ m : Nat, arity n.op = m := ⟨(arity n.op).toNat, by omega⟩
  have har' := fun H => arity_run (op := n.op) (H := H)
  rw [hm] at har'
  have hsl : ∀ (H : AHeap) o, aslice Try.prog H Z4 (.row o 0 1 3 true) none (some (.int .i64 (m : Int))) none = some (.row o 0 1 m (true && decide ((m : Int) = (3 : Nat)))) := fun H o => aslice_to (by simp) (by omega)
  have hlo := h.lo
  have hself := h.self
  simp only [Nd.parts'] at hr
  simp (maxDischargeDepth := 40) [Zdq, har', hsl] at hr
  generalize hL : loopL _ _ _ _ _ _ = q at hr
  have kn : Keeps H ((H.new (.cells n.cs)).new (.cells [.int .i64 n.a, .int .i64 n.b, .int .i64 n.c])) := ((Keeps.refl H).new' _).new' _
  obtain ⟨x, ev, H1, rfl, ⟨k1, hx⟩, fr⟩ := folded_loop (h.keeps kn) (all := [n.a, n.b, n.c]) (o := H.size + 1) (m := m) (f := decide ((m : Int) = 3)) (by omega) (by simp) (by simp [Nd.parts']) rfl rfl hL (by simp) (by simp) (by simp) (by simp) (by simp)
  have k2 := kn.trans k1
  have hfo : foldF ns n = match consF ns ([n.a, n.b, n.c].take m) with
      | none => none
      | some l => if (applyS n.op n.p n.q l).2 = 0 then some (applyS n.op n.p n.q l).1 else none := by
    unfold foldF
    rw [hm]
    rfl
  rw [hfo]
  rcases hx with ⟨rfl, f4, hc⟩ | ⟨rfl, v, vs, hc, f5, rv⟩
  · rw [hc]
    simp [f4] at hr
    rw [back_k (by simp) k2] at hr
    exact hr.symm
  · rw [hc]
    simp only
    have hlen : vs.length ≤ 1000 := by
      have h1 := consF_len hc
      have h2 : ([n.a, n.b, n.c].take m).length ≤ 3 := by simp; omega
      omega
    have hap := apply_run (op := n.op) (p := n.p) (q := n.q) rv hlen
    have hob : H1.obj H.size = .cells n.cs := by rw [k1.obj _ (by simp)]; simp
    have hl1 : H.size < H1.size := by have := k1.size; simp at this; omega
    rw [Nd.parts'] at hob
    have kk := k2.trans ((Keeps.new H1 (.cells [.int .i64 0, u 0#64, u 0#64])).set (Nat.le_refl _) (.cells [.int .i64 (applyS n.op n.p n.q vs).1.w, u (lo (applyS n.op n.p n.q vs).1.n), u (hi (applyS n.op n.p n.q vs).1.n)]))
    by_cases c : (applyS n.op n.p n.q vs).2 = 0
    · rw [if_pos c]
      rw [c] at hap
      simp (maxDischargeDepth := 40) [fr, f5, hob, hap] at hr
      generalize hA : R Zg _ _ = q at hr
      have hW := constant_run (h.keeps kk) hA fun H' r' k' hr' => make_run ((h.keeps kk).keeps k') hr'
      obtain ⟨id, H2, rfl, hW2⟩ := Wv.up h kk hW
      simp at hr
      rw [← hr]
      exact hW2
    · rw [if_neg c]
      simp (maxDischargeDepth := 40) [fr, f5, hob, hap, c] at hr
      rw [back_k (by simp) kk] at hr
      exact hr.symm
end
end Go.Proofs.Ytiobohfiaapgeaa
end
section
namespace Go.Proofs.Ytiobohfiaapgeaa
set_option maxRecDepth 100000
set_option maxHeartbeats 4000000
def exF (most : Int) (f : Nat) (ns : List Nd) (n : Nd) : Ch → List Nd × Int × Int
  | .at k => (ns, k, 0)
  | .con v => makT most ns (constN v)
  | .mk => makT most ns n
  | .again m => normF most f ns m
  | .shl x v => if (makT most ns (constN v)).2.2 = 0 then normF most f (makT most ns (constN v)).1 (nodeO 26 x (makT most ns (constN v)).2.1 0 0 0) else ((makT most ns (constN v)).1, 0, (makT most ns (constN v)).2.2)
theorem normF_ex {most : Int} {f : Nat} {ns : List Nd} {n : Nd} : normF most (f + 1) ns n = exF most f ns n (pathF ns n) := by
  unfold normF exF
  cases pathF ns n <;> rfl
def NormC (f : Nat) : Prop := ∀ {H : AHeap} {w dn g : Nat} {most : Int} {ns : List Nd} {F : List Nat} {n : Nd} {r : Option (AV × AHeap)}, WG H w dn g most ns F 0 → Gok ns → formedF ns.length n = true → (sortedF ns n).2 = 0 → (normF most f ns n).2.2 ≠ -1 →
  R Zk [.ptr w 0, .agg n.cs] H = r → Wv H w dn g most F (normF most f ns n) r
theorem ok_w {v : Vl} (h : v.ok = true) : 0 ≤ v.w ∧ v.w ≤ 128 := by
  unfold Vl.ok rightF at h
  by_cases c : v.w = 0
  · omega
  · rw [if_neg c] at h
    simp at h
    omega
section
variable {H : AHeap} {w dn g : Nat} {most : Int} {ns : List Nd} {F : List Nat} {e : Int}
theorem Wv.stay (h : WG H w dn g most ns F 0) (k : Int) : Wv H w dn g most F (ns, k, 0) (some (.int .i64 k, H)) :=
  ⟨H, F, ns, k, 0, rfl, h, Fr.refl _ _, fun _ hp => .inl hp, fun _ => ⟨rfl, rfl, rfl⟩, fun h => absurd rfl h⟩
theorem kid_sort (g : Gok ns) {k : Int} (h1 : 1 ≤ k) (h2 : k ≤ ns.length) : 0 ≤ (ndF ns k).sort ∧ (ndF ns k).sort ≤ 128 := by
  obtain ⟨look, hA⟩ := look_any g
  have K := kid_ok g hA h1 h2
  rw [← K.w]
  exact ok_w K.ok
theorem ext_bounds (g : Gok ns) {n : Nd} (hf : formedF ns.length n = true) (hs : (sortedF ns n).2 = 0) (h39 : n.op = 39) : 0 ≤ n.q ∧ n.q ≤ n.p ∧ n.p < 128 := by
  obtain ⟨look, hA⟩ := look_any g
  have F := node_fit g hA hf hs (by omega) (by omega)
  rw [h39] at F
  obtain ⟨l, hl⟩ : ∃ l, l = kidsV (valsV look ns) n := ⟨_, rfl⟩
  obtain ⟨s, hs⟩ : ∃ s, s = (sortedF ns n).1.sort := ⟨_, rfl⟩
  obtain ⟨p, hp⟩ : ∃ p, p = n.p := ⟨_, rfl⟩
  obtain ⟨q, hq⟩ : ∃ q, q = n.q := ⟨_, rfl⟩
  rw [← hl, ← hs, ← hp, ← hq] at F
  rw [← hp, ← hq]
  cases F with
  | extract N i j x g1 g2 _ g4 g5 g6 g7 => omega
  | _ => omega
theorem again_up {f : Nat} (hC : NormC f) (h : WG H w dn g most ns F 0) (gk : Gok ns) {n m : Nd} (hne : (exF most f ns n (.again m)).2.2 ≠ -1) {look : ByteArray → Option Vl} (P : PV look ns n (.again m)) {H1 : AHeap} (k : Keeps H H1) {r : Option (AV × AHeap)} (hr : R Zk [.ptr w 0, .agg m.cs] H1 = r) :
    ∃ id H2, r = some (.int .i64 id, H2) ∧ Wv H w dn g most F (exF most f ns n (.again m)) (some (back [] H (.int .i64 id) H2)) := by
  obtain ⟨-, -, m3, m4, -⟩ := P
  exact Wv.up h k (hC (h.keeps k) gk m3 (by rw [m4]) hne hr)
theorem mk_up {f : Nat} (h : WG H w dn g most ns F 0) {n : Nd} {H1 : AHeap} (k : Keeps H H1) {r : Option (AV × AHeap)} (hr : R Zf [.ptr w 0, .agg n.cs] H1 = r) :
    ∃ id H2, r = some (.int .i64 id, H2) ∧ Wv H w dn g most F (exF most f ns n .mk) (some (back [] H (.int .i64 id) H2)) :=
  Wv.up h k (make_run (h.keeps k) hr)
theorem con_up {f : Nat} (h : WG H w dn g most ns F 0) {n : Nd} {v : Vl} {H1 : AHeap} (k : Keeps H H1) {r : Option (AV × AHeap)} (hr : R Zg [.ptr w 0, .agg [.int .i64 v.w, u (lo v.n), u (hi v.n)]] H1 = r) :
    ∃ id H2, r = some (.int .i64 id, H2) ∧ Wv H w dn g most F (exF most f ns n (.con v)) (some (back [] H (.int .i64 id) H2)) :=
  Wv.up h k (constant_run (h.keeps k) hr fun _ _ k' hr' => make_run ((h.keeps k).keeps k') hr')
theorem at_up {f : Nat} (h : WG H w dn g most ns F 0) {n : Nd} {k : Int} {H1 : AHeap} (kk : Keeps H H1) : Wv H w dn g most F (exF most f ns n (.at k)) (some (back [] H (.int .i64 k) H1)) := by
  rw [back_k (by simp) kk]
  exact Wv.stay h k
theorem slice_run {f : Nat} (hC : NormC f) (h : WG H w dn g most ns F 0) (gk : Gok ns) {n : Nd} (hf : formedF ns.length n = true) (hs : (sortedF ns n).2 = 0) (h39 : n.op = 39) (hne : (exF most f ns n (sliceF ns n (ndF ns n.a))).2.2 ≠ -1) {r : Option (AV × AHeap)}
    (hr : R Z6 [.ptr w 0, .agg n.cs, .agg (ndF ns n.a).cs] H = r) : Wv H w dn g most F (exF most f ns n (sliceF ns n (ndF ns n.a))) r := by
  rw [Zfn] at hr
  have har : arity n.op = 1 := by rw [h39]; decide
  obtain ⟨f1, f2, f3, f4⟩ := formed1 hf har
  have B := ext_bounds gk hf hs h39
  obtain ⟨look, hA⟩ := look_any gk
  have PVs := slice_val gk hA hf hs h39
  have K := kid_ok gk hA f1 f2
  have hnode := fun H' (k : Keeps H H') id => (h.keeps k).node id
  have k0 : Keeps H ((H.new (.cells n.cs)).new (.cells (ndF ns n.a).cs)) := ((Keeps.refl H).new' _).new' _
  have kf := K.form
  have hself := h.self
  have hlo := h.lo
  have kB : (ndF ns n.a).op = 39 → 0 ≤ (ndF ns n.a).q ∧ (ndF ns n.a).q ≤ (ndF ns n.a).p ∧ (ndF ns n.a).p < 128 := fun ho => by
    obtain ⟨i, hi, hni⟩ := nd_at f1 f2
    have := gk.srt _ (List.mem_of_getElem? hni)
    exact ext_bounds gk kf (by rw [this]) ho
  have kC : (ndF ns n.a).op = 38 → 0 ≤ (ndF ns (ndF ns n.a).b).sort ∧ (ndF ns (ndF ns n.a).b).sort ≤ 128 := fun ho => by
    obtain ⟨-, -, g3, g4, -⟩ := formed2 kf (by rw [ho]; decide)
    exact kid_sort gk g3 g4
  obtain ⟨k, hk⟩ : ∃ k, k = ndF ns n.a := ⟨_, rfl⟩
  rw [← hk] at hr hne PVs kf kB kC k0 ⊢
  have hn0 := fun id => hnode _ k0 id
  have again : ∀ m : Nd, sliceF ns n k = .again m → ∀ (H1 : AHeap) (_ : Keeps H H1) (r : Option (AV × AHeap)), R Zk [.ptr w 0, .agg m.cs] H1 = r → ∃ id H2, r = some (.int .i64 id, H2) ∧ Wv H w dn g most F (exF most f ns n (.again m)) (some (back [] H (.int .i64 id) H2)) := fun m hm H1 k r hr => by
    rw [hm] at PVs hne
    exact again_up hC h gk hne PVs k hr
  have mk := fun (H1 : AHeap) (k : Keeps H H1) (r : Option (AV × AHeap)) (hr : R Zf [.ptr w 0, .agg n.cs] H1 = r) => mk_up (f := f) h k hr
  unfold sliceF at again ⊢
  clear hne PVs hk K hC
  simp only [Nd.parts'] at hr mk hn0
  by_cases c1 : k.op = 39
  · rw [if_pos c1] at again ⊢
    have kb := kB c1
    have w1 : IntKind.i64.wrap (n.p + k.q) = n.p + k.q := i64w (by omega) (by omega)
    have w2 : IntKind.i64.wrap (n.q + k.q) = n.q + k.q := i64w (by omega) (by omega)
    have ag := again _ rfl
    simp only [Nd.parts', nodeO] at ag
    simp (maxDischargeDepth := 40) [Z7, c1, w1, w2] at hr
    generalize hA : R Zk _ _ = q at hr
    obtain ⟨id, H2, rfl, hW⟩ := ag _ (by ((repeat (first | exact Keeps.refl _ | assumption | refine Keeps.new' ?_ _ | refine Keeps.set ?_ ?_ _)) <;> (first | assumption | (simp; done) | (simp; omega)))) _ hA
    simp at hr
    rw [← hr]
    exact hW
  rw [if_neg c1] at again ⊢
  by_cases c2 : k.op = 38
  · rw [if_pos c2] at again ⊢
    have kb := kC c2
    have hnb := hn0 k.b
    rw [c2] at hnb
    obtain ⟨l, hl⟩ : ∃ l, l = ndF ns k.b := ⟨_, rfl⟩
    rw [← hl] at again hnb kb ⊢
    have w1 : IntKind.i64.wrap (n.p - l.sort) = n.p - l.sort := i64w (by omega) (by omega)
    have w2 : IntKind.i64.wrap (n.q - l.sort) = n.q - l.sort := i64w (by omega) (by omega)
    by_cases c3 : l.sort ≤ n.q
    · rw [if_pos c3] at again ⊢
      have ag := again _ rfl
      simp only [Nd.parts', nodeO] at ag
      simp (maxDischargeDepth := 40) [Z7, hself, hlo, c2, hnb, w1, w2, c3] at hr
      generalize hA : R Zk _ _ = q at hr
      obtain ⟨id, H2, rfl, hW⟩ := ag _ (by ((repeat (first | exact Keeps.refl _ | assumption | refine Keeps.new' ?_ _ | refine Keeps.set ?_ ?_ _)) <;> (first | assumption | (simp; done) | (simp; omega)))) _ hA
      simp at hr
      rw [← hr]
      exact hW
    rw [if_neg c3] at again ⊢
    by_cases c4 : n.p < l.sort
    · rw [if_pos c4] at again ⊢
      have ag := again _ rfl
      simp only [Nd.parts', nodeO] at ag
      simp (maxDischargeDepth := 40) [Z7, hself, hlo, c2, hnb, c3, c4] at hr
      generalize hA : R Zk _ _ = q at hr
      obtain ⟨id, H2, rfl, hW⟩ := ag _ (by ((repeat (first | exact Keeps.refl _ | assumption | refine Keeps.new' ?_ _ | refine Keeps.set ?_ ?_ _)) <;> (first | assumption | (simp; done) | (simp; omega)))) _ hA
      simp at hr
      rw [← hr]
      exact hW
    · rw [if_neg c4] at again ⊢
      simp (maxDischargeDepth := 40) [Z7, hself, hlo, c2, hnb, c3, c4] at hr
      generalize hA : R Zf _ _ = q at hr
      obtain ⟨id, H2, rfl, hW⟩ := mk _ (by ((repeat (first | exact Keeps.refl _ | assumption | refine Keeps.new' ?_ _ | refine Keeps.set ?_ ?_ _)) <;> (first | assumption | (simp; done) | (simp; omega)))) _ hA
      simp at hr
      rw [← hr]
      exact hW
  rw [if_neg c2] at again ⊢
  by_cases c5 : k.op = 40 ∨ k.op = 41
  · rw [if_pos c5] at again ⊢
    have hnb := hn0 k.a
    obtain ⟨l, hl⟩ : ∃ l, l = ndF ns k.a := ⟨_, rfl⟩
    rw [← hl] at again hnb ⊢
    by_cases c4 : n.p < l.sort
    · rw [if_pos c4] at again ⊢
      have ag := again _ rfl
      simp only [Nd.parts', nodeO] at ag
      rcases c5 with c5 | c5 <;>
      · rw [c5] at hnb
        simp (maxDischargeDepth := 40) [Z7, hself, hlo, hnb, c5, c4] at hr
        generalize hA : R Zk _ _ = q at hr
        obtain ⟨id, H2, rfl, hW⟩ := ag _ (by ((repeat (first | exact Keeps.refl _ | assumption | refine Keeps.new' ?_ _ | refine Keeps.set ?_ ?_ _)) <;> (first | assumption | (simp; done) | (simp; omega)))) _ hA
        simp at hr
        rw [← hr]
        exact hW
    · rw [if_neg c4] at again ⊢
      rcases c5 with c5 | c5 <;>
      · rw [c5] at hnb
        simp (maxDischargeDepth := 40) [Z7, hself, hlo, hnb, c5, c4] at hr
        generalize hA : R Zf _ _ = q at hr
        obtain ⟨id, H2, rfl, hW⟩ := mk _ (by ((repeat (first | exact Keeps.refl _ | assumption | refine Keeps.new' ?_ _ | refine Keeps.set ?_ ?_ _)) <;> (first | assumption | (simp; done) | (simp; omega)))) _ hA
        simp at hr
        rw [← hr]
        exact hW
  · rw [if_neg c5] at again ⊢
    have c6 : ¬ k.op = 40 := fun h => c5 (.inl h)
    have c7 : ¬ k.op = 41 := fun h => c5 (.inr h)
    simp (maxDischargeDepth := 40) [Z7, c1, c2, c6, c7] at hr
    generalize hA : R Zf _ _ = q at hr
    obtain ⟨id, H2, rfl, hW⟩ := mk _ (by ((repeat (first | exact Keeps.refl _ | assumption | refine Keeps.new' ?_ _ | refine Keeps.set ?_ ?_ _)) <;> (first | assumption | (simp; done) | (simp; omega)))) _ hA
    simp at hr
    rw [← hr]
    exact hW
end
end Go.Proofs.Ytiobohfiaapgeaa
end
section
namespace Go.Proofs.Ytiobohfiaapgeaa
set_option maxRecDepth 100000
set_option maxHeartbeats 4000000
def tagsF (op : Int) : Int :=
  if op = 3 then 128 else
  if op = 4 then 1 else
  if op = 5 then 1 else
  if op = 6 then 2 else
  if op = 7 then 4 else
  if op = 8 then 4 else
  if op = 10 then 128 else
  if op = 11 then 128 else
  if op = 12 then 9 else
  if op = 13 then 17 else
  if op = 14 then 18 else
  if op = 18 then 16 else
  if op = 19 then 34 else
  if op = 20 then 264 else
  if op = 21 then 256 else
  if op = 26 then 96 else
  if op = 27 then 96 else
  if op = 28 then 96 else
  if op = 29 then 2 else
  if op = 30 then 4 else
  if op = 31 then 2 else
  if op = 32 then 4 else
  if op = 33 then 2 else
  if op = 34 then 4 else
  if op = 35 then 2 else
  if op = 36 then 4 else
  0
theorem tags_run {op : Int} {H : AHeap} : R Zeg [.int .i64 op] H = some (.int .i64 (tagsF op), H) := by
  rw [Zid]
  by_cases c3 : op = 3
  · subst c3; simp (maxDischargeDepth := 40) [Zv, tagsF]
  by_cases c4 : op = 4
  · subst c4; simp (maxDischargeDepth := 40) [Zv, tagsF]
  by_cases c5 : op = 5
  · subst c5; simp (maxDischargeDepth := 40) [Zv, tagsF]
  by_cases c6 : op = 6
  · subst c6; simp (maxDischargeDepth := 40) [Zv, tagsF]
  by_cases c7 : op = 7
  · subst c7; simp (maxDischargeDepth := 40) [Zv, tagsF]
  by_cases c8 : op = 8
  · subst c8; simp (maxDischargeDepth := 40) [Zv, tagsF]
  by_cases c10 : op = 10
  · subst c10; simp (maxDischargeDepth := 40) [Zv, tagsF]
  by_cases c11 : op = 11
  · subst c11; simp (maxDischargeDepth := 40) [Zv, tagsF]
  by_cases c12 : op = 12
  · subst c12; simp (maxDischargeDepth := 40) [Zv, tagsF]
  by_cases c13 : op = 13
  · subst c13; simp (maxDischargeDepth := 40) [Zv, tagsF]
  by_cases c14 : op = 14
  · subst c14; simp (maxDischargeDepth := 40) [Zv, tagsF]
  by_cases c18 : op = 18
  · subst c18; simp (maxDischargeDepth := 40) [Zv, tagsF]
  by_cases c19 : op = 19
  · subst c19; simp (maxDischargeDepth := 40) [Zv, tagsF]
  by_cases c20 : op = 20
  · subst c20; simp (maxDischargeDepth := 40) [Zv, tagsF]
  by_cases c21 : op = 21
  · subst c21; simp (maxDischargeDepth := 40) [Zv, tagsF]
  by_cases c26 : op = 26
  · subst c26; simp (maxDischargeDepth := 40) [Zv, tagsF]
  by_cases c27 : op = 27
  · subst c27; simp (maxDischargeDepth := 40) [Zv, tagsF]
  by_cases c28 : op = 28
  · subst c28; simp (maxDischargeDepth := 40) [Zv, tagsF]
  by_cases c29 : op = 29
  · subst c29; simp (maxDischargeDepth := 40) [Zv, tagsF]
  by_cases c30 : op = 30
  · subst c30; simp (maxDischargeDepth := 40) [Zv, tagsF]
  by_cases c31 : op = 31
  · subst c31; simp (maxDischargeDepth := 40) [Zv, tagsF]
  by_cases c32 : op = 32
  · subst c32; simp (maxDischargeDepth := 40) [Zv, tagsF]
  by_cases c33 : op = 33
  · subst c33; simp (maxDischargeDepth := 40) [Zv, tagsF]
  by_cases c34 : op = 34
  · subst c34; simp (maxDischargeDepth := 40) [Zv, tagsF]
  by_cases c35 : op = 35
  · subst c35; simp (maxDischargeDepth := 40) [Zv, tagsF]
  by_cases c36 : op = 36
  · subst c36; simp (maxDischargeDepth := 40) [Zv, tagsF]
  simp (maxDischargeDepth := 40) [Zv, tagsF, c3, c4, c5, c6, c7, c8, c10, c11, c12, c13, c14, c18, c19, c20, c21, c26, c27, c28, c29, c30, c31, c32, c33, c34, c35, c36]
def tbit (op k : Int) : Int := IntKind.i64.wrap (BitVec.ofInt IntKind.i64.bits (tagsF op) &&& BitVec.ofInt IntKind.i64.bits k).toNat
@[simp high] theorem tag_and {P : Program} {K : TypeId → Option (List Sc)} {t : TypeId} {op k : Int} : abin P K .and t (.int .i64 (tagsF op)) (.int .i64 k) = some (.int .i64 (tbit op k)) := by
  unfold tbit
  rw [bin_and]
theorem tbit_fin {k : Int} {p : Int → Prop} [DecidablePred p] (h : ∀ i : Fin 45, (tbit (i : Nat) k = 0 ↔ ¬ p ((i : Nat) : Int))) {op : Int} (h1 : 0 ≤ op) (h2 : op ≤ 44) : tbit op k = 0 ↔ ¬ p op := by
  have := h ⟨op.toNat, by omega⟩
  simp only [Int.toNat_of_nonneg h1] at this
  exact this
theorem tb128 {op : Int} (h1 : 0 ≤ op) (h2 : op ≤ 44) : tbit op 128 = 0 ↔ ¬ (op = 3 ∨ op = 10 ∨ op = 11) := tbit_fin (p := fun op => op = 3 ∨ op = 10 ∨ op = 11) (by decide) h1 h2
theorem arity_bound {op : Int} (h : 0 ≤ arity op) : 1 ≤ op ∧ op ≤ 44 := by
  unfold arity at h
  split at h
  · omega
  · omega
section
variable {H : AHeap} {w dn g : Nat} {most : Int} {ns : List Nd} {F : List Nat} {e : Int}
theorem makT_pos {most : Int} {ns : List Nd} {n : Nd} (h : (makT most ns n).2.2 = 0) : 0 < (makT most ns n).2.1 := by
  unfold makT at h ⊢
  split at h
  · cases h
  · split at h
    · rename_i h2; exact absurd h h2
    · rename_i h1 h2
      rw [if_neg h1, if_neg h2]
      split at h
      · simp only; omega
      · split at h
        · cases h
        · rename_i h3; rw [if_neg h3]; simp only; omega
theorem fold_up {f : Nat} (h : WG H w dn g most ns F 0) {n : Nd} (har : 0 ≤ arity n.op) {v : Vl} (hv : foldF ns n = some v) {H1 : AHeap} (k : Keeps H H1) {r : Option (AV × AHeap)} (hr : R Zx [.ptr w 0, .agg n.cs] H1 = r) :
    ∃ id H2 e, r = some (.int .i64 id, H2) ∧ H2.obj w = .cells [.ptr g 0, .map dn, .int .i64 e] ∧ w < H2.size ∧ (¬ 0 < id → ¬ e = 0) ∧ Wv H w dn g most F (exF most f ns n (.con v)) (some (back [] H (.int .i64 id) H2)) := by
  have hW := folded_run (h.keeps k) har hr
  rw [hv] at hW
  simp only at hW
  obtain ⟨id', H2', e1, hW2⟩ := Wv.up h k hW
  obtain ⟨H2, F2, ns2, id, e2, rfl, g2, k2, n2, ok, bad⟩ := hW
  cases e1
  refine ⟨_, _, e2, rfl, g2.self, g2.lo, fun hid he => ?_, hW2⟩
  by_cases c : (makT most ns (constN v)).2.2 = 0
  · obtain ⟨-, rfl, -⟩ := ok c
    exact hid (makT_pos c)
  · have := bad c
    omega
theorem fold_no (h : WG H w dn g most ns F 0) {n : Nd} (har : 0 ≤ arity n.op) (hv : foldF ns n = none) {H1 : AHeap} (k : Keeps H H1) : R Zx [.ptr w 0, .agg n.cs] H1 = some (.int .i64 0, H1) := by
  have hW := folded_run (h.keeps k) har rfl
  rw [hv] at hW
  exact hW
theorem rot_sort (g : Gok ns) {n : Nd} (hf : formedF ns.length n = true) (hs : (sortedF ns n).2 = 0) (har : arity n.op = 1) (ho : n.op = 42 ∨ n.op = 43) : ¬ (ndF ns n.a).sort = 0 := by
  obtain ⟨look, hA⟩ := look_any g
  obtain ⟨f1, f2, f3, f4⟩ := formed1 hf har
  have K := kid_ok g hA f1 f2
  have F := node_fit g hA hf hs (by omega) (by omega)
  rw [kidsV_1 har] at F
  have kw := K.w
  obtain ⟨v, hv⟩ : ∃ v, v = V look ns n.a := ⟨_, rfl⟩
  obtain ⟨l, hl⟩ : ∃ l, l = [V look ns n.a] := ⟨_, rfl⟩
  obtain ⟨s, hs⟩ : ∃ s, s = (sortedF ns n).1.sort := ⟨_, rfl⟩
  rw [← hl, ← hs] at F
  rw [← hv] at kw hl
  cases F with
  | rot N k x r1 r2 r3 r4 r5 r6 =>
    have : Vl.of x = v := by injection hl
    rw [← this] at kw
    rw [← kw]
    show ¬ (N : Int) = 0
    omega
  | _ => omega
theorem wone_run {f : Nat} (hC : NormC f) (h : WG H w dn g most ns F 0) (gk : Gok ns) {n : Nd} (hf : formedF ns.length n = true) (hs : (sortedF ns n).2 = 0) (_h1 : ¬ n.op = 1) (_h2 : ¬ n.op = 2) (har : arity n.op = 1) (hne : (exF most f ns n (unC ns n)).2.2 ≠ -1) {r : Option (AV × AHeap)}
    (hr : R Zbh [.ptr w 0, .agg n.cs] H = r) : Wv H w dn g most F (exF most f ns n (unC ns n)) r := by
  rw [Zfw] at hr
  have hself := h.self
  have hlo := h.lo
  have k1 : Keeps H (H.new (.cells n.cs)) := (Keeps.refl H).new' _
  cases hfo : foldF ns n with
  | some v =>
    rw [show unC ns n = .con v by unfold unC; rw [hfo]]
    have hX := fun (r' : Option (AV × AHeap)) => fold_up (f := f) h (by omega) hfo k1 (r := r')
    simp only [Nd.parts'] at hr hX
    simp (maxDischargeDepth := 40) [Zq] at hr
    generalize hA : R Zx _ _ = q at hr
    obtain ⟨id, H2, e, rfl, o2, l2, hid, hW⟩ := hX _ hA
    by_cases c : 0 < id
    · simp (maxDischargeDepth := 40) [c] at hr
      rw [← hr]; exact hW
    · have := hid c
      simp (maxDischargeDepth := 40) [c, o2, this] at hr
      rw [← hr]; exact hW
  | none =>
    have hX := fold_no h (by omega) hfo k1
    have hnode := (h.keeps k1).node n.a
    obtain ⟨f1, f2, f3, f4⟩ := formed1 hf har
    have hks := kid_sort gk f1 f2
    have ob := arity_bound (op := n.op) (by omega)
    have t8 := tb128 (op := n.op) (by omega) (by omega)
    have w1 : IntKind.i64.wrap ((ndF ns n.a).sort - 1) = (ndF ns n.a).sort - 1 := i64w (by omega) (by omega)
    have mk := fun (H1 : AHeap) (k : Keeps H H1) (r : Option (AV × AHeap)) (hr : R Zf [.ptr w 0, .agg n.cs] H1 = r) => mk_up (f := f) h k hr
    have hsl := fun (h39 : n.op = 39) (hne : (exF most f ns n (sliceF ns n (ndF ns n.a))).2.2 ≠ -1) (H1 : AHeap) (k : Keeps H H1) (r : Option (AV × AHeap)) (hr : R Z6 [.ptr w 0, .agg n.cs, .agg (ndF ns n.a).cs] H1 = r) => Wv.up h k (slice_run hC (h.keeps k) gk hf hs h39 hne hr)
    have at' := fun (j : Int) (H1 : AHeap) (k : Keeps H H1) => at_up (f := f) (n := n) (k := j) h k
    have hrot := rot_sort gk hf hs har
    unfold unC at hne ⊢
    rw [hfo] at hne ⊢
    simp only at hne ⊢
    obtain ⟨k, hk⟩ : ∃ k, k = ndF ns n.a := ⟨_, rfl⟩
    rw [← hk] at hne hks w1 hnode hsl hrot ⊢
    simp only [Nd.parts'] at hr mk hX hnode hsl
    by_cases c1 : (n.op = 3 ∨ n.op = 10 ∨ n.op = 11) ∧ k.op = n.op
    · rw [if_pos c1] at hne ⊢
      have c2 : ¬ tbit n.op 128 = 0 := fun hh => t8.1 hh c1.1
      simp (maxDischargeDepth := 40) [Zq, hself, hlo, hX, hnode, tags_run, c2, c1.2] at hr
      rw [← hr]
      exact Wv.stay h _
    rw [if_neg c1] at hne ⊢
    by_cases o3 : n.op = 3 ∨ n.op = 10 ∨ n.op = 11
    · have c2 : ¬ tbit n.op 128 = 0 := fun hh => t8.1 hh o3
      have kk : ¬ k.op = n.op := fun hh => c1 ⟨o3, hh⟩
      have n39 : ¬ n.op = 39 := by omega
      have n40 : ¬ n.op = 40 := by omega
      have n41 : ¬ n.op = 41 := by omega
      have n42 : ¬ n.op = 42 := by omega
      have n43 : ¬ n.op = 43 := by omega
      have n44 : ¬ n.op = 44 := by omega
      simp only [n39, n40, n41, n42, n43, n44, false_and, or_self, if_false]
      simp (maxDischargeDepth := 40) [Zq, hself, hlo, hX, hnode, tags_run, c2, kk, n39, n40, n41, n42, n43, n44] at hr
      generalize hA : R Zf _ _ = q at hr
      obtain ⟨id, H2, rfl, hW⟩ := mk _ (by ((repeat (first | exact Keeps.refl _ | assumption | refine Keeps.new' ?_ _ | refine Keeps.set ?_ ?_ _)) <;> (first | assumption | (simp; done) | (simp; omega)))) _ hA
      simp at hr
      rw [← hr]
      exact hW
    have c2 : tbit n.op 128 = 0 := t8.2 o3
    by_cases o39 : n.op = 39
    · have e39 := eq_true o39
      have n40 : ¬ n.op = 40 := by omega
      have n41 : ¬ n.op = 41 := by omega
      have n42 : ¬ n.op = 42 := by omega
      have n43 : ¬ n.op = 43 := by omega
      have n44 : ¬ n.op = 44 := by omega
      by_cases q0 : n.q = 0
      · have eq0 := eq_true q0
        by_cases p1 : n.p = k.sort - 1
        · have ep1 := eq_true p1
          simp only [e39, eq0, ep1, true_and, if_true]
          simp (maxDischargeDepth := 40) [Zq, hself, hlo, hX, hnode, tags_run, c2, w1, e39, eq0, ep1] at hr
          rw [← hr]
          exact Wv.stay h _
        · simp only [e39, eq0, p1, n40, n41, n42, n43, n44, false_and, or_self, if_true, if_false, and_false] at hne ⊢
          simp (maxDischargeDepth := 40) [Zq, hself, hlo, hX, hnode, tags_run, c2, w1, e39, eq0, p1, n40, n41, n42, n43, n44] at hr
          generalize hA : R Z6 _ _ = q at hr
          obtain ⟨id, H2, rfl, hW⟩ := hsl o39 hne _ (by ((repeat (first | exact Keeps.refl _ | assumption | refine Keeps.new' ?_ _ | refine Keeps.set ?_ ?_ _)) <;> (first | assumption | (simp; done) | (simp; omega)))) _ hA
          simp at hr
          rw [← hr]
          exact hW
      · simp only [e39, q0, n40, n41, n42, n43, n44, false_and, or_self, if_true, if_false, and_false] at hne ⊢
        simp (maxDischargeDepth := 40) [Zq, hself, hlo, hX, hnode, tags_run, c2, e39, q0, n40, n41, n42, n43, n44] at hr
        generalize hA : R Z6 _ _ = q at hr
        obtain ⟨id, H2, rfl, hW⟩ := hsl o39 hne _ (by ((repeat (first | exact Keeps.refl _ | assumption | refine Keeps.new' ?_ _ | refine Keeps.set ?_ ?_ _)) <;> (first | assumption | (simp; done) | (simp; omega)))) _ hA
        simp at hr
        rw [← hr]
        exact hW
    by_cases o40 : n.op = 40 ∨ n.op = 41
    · have n42 : ¬ n.op = 42 := by omega
      have n43 : ¬ n.op = 43 := by omega
      have n44 : ¬ n.op = 44 := by omega
      have e40 := eq_true o40
      by_cases p0 : n.p = 0
      · have ep0 := eq_true p0
        simp only [e40, ep0, o39, true_and, false_and, if_true, if_false]
        rcases o40 with o40 | o40
        · have e40 := eq_true o40
          simp (maxDischargeDepth := 40) [Zq, hself, hlo, hX, hnode, tags_run, c2, e40, ep0, o39] at hr
          rw [← hr]
          exact Wv.stay h _
        · have e41 := eq_true o40
          have n40 : ¬ n.op = 40 := by omega
          simp (maxDischargeDepth := 40) [Zq, hself, hlo, hX, hnode, tags_run, c2, n40, e41, ep0, o39] at hr
          rw [← hr]
          exact Wv.stay h _
      · simp only [e40, p0, o39, n42, n43, n44, or_self, and_false, false_and, if_false]
        rcases o40 with o40 | o40
        · have e40 := eq_true o40
          simp (maxDischargeDepth := 40) [Zq, hself, hlo, hX, hnode, tags_run, c2, e40, p0, o39, n42, n43, n44] at hr
          generalize hA : R Zf _ _ = q at hr
          obtain ⟨id, H2, rfl, hW⟩ := mk _ (by ((repeat (first | exact Keeps.refl _ | assumption | refine Keeps.new' ?_ _ | refine Keeps.set ?_ ?_ _)) <;> (first | assumption | (simp; done) | (simp; omega)))) _ hA
          simp at hr
          rw [← hr]
          exact hW
        · have e41 := eq_true o40
          have n40 : ¬ n.op = 40 := by omega
          simp (maxDischargeDepth := 40) [Zq, hself, hlo, hX, hnode, tags_run, c2, n40, e41, p0, o39, n42, n43, n44] at hr
          generalize hA : R Zf _ _ = q at hr
          obtain ⟨id, H2, rfl, hW⟩ := mk _ (by ((repeat (first | exact Keeps.refl _ | assumption | refine Keeps.new' ?_ _ | refine Keeps.set ?_ ?_ _)) <;> (first | assumption | (simp; done) | (simp; omega)))) _ hA
          simp at hr
          rw [← hr]
          exact hW
    have n40 : ¬ n.op = 40 := fun hh => o40 (.inl hh)
    have n41 : ¬ n.op = 41 := fun hh => o40 (.inr hh)
    by_cases o42 : n.op = 42 ∨ n.op = 43
    · have n44 : ¬ n.op = 44 := by omega
      have e42 := eq_true o42
      have ks := hrot o42
      by_cases p0 : n.p.tmod k.sort = 0
      · have ep0 := eq_true p0
        simp only [e42, ep0, o39, n40, n41, or_self, true_and, false_and, if_true, if_false]
        rcases o42 with o42 | o42
        · have e42 := eq_true o42
          simp (maxDischargeDepth := 40) [Zq, hself, hlo, hX, hnode, tags_run, c2, e42, ep0, o39, n40, n41, ks] at hr
          rw [← hr]
          exact Wv.stay h _
        · have e43 := eq_true o42
          have n42 : ¬ n.op = 42 := by omega
          simp (maxDischargeDepth := 40) [Zq, hself, hlo, hX, hnode, tags_run, c2, n42, e43, ep0, o39, n40, n41, ks] at hr
          rw [← hr]
          exact Wv.stay h _
      · simp only [e42, p0, o39, n40, n41, n44, or_self, and_false, false_and, if_false]
        rcases o42 with o42 | o42
        · have e42 := eq_true o42
          simp (maxDischargeDepth := 40) [Zq, hself, hlo, hX, hnode, tags_run, c2, e42, p0, o39, n40, n41, n44, ks] at hr
          generalize hA : R Zf _ _ = q at hr
          obtain ⟨id, H2, rfl, hW⟩ := mk _ (by ((repeat (first | exact Keeps.refl _ | assumption | refine Keeps.new' ?_ _ | refine Keeps.set ?_ ?_ _)) <;> (first | assumption | (simp; done) | (simp; omega)))) _ hA
          simp at hr
          rw [← hr]
          exact hW
        · have e43 := eq_true o42
          have n42 : ¬ n.op = 42 := by omega
          simp (maxDischargeDepth := 40) [Zq, hself, hlo, hX, hnode, tags_run, c2, n42, e43, p0, o39, n40, n41, n44, ks] at hr
          generalize hA : R Zf _ _ = q at hr
          obtain ⟨id, H2, rfl, hW⟩ := mk _ (by ((repeat (first | exact Keeps.refl _ | assumption | refine Keeps.new' ?_ _ | refine Keeps.set ?_ ?_ _)) <;> (first | assumption | (simp; done) | (simp; omega)))) _ hA
          simp at hr
          rw [← hr]
          exact hW
    have n42 : ¬ n.op = 42 := fun hh => o42 (.inl hh)
    have n43 : ¬ n.op = 43 := fun hh => o42 (.inr hh)
    by_cases o44 : n.op = 44
    · have e44 := eq_true o44
      by_cases p1 : n.p = 1
      · have ep1 := eq_true p1
        simp only [e44, ep1, o39, n40, n41, n42, n43, or_self, true_and, false_and, if_true, if_false]
        simp (maxDischargeDepth := 40) [Zq, hself, hlo, hX, hnode, tags_run, c2, e44, ep1, o39, n40, n41, n42, n43] at hr
        rw [← hr]
        exact Wv.stay h _
      · simp only [e44, p1, o39, n40, n41, n42, n43, or_self, and_false, false_and, if_false]
        simp (maxDischargeDepth := 40) [Zq, hself, hlo, hX, hnode, tags_run, c2, e44, p1, o39, n40, n41, n42, n43] at hr
        generalize hA : R Zf _ _ = q at hr
        obtain ⟨id, H2, rfl, hW⟩ := mk _ (by ((repeat (first | exact Keeps.refl _ | assumption | refine Keeps.new' ?_ _ | refine Keeps.set ?_ ?_ _)) <;> (first | assumption | (simp; done) | (simp; omega)))) _ hA
        simp at hr
        rw [← hr]
        exact hW
    · simp only [o44, o39, n40, n41, n42, n43, or_self, false_and, if_false]
      simp (maxDischargeDepth := 40) [Zq, hself, hlo, hX, hnode, tags_run, c2, o44, o39, n40, n41, n42, n43] at hr
      generalize hA : R Zf _ _ = q at hr
      obtain ⟨id, H2, rfl, hW⟩ := mk _ (by ((repeat (first | exact Keeps.refl _ | assumption | refine Keeps.new' ?_ _ | refine Keeps.set ?_ ?_ _)) <;> (first | assumption | (simp; done) | (simp; omega)))) _ hA
      simp at hr
      rw [← hr]
      exact hW
theorem choice_run {f : Nat} (h : WG H w dn g most ns F 0) {n : Nd} {r : Option (AV × AHeap)}
    (hr : R Zbj [.ptr w 0, .agg n.cs] H = r) : Wv H w dn g most F (exF most f ns n (iteC ns n)) r := by
  rw [Zfi] at hr
  have hself := h.self
  have hlo := h.lo
  have k1 : Keeps H (H.new (.cells n.cs)) := (Keeps.refl H).new' _
  have hval := value_run (h.keeps k1) n.a
  have mk := fun (H1 : AHeap) (k : Keeps H H1) (r : Option (AV × AHeap)) (hr : R Zf [.ptr w 0, .agg n.cs] H1 = r) => mk_up (f := f) h k hr
  unfold iteC conF
  obtain ⟨k, hk⟩ : ∃ k, k = ndF ns n.a := ⟨_, rfl⟩
  rw [← hk] at hval ⊢
  obtain ⟨nu1, nu2, nu3⟩ := nd_v k
  simp only [Nd.parts'] at hr mk hval
  by_cases c1 : n.b = n.c
  · have e1 := eq_true c1
    rw [if_pos c1]
    simp (maxDischargeDepth := 40) [Zbs, hval, e1] at hr
    rw [← hr]
    exact Wv.stay h _
  rw [if_neg c1]
  by_cases c2 : k.op = 1
  · have e2 := eq_true c2
    rw [if_pos c2]
    simp only [nu1]
    by_cases c3 : k.vl = 1#64
    · have e3 := eq_true c3
      rw [if_pos c3]
      simp (maxDischargeDepth := 40) [Zbs, hval, c1, e2, e3] at hr
      rw [← hr]
      exact Wv.stay h _
    · rw [if_neg c3]
      simp (maxDischargeDepth := 40) [Zbs, hval, c1, e2, c3] at hr
      rw [← hr]
      exact Wv.stay h _
  · rw [if_neg c2]
    simp only
    simp (maxDischargeDepth := 40) [Zbs, hval, c1, c2] at hr
    generalize hA : R Zf _ _ = q at hr
    obtain ⟨id, H2, rfl, hW⟩ := mk _ (by ((repeat (first | exact Keeps.refl _ | assumption | refine Keeps.new' ?_ _ | refine Keeps.set ?_ ?_ _)) <;> (first | assumption | (simp; done) | (simp; omega)))) _ hA
    simp at hr
    rw [← hr]
    exact hW
end
end Go.Proofs.Ytiobohfiaapgeaa
end
section
namespace Go.Proofs.Ytiobohfiaapgeaa
set_option maxRecDepth 100000
set_option maxHeartbeats 4000000
section
variable {H : AHeap} {w dn g : Nat} {most : Int} {ns : List Nd} {F : List Nat} {e : Int}
theorem zero_run (h : WG H w dn g most ns F e) {n : Nd} : R Zby [.ptr w 0, .agg n.cs] H = some (.agg [.int .i64 (if n.op = 14 ∨ n.op = 19 then (ndF ns n.a).sort else 0), u 0#64, u 0#64], H) := by
  rw [Zfv]
  have hself := h.self
  have hlo := h.lo
  have kn := ((Keeps.refl H).new' (.cells n.cs)).new' (.cells [.int .i64 0, u 0#64, u 0#64])
  have hnode := (h.keeps kn).node n.a
  obtain ⟨k, hk⟩ : ∃ k, k = ndF ns n.a := ⟨_, rfl⟩
  rw [← hk] at hnode ⊢
  simp only [Nd.parts'] at hnode ⊢
  by_cases c1 : n.op = 14
  · have e1 := eq_true c1
    simp (maxDischargeDepth := 40) [Zcg, hself, hlo, hnode, e1]
  by_cases c2 : n.op = 19
  · have e2 := eq_true c2
    simp (maxDischargeDepth := 40) [Zcg, hself, hlo, hnode, c1, e2]
  · simp (maxDischargeDepth := 40) [Zcg, c1, c2]
theorem is_run (h : WG H w dn g most ns F e) {id : Int} {c : BitVec 64} : R Z2 [.ptr w 0, .int .i64 id, u c] H = some (.bool (isF ns id c), H) := by
  rw [Zf3]
  have hval := value_run h id
  unfold isF conF
  obtain ⟨k, hk⟩ : ∃ k, k = ndF ns id := ⟨_, rfl⟩
  rw [← hk] at hval ⊢
  obtain ⟨nu1, nu2, nu3⟩ := nd_v k
  by_cases c1 : k.op = 1
  · have e1 := eq_true c1
    rw [if_pos c1]
    simp only [nu1, nu2, nu3]
    by_cases c2 : 0 < k.vw
    · by_cases c3 : k.vl = c
      · have e3 := eq_true c3
        simp (maxDischargeDepth := 40) [Zca, hval, e1, c2, e3]
      · simp (maxDischargeDepth := 40) [Zca, hval, e1, c2, c3]
    · simp (maxDischargeDepth := 40) [Zca, hval, e1, c2]
  · rw [if_neg c1]
    simp (maxDischargeDepth := 40) [Zca, hval, c1]
theorem wlogic_run {f : Nat} (hC : NormC f) (h : WG H w dn g most ns F 0) (gk : Gok ns) {n : Nd} {look : ByteArray → Option Vl} (P : ∀ c, logicF ns n = some c → PV look ns n c ∧ (exF most f ns n c).2.2 ≠ -1) {r : Option (AV × AHeap)}
    (hr : R Zbm [.ptr w 0, .agg n.cs] H = r) : match logicF ns n with | none => r = some (.int .i64 0, H) | some c => Wv H w dn g most F (exF most f ns n c) r := by
  rw [Zfp] at hr
  have hself := h.self
  have hlo := h.lo
  have k1 := (Keeps.refl H).new' (.cells n.cs)
  have va := value_run (h.keeps k1) n.a
  have vb := value_run (h.keeps ((k1.new' (.cells [.int .i64 0, u 0#64, u 0#64])).set (o := H.size + 1) (by simp) (.cells [.int .i64 (ndF ns n.a).vw, u (ndF ns n.a).vl, u (ndF ns n.a).vh]))) n.b
  have ag := fun (m : Nd) (hm : logicF ns n = some (.again m)) (H1 : AHeap) (k : Keeps H H1) (r : Option (AV × AHeap)) (hr : R Zk [.ptr w 0, .agg m.cs] H1 = r) => again_up hC h gk (P _ hm).2 (P _ hm).1 k hr
  have co := fun (v : Vl) (H1 : AHeap) (k : Keeps H H1) (r : Option (AV × AHeap)) (hr : R Zg [.ptr w 0, .agg [.int .i64 v.w, u (lo v.n), u (hi v.n)]] H1 = r) => con_up (f := f) (n := n) h k hr
  have hb := fun H => bool_run (b := true) (H := H)
  clear P
  obtain ⟨ka, hka⟩ : ∃ k, k = ndF ns n.a := ⟨_, rfl⟩
  obtain ⟨kb, hkb⟩ : ∃ k, k = ndF ns n.b := ⟨_, rfl⟩
  rw [← hka] at va vb
  rw [← hkb] at vb
  obtain ⟨na1, na2, na3⟩ := nd_v ka
  obtain ⟨nb1, nb2, nb3⟩ := nd_v kb
  simp only [Nd.parts'] at hr va vb
  by_cases o1 : n.op < 4
  · rw [show logicF ns n = none by simp [logicF, o1]]
    simp (maxDischargeDepth := 40) [Zi, o1] at hr
    exact hr.symm
  by_cases o2 : 8 < n.op
  · rw [show logicF ns n = none by simp [logicF, o2]]
    simp (maxDischargeDepth := 40) [Zi, o1, o2] at hr
    exact hr.symm
  by_cases a1 : ka.op = 1
  · have ea := eq_true a1
    by_cases vw : 0 < ka.vw
    · rw [show logicF ns n = none by simp [logicF, conF, logicC, o1, o2, ← hka, na3, ea, vw]]
      simp (maxDischargeDepth := 40) [Zi, o1, o2, va, ea, vw] at hr
      exact hr.symm
    by_cases p4 : n.op = 4
    · have q4 := eq_true p4
      have m5 : ¬ n.op = 5 := by omega
      have m6 : ¬ n.op = 6 := by omega
      have m7 : ¬ n.op = 7 := by omega
      have m8 : ¬ n.op = 8 := by omega
      by_cases y : ka.vl = 1#64
      · have y := eq_true y
        have hl : logicF ns n = some (.at n.b) := by simp [logicF, conF, logicC, Vl.yes, o1, o2, ← hka, na1, na3, ea, vw, q4, y]
        rw [hl]
        simp (maxDischargeDepth := 40) [Zi, o1, o2, va, ea, vw, q4, y] at hr
        rw [← hr]
        exact Wv.stay h _
      · skip
        have hl : logicF ns n = some (.at n.a) := by simp [logicF, conF, logicC, Vl.yes, o1, o2, ← hka, na1, na3, ea, vw, q4, y]
        rw [hl]
        simp (maxDischargeDepth := 40) [Zi, o1, o2, va, ea, vw, q4, y] at hr
        rw [← hr]
        exact Wv.stay h _
    by_cases p5 : n.op = 5
    · have q5 := eq_true p5
      have m4 : ¬ n.op = 4 := by omega
      have m6 : ¬ n.op = 6 := by omega
      have m7 : ¬ n.op = 7 := by omega
      have m8 : ¬ n.op = 8 := by omega
      by_cases y : ka.vl = 1#64
      · have y := eq_true y
        have hl : logicF ns n = some (.at n.a) := by simp [logicF, conF, logicC, Vl.yes, o1, o2, ← hka, na1, na3, ea, vw, m4, q5, y]
        rw [hl]
        simp (maxDischargeDepth := 40) [Zi, o1, o2, va, ea, vw, m4, q5, y] at hr
        rw [← hr]
        exact Wv.stay h _
      · skip
        have hl : logicF ns n = some (.at n.b) := by simp [logicF, conF, logicC, Vl.yes, o1, o2, ← hka, na1, na3, ea, vw, m4, q5, y]
        rw [hl]
        simp (maxDischargeDepth := 40) [Zi, o1, o2, va, ea, vw, m4, q5, y] at hr
        rw [← hr]
        exact Wv.stay h _
    by_cases p6 : n.op = 6
    · have q6 := eq_true p6
      have m4 : ¬ n.op = 4 := by omega
      have m5 : ¬ n.op = 5 := by omega
      have m7 : ¬ n.op = 7 := by omega
      have m8 : ¬ n.op = 8 := by omega
      by_cases y : ka.vl = 1#64
      · have y := eq_true y
        have hl : logicF ns n = some (.again (nodeO 3 n.b 0 0 0 0)) := by simp [logicF, conF, logicC, Vl.yes, o1, o2, ← hka, na1, na3, ea, vw, m4, m5, m7, q6, y]
        have ag := ag _ hl
        simp only [Nd.parts', nodeO] at ag
        rw [hl]
        simp (maxDischargeDepth := 40) [Zi, o1, o2, va, ea, vw, m4, m5, m7, q6, y] at hr
        generalize hA : R Zk _ _ = q at hr
        obtain ⟨id, H2, rfl, hW⟩ := ag _ (by ((repeat (first | exact Keeps.refl _ | assumption | refine Keeps.new' ?_ _ | refine Keeps.set ?_ ?_ _)) <;> (first | assumption | (simp; done) | (simp; omega)))) _ hA
        simp at hr
        rw [← hr]
        exact hW
      · skip
        have hl : logicF ns n = some (.at n.b) := by simp [logicF, conF, logicC, Vl.yes, o1, o2, ← hka, na1, na3, ea, vw, m4, m5, m7, q6, y]
        rw [hl]
        simp (maxDischargeDepth := 40) [Zi, o1, o2, va, ea, vw, m4, m5, m7, q6, y] at hr
        rw [← hr]
        exact Wv.stay h _
    by_cases p7 : n.op = 7
    · have q7 := eq_true p7
      have m4 : ¬ n.op = 4 := by omega
      have m5 : ¬ n.op = 5 := by omega
      have m6 : ¬ n.op = 6 := by omega
      have m8 : ¬ n.op = 8 := by omega
      by_cases y : ka.vl = 1#64
      · have y := eq_true y
        have hl : logicF ns n = some (.at n.b) := by simp [logicF, conF, logicC, Vl.yes, o1, o2, ← hka, na1, na3, ea, vw, m4, m5, q7, y]
        rw [hl]
        simp (maxDischargeDepth := 40) [Zi, o1, o2, va, ea, vw, m4, m5, q7, y] at hr
        rw [← hr]
        exact Wv.stay h _
      · skip
        have hl : logicF ns n = some (.con (Vl.bool true)) := by simp [logicF, conF, logicC, Vl.yes, o1, o2, ← hka, na1, na3, ea, vw, m4, m5, q7, y]
        rw [hl]
        simp (maxDischargeDepth := 40) [Zi, o1, o2, va, ea, vw, m4, m5, q7, y, hb] at hr
        generalize hA : R Zg _ _ = q at hr
        obtain ⟨id, H2, rfl, hW⟩ := co (Vl.bool true) _ (by ((repeat (first | exact Keeps.refl _ | assumption | refine Keeps.new' ?_ _ | refine Keeps.set ?_ ?_ _)) <;> (first | assumption | (simp; done) | (simp; omega)))) _ hA
        simp at hr
        rw [← hr]
        exact hW
    have p8 : n.op = 8 := by omega
    have q8 := eq_true p8
    have m4 : ¬ n.op = 4 := by omega
    have m5 : ¬ n.op = 5 := by omega
    have m6 : ¬ n.op = 6 := by omega
    have m7 : ¬ n.op = 7 := by omega
    by_cases y : ka.vl = 1#64
    · have y := eq_true y
      have hl : logicF ns n = some (.at n.b) := by simp [logicF, conF, logicC, Vl.yes, o1, o2, ← hka, na1, na3, ea, vw, m4, m5, m6, m7, y]
      rw [hl]
      simp (maxDischargeDepth := 40) [Zi, o1, o2, va, ea, vw, m4, m5, m6, m7, y] at hr
      rw [← hr]
      exact Wv.stay h _
    · skip
      have hl : logicF ns n = some (.again (nodeO 3 n.b 0 0 0 0)) := by simp [logicF, conF, logicC, Vl.yes, o1, o2, ← hka, na1, na3, ea, vw, m4, m5, m6, m7, y]
      have ag := ag _ hl
      simp only [Nd.parts', nodeO] at ag
      rw [hl]
      simp (maxDischargeDepth := 40) [Zi, o1, o2, va, ea, vw, m4, m5, m6, m7, y] at hr
      generalize hA : R Zk _ _ = q at hr
      obtain ⟨id, H2, rfl, hW⟩ := ag _ (by ((repeat (first | exact Keeps.refl _ | assumption | refine Keeps.new' ?_ _ | refine Keeps.set ?_ ?_ _)) <;> (first | assumption | (simp; done) | (simp; omega)))) _ hA
      simp at hr
      rw [← hr]
      exact hW
  by_cases p7 : n.op = 7
  · have q7 := eq_true p7
    rw [show logicF ns n = none by simp [logicF, conF, ← hka, a1, q7]]
    simp (maxDischargeDepth := 40) [Zi, o1, o2, va, a1, q7] at hr
    exact hr.symm
  by_cases b1 : kb.op = 1
  · have eb := eq_true b1
    by_cases vw : 0 < kb.vw
    · rw [show logicF ns n = none by simp [logicF, conF, logicC, o1, o2, ← hka, ← hkb, nb3, a1, p7, eb, vw]]
      simp (maxDischargeDepth := 40) [Zi, o1, o2, va, vb, a1, p7, eb, vw] at hr
      exact hr.symm
    by_cases p4 : n.op = 4
    · have q4 := eq_true p4
      have m5 : ¬ n.op = 5 := by omega
      have m6 : ¬ n.op = 6 := by omega
      have m7 : ¬ n.op = 7 := by omega
      have m8 : ¬ n.op = 8 := by omega
      by_cases y : kb.vl = 1#64
      · have y := eq_true y
        have hl : logicF ns n = some (.at n.a) := by simp [logicF, conF, logicC, Vl.yes, o1, o2, ← hka, ← hkb, nb1, nb3, a1, p7, eb, vw, q4, y]
        rw [hl]
        simp (maxDischargeDepth := 40) [Zi, o1, o2, va, vb, a1, p7, eb, vw, q4, y] at hr
        rw [← hr]
        exact Wv.stay h _
      · skip
        have hl : logicF ns n = some (.at n.b) := by simp [logicF, conF, logicC, Vl.yes, o1, o2, ← hka, ← hkb, nb1, nb3, a1, p7, eb, vw, q4, y]
        rw [hl]
        simp (maxDischargeDepth := 40) [Zi, o1, o2, va, vb, a1, p7, eb, vw, q4, y] at hr
        rw [← hr]
        exact Wv.stay h _
    by_cases p5 : n.op = 5
    · have q5 := eq_true p5
      have m4 : ¬ n.op = 4 := by omega
      have m6 : ¬ n.op = 6 := by omega
      have m7 : ¬ n.op = 7 := by omega
      have m8 : ¬ n.op = 8 := by omega
      by_cases y : kb.vl = 1#64
      · have y := eq_true y
        have hl : logicF ns n = some (.at n.b) := by simp [logicF, conF, logicC, Vl.yes, o1, o2, ← hka, ← hkb, nb1, nb3, a1, p7, eb, vw, m4, q5, y]
        rw [hl]
        simp (maxDischargeDepth := 40) [Zi, o1, o2, va, vb, a1, p7, eb, vw, m4, q5, y] at hr
        rw [← hr]
        exact Wv.stay h _
      · skip
        have hl : logicF ns n = some (.at n.a) := by simp [logicF, conF, logicC, Vl.yes, o1, o2, ← hka, ← hkb, nb1, nb3, a1, p7, eb, vw, m4, q5, y]
        rw [hl]
        simp (maxDischargeDepth := 40) [Zi, o1, o2, va, vb, a1, p7, eb, vw, m4, q5, y] at hr
        rw [← hr]
        exact Wv.stay h _
    by_cases p6 : n.op = 6
    · have q6 := eq_true p6
      have m4 : ¬ n.op = 4 := by omega
      have m5 : ¬ n.op = 5 := by omega
      have m7 : ¬ n.op = 7 := by omega
      have m8 : ¬ n.op = 8 := by omega
      by_cases y : kb.vl = 1#64
      · have y := eq_true y
        have hl : logicF ns n = some (.again (nodeO 3 n.a 0 0 0 0)) := by simp [logicF, conF, logicC, Vl.yes, o1, o2, ← hka, ← hkb, nb1, nb3, a1, p7, eb, vw, m4, m5, q6, y]
        have ag := ag _ hl
        simp only [Nd.parts', nodeO] at ag
        rw [hl]
        simp (maxDischargeDepth := 40) [Zi, o1, o2, va, vb, a1, p7, eb, vw, m4, m5, q6, y] at hr
        generalize hA : R Zk _ _ = q at hr
        obtain ⟨id, H2, rfl, hW⟩ := ag _ (by ((repeat (first | exact Keeps.refl _ | assumption | refine Keeps.new' ?_ _ | refine Keeps.set ?_ ?_ _)) <;> (first | assumption | (simp; done) | (simp; omega)))) _ hA
        simp at hr
        rw [← hr]
        exact hW
      · skip
        have hl : logicF ns n = some (.at n.a) := by simp [logicF, conF, logicC, Vl.yes, o1, o2, ← hka, ← hkb, nb1, nb3, a1, p7, eb, vw, m4, m5, q6, y]
        rw [hl]
        simp (maxDischargeDepth := 40) [Zi, o1, o2, va, vb, a1, p7, eb, vw, m4, m5, q6, y] at hr
        rw [← hr]
        exact Wv.stay h _
    have p8 : n.op = 8 := by omega
    have q8 := eq_true p8
    have m4 : ¬ n.op = 4 := by omega
    have m5 : ¬ n.op = 5 := by omega
    have m6 : ¬ n.op = 6 := by omega
    have m7 : ¬ n.op = 7 := by omega
    by_cases y : kb.vl = 1#64
    · have y := eq_true y
      have hl : logicF ns n = some (.at n.a) := by simp [logicF, conF, logicC, Vl.yes, o1, o2, ← hka, ← hkb, nb1, nb3, a1, p7, eb, vw, m4, m5, m6, y]
      rw [hl]
      simp (maxDischargeDepth := 40) [Zi, o1, o2, va, vb, a1, p7, eb, vw, m4, m5, m6, y] at hr
      rw [← hr]
      exact Wv.stay h _
    · skip
      have hl : logicF ns n = some (.again (nodeO 3 n.a 0 0 0 0)) := by simp [logicF, conF, logicC, Vl.yes, o1, o2, ← hka, ← hkb, nb1, nb3, a1, p7, eb, vw, m4, m5, m6, y]
      have ag := ag _ hl
      simp only [Nd.parts', nodeO] at ag
      rw [hl]
      simp (maxDischargeDepth := 40) [Zi, o1, o2, va, vb, a1, p7, eb, vw, m4, m5, m6, y] at hr
      generalize hA : R Zk _ _ = q at hr
      obtain ⟨id, H2, rfl, hW⟩ := ag _ (by ((repeat (first | exact Keeps.refl _ | assumption | refine Keeps.new' ?_ _ | refine Keeps.set ?_ ?_ _)) <;> (first | assumption | (simp; done) | (simp; omega)))) _ hA
      simp at hr
      rw [← hr]
      exact hW
  · rw [show logicF ns n = none by simp [logicF, conF, ← hka, ← hkb, a1, b1, p7]]
    simp (maxDischargeDepth := 40) [Zi, o1, o2, va, vb, a1, b1, p7] at hr
    exact hr.symm
end
end Go.Proofs.Ytiobohfiaapgeaa
end
section
namespace Go.Proofs.Ytiobohfiaapgeaa
set_option maxRecDepth 100000
set_option maxHeartbeats 1000000 in
theorem bvnew_run {w : Nat} (h1 : 1 ≤ w) (hw : w ≤ 128) {x : W128} {H : AHeap} : Pure R Zgw [.int .i64 w, u (lo x), u (hi x)] H (.tup [B (x.setWidth w), .int .i64 0]) := by
  unfold Pure
  rw [Zj5]
  have c1 : ¬ (w : Int) < 1 := by omega
  have c2 : ¬ 128 < (w : Int) := by omega
  have c3 : ¬ 128 < w := by omega
  have c4 : ¬ w < 1 := by omega
  have c5 : ¬ w = 0 := by omega
  simp (maxDischargeDepth := 40) [Zjp, B, Bt, hw, c1, c2]
end Go.Proofs.Ytiobohfiaapgeaa
end
section
namespace Go.Proofs.Ytiobohfiaapgeaa
set_option maxRecDepth 100000
set_option maxHeartbeats 4000000
section
variable {H : AHeap} {w dn g : Nat} {most : Int} {ns : List Nd} {F : List Nat} {e : Int}
theorem norm_err (h : WG H w dn g most ns F e) (he : ¬ e = 0) {n : Nd} : R Zk [.ptr w 0, .agg n.cs] H = some (.int .i64 0, H) := by
  rw [Zd6]
  have hself := h.self
  have hlo := h.lo
  simp only [Nd.parts']
  simp (maxDischargeDepth := 40) [Zbp, hself, hlo, he]
theorem make_err (h : WG H w dn g most ns F e) (he : ¬ e = 0) {n : Nd} {r : Option (AV × AHeap)} (hr : R Zf [.ptr w 0, .agg n.cs] H = r) :
    ∃ H' F' ns' id, r = some (.int .i64 id, H') ∧ WG H' w dn g most ns' F' e ∧ Fr (w :: F) H H' ∧ ∀ p, p ∈ F' → p ∈ F ∨ H.size ≤ p := by
  rw [Zd7] at hr
  have hcs : ∃ op sort a b c p q vw vl vh name, n = ⟨op, sort, a, b, c, p, q, vw, vl, vh, name⟩ := ⟨_, _, _, _, _, _, _, _, _, _, _, rfl⟩
  obtain ⟨op, sort, a, b, c, p, q, vw, vl, vh, name, hn⟩ := hcs
  have hcs : n.cs = [.int .i64 op, .int .i64 sort, .int .i64 a, .int .i64 b, .int .i64 c, .int .i64 p, .int .i64 q, .int .i64 vw, u vl, u vh, .str name] := by rw [hn]; rfl
  rw [hcs] at hr
  simp (maxDischargeDepth := 40) [Zc4, h.self, h.lo] at hr
  rw [← hcs] at hr
  generalize hA : R Zo _ _ = q at hr
  have kn := Keeps.new H (.cells n.cs)
  obtain ⟨H1, F1, rfl, G1, m1⟩ := mk_run (h.G.keeps kn) hA
  have k1 : Fr F H H1 := (kn.fr _).trans m1.fr fun p hp => .inl hp
  have hw : w ∉ F := fun hm => (h.off w hm).1 rfl
  have o1 : H1.obj w = .cells [.ptr g 0, .map dn, .int .i64 e] := by rw [k1.obj w h.lo hw]; exact h.self
  have l1 := k1.lt h.lo
  have n1 : ∀ p, p ∈ F1 → p ∈ F ∨ H.size ≤ p := fun p hp => by
    rcases m1.new p hp with h | h
    · exact .inl h
    · simp at h; exact .inr (by omega)
  simp (maxDischargeDepth := 40) [o1, he] at hr
  have k2 : Fr (w :: F) H H1 := k1.weak fun p hp => .inl (by simp [hp])
  have off1 : ∀ p, p ∈ F1 → p ≠ w ∧ p ≠ dn := fun p hp => by
    rcases n1 p hp with h1 | h1
    · exact h.off p h1
    · have := h.lo; have := h.ld; omega
  have g2 : WG H1 w dn g most (makT most ns n).1 F1 e := ⟨o1, l1, k2.lt h.ld, G1, off1, h.ne⟩
  obtain ⟨D, hD, g3, k3⟩ := h.back g2 k2 (makT most ns n).2.1
  rw [hD] at hr
  exact ⟨D, F1, _, _, hr.symm, g3, k3, n1⟩
theorem shl_up {f : Nat} (hC : NormC f) (h : WG H w dn g most ns F 0) (gk : Gok ns) {n : Nd} {x : Int} {v : Vl} {look : ByteArray → Option Vl} (P : PV look ns n (.shl x v)) (hne : (exF most f ns n (.shl x v)).2.2 ≠ -1) {H1 : AHeap} (k : Keeps H H1) {r1 : Option (AV × AHeap)} (hr1 : R Zg [.ptr w 0, .agg [.int .i64 v.w, u (lo v.n), u (hi v.n)]] H1 = r1) :
    ∃ id1 H2, r1 = some (.int .i64 id1, H2) ∧ (∀ p, H.size ≤ p → p < H1.size → H2.obj p = H1.obj p) ∧ ∀ r, R Zk [.ptr w 0, .agg (nodeO 26 x id1 0 0 0).cs] H2 = r → ∃ id H3, r = some (.int .i64 id, H3) ∧ Wv H w dn g most F (exF most f ns n (.shl x v)) (some (back [] H (.int .i64 id) H3)) := by
  obtain ⟨H2, F2, ns2, id1, e2, rfl, g2, k2, n2, ok, bad⟩ := constant_run (h.keeps k) hr1 fun _ _ k' hr' => make_run ((h.keeps k).keeps k') hr'
  refine ⟨id1, H2, rfl, fun p h1 h2 => k2.obj p h2 fun hp => ?_, fun r hr => ?_⟩
  · rcases List.mem_cons.1 hp with rfl | hp
    · have := h.lo; omega
    · have := h.G.ltF hp; omega
  have hsz := k.size
  have k12 : Fr (w :: F) H H2 := (k.fr _).trans k2 fun p hp => .inl hp
  obtain ⟨v1, v2, v3, x1, x2, x3, -⟩ := P
  obtain ⟨c1, c2⟩ := con_formed (ns := ns) v1
  unfold exF at hne ⊢
  simp only at hne ⊢
  by_cases h0 : (makT most ns (constN v)).2.2 = 0
  · rw [if_pos h0] at hne ⊢
    obtain ⟨rfl, rfl, rfl⟩ := ok h0
    have M := NV.made (n := constN v) gk c1 (by rw [c2]) (by simp [constN]) h0
    rw [c2] at M
    obtain ⟨X, hX⟩ : ∃ X, X = makT most ns (constN v) := ⟨_, rfl⟩
    rw [← hX] at M hne g2 hr ⊢
    obtain ⟨t, ht, hno⟩ := M.more
    have hle : ns.length ≤ X.1.length := by rw [ht]; simp
    have hxs : (ndF X.1 x).sort = v.w := by rw [ht, ndF_more x1 x2]; exact x3
    have hw128 := (ok_w v1).2
    obtain ⟨s1, s2⟩ := sorted_shl (x := x) (c := X.2.1) x1 (by omega) M.lo M.hi hxs (by rw [M.srt]; rfl) v3 hw128
    obtain ⟨H3, F3, ns3, id, e3, rfl, g3, k3, n3, ok3, bad3⟩ := hC g2 M.gok s1 (by rw [s2]) hne hr
    have k13 : Fr (w :: F) H H3 := k12.trans k3 fun p hp => by
      rcases List.mem_cons.1 hp with rfl | hp
      · exact .inl (by simp)
      · rcases n2 p hp with h | h
        · exact .inl (by simp [h])
        · exact .inr (by omega)
    obtain ⟨D, hD, g4, k4⟩ := h.back g3 k13 id
    have hs2 := k2.size
    refine ⟨id, H3, rfl, D, F3, ns3, id, e3, by rw [hD], g4, k4, fun p hp => ?_, ok3, bad3⟩
    rcases n3 p hp with h | h
    · rcases n2 p h with h | h
      · exact .inl h
      · exact .inr (by omega)
    · exact .inr (by omega)
  · rw [if_neg h0] at hne ⊢
    have hb := bad h0
    have he : ¬ e2 = 0 := by rw [hb]; exact h0
    rw [norm_err g2 he] at hr
    obtain ⟨D, hD, g4, k4⟩ := h.back g2 k12 0
    refine ⟨0, H2, hr.symm, D, F2, ns2, 0, e2, by rw [hD], g4, k4, fun p hp => ?_, fun hh => absurd hh h0, fun _ => hb⟩
    rcases n2 p hp with h | h
    · exact .inl h
    · exact .inr (by omega)
theorem rshl_run {N : Nat} (h1 : 1 ≤ N) (hN : N ≤ 128) {i : Nat} (hi' : i < N) {x : BitVec N} {H : AHeap} : R Zfm [B x, .int .i64 i] H = some (B ((shiftF 26 x (BitVec.ofNat N i)).setWidth N), H) := by
  rw [Zis]
  have hl : lo (BitVec.ofNat 128 i : W128) = BitVec.ofNat 64 i := by
    apply BitVec.eq_of_toNat_eq
    simp [lo]
  have hh : hi (BitVec.ofNat 128 i : W128) = 0#64 := by
    apply BitVec.eq_of_toNat_eq
    simp [hi, Nat.shiftRight_eq_div_pow]
    omega
  have hnew := fun H => (bvnew_run h1 hN (x := BitVec.ofNat 128 i) (H := H)).run
  have htwo := fun H => (two_run h1 hN (n := 26) (a := x) (b := (BitVec.ofNat 128 i).setWidth N) (H := H)).run
  have e1 : (BitVec.ofNat 128 i).setWidth N = BitVec.ofNat N i := by
    apply BitVec.eq_of_toNat_eq
    simp
    rw [Nat.mod_eq_of_lt (show i < 2 ^ 128 by omega)]
  rw [hl, hh] at hnew
  rw [e1] at hnew htwo
  simp only [twoF, twoE] at htwo
  simp only [B, Bt] at hnew htwo ⊢
  simp (maxDischargeDepth := 40) at htwo
  simp (maxDischargeDepth := 40) [Zhc, hnew, htwo]
end
end Go.Proofs.Ytiobohfiaapgeaa
end
section
namespace Go.Proofs.Ytiobohfiaapgeaa
set_option maxRecDepth 100000
set_option maxHeartbeats 4000000
theorem shl_E {N i : Nat} (hN : N ≤ 128) (hi' : i < N) : E ((shiftF 26 (1#N) (BitVec.ofNat N i)).setWidth N) = 1#128 <<< i := by
  have hlt : i < 2 ^ N := Nat.lt_trans hi' (Nat.lt_two_pow_self)
  have hs : shN (BitVec.ofNat N i) = i := by
    unfold shN
    rw [BitVec.toNat_ofNat, Nat.mod_eq_of_lt hlt, if_pos hi']
  unfold shiftF
  rw [if_pos rfl, hs]
  unfold E
  apply BitVec.eq_of_getLsbD_eq
  intro t ht
  simp only [BitVec.getLsbD_setWidth, BitVec.getLsbD_shiftLeft, ht, decide_true, Bool.true_and, BitVec.getLsbD_one]
  by_cases c : t = i
  · subst c
    simp [hi', show 0 < N by omega, show (0 : Nat) < 128 by omega]
  · have : ¬ (t - i = 0 ∧ i ≤ t) := by omega
    by_cases c2 : t < i
    · simp [c2]
    · have : ¬ t - i = 0 := by omega
      simp [this]
theorem powF_of {N : Nat} (y : BitVec N) : powF (Vl.of y) = (List.range N).find? fun i => decide (E y = 1#128 <<< i) := rfl
section
variable {H0 : AHeap} {w dn g : Nat} {most : Int} {ns : List Nd} {F : List Nat} {e : Int}
theorem pow_loop {f : Nat} (hC : NormC f) (h : WG H0 w dn g most ns F 0) (gk : Gok ns) {n : Nd} {N : Nat} (h1N : 1 ≤ N) (hN : N ≤ 128) {y : BitVec N} {x0 x1 : Int} {look : ByteArray → Option Vl}
    (P : ∀ i, powF (Vl.of y) = some i → PV look ns n (.shl x0 ⟨N, BitVec.ofNat 128 i⟩) ∧ (exF most f ns n (.shl x0 ⟨N, BitVec.ofNat 128 i⟩)).2.2 ≠ -1)
    {H : AHeap} (k : Keeps H0 H) {o6 o7 : Nat} (n6 : H0.size ≤ o6) (l6 : o6 < H.size) (l7 : o7 < H.size) (ob6 : H.obj o6 = .cells [.int .i64 x0, .int .i64 x1]) (ob7 : H.obj o7 = .cells [.int .i64 N, u (lo (E y)), u (hi (E y))]) {ev : Env} {r : Rn}
    (hL : loopL Try.prog KT R Zbn ev H = r) (e0 : ev 0 = some (.ptr w 0)) (e6 : ev 6 = some (.ptr o6 0)) (e7 : ev 7 = some (.ptr o7 0)) (e38 : ev 38 = some (.int .i64 N)) (e39 : ev 39 = some (.int .i64 0)) :
    ∃ x ev' H', r = some (x, ev', H') ∧ ((x = .exit 2 ∧ powF (Vl.of y) = none ∧ Keeps H H') ∨ (x = .ret ∧ ∃ i id, powF (Vl.of y) = some i ∧ ev' 4 = some (.int .i64 id) ∧ Wv H0 w dn g most F (exF most f ns n (.shl x0 ⟨N, BitVec.ofNat 128 i⟩)) (some (back [] H0 (.int .i64 id) H')))) ∧ ∀ t, t ∉ defs Zbn → ev' t = ev t := by
  refine loop_count Zbn.eq_1 hL N (fun i e1 H1 => e1 39 = some (.int .i64 i) ∧ Keeps H H1 ∧ ∀ j, j < i → ¬ E y = 1#128 <<< j) _ 0 (Nat.zero_le _) ⟨e39, Keeps.refl _, by simp⟩ ?_ ?_
  · rintro i e1 H1 hf - hi' ⟨f39, k1, hj⟩
    have w1 : IntKind.i64.wrap ((i : Int) + 1) = (i : Int) + 1 := i64w (by omega) (by omega)
    have c1 : (i : Int) < N := by omega
    have p6 : H1.obj o6 = .cells [.int .i64 x0, .int .i64 x1] := by rw [k1.obj o6 l6]; exact ob6
    have p7 : H1.obj o7 = .cells [.int .i64 N, u (lo (E y)), u (hi (E y))] := by rw [k1.obj o7 l7]; exact ob7
    have m6 := k1.lt l6
    have m7 := k1.lt l7
    have hl : lo (BitVec.ofNat 128 i : W128) = BitVec.ofNat 64 i := by
      apply BitVec.eq_of_toNat_eq
      simp [lo]
    have hh : hi (BitVec.ofNat 128 i : W128) = 0#64 := by
      apply BitVec.eq_of_toNat_eq
      simp [hi, Nat.shiftRight_eq_div_pow]
      omega
    have hone := fun H => (bvnew_run h1N hN (x := 1#128) (H := H)).run
    have hby := fun H => (bvnew_run h1N hN (x := BitVec.ofNat 128 i) (H := H)).run
    rw [hl, hh] at hby
    rw [show (1#128 : W128).setWidth N = 1#N by apply BitVec.eq_of_toNat_eq; simp] at hone
    have e2 : E ((BitVec.ofNat 128 i : W128).setWidth N) = BitVec.ofNat 128 i := by
      unfold E
      apply BitVec.eq_of_toNat_eq
      have hlt : i < 2 ^ N := Nat.lt_trans hi' (Nat.lt_two_pow_self)
      simp
      rw [Nat.mod_eq_of_lt (show i < 2 ^ 128 by omega), Nat.mod_eq_of_lt hlt, Nat.mod_eq_of_lt (show i < 2 ^ 128 by omega)]
    have hsh := fun H => rshl_run h1N hN hi' (x := 1#N) (H := H)
    simp only [B, Bt] at hone hby hsh
    rw [shl_E hN hi'] at hsh
    rw [e2] at hby
    rw [show lo (1#128 : W128) = 1#64 from rfl, show hi (1#128 : W128) = 0#64 from rfl] at hone
    by_cases c : E y = 1#128 <<< i
    · have hp : powF (Vl.of y) = some i := by
        rw [powF_of, List.find?_range_eq_some]
        refine ⟨decide_eq_true c, List.mem_range.2 hi', fun j hji => by simp [hj j hji]⟩
      obtain ⟨P1, P2⟩ := P i hp
      have hsu := fun (H1 : AHeap) (k : Keeps H0 H1) (r : Option (AV × AHeap)) => shl_up hC h gk P1 P2 k (r1 := r)
      rw [← c] at hsh
      rw [hl, hh] at hby
      simp only [Nd.parts', nodeO, hl, hh] at hsu
      have k0 := k.trans k1
      have hld : ∀ ev : Env, ev 6 = some (.ptr o6 0) → ev 62 = some (.ptr o6 0) → markLd [2, 5, 997, 1006] ev (.tmp 62) (.int .i64 x0) = true := fun ev h1 h2 => markLd_one (s := 6) (d := 0) (o := o6) (off := 0) (by rfl) (by rfl) h1 h2 (by rfl)
      have r12 : ((((H1.new (.cells [.int .i64 0, u 0#64, u 0#64])).set H1.size (.cells [.int .i64 N, u (lo (E 1#N)), u (hi (E 1#N))])).new (.cells [.int .i64 0, u 0#64, u 0#64])).set (H1.size + 1) (.cells [.int .i64 N, u (BitVec.ofNat 64 i), u 0#64])).obj (H1.size + 1) = .cells [.int .i64 N, u (BitVec.ofNat 64 i), u 0#64] := by simp
      have m12 : H1.size + 1 < ((((H1.new (.cells [.int .i64 0, u 0#64, u 0#64])).set H1.size (.cells [.int .i64 N, u (lo (E 1#N)), u (hi (E 1#N))])).new (.cells [.int .i64 0, u 0#64, u 0#64])).set (H1.size + 1) (.cells [.int .i64 N, u (BitVec.ofNat 64 i), u 0#64])).size := by simp
      generalize hX : (((H1.new (.cells [.int .i64 0, u 0#64, u 0#64])).set H1.size (.cells [.int .i64 N, u (lo (E 1#N)), u (hi (E 1#N))])).new (.cells [.int .i64 0, u 0#64, u 0#64])).set (H1.size + 1) (.cells [.int .i64 N, u (BitVec.ofNat 64 i), u 0#64]) = HX at r12 m12
      have kX1 : Keeps H1 HX := by rw [← hX]; ((repeat (first | exact Keeps.refl _ | assumption | refine Keeps.new' ?_ _ | refine Keeps.set ?_ ?_ _)) <;> (first | assumption | (simp; done) | (simp; omega)))
      have kX : Keeps H0 HX := k0.trans kX1
      have q6 : HX.obj o6 = .cells [.int .i64 x0, .int .i64 x1] := by rw [kX1.obj o6 m6]; exact p6
      have l6X := kX1.lt m6
      generalize hA : R Zg [.ptr w 0, .agg [.int .i64 N, u (BitVec.ofNat 64 i), u 0#64]] HX = q
      obtain ⟨id1, H2, rfl, hsame, hn2⟩ := hsu _ kX _ hA
      have s6 : H2.obj o6 = HX.obj o6 := hsame o6 n6 (kX1.lt m6)
      have hcl : ∀ ev : Env, ev 6 = some (.ptr o6 0) → markCl [2, 5, 997, 1006] ev HX H2 = true := fun ev h1 => markCl_one (s := 6) (d := 0) (o := o6) (off := 0) (by rfl) (by rfl) h1 (by rw [s6])
      obtain ⟨id, H3, hB, hW⟩ := hn2 _ rfl
      clear hn2 hsu
      simp (maxDischargeDepth := 40) [hf, f39, e0, e6, e7, e38, c1, p7, m7, hone, hby, hsh, hX, hA, hB, hld, hcl, q6, r12]
      exact ⟨i, hp, hW⟩
    · have hn : ¬ (lo (E y) = lo (1#128 <<< i) ∧ hi (E y) = hi (1#128 <<< i)) := fun hx => c (pair_ext hx.1 hx.2)
      simp (maxDischargeDepth := 40) [hf, f39, e7, e38, c1, p7, m7, hone, hsh, eq_false hn]
      simp (maxDischargeDepth := 40) [w1]
      refine ⟨k1.trans (by ((repeat (first | exact Keeps.refl _ | assumption | refine Keeps.new' ?_ _ | refine Keeps.set ?_ ?_ _)) <;> (first | assumption | (simp; done) | (simp; omega)))), fun j hj' => ?_⟩
      rcases Nat.lt_succ_iff_lt_or_eq.1 hj' with h | rfl
      · exact hj j h
      · exact c
  · rintro e1 H1 hf ⟨f39, k1, hj⟩
    simp [hf, f39, e38]
    refine ⟨?_, k1⟩
    rw [powF_of, List.find?_range_eq_none]
    intro j hji
    simp [hj j hji]
end
end Go.Proofs.Ytiobohfiaapgeaa
end
section
namespace Go.Proofs.Ytiobohfiaapgeaa
set_option maxRecDepth 100000
set_option maxHeartbeats 4000000
section
variable {H : AHeap} {w dn g : Nat} {most : Int} {ns : List Nd} {F : List Nat} {e : Int}
theorem con_parts {ns : List Nd} {k : Int} {N : Nat} {y : BitVec N} (h : conF ns k = some (Vl.of y)) : (ndF ns k).op = 1 ∧ (ndF ns k).vw = N ∧ (ndF ns k).vl = lo (E y) ∧ (ndF ns k).vh = hi (E y) := by
  obtain ⟨h1, h2⟩ := conF_cs h
  obtain ⟨n1, n2, n3⟩ := nd_v (ndF ns k)
  rw [← h2] at n1 n2 n3
  exact ⟨h1, n3.symm, n1.symm, n2.symm⟩
theorem double_loop {f : Nat} (hC : NormC f) (h : WG H w dn g most ns F 0) (gk : Gok ns) {n : Nd} {N : Nat} (h1N : 1 ≤ N) (hN : N ≤ 128) {x y : BitVec N} {look : ByteArray → Option Vl} (hA : AllFit look ns) (ha : V look ns n.a = Vl.of x) (hb : V look ns n.b = Vl.of y)
    (P : PV look ns n (doubleF ns n)) (hne : (exF most f ns n (doubleF ns n)).2.2 ≠ -1) {H1 : AHeap} (k : Keeps H H1) {ev : Env} {r : Rn}
    (hL : loopL Try.prog KT R Zbo ev H1 = r) (e0 : ev 0 = some (.ptr w 0)) (e24 : ev 24 = some (.agg [.int .i64 n.a, .int .i64 n.b, .int .i64 n.b, .int .i64 n.a])) (e25 : ev 25 = some (.int .i64 0)) :
    ∃ x ev' H', r = some (x, ev', H') ∧ ((x = .exit 0 ∧ doubleF ns n = .mk ∧ Keeps H1 H') ∨ (x = .ret ∧ ∃ id, ev' 4 = some (.int .i64 id) ∧ Wv H w dn g most F (exF most f ns n (doubleF ns n)) (some (back [] H (.int .i64 id) H')))) ∧ ∀ t, t ∉ defs Zbo → ev' t = ev t := by
  obtain ⟨B1, hB1⟩ : ∃ B1 : Prop, B1 = ((conF ns n.b).bind powF = none) := ⟨_, rfl⟩
  obtain ⟨B2, hB2⟩ : ∃ B2 : Prop, B2 = ((conF ns n.a).bind powF = none) := ⟨_, rfl⟩
  refine loop_count Zbo.eq_1 hL 2 (fun i e1 H2 => e1 25 = some (.int .i64 i) ∧ Keeps H1 H2 ∧ (0 < i → B1) ∧ (1 < i → B2)) _ 0 (Nat.zero_le _) ⟨e25, Keeps.refl _, by simp, by simp⟩ ?_ ?_
  · rintro i e1 H2 hf - hi' ⟨f25, k01, hp1, hp2⟩
    have k1 := k.trans k01
    have w1 : IntKind.i64.wrap ((i : Int) + 1) = (i : Int) + 1 := i64w (by omega) (by omega)
    have c1 : (i : Int) < 2 := by omega
    rcases (by omega : i = 0 ∨ i = 1) with rfl | rfl
    · have hval := value_run (h.keeps ((k1.new' (.cells [.int .i64 0, .int .i64 0])).set (o := H2.size) (Keeps.size k1) (.cells [.int .i64 n.a, .int .i64 n.b]))) n.b
      cases hc : conF ns n.b with
      | none =>
        have hno := conF_no hc
        obtain ⟨kd, hkd⟩ : ∃ k, k = ndF ns n.b := ⟨_, rfl⟩
        rw [← hkd] at hno hval
        simp (maxDischargeDepth := 40) [hf, f25, e0, e24, hval, hno]
        refine ⟨k01.trans (by ((repeat (first | exact Keeps.refl _ | assumption | refine Keeps.new' ?_ _ | refine Keeps.set ?_ ?_ _)) <;> (first | assumption | (simp; done) | (simp; omega)))), by rw [hB1, hc]; rfl⟩
      | some v =>
        have hvv := con_all gk hA hc
        rw [hb] at hvv
        subst hvv
        obtain ⟨q1, q2, q3, q4⟩ := con_parts hc
        rw [q2, q3, q4] at hval
        obtain ⟨kd, hkd⟩ : ∃ k, k = ndF ns n.b := ⟨_, rfl⟩
        rw [← hkd] at q1 hval
        simp (maxDischargeDepth := 40) [hf, f25, e0, e24, hval, q1]
        generalize hL2 : loopL _ _ _ _ _ _ = q
        have kk : Keeps H2 ((((H2.new (.cells [.int .i64 0, .int .i64 0])).set H2.size (.cells [.int .i64 n.a, .int .i64 n.b])).new (.cells [.int .i64 0, u 0#64, u 0#64])).set (H2.size + 1) (.cells [.int .i64 N, u (lo (E y)), u (hi (E y))])) := by ((repeat (first | exact Keeps.refl _ | assumption | refine Keeps.new' ?_ _ | refine Keeps.set ?_ ?_ _)) <;> (first | assumption | (simp; done) | (simp; omega)))
        have hdb : ∀ i, powF (Vl.of y) = some i → doubleF ns n = .shl n.a ⟨N, BitVec.ofNat 128 i⟩ := fun i hpi => by
          unfold doubleF
          
          rw [hc, Option.bind_some, hpi]
          rfl
        obtain ⟨xx, ev2, H3, rfl, hx, fr⟩ := pow_loop hC h gk (n := n) (x0 := n.a) (x1 := n.b) h1N hN (y := y) (fun i hpi => by rw [hdb i hpi] at P hne; exact ⟨P, hne⟩) (k1.trans kk) (o6 := H2.size) (o7 := H2.size + 1) (Keeps.size k1) (by simp) (by simp) (by simp) (by simp) hL2 (by simp [hf, e0]) (by simp) (by simp) (by simp) (by simp)
        rcases hx with ⟨rfl, hp, k3⟩ | ⟨rfl, i, id, hpi, f4, hW⟩
        · simp (maxDischargeDepth := 40) [fr, f25]
          refine ⟨k01.trans (kk.trans k3), by rw [hB1, hc]; exact hp⟩
        · simp (maxDischargeDepth := 40) [f4]
          rw [hdb i hpi]
          exact hW
    · have hval := value_run (h.keeps ((k1.new' (.cells [.int .i64 0, .int .i64 0])).set (o := H2.size) (Keeps.size k1) (.cells [.int .i64 n.b, .int .i64 n.a]))) n.a
      cases hc : conF ns n.a with
      | none =>
        have hno := conF_no hc
        obtain ⟨kd, hkd⟩ : ∃ k, k = ndF ns n.a := ⟨_, rfl⟩
        rw [← hkd] at hno hval
        simp (maxDischargeDepth := 40) [hf, f25, e0, e24, hval, hno]
        refine ⟨k01.trans (by ((repeat (first | exact Keeps.refl _ | assumption | refine Keeps.new' ?_ _ | refine Keeps.set ?_ ?_ _)) <;> (first | assumption | (simp; done) | (simp; omega)))), hp1 (by omega), by rw [hB2, hc]; rfl⟩
      | some v =>
        have hvv := con_all gk hA hc
        rw [ha] at hvv
        subst hvv
        obtain ⟨q1, q2, q3, q4⟩ := con_parts hc
        rw [q2, q3, q4] at hval
        obtain ⟨kd, hkd⟩ : ∃ k, k = ndF ns n.a := ⟨_, rfl⟩
        rw [← hkd] at q1 hval
        simp (maxDischargeDepth := 40) [hf, f25, e0, e24, hval, q1]
        generalize hL2 : loopL _ _ _ _ _ _ = q
        have kk : Keeps H2 ((((H2.new (.cells [.int .i64 0, .int .i64 0])).set H2.size (.cells [.int .i64 n.b, .int .i64 n.a])).new (.cells [.int .i64 0, u 0#64, u 0#64])).set (H2.size + 1) (.cells [.int .i64 N, u (lo (E x)), u (hi (E x))])) := by ((repeat (first | exact Keeps.refl _ | assumption | refine Keeps.new' ?_ _ | refine Keeps.set ?_ ?_ _)) <;> (first | assumption | (simp; done) | (simp; omega)))
        have hdb : ∀ i, powF (Vl.of x) = some i → doubleF ns n = .shl n.b ⟨N, BitVec.ofNat 128 i⟩ := fun i hpi => by
          unfold doubleF
          rw [hB1] at hp1; rw [hp1 (by omega)]; simp only
          rw [hc, Option.bind_some, hpi]
          rfl
        obtain ⟨xx, ev2, H3, rfl, hx, fr⟩ := pow_loop hC h gk (n := n) (x0 := n.b) (x1 := n.a) h1N hN (y := x) (fun i hpi => by rw [hdb i hpi] at P hne; exact ⟨P, hne⟩) (k1.trans kk) (o6 := H2.size) (o7 := H2.size + 1) (Keeps.size k1) (by simp) (by simp) (by simp) (by simp) hL2 (by simp [hf, e0]) (by simp) (by simp) (by simp) (by simp)
        rcases hx with ⟨rfl, hp, k3⟩ | ⟨rfl, i, id, hpi, f4, hW⟩
        · simp (maxDischargeDepth := 40) [fr, f25]
          refine ⟨k01.trans (kk.trans k3), hp1 (by omega), by rw [hB2, hc]; exact hp⟩
        · simp (maxDischargeDepth := 40) [f4]
          rw [hdb i hpi]
          exact hW
  · rintro e1 H2 hf ⟨f25, k1, hp1, hp2⟩
    simp [f25]
    refine ⟨?_, k1⟩
    unfold doubleF
    rw [hB1] at hp1
    rw [hB2] at hp2
    rw [hp1 (by omega), hp2 (by omega)]
theorem doubled_run {f : Nat} (hC : NormC f) (h : WG H w dn g most ns F 0) (gk : Gok ns) {n : Nd} {N : Nat} (h1N : 1 ≤ N) (hN : N ≤ 128) {x y : BitVec N} {look : ByteArray → Option Vl} (hA : AllFit look ns) (ha : V look ns n.a = Vl.of x) (hb : V look ns n.b = Vl.of y)
    (P : PV look ns n (doubleF ns n)) (hne : (exF most f ns n (doubleF ns n)).2.2 ≠ -1) {r : Option (AV × AHeap)} (hr : R Z1 [.ptr w 0, .agg n.cs] H = r) : Wv H w dn g most F (exF most f ns n (doubleF ns n)) r := by
  rw [Ze9] at hr
  have k1 : Keeps H (H.new (.cells n.cs)) := (Keeps.refl H).new' _
  have mk := fun (H1 : AHeap) (k : Keeps H H1) (r : Option (AV × AHeap)) (hr : R Zf [.ptr w 0, .agg n.cs] H1 = r) => mk_up (f := f) h k hr
  simp only [Nd.parts'] at hr mk k1
  simp (maxDischargeDepth := 40) [Zdj] at hr
  generalize hL : loopL _ _ _ _ _ _ = q at hr
  obtain ⟨xx, ev2, H3, rfl, hx, fr⟩ := double_loop hC h gk h1N hN hA ha hb P hne k1 hL (by simp) (by simp) (by simp)
  rcases hx with ⟨rfl, hp, k3⟩ | ⟨rfl, id, f4, hW⟩
  · rw [hp]
    have hob : H3.obj H.size = .cells [.int .i64 n.op, .int .i64 n.sort, .int .i64 n.a, .int .i64 n.b, .int .i64 n.c, .int .i64 n.p, .int .i64 n.q, .int .i64 n.vw, u n.vl, u n.vh, .str n.name] := by rw [k3.obj _ (by simp)]; simp
    have hl1 : H.size < H3.size := by have := k3.size; simp at this; omega
    simp (maxDischargeDepth := 40) [fr, hob] at hr
    generalize hA : R Zf _ _ = q at hr
    obtain ⟨id, H4, rfl, hW⟩ := mk _ (k1.trans k3) _ hA
    simp at hr
    rw [← hr]
    exact hW
  · simp [f4] at hr
    rw [← hr]
    exact hW
end
end Go.Proofs.Ytiobohfiaapgeaa
end
section
namespace Go.Proofs.Ytiobohfiaapgeaa
set_option maxRecDepth 100000
set_option maxHeartbeats 4000000
theorem tb8 {op : Int} (h1 : 0 ≤ op) (h2 : op ≤ 44) : tbit op 8 = 0 ↔ ¬ (op = 12 ∨ op = 20) := tbit_fin (p := fun op => op = 12 ∨ op = 20) (by decide) h1 h2
theorem tb64 {op : Int} (h1 : 0 ≤ op) (h2 : op ≤ 44) : tbit op 64 = 0 ↔ ¬ (op = 26 ∨ op = 27 ∨ op = 28) := tbit_fin (p := fun op => op = 26 ∨ op = 27 ∨ op = 28) (by decide) h1 h2
theorem tb48 {op : Int} (h1 : 0 ≤ op) (h2 : op ≤ 44) : tbit op 48 = 0 ↔ ¬ (op = 13 ∨ op = 14 ∨ op = 18 ∨ op = 19 ∨ op = 26 ∨ op = 27 ∨ op = 28) := tbit_fin (p := fun op => op = 13 ∨ op = 14 ∨ op = 18 ∨ op = 19 ∨ op = 26 ∨ op = 27 ∨ op = 28) (by decide) h1 h2
theorem tb256 {op : Int} (h1 : 0 ≤ op) (h2 : op ≤ 44) : tbit op 256 = 0 ↔ ¬ (op = 20 ∨ op = 21) := tbit_fin (p := fun op => op = 20 ∨ op = 21) (by decide) h1 h2
theorem tb16 {op : Int} (h1 : 0 ≤ op) (h2 : op ≤ 44) : tbit op 16 = 0 ↔ ¬ (op = 13 ∨ op = 14 ∨ op = 18) := tbit_fin (p := fun op => op = 13 ∨ op = 14 ∨ op = 18) (by decide) h1 h2
theorem tb1 {op : Int} (h1 : 0 ≤ op) (h2 : op ≤ 44) : tbit op 1 = 0 ↔ ¬ (op = 4 ∨ op = 5 ∨ op = 12 ∨ op = 13) := tbit_fin (p := fun op => op = 4 ∨ op = 5 ∨ op = 12 ∨ op = 13) (by decide) h1 h2
theorem tb2 {op : Int} (h1 : 0 ≤ op) (h2 : op ≤ 44) : tbit op 2 = 0 ↔ ¬ (op = 6 ∨ op = 29 ∨ op = 31 ∨ op = 33 ∨ op = 35 ∨ op = 14 ∨ op = 19) := tbit_fin (p := fun op => op = 6 ∨ op = 29 ∨ op = 31 ∨ op = 33 ∨ op = 35 ∨ op = 14 ∨ op = 19) (by decide) h1 h2
theorem tb4 {op : Int} (h1 : 0 ≤ op) (h2 : op ≤ 44) : tbit op 4 = 0 ↔ ¬ (op = 8 ∨ op = 30 ∨ op = 32 ∨ op = 34 ∨ op = 36 ∨ op = 7) := tbit_fin (p := fun op => op = 8 ∨ op = 30 ∨ op = 32 ∨ op = 34 ∨ op = 36 ∨ op = 7) (by decide) h1 h2
section
variable {H : AHeap} {w dn g : Nat} {most : Int} {ns : List Nd} {F : List Nat} {e : Int}
theorem beside_err (h : WG H w dn g most ns F e) (he : ¬ e = 0) {n : Nd} (h4 : 4 ≤ n.op) (h8 : n.op ≤ 8) {r : Option (AV × AHeap)} (hr : R Zy [.ptr w 0, .agg n.cs, .int .i64 (tagsF n.op)] H = r) :
    ∃ id H', r = some (.int .i64 id, H') ∧ ∃ F' ns', WG H' w dn g most ns' F' e ∧ Fr (w :: F) H H' ∧ ∀ p, p ∈ F' → p ∈ F ∨ H.size ≤ p := by
  rw [Zdr] at hr
  have k1 : Keeps H (H.new (.cells n.cs)) := (Keeps.refl H).new' _
  have z8 := (tb8 (op := n.op) (by omega) (by omega)).2 (by omega)
  have z64 := (tb64 (op := n.op) (by omega) (by omega)).2 (by omega)
  have z48 := (tb48 (op := n.op) (by omega) (by omega)).2 (by omega)
  have z256 := (tb256 (op := n.op) (by omega) (by omega)).2 (by omega)
  have z16 := (tb16 (op := n.op) (by omega) (by omega)).2 (by omega)
  have n20 : ¬ n.op = 20 := by omega
  have mk := fun (r : Option (AV × AHeap)) => make_err (h.keeps k1) he (n := n) (r := r)
  simp only [Nd.parts'] at hr mk k1
  simp (maxDischargeDepth := 40) [Zl, z8, z64, z48, z256, z16, n20] at hr
  generalize hA : R Zf _ _ = q at hr
  obtain ⟨H2, F2, ns2, id, rfl, g2, k2, n2⟩ := mk _ hA
  simp at hr
  have k3 : Fr (w :: F) H H2 := (k1.fr _).trans k2 fun p hp => .inl hp
  obtain ⟨D, hD, g4, k4⟩ := h.back g2 k3 id
  rw [hD] at hr
  refine ⟨id, D, hr.symm, F2, ns2, g4, k4, fun p hp => ?_⟩
  have := k1.size
  rcases n2 p hp with h | h
  · exact .inl h
  · exact .inr (by omega)
theorem beside_run {f : Nat} (h : WG H w dn g most ns F 0) {n : Nd} (o0 : 0 ≤ n.op) (o44 : n.op ≤ 44)
    (hd : n.op = 20 → besideF ns n = doubleF ns n → ∀ H1, Keeps H H1 → ∀ r, R Z1 [.ptr w 0, .agg n.cs] H1 = r → ∃ id H2, r = some (.int .i64 id, H2) ∧ Wv H w dn g most F (exF most f ns n (doubleF ns n)) (some (back [] H (.int .i64 id) H2)))
    {r : Option (AV × AHeap)} (hr : R Zy [.ptr w 0, .agg n.cs, .int .i64 (tagsF n.op)] H = r) : Wv H w dn g most F (exF most f ns n (besideF ns n)) r := by
  rw [Zdr] at hr
  have hself := h.self
  have hlo := h.lo
  have k1 : Keeps H (H.new (.cells n.cs)) := (Keeps.refl H).new' _
  have t8 := tb8 o0 o44
  have t64 := tb64 o0 o44
  have t48 := tb48 o0 o44
  have t256 := tb256 o0 o44
  have t16 := tb16 o0 o44
  have ia := fun c => is_run (h.keeps k1) (id := n.a) (c := c)
  have ib := fun c => is_run (h.keeps k1) (id := n.b) (c := c)
  have hnode := (h.keeps k1).node n.a
  have mk := fun (H1 : AHeap) (k : Keeps H H1) (r : Option (AV × AHeap)) (hr : R Zf [.ptr w 0, .agg n.cs] H1 = r) => mk_up (f := f) h k hr
  have co := fun (H1 : AHeap) (k : Keeps H H1) (r : Option (AV × AHeap)) (hr : R Zg [.ptr w 0, .agg [.int .i64 (ndF ns n.a).sort, u (lo (0#128 : W128)), u (hi (0#128 : W128))]] H1 = r) => con_up (f := f) (n := n) (v := ⟨(ndF ns n.a).sort, 0#128⟩) h k hr
  simp only [show lo (0#128 : W128) = 0#64 from rfl, show hi (0#128 : W128) = 0#64 from rfl] at co
  obtain ⟨k, hk⟩ : ∃ k, k = ndF ns n.a := ⟨_, rfl⟩
  simp only [Nd.parts'] at hr mk k1 hnode hd ia ib
  rw [← hk] at hnode co
  by_cases grp : n.op = 12
  · have z8 : ¬ tbit n.op 8 = 0 := fun hh => t8.1 hh (by omega)
    have z64 : tbit n.op 64 = 0 := t64.2 (by omega)
    have z48 : tbit n.op 48 = 0 := t48.2 (by omega)
    have z256 : tbit n.op 256 = 0 := t256.2 (by omega)
    have z16 : tbit n.op 16 = 0 := t16.2 (by omega)
    have n20 : ¬ n.op = 20 := by omega
    cases a0 : isF ns n.a 0#64 with
    | true =>
      have hB : besideF ns n = .con ⟨k.sort, 0#128⟩ := by
        simp [besideF, grp, ← hk, a0]
      rw [hB]
      simp (maxDischargeDepth := 40) [Zl, hself, hlo, z8, ia 0#64, a0, hnode] at hr
      generalize hA : R Zg _ _ = q at hr
      obtain ⟨id, H2, rfl, hW⟩ := co _ (by ((repeat (first | exact Keeps.refl _ | assumption | refine Keeps.new' ?_ _ | refine Keeps.set ?_ ?_ _)) <;> (first | assumption | (simp; done) | (simp; omega)))) _ hA
      simp at hr
      rw [← hr]
      simpa only [hk] using hW
    | false =>
      cases b0 : isF ns n.b 0#64 with
      | true =>
        have hB : besideF ns n = .con ⟨k.sort, 0#128⟩ := by
          simp [besideF, grp, ← hk, a0, b0]
        rw [hB]
        simp (maxDischargeDepth := 40) [Zl, hself, hlo, z8, ia 0#64, ib 0#64, a0, b0, hnode] at hr
        generalize hA : R Zg _ _ = q at hr
        obtain ⟨id, H2, rfl, hW⟩ := co _ (by ((repeat (first | exact Keeps.refl _ | assumption | refine Keeps.new' ?_ _ | refine Keeps.set ?_ ?_ _)) <;> (first | assumption | (simp; done) | (simp; omega)))) _ hA
        simp at hr
        rw [← hr]
        simpa only [hk] using hW
      | false =>
        have hB : besideF ns n = .mk := by
          simp [besideF, grp, a0, b0]
        rw [hB]
        simp (maxDischargeDepth := 40) [Zl, z8, z64, z48, z256, z16, n20, ia 0#64, ib 0#64, a0, b0] at hr
        generalize hA : R Zf _ _ = q at hr
        obtain ⟨id, H2, rfl, hW⟩ := mk _ (by ((repeat (first | exact Keeps.refl _ | assumption | refine Keeps.new' ?_ _ | refine Keeps.set ?_ ?_ _)) <;> (first | assumption | (simp; done) | (simp; omega)))) _ hA
        simp at hr
        rw [← hr]
        exact hW
  have g12 := grp
  clear grp
  by_cases grp : n.op = 20
  · have z8 : ¬ tbit n.op 8 = 0 := fun hh => t8.1 hh (by omega)
    have z64 : tbit n.op 64 = 0 := t64.2 (by omega)
    have z48 : tbit n.op 48 = 0 := t48.2 (by omega)
    have z256 : ¬ tbit n.op 256 = 0 := fun hh => t256.1 hh (by omega)
    have z16 : tbit n.op 16 = 0 := t16.2 (by omega)
    have e20 := eq_true grp
    cases a0 : isF ns n.a 0#64 with
    | true =>
      have hB : besideF ns n = .con ⟨k.sort, 0#128⟩ := by
        simp [besideF, grp, ← hk, a0]
      rw [hB]
      simp (maxDischargeDepth := 40) [Zl, hself, hlo, z8, ia 0#64, a0, hnode] at hr
      generalize hA : R Zg _ _ = q at hr
      obtain ⟨id, H2, rfl, hW⟩ := co _ (by ((repeat (first | exact Keeps.refl _ | assumption | refine Keeps.new' ?_ _ | refine Keeps.set ?_ ?_ _)) <;> (first | assumption | (simp; done) | (simp; omega)))) _ hA
      simp at hr
      rw [← hr]
      simpa only [hk] using hW
    | false =>
      cases b0 : isF ns n.b 0#64 with
      | true =>
        have hB : besideF ns n = .con ⟨k.sort, 0#128⟩ := by
          simp [besideF, grp, ← hk, a0, b0]
        rw [hB]
        simp (maxDischargeDepth := 40) [Zl, hself, hlo, z8, ia 0#64, ib 0#64, a0, b0, hnode] at hr
        generalize hA : R Zg _ _ = q at hr
        obtain ⟨id, H2, rfl, hW⟩ := co _ (by ((repeat (first | exact Keeps.refl _ | assumption | refine Keeps.new' ?_ _ | refine Keeps.set ?_ ?_ _)) <;> (first | assumption | (simp; done) | (simp; omega)))) _ hA
        simp at hr
        rw [← hr]
        simpa only [hk] using hW
      | false =>
        cases b1 : isF ns n.b 1#64 with
        | true =>
          have hB : besideF ns n = .at n.a := by
            simp [besideF, grp, a0, b0, b1]
          rw [hB]
          simp (maxDischargeDepth := 40) [Zl, z8, z64, z48, z256, ia 0#64, ib 0#64, ib 1#64, a0, b0, b1] at hr
          rw [← hr]
          exact Wv.stay h _
        | false =>
          cases a1 : isF ns n.a 1#64 with
          | true =>
            have hB : besideF ns n = .at n.b := by
              simp [besideF, grp, a0, b0, b1, a1]
            rw [hB]
            simp (maxDischargeDepth := 40) [Zl, z8, z64, z48, z256, z16, e20, ia 0#64, ib 0#64, ib 1#64, ia 1#64, a0, b0, b1, a1] at hr
            rw [← hr]
            exact Wv.stay h _
          | false =>
            have hB : besideF ns n = doubleF ns n := by
              simp [besideF, grp, a0, b0, b1, a1]
            have hd := hd grp hB
            rw [hB]
            simp (maxDischargeDepth := 40) [Zl, z8, z64, z48, z256, z16, e20, ia 0#64, ib 0#64, ib 1#64, ia 1#64, a0, b0, b1, a1] at hr
            generalize hA : R Z1 _ _ = q at hr
            obtain ⟨id, H2, rfl, hW⟩ := hd _ (by ((repeat (first | exact Keeps.refl _ | assumption | refine Keeps.new' ?_ _ | refine Keeps.set ?_ ?_ _)) <;> (first | assumption | (simp; done) | (simp; omega)))) _ hA
            simp at hr
            rw [← hr]
            exact hW
  have g20 := grp
  clear grp
  by_cases grp : n.op = 26 ∨ n.op = 27 ∨ n.op = 28
  · have z8 : tbit n.op 8 = 0 := t8.2 (by omega)
    have z64 : ¬ tbit n.op 64 = 0 := fun hh => t64.1 hh (by omega)
    have z48 : ¬ tbit n.op 48 = 0 := fun hh => t48.1 hh (by omega)
    have z256 : tbit n.op 256 = 0 := t256.2 (by omega)
    have z16 : tbit n.op 16 = 0 := t16.2 (by omega)
    have n20 : ¬ n.op = 20 := by omega
    cases a0 : isF ns n.a 0#64 with
    | true =>
      have hB : besideF ns n = .con ⟨k.sort, 0#128⟩ := by
        rcases grp with h | h | h <;> simp [besideF, h, ← hk, a0]
      rw [hB]
      simp (maxDischargeDepth := 40) [Zl, hself, hlo, z8, z64, ia 0#64, a0, hnode] at hr
      generalize hA : R Zg _ _ = q at hr
      obtain ⟨id, H2, rfl, hW⟩ := co _ (by ((repeat (first | exact Keeps.refl _ | assumption | refine Keeps.new' ?_ _ | refine Keeps.set ?_ ?_ _)) <;> (first | assumption | (simp; done) | (simp; omega)))) _ hA
      simp at hr
      rw [← hr]
      simpa only [hk] using hW
    | false =>
      cases b0 : isF ns n.b 0#64 with
      | true =>
        have hB : besideF ns n = .at n.a := by
          rcases grp with h | h | h <;> simp [besideF, h, a0, b0]
        rw [hB]
        simp (maxDischargeDepth := 40) [Zl, z8, z64, z48, ia 0#64, ib 0#64, a0, b0] at hr
        rw [← hr]
        exact Wv.stay h _
      | false =>
        have hB : besideF ns n = .mk := by
          rcases grp with h | h | h <;> simp [besideF, h, a0, b0]
        rw [hB]
        simp (maxDischargeDepth := 40) [Zl, z8, z64, z48, z256, z16, n20, ia 0#64, ib 0#64, a0, b0] at hr
        generalize hA : R Zf _ _ = q at hr
        obtain ⟨id, H2, rfl, hW⟩ := mk _ (by ((repeat (first | exact Keeps.refl _ | assumption | refine Keeps.new' ?_ _ | refine Keeps.set ?_ ?_ _)) <;> (first | assumption | (simp; done) | (simp; omega)))) _ hA
        simp at hr
        rw [← hr]
        exact hW
  have g26 := grp
  clear grp
  by_cases grp : n.op = 13 ∨ n.op = 14 ∨ n.op = 18
  · have z8 : tbit n.op 8 = 0 := t8.2 (by omega)
    have z64 : tbit n.op 64 = 0 := t64.2 (by omega)
    have z48 : ¬ tbit n.op 48 = 0 := fun hh => t48.1 hh (by omega)
    have z256 : tbit n.op 256 = 0 := t256.2 (by omega)
    have z16 : ¬ tbit n.op 16 = 0 := fun hh => t16.1 hh (by omega)
    have n20 : ¬ n.op = 20 := by omega
    cases b0 : isF ns n.b 0#64 with
    | true =>
      have hB : besideF ns n = .at n.a := by
        rcases grp with h | h | h <;> simp [besideF, h, b0]
      rw [hB]
      simp (maxDischargeDepth := 40) [Zl, z8, z64, z48, ib 0#64, b0] at hr
      rw [← hr]
      exact Wv.stay h _
    | false =>
      cases a0 : isF ns n.a 0#64 with
      | true =>
        have hB : besideF ns n = .at n.b := by
          rcases grp with h | h | h <;> simp [besideF, h, b0, a0]
        rw [hB]
        simp (maxDischargeDepth := 40) [Zl, z8, z64, z48, z256, z16, ib 0#64, ia 0#64, b0, a0] at hr
        rw [← hr]
        exact Wv.stay h _
      | false =>
        have hB : besideF ns n = .mk := by
          rcases grp with h | h | h <;> simp [besideF, h, b0, a0]
        rw [hB]
        simp (maxDischargeDepth := 40) [Zl, z8, z64, z48, z256, z16, n20, ib 0#64, ia 0#64, b0, a0] at hr
        generalize hA : R Zf _ _ = q at hr
        obtain ⟨id, H2, rfl, hW⟩ := mk _ (by ((repeat (first | exact Keeps.refl _ | assumption | refine Keeps.new' ?_ _ | refine Keeps.set ?_ ?_ _)) <;> (first | assumption | (simp; done) | (simp; omega)))) _ hA
        simp at hr
        rw [← hr]
        exact hW
  have g13 := grp
  clear grp
  by_cases grp : n.op = 19
  · have z8 : tbit n.op 8 = 0 := t8.2 (by omega)
    have z64 : tbit n.op 64 = 0 := t64.2 (by omega)
    have z48 : ¬ tbit n.op 48 = 0 := fun hh => t48.1 hh (by omega)
    have z256 : tbit n.op 256 = 0 := t256.2 (by omega)
    have z16 : tbit n.op 16 = 0 := t16.2 (by omega)
    have n20 : ¬ n.op = 20 := by omega
    cases b0 : isF ns n.b 0#64 with
    | true =>
      have hB : besideF ns n = .at n.a := by
        simp [besideF, grp, b0]
      rw [hB]
      simp (maxDischargeDepth := 40) [Zl, z8, z64, z48, ib 0#64, b0] at hr
      rw [← hr]
      exact Wv.stay h _
    | false =>
      have hB : besideF ns n = .mk := by
        simp [besideF, grp, b0]
      rw [hB]
      simp (maxDischargeDepth := 40) [Zl, z8, z64, z48, z256, z16, n20, ib 0#64, b0] at hr
      generalize hA : R Zf _ _ = q at hr
      obtain ⟨id, H2, rfl, hW⟩ := mk _ (by ((repeat (first | exact Keeps.refl _ | assumption | refine Keeps.new' ?_ _ | refine Keeps.set ?_ ?_ _)) <;> (first | assumption | (simp; done) | (simp; omega)))) _ hA
      simp at hr
      rw [← hr]
      exact hW
  have g19 := grp
  clear grp
  by_cases grp : n.op = 21
  · have z8 : tbit n.op 8 = 0 := t8.2 (by omega)
    have z64 : tbit n.op 64 = 0 := t64.2 (by omega)
    have z48 : tbit n.op 48 = 0 := t48.2 (by omega)
    have z256 : ¬ tbit n.op 256 = 0 := fun hh => t256.1 hh (by omega)
    have z16 : tbit n.op 16 = 0 := t16.2 (by omega)
    have n20 : ¬ n.op = 20 := by omega
    cases b1 : isF ns n.b 1#64 with
    | true =>
      have hB : besideF ns n = .at n.a := by
        simp [besideF, grp, b1]
      rw [hB]
      simp (maxDischargeDepth := 40) [Zl, z8, z64, z48, z256, ib 1#64, b1] at hr
      rw [← hr]
      exact Wv.stay h _
    | false =>
      have hB : besideF ns n = .mk := by
        simp [besideF, grp, b1]
      rw [hB]
      simp (maxDischargeDepth := 40) [Zl, z8, z64, z48, z256, z16, n20, ib 1#64, b1] at hr
      generalize hA : R Zf _ _ = q at hr
      obtain ⟨id, H2, rfl, hW⟩ := mk _ (by ((repeat (first | exact Keeps.refl _ | assumption | refine Keeps.new' ?_ _ | refine Keeps.set ?_ ?_ _)) <;> (first | assumption | (simp; done) | (simp; omega)))) _ hA
      simp at hr
      rw [← hr]
      exact hW
  have g21 := grp
  clear grp
  have z8 : tbit n.op 8 = 0 := t8.2 (by omega)
  have z64 : tbit n.op 64 = 0 := t64.2 (by omega)
  have z48 : tbit n.op 48 = 0 := t48.2 (by omega)
  have z256 : tbit n.op 256 = 0 := t256.2 (by omega)
  have z16 : tbit n.op 16 = 0 := t16.2 (by omega)
  have n20 : ¬ n.op = 20 := by omega
  have hB : besideF ns n = .mk := by
    unfold besideF
    rw [if_neg (by omega), if_neg (by omega), if_neg (by omega), if_neg (by omega)]
  rw [hB]
  simp (maxDischargeDepth := 40) [Zl, z8, z64, z48, z256, z16, n20] at hr
  generalize hA : R Zf _ _ = q at hr
  obtain ⟨id, H2, rfl, hW⟩ := mk _ (by ((repeat (first | exact Keeps.refl _ | assumption | refine Keeps.new' ?_ _ | refine Keeps.set ?_ ?_ _)) <;> (first | assumption | (simp; done) | (simp; omega)))) _ hA
  simp at hr
  rw [← hr]
  exact hW
end
end Go.Proofs.Ytiobohfiaapgeaa
end
section
namespace Go.Proofs.Ytiobohfiaapgeaa
set_option maxRecDepth 100000
set_option maxHeartbeats 4000000
section
variable {H : AHeap} {w dn g : Nat} {most : Int} {ns : List Nd} {F : List Nat} {e : Int}
theorem mul_words {ns : List Nd} {look : ByteArray → Option Vl} (gk : Gok ns) (hA : AllFit look ns) {n : Nd} (hf : formedF ns.length n = true) (hs : (sortedF ns n).2 = 0) (h20 : n.op = 20) : ∃ N : Nat, 1 ≤ N ∧ N ≤ 128 ∧ ∃ x y : BitVec N, V look ns n.a = Vl.of x ∧ V look ns n.b = Vl.of y := by
  have F := node_fit gk hA hf hs (by omega) (by omega)
  rw [kidsV_2 (by rw [h20]; decide)] at F
  obtain ⟨l, hl⟩ : ∃ l, l = [V look ns n.a, V look ns n.b] := ⟨_, rfl⟩
  obtain ⟨s, hs⟩ : ∃ s, s = (sortedF ns n).1.sort := ⟨_, rfl⟩
  rw [← hl, ← hs] at F
  cases F with
  | word N x y r1 r2 =>
    injection hl with e1 e2
    injection e2 with e2
    exact ⟨N, r1, r2, x, y, e1.symm, e2.symm⟩
  | _ => omega
theorem logic_ops {ns : List Nd} {n : Nd} {c : Ch} (h : logicF ns n = some c) : 4 ≤ n.op ∧ n.op ≤ 8 := by
  unfold logicF at h
  split at h
  · cases h
  · omega
theorem wtwo_run {f : Nat} (hC : NormC f) (h : WG H w dn g most ns F 0) (gk : Gok ns) {n : Nd} (hf : formedF ns.length n = true) (hs : (sortedF ns n).2 = 0) (har : arity n.op = 2) (hne : (exF most f ns n (binC ns n)).2.2 ≠ -1) {r : Option (AV × AHeap)}
    (hr : R Zbr [.ptr w 0, .agg n.cs] H = r) : Wv H w dn g most F (exF most f ns n (binC ns n)) r := by
  rw [Zfx] at hr
  have hself := h.self
  have hlo := h.lo
  have k1 : Keeps H (H.new (.cells n.cs)) := (Keeps.refl H).new' _
  have h1 : ¬ n.op = 1 := fun hh => by rw [hh] at har; revert har; decide
  have h2 : ¬ n.op = 2 := fun hh => by rw [hh] at har; revert har; decide
  obtain ⟨look, hA⟩ := look_any gk
  have PB := bin_val gk hA hf hs h1 h2 har
  have pth : pathF ns n = binC ns n := by unfold pathF; rw [if_neg (by omega), if_neg (by omega), if_neg (by omega)]
  have pos : (exF most f ns n (binC ns n)).2.2 = 0 → 0 < (exF most f ns n (binC ns n)).2.1 := fun h0 => by
    rw [← pth, ← normF_ex] at hne h0 ⊢
    have := ((norm_val (f + 1) gk hf hs h1 h2 hne).1 h0).lo
    omega
  cases hfo : foldF ns n with
  | some v =>
    rw [show binC ns n = .con v by unfold binC; rw [hfo]]
    have hX := fun (r' : Option (AV × AHeap)) => fold_up (f := f) h (by omega) hfo k1 (r := r')
    simp only [Nd.parts'] at hr hX
    simp (maxDischargeDepth := 40) [Zbi] at hr
    generalize hA : R Zx _ _ = q at hr
    obtain ⟨id, H2, e, rfl, o2, l2, hid, hW⟩ := hX _ hA
    by_cases c : 0 < id
    · simp (maxDischargeDepth := 40) [c] at hr
      rw [← hr]; exact hW
    · have := hid c
      simp (maxDischargeDepth := 40) [c, o2, this] at hr
      rw [← hr]; exact hW
  | none =>
    have hX := fold_no h (by omega) hfo k1
    have ob := arity_bound (op := n.op) (by omega)
    have t1 := tb1 (op := n.op) (by omega) (by omega)
    have t2 := tb2 (op := n.op) (by omega) (by omega)
    have t4 := tb4 (op := n.op) (by omega) (by omega)
    have hz := zero_run (h.keeps k1) (n := n)
    have hb := fun H => bool_run (b := true) (H := H)
    have co := fun (v : Vl) (H1 : AHeap) (k : Keeps H H1) (r : Option (AV × AHeap)) (hr : R Zg [.ptr w 0, .agg [.int .i64 v.w, u (lo v.n), u (hi v.n)]] H1 = r) => con_up (f := f) (n := n) h k hr
    have hlg := fun (P : ∀ c, logicF ns n = some c → PV look ns n c ∧ (exF most f ns n c).2.2 ≠ -1) (r : Option (AV × AHeap)) => wlogic_run hC (h.keeps k1) gk P (r := r)
    have hbd := fun (hd) (r : Option (AV × AHeap)) => beside_run (f := f) (h.keeps k1) (n := n) (by omega) (by omega) hd (r := r)
    have hbe := fun (H2 : AHeap) (ns2 : List Nd) (F2 : List Nat) (e2 : Int) (g2 : WG H2 w dn g most ns2 F2 e2) (he : ¬ e2 = 0) (h4 : 4 ≤ n.op) (h8 : n.op ≤ 8) (r : Option (AV × AHeap)) => beside_err g2 he (n := n) h4 h8 (r := r)
    have hdb : n.op = 20 → binC ns n = doubleF ns n → ∀ H1, Keeps (H.new (.cells n.cs)) H1 → ∀ r, R Z1 [.ptr w 0, .agg n.cs] H1 = r → ∃ id H2, r = some (.int .i64 id, H2) ∧ Wv (H.new (.cells n.cs)) w dn g most F (exF most f ns n (doubleF ns n)) (some (back [] (H.new (.cells n.cs)) (.int .i64 id) H2)) := fun h20 hB H1 k r hr => by
      obtain ⟨N, N1, N2, x, y, ha, hb⟩ := mul_words gk hA hf hs h20
      rw [hB] at PB hne
      exact Wv.up (h.keeps k1) k (doubled_run hC ((h.keeps k1).keeps k) gk N1 N2 hA ha hb PB hne hr)
    simp only [Nd.parts'] at hr hX k1 hz hlg hbd hbe hdb
    have hbin0 : binC ns n = (if n.a = n.b ∧ (n.op = 4 ∨ n.op = 5 ∨ n.op = 12 ∨ n.op = 13) then .at n.a
    else if n.a = n.b ∧ (n.op = 6 ∨ n.op = 29 ∨ n.op = 31 ∨ n.op = 33 ∨ n.op = 35 ∨ n.op = 14 ∨ n.op = 19) then .con (if n.op = 14 ∨ n.op = 19 then ⟨(ndF ns n.a).sort, 0#128⟩ else Vl.bool false)
    else if n.a = n.b ∧ (n.op = 8 ∨ n.op = 30 ∨ n.op = 32 ∨ n.op = 34 ∨ n.op = 36 ∨ n.op = 7) then .con (Vl.bool true)
    else match logicF ns n with
      | some c => c
      | none => besideF ns n) := by
      unfold binC
      rw [hfo]
      rfl
    by_cases cab : n.a = n.b
    · have eab := eq_true cab
      by_cases c1 : n.op = 4 ∨ n.op = 5 ∨ n.op = 12 ∨ n.op = 13
      · have z1 : ¬ tbit n.op 1 = 0 := fun hh => t1.1 hh c1
        rw [hbin0, if_pos ⟨cab, c1⟩]
        simp (maxDischargeDepth := 40) [Zbi, hself, hlo, hX, tags_run, eab, z1] at hr
        rw [← hr]
        exact Wv.stay h _
      have z1 := t1.2 c1
      rw [if_neg (fun hh => c1 hh.2)] at hbin0
      by_cases c2 : n.op = 6 ∨ n.op = 29 ∨ n.op = 31 ∨ n.op = 33 ∨ n.op = 35 ∨ n.op = 14 ∨ n.op = 19
      · have z2 : ¬ tbit n.op 2 = 0 := fun hh => t2.1 hh c2
        rw [hbin0, if_pos ⟨cab, c2⟩]
        obtain ⟨zv, hzv⟩ : ∃ zv, zv = (if n.op = 14 ∨ n.op = 19 then (⟨(ndF ns n.a).sort, 0#128⟩ : Vl) else Vl.bool false) := ⟨_, rfl⟩
        have hz2 : AV.agg [.int .i64 (if n.op = 14 ∨ n.op = 19 then (ndF ns n.a).sort else 0), u 0#64, u 0#64] = .agg [.int .i64 zv.w, u (lo zv.n), u (hi zv.n)] := by
          rw [hzv]
          by_cases c : n.op = 14 ∨ n.op = 19
          · rw [if_pos c, if_pos c]
            simp only [show lo (0#128 : W128) = 0#64 from rfl, show hi (0#128 : W128) = 0#64 from rfl]
          · rw [if_neg c, if_neg c]
            simp only [Vl.bool, Bool.false_eq_true, if_false, show lo (0#128 : W128) = 0#64 from rfl, show hi (0#128 : W128) = 0#64 from rfl]
        rw [hz2] at hz
        rw [← hzv]
        simp (maxDischargeDepth := 40) [Zbi, hself, hlo, hX, tags_run, eab, z1, z2, hz] at hr
        generalize hA : R Zg _ _ = q at hr
        obtain ⟨id, H2, rfl, hW⟩ := co zv _ k1 _ hA
        simp at hr
        rw [← hr]
        exact hW
      have z2 := t2.2 c2
      rw [if_neg (fun hh => c2 hh.2)] at hbin0
      by_cases c4 : n.op = 8 ∨ n.op = 30 ∨ n.op = 32 ∨ n.op = 34 ∨ n.op = 36 ∨ n.op = 7
      · have z4 : ¬ tbit n.op 4 = 0 := fun hh => t4.1 hh c4
        rw [hbin0, if_pos ⟨cab, c4⟩]
        simp (maxDischargeDepth := 40) [Zbi, hself, hlo, hX, tags_run, eab, z1, z2, z4, hb] at hr
        generalize hA : R Zg _ _ = q at hr
        obtain ⟨id, H2, rfl, hW⟩ := co (Vl.bool true) _ k1 _ hA
        simp at hr
        rw [← hr]
        exact hW
      have z4 := t4.2 c4
      rw [if_neg (fun hh => c4 hh.2)] at hbin0
      have hbin := hbin0
      simp (maxDischargeDepth := 40) [Zbi, hself, hlo, hX, tags_run, eab, z1, z2, z4] at hr
      generalize hL : R Zbm _ _ = q at hr
      have hW := hlg (fun c hc => by rw [hbin, hc] at PB hne; exact ⟨PB, hne⟩) _ hL
      cases hlc : logicF ns n with
      | none =>
        rw [hlc] at hW hbin
        simp only at hW hbin
        subst hW
        simp (maxDischargeDepth := 40) at hr
        generalize hB : R Zy _ _ = q at hr
        have hW := hbd (fun h20 hB => hdb h20 (hbin.trans hB)) _ hB
        obtain ⟨id, H2, rfl, hW2⟩ := Wv.up h k1 hW
        simp at hr
        rw [hbin, ← hr]
        exact hW2
      | some c =>
        obtain ⟨l4, l8⟩ := logic_ops hlc
        rw [hlc] at hW hbin
        simp only at hW hbin
        rw [← hbin] at hW
        obtain ⟨id', H2', e1, hW2⟩ := Wv.up h k1 hW
        obtain ⟨H2, F2, ns2, id, e2, rfl, g2, k2, n2, ok, bad⟩ := hW
        cases e1
        by_cases c0 : 0 < id'
        · simp (maxDischargeDepth := 40) [c0] at hr
          rw [← hr]
          exact hW2
        · have he : ¬ (exF most f ns n (binC ns n)).2.2 = 0 := fun h0 => c0 (by rw [(ok h0).2.1]; exact pos h0)
          have hb := bad he
          have hnF : H.size ∉ w :: F := fun hp => by
            rcases List.mem_cons.1 hp with hp | hp
            · omega
            · have := h.G.ltF hp; omega
          have hob : H2'.obj H.size = .cells [.int .i64 n.op, .int .i64 n.sort, .int .i64 n.a, .int .i64 n.b, .int .i64 n.c, .int .i64 n.p, .int .i64 n.q, .int .i64 n.vw, u n.vl, u n.vh, .str n.name] := by rw [k2.obj _ (by simp) hnF]; simp
          have hl1 : H.size < H2'.size := by have := k2.size; simp at this; omega
          simp (maxDischargeDepth := 40) [c0, hob] at hr
          generalize hB : R Zy _ _ = q at hr
          obtain ⟨id3, H3, rfl, F3, ns3, g3, k3, n3⟩ := hbe H2' ns2 F2 e2 g2 (by rw [hb]; exact he) l4 l8 _ hB
          simp at hr
          have s1 := k1.size
          have s2 := k2.size
          have nn : ∀ p, p ∈ F2 → p ∈ F ∨ H.size ≤ p := fun p hp => by
            rcases n2 p hp with h | h
            · exact .inl h
            · exact .inr (by omega)
          have k13 : Fr (w :: F) H H3 := ((k1.fr _).trans k2 fun p hp => .inl hp).trans k3 fun p hp => by
            rcases List.mem_cons.1 hp with rfl | hp
            · exact .inl (by simp)
            · rcases nn p hp with h | h
              · exact .inl (by simp [h])
              · exact .inr h
          obtain ⟨D, hD, g4, k4⟩ := h.back g3 k13 id3
          rw [hD] at hr
          refine ⟨D, F3, ns3, id3, e2, hr.symm, g4, k4, fun p hp => ?_, fun h0 => absurd h0 he, fun _ => hb⟩
          rcases n3 p hp with h | h
          · exact nn p h
          · exact .inr (by omega)
    · rw [if_neg (fun hh => cab hh.1), if_neg (fun hh => cab hh.1), if_neg (fun hh => cab hh.1)] at hbin0
      have hbin := hbin0
      simp (maxDischargeDepth := 40) [Zbi, hself, hlo, hX, tags_run, cab] at hr
      generalize hL : R Zbm _ _ = q at hr
      have hW := hlg (fun c hc => by rw [hbin, hc] at PB hne; exact ⟨PB, hne⟩) _ hL
      cases hlc : logicF ns n with
      | none =>
        rw [hlc] at hW hbin
        simp only at hW hbin
        subst hW
        simp (maxDischargeDepth := 40) at hr
        generalize hB : R Zy _ _ = q at hr
        have hW := hbd (fun h20 hB => hdb h20 (hbin.trans hB)) _ hB
        obtain ⟨id, H2, rfl, hW2⟩ := Wv.up h k1 hW
        simp at hr
        rw [hbin, ← hr]
        exact hW2
      | some c =>
        obtain ⟨l4, l8⟩ := logic_ops hlc
        rw [hlc] at hW hbin
        simp only at hW hbin
        rw [← hbin] at hW
        obtain ⟨id', H2', e1, hW2⟩ := Wv.up h k1 hW
        obtain ⟨H2, F2, ns2, id, e2, rfl, g2, k2, n2, ok, bad⟩ := hW
        cases e1
        by_cases c0 : 0 < id'
        · simp (maxDischargeDepth := 40) [c0] at hr
          rw [← hr]
          exact hW2
        · have he : ¬ (exF most f ns n (binC ns n)).2.2 = 0 := fun h0 => c0 (by rw [(ok h0).2.1]; exact pos h0)
          have hb := bad he
          have hnF : H.size ∉ w :: F := fun hp => by
            rcases List.mem_cons.1 hp with hp | hp
            · omega
            · have := h.G.ltF hp; omega
          have hob : H2'.obj H.size = .cells [.int .i64 n.op, .int .i64 n.sort, .int .i64 n.a, .int .i64 n.b, .int .i64 n.c, .int .i64 n.p, .int .i64 n.q, .int .i64 n.vw, u n.vl, u n.vh, .str n.name] := by rw [k2.obj _ (by simp) hnF]; simp
          have hl1 : H.size < H2'.size := by have := k2.size; simp at this; omega
          simp (maxDischargeDepth := 40) [c0, hob] at hr
          generalize hB : R Zy _ _ = q at hr
          obtain ⟨id3, H3, rfl, F3, ns3, g3, k3, n3⟩ := hbe H2' ns2 F2 e2 g2 (by rw [hb]; exact he) l4 l8 _ hB
          simp at hr
          have s1 := k1.size
          have s2 := k2.size
          have nn : ∀ p, p ∈ F2 → p ∈ F ∨ H.size ≤ p := fun p hp => by
            rcases n2 p hp with h | h
            · exact .inl h
            · exact .inr (by omega)
          have k13 : Fr (w :: F) H H3 := ((k1.fr _).trans k2 fun p hp => .inl hp).trans k3 fun p hp => by
            rcases List.mem_cons.1 hp with rfl | hp
            · exact .inl (by simp)
            · rcases nn p hp with h | h
              · exact .inl (by simp [h])
              · exact .inr h
          obtain ⟨D, hD, g4, k4⟩ := h.back g3 k13 id3
          rw [hD] at hr
          refine ⟨D, F3, ns3, id3, e2, hr.symm, g4, k4, fun p hp => ?_, fun h0 => absurd h0 he, fun _ => hb⟩
          rcases n3 p hp with h | h
          · exact nn p h
          · exact .inr (by omega)
theorem norm_runs (f : Nat) : NormC f := by
  induction f with
  | zero =>
    unfold NormC
    intro H w dn g most ns F n r h gk hf hs hne hr
    exact absurd rfl hne
  | succ f hC =>
    unfold NormC
    intro H w dn g most ns F n r h gk hf hs hne hr
    rw [normF_ex] at hne ⊢
    rw [Zd6] at hr
    have hself := h.self
    have hlo := h.lo
    have k1 : Keeps H (H.new (.cells n.cs)) := (Keeps.refl H).new' _
    have har := fun H => arity_run (op := n.op) (H := H)
    have h0 := (formed_arity hf).2
    have h3 := arity_le n.op
    have a12 : n.op = 1 ∨ n.op = 2 → arity n.op = 0 := fun hh => by rcases hh with hh | hh <;> rw [hh] <;> decide
    unfold pathF at hne ⊢
    have mk := fun (r : Option (AV × AHeap)) (hr : R Zf [.ptr w 0, .agg n.cs] (H.new (.cells n.cs)) = r) => mk_up (f := f) h k1 hr
    have one := fun (ha : arity n.op = 1) (hne : (exF most f ns n (unC ns n)).2.2 ≠ -1) (r : Option (AV × AHeap)) (hr : R Zbh [.ptr w 0, .agg n.cs] (H.new (.cells n.cs)) = r) => Wv.up h k1 (wone_run hC (h.keeps k1) gk hf hs (fun hh => by have := a12 (.inl hh); omega) (fun hh => by have := a12 (.inr hh); omega) ha hne hr)
    have cho := fun (r : Option (AV × AHeap)) (hr : R Zbj [.ptr w 0, .agg n.cs] (H.new (.cells n.cs)) = r) => Wv.up h k1 (choice_run (f := f) (h.keeps k1) hr)
    have two := fun (ha : arity n.op = 2) (hne : (exF most f ns n (binC ns n)).2.2 ≠ -1) (r : Option (AV × AHeap)) (hr : R Zbr [.ptr w 0, .agg n.cs] (H.new (.cells n.cs)) = r) => Wv.up h k1 (wtwo_run hC (h.keeps k1) gk hf hs ha hne hr)
    simp only [Nd.parts'] at hr mk one cho two
    by_cases c0 : arity n.op = 0
    · have e0 := eq_true c0
      rw [if_pos c0]
      simp (maxDischargeDepth := 40) [Zbp, hself, hlo, har, e0] at hr
      generalize hA : R Zf _ _ = q at hr
      obtain ⟨id, H2, rfl, hW⟩ := mk _ hA
      simp at hr
      rw [← hr]
      exact hW
    rw [if_neg c0] at hne ⊢
    by_cases c1 : arity n.op = 1
    · have e1 := eq_true c1
      rw [if_pos c1] at hne ⊢
      simp (maxDischargeDepth := 40) [Zbp, hself, hlo, har, c0, e1] at hr
      generalize hA : R Zbh _ _ = q at hr
      obtain ⟨id, H2, rfl, hW⟩ := one c1 hne _ hA
      simp at hr
      rw [← hr]
      exact hW
    rw [if_neg c1] at hne ⊢
    by_cases c3 : arity n.op = 3
    · have e3 := eq_true c3
      rw [if_pos c3] at hne ⊢
      simp (maxDischargeDepth := 40) [Zbp, hself, hlo, har, c0, c1, e3] at hr
      generalize hA : R Zbj _ _ = q at hr
      obtain ⟨id, H2, rfl, hW⟩ := cho _ hA
      simp at hr
      rw [← hr]
      exact hW
    rw [if_neg c3] at hne ⊢
    simp (maxDischargeDepth := 40) [Zbp, hself, hlo, har, c0, c1, c3] at hr
    generalize hA : R Zbr _ _ = q at hr
    obtain ⟨id, H2, rfl, hW⟩ := two (by omega) hne _ hA
    simp at hr
    rw [← hr]
    exact hW
end
end Go.Proofs.Ytiobohfiaapgeaa
end
section
namespace Go.Proofs.Ytiobohfiaapgeaa
set_option maxRecDepth 100000
theorem findE_snoc (k : AV) : ∀ (es : List AEnt) (e : AEnt), findE k (es ++ [e]) = (findE k es).or (if keyEq k e.key = true then some e else none)
  | [], e => by simp [findE]
  | x :: es, e => by
    simp only [List.cons_append, findE]
    by_cases h : keyEq k x.key = true
    · simp [h]
    · rw [if_neg h, if_neg h]; exact findE_snoc k es e
theorem key_int {k j : Int} : keyEq (.int .i64 k) (.int .i64 j) = decide (k = j) := by
  simp only [keyEq, scEq]
  by_cases h : k = j <;> simp [h]
def IM (es : List AEnt) (f : Int → Option Int) : Prop := (∀ k, (findE (.int .i64 k) es).map (·.val) = (f k).map (.int .i64 ·)) ∧ ∀ x, x ∈ es → ∃ j, x.key = .int .i64 j
theorem IM.nil : IM [] fun _ => none := ⟨fun k => by simp [findE], fun x hx => by cases hx⟩
theorem IM.add {es : List AEnt} {f : Int → Option Int} (h : IM es f) {k v : Int} {c : Nat} (hk : f k = none) : IM (es ++ [⟨.int .i64 k, .int .i64 v, c⟩]) (fun x => if x = k then some v else f x) := by
  refine ⟨fun x => ?_, fun x hx => ?_⟩
  · rw [findE_snoc, key_int]
    have h1 := h.1 x
    by_cases e : x = k
    · subst e
      rw [hk] at h1
      cases hf : findE (.int .i64 x) es with
      | none => simp
      | some y => rw [hf] at h1; simp at h1
    · show _ = ((if x = k then some v else f x) : Option Int).map _
      rw [if_neg e]
      cases hf : findE (.int .i64 x) es with
      | none => rw [hf] at h1; simpa [e] using h1
      | some y => rw [hf] at h1; simpa using h1
  · rcases List.mem_append.1 hx with h1 | h1
    · exact h.2 x h1
    · simp at h1; exact ⟨k, by rw [h1]⟩
theorem IM.find {es : List AEnt} {f : Int → Option Int} (h : IM es f) (k : Int) : (f k = none ∧ findE (.int .i64 k) es = none) ∨ ∃ v x, f k = some v ∧ findE (.int .i64 k) es = some x ∧ x.val = .int .i64 v := by
  have h1 := h.1 k
  cases hf : findE (.int .i64 k) es <;> cases hl : f k <;> rw [hf, hl] at h1 <;> first | (cases h1; done) | skip
  · exact .inl ⟨rfl, rfl⟩
  · exact .inr ⟨_, _, rfl, rfl, by simpa using h1⟩
theorem findE_set {k v : Int} : ∀ {es : List AEnt}, (∀ x, x ∈ es → ∃ j, x.key = .int .i64 j) → findE (.int .i64 k) es ≠ none → ∀ j : Int, (findE (.int .i64 j) (setE (.int .i64 k) (.int .i64 v) es)).map (·.val) = if j = k then some (.int .i64 v) else (findE (.int .i64 j) es).map (·.val)
  | [], _, h, _ => by simp [findE] at h
  | e :: es, hk, h, j => by
    obtain ⟨i, hi⟩ := hk e (by simp)
    unfold setE
    by_cases c : k = i
    · subst c
      rw [if_pos (by rw [hi, key_int]; simp)]
      unfold findE
      by_cases d : j = k
      · simp [d, key_int]
      · simp [d, key_int, hi]
    · rw [if_neg (by rw [hi, key_int]; simpa using c)]
      unfold findE at h
      rw [if_neg (by rw [hi, key_int]; simpa using c)] at h
      have ih := findE_set (v := v) (fun x hx => hk x (by simp [hx])) h j
      unfold findE
      by_cases d : j = i
      · subst d
        simp [hi, key_int]
        intro e; exact absurd e.symm c
      · have hd : ¬ keyEq (.int .i64 j) e.key = true := by rw [hi, key_int]; simpa using d
        simp only [if_neg hd]
        exact ih
theorem IM.look {es : List AEnt} {f : Int → Option Int} (h : IM es f) (k : Int) : lookU false (.int .i64 0) (findE (.int .i64 k) es) = .int .i64 ((f k).getD 0) := by
  rcases h.find k with ⟨h1, h2⟩ | ⟨v, x, h1, h2, h3⟩
  · rw [h1, h2]; rfl
  · rw [h1, h2]; simp [h3]
theorem setE_keys {k v : AV} : ∀ {es : List AEnt}, (∃ j, k = .int .i64 j) → (∀ x, x ∈ es → ∃ j, x.key = .int .i64 j) → ∀ x, x ∈ setE k v es → ∃ j, x.key = .int .i64 j
  | [], _, _, _, h => by simp [setE] at h
  | e :: es, hk, he, x, h => by
    unfold setE at h
    split at h
    · rcases List.mem_cons.1 h with rfl | h1
      · exact hk
      · exact he x (by simp [h1])
    · rcases List.mem_cons.1 h with rfl | h1
      · exact he _ (by simp)
      · exact setE_keys hk (fun y hy => he y (by simp [hy])) x h1
theorem IM.upd {es : List AEnt} {f : Int → Option Int} (h : IM es f) (k v : Int) (H : AHeap) (o : Nat) (sh : KSh) (c : Nat) :
    ∃ es' c', (match findE (.int .i64 k) es with
      | some _ => some (H.set o (.map sh (setE (.int .i64 k) (.int .i64 v) es) c))
      | none => some (H.set o (.map sh (es ++ [⟨.int .i64 k, .int .i64 v, c⟩]) (c + 1)))) = some (H.set o (.map sh es' c')) ∧ IM es' (fun x => if x = k then some v else f x) := by
  rcases h.find k with ⟨h1, h2⟩ | ⟨w, x, h1, h2, h3⟩
  · rw [h2]
    exact ⟨_, _, rfl, h.add h1⟩
  · rw [h2]
    refine ⟨_, _, rfl, fun j => ?_, setE_keys ⟨k, rfl⟩ h.2⟩
    rw [findE_set h.2 (by rw [h2]; simp) j]
    show _ = ((if j = k then some v else f j) : Option Int).map _
    by_cases c : j = k
    · rw [if_pos c, if_pos c]; rfl
    · rw [if_neg c, if_neg c]; exact h.1 j
theorem IM.updM {es : List AEnt} {f : Int → Option Int} (h : IM es f) (k v : Int) (H : AHeap) (o : Nat) (c : Nat) (ho : H.obj o = .map (.one (.i .i64)) es c) :
    ∃ es' c', updM (.int .i64 k) (.int .i64 v) (.map o) H (some (.one (.i .i64))) = some (H.set o (.map (.one (.i .i64)) es' c')) ∧ IM es' (fun x => if x = k then some v else f x) := by
  obtain ⟨es', c', h1, h2⟩ := h.upd k v H o (.one (.i .i64)) c
  refine ⟨es', c', ?_, h2⟩
  rw [← h1, updM_map]
  simp only [fits_one, fits_int, decide_true, if_true, ho]
  cases findE (.int .i64 k) es <;> rfl
end Go.Proofs.Ytiobohfiaapgeaa
end
section
namespace Go.Proofs.Ytiobohfiaapgeaa
set_option maxRecDepth 100000
set_option maxHeartbeats 4000000
theorem sim_step {most L : Int} {f : Nat} {ns0 : List Nd} {id : Int} (g0 : Gok ns0) (h1 : 1 ≤ id) (h2 : id ≤ ns0.length) (hL : most ≤ L) (hf : L + 2 ≤ f) {pre l : List Int} {j : Int} {ns : List Nd} {d : Int → Int} (hc : coneT ns0 id = pre ++ j :: l) (hd : Did ns0 ns d (fun x => x ∈ pre)) (hl : (ns.length : Int) ≤ L)
    {n : Nd} (hn : n = { ndF ns j with a := d (ndF ns j).a, b := d (ndF ns j).b, c := d (ndF ns j).c }) :
    formedF ns.length n = true ∧ (sortedF ns n).2 = 0 ∧ ((normF most f ns n).2.2 = 0 ∨ (normF most f ns n).2.2 = 33) ∧ ((normF most f ns n).2.2 = 0 → Did ns0 (normF most f ns n).1 (fun x => if x = j then (normF most f ns n).2.1 else d x) (fun x => x ∈ pre ++ [j])) ∧ (((normF most f ns n).1).length : Int) ≤ L := by
  have hk : j ∈ coneT ns0 id := by rw [hc]; simp
  obtain ⟨j, rfl, j1, j2⟩ := cone_mem hk
  have hrise := cone_rises ns0 id
  rw [hc] at hrise
  have k1 : (1 : Int) ≤ (j : Int) := by omega
  have k2 : (j : Int) ≤ ns0.length := by omega
  obtain ⟨i, hi, hni⟩ := nd_at k1 k2
  have N := next_ok g0 hd k1 k2 fun y hy h0 => by
    have := cone_kid g0.kok h1 h2 (j := i) (n := ndF ns0 j) (by rw [← hi]; exact hk) hni hy h0
    rw [← hi] at this
    refine mem_pre hrise ?_ this.2
    rw [← hc]; exact this.1
  obtain ⟨r1, r2⟩ := norm_next (most := most) (f := f) g0 hd k1 k2 N hn (by omega)
  have hlen := norm_len hL f (n := n) hl
  refine ⟨by rw [hn]; exact N.form, by rw [hn, N.srt], r1, fun h0 => ?_, hlen⟩
  have D := r2 h0
  exact ⟨D.more, D.gok, D.zero, fun x hx => D.did x (by simpa using hx)⟩
theorem simF_cons {most : Int} {f : Nat} {k : Int} {l : List Int} {ns : List Nd} {d : Int → Int} : simF most f (k :: l) ns d =
    if (normF most f ns { ndF ns k with a := d (ndF ns k).a, b := d (ndF ns k).b, c := d (ndF ns k).c }).2.2 = 0 then simF most f l (normF most f ns { ndF ns k with a := d (ndF ns k).a, b := d (ndF ns k).b, c := d (ndF ns k).c }).1 (fun x => if x = k then (normF most f ns { ndF ns k with a := d (ndF ns k).a, b := d (ndF ns k).b, c := d (ndF ns k).c }).2.1 else d x)
    else ((normF most f ns { ndF ns k with a := d (ndF ns k).a, b := d (ndF ns k).b, c := d (ndF ns k).c }).1, d, (normF most f ns { ndF ns k with a := d (ndF ns k).a, b := d (ndF ns k).b, c := d (ndF ns k).c }).2.2) := by
  conv => lhs; unfold simF
def MapAt (H : AHeap) (dn : Nat) (d : Int → Int) : Prop := ∃ es c fm, H.obj dn = .map (.one (.i .i64)) es c ∧ IM es fm ∧ ∀ x, d x = (fm x).getD 0
theorem MapAt.same {H H' : AHeap} {dn : Nat} {d : Int → Int} (h : MapAt H dn d) (e : H'.obj dn = H.obj dn) : MapAt H' dn d := by
  obtain ⟨es, c, fm, h1, h2, h3⟩ := h
  exact ⟨es, c, fm, by rw [e]; exact h1, h2, h3⟩
section
variable {H0 : AHeap} {w dn g : Nat} {most : Int} {ns : List Nd} {F : List Nat}
theorem sim_loop {H : AHeap} (hw : H0.size ≤ w) (hdn : H0.size ≤ dn) (h : WG H w dn g most ns F 0) (_hF : ∀ p, p ∈ F → p < H0.size) (kH : Keeps H0 H) (gk : Gok ns) {id : Int} (h1 : 1 ≤ id) (h2 : id ≤ ns.length) {f : Nat} (hf : most + 2 ≤ f) (hmap : H.obj dn = .map (.one (.i .i64)) [] 0) {v : AV} (hv : ∀ H, RI H v (coneT ns id)) (hcl : (coneT ns id).length ≤ 100000) {ev : Env} {r : Rn}
    (hL : loopL Try.prog KT R Zcq ev H = r) (e0 : ev 0 = some (.ptr g 0)) (e8 : ev 8 = some (.ptr w 0)) (e27 : ev 27 = some v) (e28 : ev 28 = some (.int .i64 (coneT ns id).length)) (e29 : ev 29 = some (.int .i64 0)) :
    ∃ x ev' H', r = some (x, ev', H') ∧ ((x = .exit 0 ∧ ∃ ns1 d F1, WG H' w dn g most ns1 F1 0 ∧ MapAt H' dn d ∧ simF most f (coneT ns id) ns (fun _ => 0) = (ns1, d, 0) ∧ Fr F H0 H' ∧ ∀ p, p ∈ F1 → p ∈ F ∨ H0.size ≤ p) ∨
      (x = .ret ∧ ∃ e ns1 F1, ¬ e = 0 ∧ e = (simF most f (coneT ns id) ns fun _ => 0).2.2 ∧ ev' 4 = some (.int .i64 0) ∧ ev' 5 = some (.int .i64 e) ∧ WG H' w dn g most ns1 F1 e ∧ Fr F H0 H' ∧ ∀ p, p ∈ F1 → p ∈ F ∨ H0.size ≤ p)) ∧ ∀ t, t ∉ defs Zcq → ev' t = ev t := by
  obtain ⟨cone, hcone⟩ : ∃ cone, cone = coneT ns id := ⟨_, rfl⟩
  rw [← hcone] at hv hcl e28 ⊢
  have D0 : Did ns ns (fun _ => 0) (fun x => x ∈ ([] : List Int)) := ⟨⟨[], by simp, by simp⟩, gk, fun _ _ => rfl, fun x hx => by cases hx⟩
  have frF : ∀ {A B : AHeap} {F1 : List Nat}, (∀ p, p ∈ F1 → p ∈ F ∨ H0.size ≤ p) → Fr F H0 A → Fr (w :: F1) A B → Fr F H0 B := fun {A B F1} hn a b => a.trans b fun p hp => by
    rcases List.mem_cons.1 hp with rfl | hp
    · exact .inr hw
    · exact hn p hp
  refine loop_count Zcq.eq_1 hL cone.length (fun i e1 H1 => e1 29 = some (.int .i64 i) ∧ ∃ ns1 d F1, WG H1 w dn g most ns1 F1 0 ∧ MapAt H1 dn d ∧ Did ns ns1 d (fun x => x ∈ cone.take i) ∧ simF most f cone ns (fun _ => 0) = simF most f (cone.drop i) ns1 d ∧ Fr F H0 H1 ∧ ∀ p, p ∈ F1 → p ∈ F ∨ H0.size ≤ p) _ 0 (Nat.zero_le _)
    ⟨e29, ns, fun _ => 0, F, h, ⟨[], 0, fun _ => none, hmap, IM.nil, fun _ => rfl⟩, by simpa using D0, by simp, kH.fr _, fun p hp => .inl hp⟩ ?_ ?_
  · rintro i e1 H1 hfr - hi' ⟨f29, ns1, d, F1, W, M, D, hs, k1, n1⟩
    have w1 : IntKind.i64.wrap ((i : Int) + 1) = (i : Int) + 1 := i64w (by omega) (by omega)
    have c1 : (i : Int) < cone.length := by omega
    have hv1 := hv H1
    obtain ⟨a1, a2⟩ := loadi_of hv1 hi'
    replace a2 := a2 H1 (Keeps.refl _)
    have hdrop : cone.drop i = cone.getD i 0 :: cone.drop (i + 1) := by
      rw [List.drop_eq_getElem_cons hi', List.getD_eq_getElem?_getD, List.getElem?_eq_getElem hi']; rfl
    have hcut : cone = cone.take i ++ cone.getD i 0 :: cone.drop (i + 1) := by rw [← hdrop, List.take_append_drop]
    have hta : cone.take (i + 1) = cone.take i ++ [cone.getD i 0] := by rw [List.take_add_one]; simp [List.getD_eq_getElem?_getD, hi']
    obtain ⟨k, hk⟩ : ∃ k, k = cone.getD i 0 := ⟨_, rfl⟩
    rw [← hk] at a2 hdrop hcut hta
    have hlim := W.G.lim
    obtain ⟨n, hn⟩ : ∃ n, n = ({ ndF ns1 k with a := d (ndF ns1 k).a, b := d (ndF ns1 k).b, c := d (ndF ns1 k).c } : Nd) := ⟨_, rfl⟩
    obtain ⟨sf, ss, sr, sd, sl⟩ := sim_step gk h1 h2 (Int.le_refl most) hf (by rw [← hcone]; exact hcut) D hlim.1 hn
    rw [hdrop] at hs
    rw [hta]
    have hnode := W.node k
    have hself := W.self
    have hlo := W.lo
    have hld := W.ld
    have hN := fun (HX : AHeap) (kX : Keeps H1 HX) (r : Option (AV × AHeap)) => norm_runs f (W.keeps kX) D.gok sf ss (by rcases sr with h | h <;> omega) (r := r)
    rw [simF_cons, ← hn] at hs
    obtain ⟨es, c, fm, om, im, dm⟩ := M
    have lka := im.look (ndF ns1 k).a
    have lkb := im.look (ndF ns1 k).b
    have lkc := im.look (ndF ns1 k).c
    rw [← dm] at lka lkb lkc
    obtain ⟨x, hx⟩ : ∃ x, x = ndF ns1 k := ⟨_, rfl⟩
    rw [← hx] at hnode lka lkb lkc
    have hcs : n.cs = [.int .i64 x.op, .int .i64 x.sort, .int .i64 (d x.a), .int .i64 (d x.b), .int .i64 (d x.c), .int .i64 x.p, .int .i64 x.q, .int .i64 x.vw, u x.vl, u x.vh, .str x.name] := by rw [hn, ← hx]; rfl
    simp only [hcs] at hN
    simp only [Nd.parts'] at hnode
    obtain ⟨HX, hX⟩ : ∃ HX, HX = ((((H1.new (.cells [.int .i64 0, .int .i64 0, .int .i64 0, .int .i64 0, .int .i64 0, .int .i64 0, .int .i64 0, .int .i64 0, u 0#64, u 0#64, .str .empty])).set H1.size (.cells [.int .i64 x.op, .int .i64 x.sort, .int .i64 x.a, .int .i64 x.b, .int .i64 x.c, .int .i64 x.p, .int .i64 x.q, .int .i64 x.vw, u x.vl, u x.vh, .str x.name])).set H1.size (.cells [.int .i64 x.op, .int .i64 x.sort, .int .i64 (d x.a), .int .i64 x.b, .int .i64 x.c, .int .i64 x.p, .int .i64 x.q, .int .i64 x.vw, u x.vl, u x.vh, .str x.name])).set H1.size (.cells [.int .i64 x.op, .int .i64 x.sort, .int .i64 (d x.a), .int .i64 (d x.b), .int .i64 x.c, .int .i64 x.p, .int .i64 x.q, .int .i64 x.vw, u x.vl, u x.vh, .str x.name])).set H1.size (.cells [.int .i64 x.op, .int .i64 x.sort, .int .i64 (d x.a), .int .i64 (d x.b), .int .i64 (d x.c), .int .i64 x.p, .int .i64 x.q, .int .i64 x.vw, u x.vl, u x.vh, .str x.name]) := ⟨_, rfl⟩
    have kX : Keeps H1 HX := by rw [hX]; ((repeat (first | exact Keeps.refl _ | assumption | refine Keeps.new' ?_ _ | refine Keeps.set ?_ ?_ _)) <;> (first | assumption | (simp; done) | (simp; omega)))
    have obX : HX.obj H1.size = (.cells [.int .i64 x.op, .int .i64 x.sort, .int .i64 (d x.a), .int .i64 (d x.b), .int .i64 (d x.c), .int .i64 x.p, .int .i64 x.q, .int .i64 x.vw, u x.vl, u x.vh, .str x.name]) := by rw [hX]; simp
    have lX : H1.size < HX.size := by rw [hX]; simp
    have WX := W.keeps kX
    have selfX := WX.self
    have loX := WX.lo
    have ldX := WX.ld
    obtain ⟨H3, F3, ns3, id3, e3, hA, W3, k3, n3, ok, bad⟩ := hN HX kX _ rfl
    have hld' : ∀ ev : Env, ev 8 = some (.ptr w 0) → ev 65 = some (.ptr w 1) → markLd [3, 7, 801, 997, 1008] ev (.tmp 65) (.map dn) = true := fun ev q1 q2 => markLd_one (s := 8) (d := 1) (o := w) (off := 0) (by rfl) (by rfl) q1 q2 (by rfl)
    have hcl' : ∀ ev : Env, ev 8 = some (.ptr w 0) → markCl [3, 7, 801, 997, 1008] ev HX H3 = true := fun ev q1 => markCl_one (s := 8) (d := 1) (o := w) (off := 0) (by rfl) (by rfl) q1 (by rw [W3.self, selfX]; rfl)
    have hdF : dn ∉ w :: F1 := fun hp => by
      rcases List.mem_cons.1 hp with hp | hp
      · exact W.ne hp.symm
      · exact (W.off dn hp).2 rfl
    have om3 : H3.obj dn = .map (.one (.i .i64)) es c := by rw [k3.obj dn ldX hdF, kX.obj dn hld, om]
    obtain ⟨es', c', hup, im'⟩ := im.updM k id3 H3 dn c om3
    have hX3 := kX.size
    have hk1 := k1.size
    have nn3 : ∀ p, p ∈ F3 → p ∈ F ∨ H0.size ≤ p := fun p hp => by
      rcases n3 p hp with h | h
      · exact n1 p h
      · exact .inr (by omega)
    obtain ⟨H4, hH4⟩ : ∃ H4, H4 = H3.set dn (.map (.one (.i .i64)) es' c') := ⟨_, rfl⟩
    have k4 : Fr [dn] H3 H4 := by rw [hH4]; exact (Fr.refl _ H3).set (.inl (by simp)) _
    have W4 : WG H4 w dn g most ns3 F3 e3 := ⟨by rw [k4.obj w W3.lo (by simpa using W.ne)]; exact W3.self, k4.lt W3.lo, k4.lt W3.ld, W3.G.frame k4 fun p hp => by simpa using (W3.off p hp).2, W3.off, W3.ne⟩
    have kf : Fr F H0 H4 := ((frF (B := H3) n1 k1 ((kX.fr _).trans k3 fun p hp => .inl hp))).trans k4 fun p hp => by
      simp at hp; subst hp; exact .inr hdn
    have M4 : MapAt H4 dn (fun y => if y = k then id3 else d y) := ⟨es', c', _, by rw [hH4]; simp, im', fun y => by
      by_cases c : y = k
      · simp only [c, if_true]; rfl
      · simp only [c, if_false]; exact dm y⟩
    have self4 := W4.self
    have lo4 := W4.lo
    rw [← hH4] at hup
    simp (maxDischargeDepth := 40) (maxSteps := 1000000) [-updM_map, hfr, f29, e0, e8, e27, e28, c1, a1, a2, hnode, hself, hlo, hld, om, lka, lkb, lkc, ← hX]
    simp (maxDischargeDepth := 40) (maxSteps := 1000000) [-updM_map, hfr, e8, obX, selfX, hld', hcl', hA, hup, self4]
    by_cases h0 : (normF most f ns1 n).2.2 = 0
    · obtain ⟨rfl, rfl, rfl⟩ := ok h0
      rw [if_pos h0] at hs
      simp (maxDischargeDepth := 40) [f29, w1]
      have D3 := sd h0
      exact ⟨_, _, F3, W4, M4, ⟨D3.more, D3.gok, D3.zero, fun y hy => D3.did y (by simpa using hy)⟩, hs, kf, nn3⟩
    · have he := bad h0
      have he3 : ¬ e3 = 0 := by rw [he]; exact h0
      rw [if_neg h0] at hs
      simp (maxDischargeDepth := 40) [hfr, e8, self4, he3]
      exact ⟨e3, he3, by rw [hs]; exact he, rfl, ns3, F3, W4, kf, nn3⟩
  · rintro e1 H1 hfr ⟨f29, ns1, d, F1, W, M, D, hs, k1, n1⟩
    simp [hfr, f29, e28]
    refine ⟨ns1, d, F1, W, M, ?_, k1, n1⟩
    rw [hs, List.drop_length]
    rfl
theorem GT.back2 {H' : AHeap} {js : List Nd} {F' : List Nat} (g0 : GT H0 g most ns F) (g1 : GT H' g most js F') (k : Fr F H0 H') (a b : Int) :
    ∃ D, back [] H0 (.tup [.int .i64 a, .int .i64 b]) H' = (.tup [.int .i64 a, .int .i64 b], D) ∧ GT D g most js F' ∧ Fr F H0 D := by
  by_cases hs : Shut H0 H'
  · rw [back_nil (by simp) hs]
    obtain ⟨g2, -⟩ := g0.cut g1 hs
    exact ⟨_, rfl, g2, k.cutF⟩
  · rw [back_not hs]
    exact ⟨_, rfl, g1, k⟩
theorem simplify_run (G : GT H0 g most ns F) (gk : Gok ns) {id : Int} {f : Nat} (hf : most + 2 ≤ f) {r : Option (AV × AHeap)} (hr : R Zw [.ptr g 0, .int .i64 id] H0 = r) :
    ∃ H' F' ns', r = some (.tup [.int .i64 (simT most f ns id).2.1, .int .i64 (simT most f ns id).2.2], H') ∧ GT H' g most ns' F' ∧ Fr F H0 H' ∧ (∀ p, p ∈ F' → p ∈ F ∨ H0.size ≤ p) ∧ ((simT most f ns id).2.2 = 0 → ns' = (simT most f ns id).1) := by
  rw [Zg9] at hr
  have hnode : ∀ id, R Zm [.ptr g 0, .int .i64 id] H0 = some (.tup [.agg (ndF ns id).cs, .bool (nodeS ns id).isSome], H0) := fun id => by
    obtain ⟨o1, o2, o3, t, -⟩ := G
    exact node_run t
  have hn := hnode id
  have hF : ∀ p, p ∈ F → p < H0.size := fun p hp => G.ltF hp
  obtain ⟨x, hx⟩ : ∃ x, x = ndF ns id := ⟨_, rfl⟩
  rw [← hx] at hn
  simp only [Nd.parts'] at hn
  by_cases c : id < 1 ∨ (ns.length : Int) < id
  · have hno : nodeS ns id = none := by
      unfold nodeS
      by_cases c1 : id < 1
      · first | rw [if_pos c1] | rw [if_pos (Or.inl c1)] | simp [c1]
      · first | (rw [if_neg (by omega)]; exact List.getElem?_eq_none (by omega)) | (rw [if_pos (by omega)])
    rw [hno] at hn
    have hs : simT most f ns id = (ns, 0, 70) := by unfold simT; rw [if_pos c]
    rw [hs]
    simp (maxDischargeDepth := 40) [Zev, hn] at hr
    exact ⟨H0, F, ns, hr.symm, G, Fr.refl _ _, fun p hp => .inl hp, fun h => by cases h⟩
  · obtain ⟨i, hi, hni⟩ := nd_at (ns := ns) (k := id) (by omega) (by omega)
    have hyes : (nodeS ns id).isSome = true := by
      unfold nodeS
      rw [if_neg (by omega), show (id - 1).toNat = i by omega, hni]
      rfl
    rw [hyes] at hn
    obtain ⟨v, hc, hv⟩ := cone_run2 (G.keeps (((((Keeps.refl H0).new' (.cells Nd.zero.cs)).set (o := H0.size) (Nat.le_refl _) (.cells x.cs)).new' (.map (.one (.i .i64)) [] 0)).new' (.cells [.ptr g 0, .map (H0.size + 1), .int .i64 0]))) (id := id)
    have hlen := (hv H0).len
    simp only [Nd.parts'] at hc
    simp (maxDischargeDepth := 40) [Nd.zero] at hc
    obtain ⟨HX, hX⟩ : ∃ HX, HX = (((H0.new (.cells [.int .i64 0, .int .i64 0, .int .i64 0, .int .i64 0, .int .i64 0, .int .i64 0, .int .i64 0, .int .i64 0, u 0#64, u 0#64, .str .empty])).set H0.size (.cells [.int .i64 x.op, .int .i64 x.sort, .int .i64 x.a, .int .i64 x.b, .int .i64 x.c, .int .i64 x.p, .int .i64 x.q, .int .i64 x.vw, u x.vl, u x.vh, .str x.name])).new (.map (.one (.i .i64)) [] 0)).new (.cells [.ptr g 0, .map (H0.size + 1), .int .i64 0]) := ⟨_, rfl⟩
    have kX : Keeps H0 HX := by rw [hX]; ((repeat (first | exact Keeps.refl _ | assumption | refine Keeps.new' ?_ _ | refine Keeps.set ?_ ?_ _)) <;> (first | assumption | (simp; done) | (simp; omega)))
    have sX : HX.size = H0.size + 3 := by rw [hX]; simp
    have hmap : HX.obj (H0.size + 1) = .map (.one (.i .i64)) [] 0 := by rw [hX]; simp
    have WX : WG HX (H0.size + 1 + 1) (H0.size + 1) g most ns F 0 := ⟨by rw [hX]; simp, by omega, by omega, G.keeps kX, fun p hp => by have := hF p hp; omega, by omega⟩
    have hcl : (coneT ns id).length ≤ 100000 := by
      have hlim := G.lim
      unfold coneT
      rw [if_neg (by omega)]
      have := outT_len (coneM ns id.toNat) (id.toNat + 1)
      omega
    rw [← hX] at hc
    simp (maxDischargeDepth := 40) [Zev, hn, ← hX, hc, hlen] at hr
    generalize hL : loopL _ _ _ _ _ _ = q at hr
    obtain ⟨xx, ev, H3, rfl, hx3, fr⟩ := sim_loop (by omega) (by omega) WX hF kX gk (by omega) (by omega) hf hmap hv hcl hL (by simp) (by simp) (by simp) (by simp) (by simp)
    rcases hx3 with ⟨rfl, ns1, d, F1, W1, ⟨es, c2, fm, om, im, dm⟩, hsim, kf, n1⟩ | ⟨rfl, e, ns1, F1, he, hes, f4, f5, W1, kf, n1⟩
    · have hs : simT most f ns id = (ns1, d id, 0) := by
        unfold simT
        rw [if_neg (by omega), hsim]
        rfl
      have lk := im.look id
      rw [← dm] at lk
      rw [hs]
      simp (maxDischargeDepth := 40) [fr, W1.self, om, lk] at hr
      obtain ⟨D, hD, g4, k4⟩ := G.back2 W1.G kf (d id) 0
      rw [hD] at hr
      exact ⟨D, F1, ns1, hr.symm, g4, k4, n1, fun _ => rfl⟩
    · have hs : simT most f ns id = ((simF most f (coneT ns id) ns fun _ => 0).1, 0, e) := by
        unfold simT
        rw [if_neg (by omega), if_neg (by rw [← hes]; exact he), ← hes]
      rw [hs]
      simp (maxDischargeDepth := 40) [f4, f5] at hr
      obtain ⟨D, hD, g4, k4⟩ := G.back2 W1.G kf 0 e
      rw [hD] at hr
      exact ⟨D, F1, ns1, hr.symm, g4, k4, n1, fun h => absurd h he⟩
end
end Go.Proofs.Ytiobohfiaapgeaa
end
section
namespace Go.Proofs.Ytiobohfiaapgeaa
set_option maxRecDepth 100000
def maskV (s : Int) (k : Int) : Vl := ⟨s, mkN (BitVec.ofInt 64 k &&& ((1#64 <<< (max s 1).toNat) - 1#64)) 0#64⟩
def nthL : List Nd → Int → List Nm
  | [], _ => []
  | n :: l, k => ⟨n.name, maskV n.sort k⟩ :: nthL l (k.fdiv (2 ^ (min (max n.sort 1).toNat 64)))
def vnodes (ns : List Nd) : List Nd := (varsT ns ns.length).map fun x => ndF ns x
theorem mask_bits : ∀ w : Fin 10, ∀ i : Fin 64, ((1#64 <<< (w : Nat)) - 1#64).getLsbD i = decide ((i : Nat) < (w : Nat)) := by decide
theorem maskV_ok {s k : Int} (h0 : 0 ≤ s) (h9 : s ≤ 9) : (maskV s k).ok = true := by
  unfold Vl.ok maskV rightF
  simp only [lo_mk, hi_mk]
  obtain ⟨m, hm⟩ : ∃ m : Nat, (max s 1).toNat = m := ⟨_, rfl⟩
  rw [hm]
  by_cases c : s = 0
  · rw [if_pos c]
    have : m = 1 := by omega
    subst this
    refine decide_eq_true ⟨?_, by first | rfl | trivial⟩
    rw [BitVec.le_def, BitVec.toNat_and]
    exact Nat.and_le_right
  · rw [if_neg c, Bool.and_eq_true]
    refine ⟨decide_eq_true (by omega), decide_eq_true ?_⟩
    have hm2 : m = s.toNat := by omega
    have h10 : m < 10 := by omega
    rw [← hm2]
    apply BitVec.eq_of_getLsbD_eq
    intro i hi'
    rw [BitVec.getLsbD_and, maskN_bit m i (by omega)]
    by_cases ci : i < m
    · simp [ci]
    · have hb := mask_bits ⟨m, h10⟩
      simp only at hb
      have hz : (mkN (BitVec.ofInt 64 k &&& ((1#64 <<< m) - 1#64)) 0#64).getLsbD i = false := by
        by_cases c64 : i < 64
        · have h1 := congrArg (fun x : BitVec 64 => x.getLsbD i) (lo_mk (BitVec.ofInt 64 k &&& ((1#64 <<< m) - 1#64)) 0#64)
          simp only [BitVec.getLsbD_and] at h1
          have h2 := hb ⟨i, c64⟩
          simp only at h2
          rw [h2, decide_eq_false ci, Bool.and_false] at h1
          simpa [lo, c64] using h1
        · have h1 := congrArg (fun x : BitVec 64 => x.getLsbD (i - 64)) (hi_mk (BitVec.ofInt 64 k &&& ((1#64 <<< m) - 1#64)) 0#64)
          have e : 64 + (i - 64) = i := by omega
          have e2 : i - 64 < 64 := by omega
          simpa [hi, e, e2] using h1
      rw [hz]
      rfl
theorem nthL_mem : ∀ {l : List Nd} {k : Int} {m : Nm}, m ∈ nthL l k → ∃ n k', n ∈ l ∧ m = ⟨n.name, maskV n.sort k'⟩
  | [], _, _, h => by cases h
  | n :: l, k, m, h => by
    unfold nthL at h
    rcases List.mem_cons.1 h with rfl | h
    · exact ⟨n, k, by simp, rfl⟩
    · obtain ⟨n', k', h1, h2⟩ := nthL_mem h
      exact ⟨n', k', by simp [h1], h2⟩
theorem nthL_has : ∀ {l : List Nd} (k : Int) {n : Nd}, n ∈ l → ∃ m, m ∈ nthL l k ∧ m.name = n.name
  | [], _, _, h => by cases h
  | a :: l, k, n, h => by
    unfold nthL
    rcases List.mem_cons.1 h with rfl | h
    · exact ⟨_, List.mem_cons_self .., rfl⟩
    · obtain ⟨m, h1, h2⟩ := nthL_has (k.fdiv (2 ^ (min (max a.sort 1).toNat 64))) h
      exact ⟨m, by simp [h1], h2⟩
theorem nthL_len : ∀ (l : List Nd) (k : Int), (nthL l k).length = l.length
  | [], _ => rfl
  | n :: l, k => by unfold nthL; simp [nthL_len l]
theorem vnodes_mem {ns : List Nd} {n : Nd} : n ∈ vnodes ns ↔ n ∈ ns ∧ n.op = 2 := by
  unfold vnodes
  rw [List.mem_map]
  constructor
  · rintro ⟨x, hx, rfl⟩
    obtain ⟨j, rfl, hj, hj2⟩ := mem_vars hx
    obtain ⟨i, hi, hni⟩ := nd_at (ns := ns) (k := (j : Int) + 1) (by omega) (by omega)
    have : i = j := by omega
    subst this
    rw [List.getD_eq_getElem?_getD, hni] at hj2
    exact ⟨List.mem_of_getElem? hni, hj2⟩
  · rintro ⟨hn, h2⟩
    obtain ⟨j, hj, hjn⟩ := List.mem_iff_getElem.1 hn
    have hjn' : ns[j]? = some n := by rw [List.getElem?_eq_getElem hj, hjn]
    refine ⟨(j : Int) + 1, ?_, ?_⟩
    · unfold varsT
      simp only [List.mem_map, List.mem_filter, List.mem_range, decide_eq_true_eq]
      exact ⟨j, ⟨hj, by rw [List.getD_eq_getElem?_getD, hjn']; exact h2⟩, rfl⟩
    · obtain ⟨i, hi, hni⟩ := nd_at (ns := ns) (k := (j : Int) + 1) (by omega) (by omega)
      have : i = j := by omega
      subst this
      rw [hjn'] at hni
      cases hni
      rfl
theorem nth_fit {ns : List Nd} (g : Gok ns) {k : Int} (hs : ∀ n, n ∈ vnodes ns → n.sort ≤ 9) : AllFit (lookL (nthL (vnodes ns) k)) ns := by
  intro i n hn h2
  have hmem : n ∈ vnodes ns := vnodes_mem.2 ⟨List.mem_of_getElem? hn, h2⟩
  unfold varFit lookL
  cases hf : (nthL (vnodes ns) k).find? (fun m => decide (m.name = n.name)) with
  | none =>
    exfalso
    obtain ⟨m, hm, hmn⟩ := nthL_has k hmem
    have := List.find?_eq_none.1 hf m hm
    simp [hmn] at this
  | some m =>
    have hp := List.find?_some hf
    have hm := List.mem_of_find?_eq_some hf
    obtain ⟨n', k', hn', rfl⟩ := nthL_mem hm
    obtain ⟨h3, h4⟩ := vnodes_mem.1 hn'
    obtain ⟨j, hj, hjn⟩ := List.mem_iff_getElem.1 h3
    have hjn' : ns[j]? = some n' := by rw [List.getElem?_eq_getElem hj, hjn]
    have e := g.same hjn' hn h4 h2 (by simpa using hp)
    subst e
    rw [hjn'] at hn
    cases hn
    have hso := g.sort h3 h4
    unfold isSort at hso
    have hso := of_decide_eq_true hso
    simp only [Option.map_some, Bool.and_eq_true, decide_eq_true_eq]
    exact ⟨maskV_ok hso.1 (hs _ hmem), rfl⟩
end Go.Proofs.Ytiobohfiaapgeaa
end
section
namespace Go.Proofs.Ytiobohfiaapgeaa
set_option maxRecDepth 100000
set_option maxHeartbeats 4000000
theorem len_run {H : AHeap} {g : Nat} {most : Int} {ns : List Nd} {o1 o2 o3 : Nat} (h : TG H g most ns o1 o2 o3) : R Zbu [.ptr g 0] H = some (.int .i64 ns.length, H) := by
  rw [Zgg]
  simp (maxDischargeDepth := 40) [Zey, h.og, slv_len]
end Go.Proofs.Ytiobohfiaapgeaa
end
section
namespace Go.Proofs.Ytiobohfiaapgeaa
set_option maxRecDepth 100000
set_option maxHeartbeats 4000000
theorem made7_loop {H0 H : AHeap} {g : Nat} {l : List Nd} {F : List Nat} (hl : l.length ≤ 60) (G0 : GT H g 4096 [] F) (k0 : Keeps H0 H) (f0 : ∀ p, p ∈ F → H0.size ≤ p) {e : Env} {r : Rn} (hL : loopL Try.prog KT R Zc7 e H = r)
    (e0 : e 0 = some (NL l)) (e4 : e 4 = some (.ptr g 0)) (e5 : e 5 = some (.int .i64 0)) :
    ∃ y e' H', r = some (y, e', H') ∧ (Keeps H0 H' ∧ ((y = .exit 0 ∧ ∃ ns F, GT H' g 4096 ns F ∧ (∀ p, p ∈ F → H0.size ≤ p) ∧ Gok ns ∧ ns.length ≤ l.length) ∨ (y = .ret ∧ e' 2 = some .nilp ∧ e' 3 = some (.bool false)))) ∧ ∀ t, t ∉ defs Zc7 → e' t = e t := by
  refine loop_count Zc7.eq_1 hL l.length (fun i e1 H1 => e1 5 = some (.int .i64 i) ∧ Keeps H0 H1 ∧ ∃ ns F, GT H1 g 4096 ns F ∧ (∀ p, p ∈ F → H0.size ≤ p) ∧ Gok ns ∧ ns.length ≤ i) _ 0 (by omega) ⟨e5, k0, [], F, G0, f0, Gok.nil, Nat.le_refl _⟩ ?_ ?_
  · rintro i f H1 hf - hi ⟨f5, k1, ns, F1, G1, f1, gok, hnl⟩
    have w1 : IntKind.i64.wrap ((i : Int) + 1) = (i : Int) + 1 := i64w (by omega) (by omega)
    have c1 : (i : Int) < l.length := by omega
    obtain ⟨n, hn⟩ : ∃ n, l[i]? = some n := ⟨l[i], by simp [hi]⟩
    have hat := flat_at hn
    have hfl := flat_len l
    have hle : i * 11 + 11 ≤ l.length * 11 := by omega
    have hle10 : i * 11 + 10 < l.length * 11 := by omega
    have hat10 : (flat l)[i * 11 + 8 + 2]? = some (.str n.name) := by
      rw [show i * 11 + 8 + 2 = i * 11 + 10 from by omega, flat_get hn (by omega)]; rfl
    by_cases c2 : (60 : Int) < n.name.size
    · simp (maxDischargeDepth := 40) [hf, NL, e0, f5, c1, hat10, c2]
      exact k1
    · simp (maxDischargeDepth := 40) [hf, NL, e0, e4, f5, c1, hfl, hle, hat, hat10, c2]
      generalize hN : R Zo _ _ = qq
      obtain ⟨js, x, er, hmk⟩ : ∃ js x er, makT 4096 ns n = (js, x, er) := ⟨_, _, _, rfl⟩
      have gk : Gok js := by have := gok.make (most := 4096) (n := n); rw [hmk] at this; exact this
      have hjl : js.length ≤ ns.length + 1 := by have := makT_len (most := 4096) (ns := ns) (n := n); rw [hmk] at this; exact this
      obtain ⟨H2, F2, rfl, g2, m2⟩ := GvT.go G1 hmk hN
      simp (maxDischargeDepth := 40) [f5, w1]
      have hsz := k1.size
      refine ⟨m2.fr.keeps k1 f1, js, F2, g2, fun p hp => ?_, gk, by omega⟩
      rcases m2.new p hp with h | h
      · exact f1 p h
      · omega
  · rintro f H1 hf ⟨f5, k1, ns, F1, G1, f1, gok, hnl⟩
    simp [hf, NL, f5, e0]
    exact ⟨k1, ns, F1, G1, f1, gok, by omega⟩
theorem made7_run {H : AHeap} {l : List Nd} {r : Option (AV × AHeap)} (h : R Zdo [NL l] H = r) :
    (∃ p, r = some (.tup [p, .bool false], H)) ∨ ∃ g ns F H', r = some (.tup [.ptr g 0, .bool (decide (0 < ns.length))], H') ∧ GT H' g 4096 ns F ∧ Keeps H H' ∧ (∀ p, p ∈ F → H.size ≤ p) ∧ Gok ns ∧ ns.length ≤ 60 := by
  rw [Zhs] at h
  by_cases c1 : (60 : Int) < l.length
  · simp (maxDischargeDepth := 40) [Zfh, NL, c1] at h
    exact .inl ⟨_, h.symm⟩
  · have hl : l.length ≤ 60 := by omega
    simp (maxDischargeDepth := 40) [Zfh, NL, c1] at h
    generalize hN : R Ze0 _ _ = q at h
    obtain ⟨H1, g, F1, rfl, g1, k1, f1⟩ := tnew_run hN
    rw [show min (max (4096 : Int) 1) 4096 = 4096 from by decide] at g1
    simp (maxDischargeDepth := 40) at h
    generalize hL : loopL _ _ _ _ _ _ = q2 at h
    obtain ⟨y, e3, H3, rfl, ⟨k3, hy⟩, fr⟩ := made7_loop hl g1 k1 f1 hL (by simp [NL]) (by simp) (by simp)
    rcases hy with ⟨rfl, ns, F3, G3, f3, gok, hnl⟩ | ⟨rfl, a2, a3⟩
    · right
      have hl3 : R Zbu [.ptr g 0] H3 = some (.int .i64 ns.length, H3) := by
        obtain ⟨p1, p2, p3, t, -⟩ := G3
        exact len_run t
      simp (maxDischargeDepth := 40) [fr, hl3] at h
      have hg : H.size ≤ g := f3 g G3.mem
      rw [back_open (by simp [closed]; omega)] at h
      exact ⟨g, ns, F3, H3, h.symm, G3, k3, f3, gok, by omega⟩
    · left
      simp (maxDischargeDepth := 40) [a2, a3, k3] at h
      exact ⟨_, h.symm⟩
def widthF (most : Int) : List Nd → Int → Int
  | [], a => a
  | n :: l, a => if a ≤ most then widthF most l (a + max n.sort 1) else a
theorem widthF_cons {most : Int} {n : Nd} {l : List Nd} {a : Int} : widthF most (n :: l) a = if a ≤ most then widthF most l (a + max n.sort 1) else a := rfl
theorem widthF_few {most : Int} : ∀ (l : List Nd) (a : Int), 0 ≤ a → widthF most l a ≤ most → a ≤ widthF most l a ∧ ∀ n, n ∈ l → n.sort ≤ most
  | [], a, _, h => ⟨Int.le_refl _, fun n hn => by cases hn⟩
  | n :: l, a, h0, h => by
    unfold widthF at h ⊢
    by_cases c : a ≤ most
    · rw [if_pos c] at h ⊢
      obtain ⟨h1, h2⟩ := widthF_few l (a + max n.sort 1) (by omega) h
      refine ⟨by omega, fun m hm => ?_⟩
      rcases List.mem_cons.1 hm with rfl | hm
      · omega
      · exact h2 m hm
    · rw [if_neg c] at h
      omega
theorem nd_fld {H : AHeap} {v : AV} {l : List Nd} (h : Reads H v 11 l.length (flat l)) {i : Nat} {n : Nd} (hn : l[i]? = some n) :
    (∃ o off, aindexAddr Try.prog Zn v (i : Int) = some (.ptr o off) ∧ aload Try.prog H Zd (.ptr o (off + 1)) = some (.int .i64 n.sort) ∧ aload Try.prog H Zce (.ptr o (off + 10)) = some (.str n.name)) ∨
    (∃ cs off, aindexAddr Try.prog Zn v (i : Int) = some (.ptrl cs off) ∧ aload Try.prog H Zd (.ptrl cs (off + 1)) = some (.int .i64 n.sort) ∧ aload Try.prog H Zce (.ptrl cs (off + 10)) = some (.str n.name)) := by
  have hi := (List.getElem?_eq_some_iff.1 hn).1
  have ha := Reads.addr (P := Try.prog) h (t := Zn) (by simp) hi
  have f1 := Reads.fld (P := Try.prog) h (t := Zd) (by simp) hi (j := 1) (by omega)
  have f2 := Reads.fld (P := Try.prog) h (t := Zce) (by simp) hi (j := 10) (by omega)
  rw [flat_get hn (by omega)] at f1 f2
  rw [ha]
  generalize ixp v 11 i = p at *
  cases p <;> first | (simp only at f1; cases f1; done) | skip
  · exact .inl ⟨_, _, rfl, f1, f2⟩
  · exact .inr ⟨_, _, rfl, f1, f2⟩
theorem nd_fldA {v : AV} {l : List Nd} (h : ∀ H, Reads H v 11 l.length (flat l)) {i : Nat} {n : Nd} (hn : l[i]? = some n) :
    (∃ o off, aindexAddr Try.prog Zn v (i : Int) = some (.ptr o off) ∧ (∀ H, aload Try.prog H Zd (.ptr o (off + 1)) = some (.int .i64 n.sort)) ∧ ∀ H, aload Try.prog H Zce (.ptr o (off + 10)) = some (.str n.name)) ∨
    (∃ cs off, aindexAddr Try.prog Zn v (i : Int) = some (.ptrl cs off) ∧ (∀ H, aload Try.prog H Zd (.ptrl cs (off + 1)) = some (.int .i64 n.sort)) ∧ ∀ H, aload Try.prog H Zce (.ptrl cs (off + 10)) = some (.str n.name)) := by
  have hi := (List.getElem?_eq_some_iff.1 hn).1
  have ha := fun H => Reads.addr (P := Try.prog) (h H) (t := Zn) (by simp) hi
  have f1 := fun H => Reads.fld (P := Try.prog) (h H) (t := Zd) (by simp) hi (j := 1) (by omega)
  have f2 := fun H => Reads.fld (P := Try.prog) (h H) (t := Zce) (by simp) hi (j := 10) (by omega)
  simp only [flat_get hn (show 1 < 11 by omega), flat_get hn (show 10 < 11 by omega)] at f1 f2
  have H0 : AHeap := ⟨0, fun _ => .dead, fun _ => default⟩
  rw [ha H0]
  clear ha
  generalize ixp v 11 i = p at *
  cases p <;> first | (have := f1 H0; simp only at this; cases this; done) | skip
  · exact .inl ⟨_, _, rfl, f1, f2⟩
  · exact .inr ⟨_, _, rfl, f1, f2⟩
theorem width_loop {N : Int} {H : AHeap} {v : AV} {l : List Nd} (hv : Reads H v 11 l.length (flat l)) (hl : l.length ≤ 5000) (hs : ∀ n, n ∈ l → 0 ≤ n.sort ∧ n.sort ≤ 128) {e : Env} {r : Rn} (hL : loopL Try.prog KT R Zc3 e H = r)
    (e0 : e 0 = some v) (e1 : e 1 = some (.int .i64 N)) (e5 : e 5 = some (.int .i64 0)) (e6 : e 6 = some (.int .i64 0)) :
    ∃ y e' H', r = some (y, e', H') ∧ (H' = H ∧ y = .exit 0 ∧ e' 5 = some (.int .i64 (widthF N l 0))) ∧ ∀ t, t ∉ defs Zc3 → e' t = e t := by
  have hlen0 := hv.len
  refine loop_rule Zc3.eq_1 hL (fun m e1 H1 => ∃ i, i ≤ l.length ∧ m = l.length - i ∧ H1 = H ∧ e1 6 = some (.int .i64 i) ∧ ∃ a, e1 5 = some (.int .i64 a) ∧ 0 ≤ a ∧ a ≤ i * 128 ∧ widthF N l 0 = widthF N (l.drop i) a) _ l.length ⟨0, by omega, by omega, rfl, e6, 0, e5, by simp, by simp, by simp⟩ ?_
  rintro m f H1 hf ⟨i, hi, rfl, rfl, f6, a, f5, a0, a1, ha⟩
  have w1 : IntKind.i64.wrap ((i : Int) + 1) = (i : Int) + 1 := i64w (by omega) (by omega)
  by_cases c1 : i < l.length
  · have c1' : (i : Int) < l.length := by omega
    obtain ⟨n, hn⟩ : ∃ n, l[i]? = some n := ⟨l[i], by simp [c1]⟩
    obtain ⟨s0, s1⟩ := hs n (List.mem_of_getElem? hn)
    have hdrop : l.drop i = n :: l.drop (i + 1) := by
      rw [List.drop_eq_getElem_cons c1]
      rw [List.getElem?_eq_getElem c1] at hn
      cases hn
      rfl
    rw [hdrop, widthF_cons] at ha
    by_cases c2 : a ≤ N
    · rw [if_pos c2] at ha
      obtain ⟨mx, hmx⟩ : ∃ mx, mx = max n.sort 1 := ⟨_, rfl⟩
      have m0 : 0 ≤ mx ∧ mx ≤ 128 := by omega
      have w2 : IntKind.i64.wrap (a + mx) = a + mx := i64w (by omega) (by omega)
      rw [← hmx] at ha
      rcases nd_fld hv hn with ⟨o, off, q1, q2, -⟩ | ⟨cs, off, q1, q2, -⟩ <;>
      · simp (maxDischargeDepth := 40) [hf, e0, e1, f5, f6, c1', c2, hlen0, q1, q2, w1, ← hmx, w2]
        exact ⟨l.length - (i + 1), by omega, i + 1, by omega, rfl, by simp, by omega, by omega, ha⟩
    · rw [if_neg c2] at ha
      simp (maxDischargeDepth := 40) [hf, e0, e1, f5, f6, c1', c2, hlen0]
      exact ha.symm
  · have c1' : ¬ (i : Int) < l.length := by omega
    simp (maxDischargeDepth := 40) [hf, e0, f5, f6, c1', hlen0]
    rw [ha, List.drop_eq_nil_of_le (by omega)]
    rfl
theorem width_run {N : Int} {H : AHeap} {v : AV} {l : List Nd} (hv : Reads H v 11 l.length (flat l)) (hl : l.length ≤ 5000) (hs : ∀ n, n ∈ l → 0 ≤ n.sort ∧ n.sort ≤ 128) : R Zc1 [v, .int .i64 N] H = some (.int .i64 (widthF N l 0), H) := by
  generalize hr : R Zc1 [v, .int .i64 N] H = r
  rw [Zhg] at hr
  simp (maxDischargeDepth := 40) [Zf6] at hr
  generalize hL : loopL _ _ _ _ _ _ = q at hr
  obtain ⟨y, e1, H1, rfl, ⟨rfl, rfl, f5⟩, fr⟩ := width_loop (N := N) hv hl hs hL (by simp) (by simp) (by simp) (by simp)
  simp [f5] at hr
  exact hr.symm
theorem back_outB {H H' : AHeap} {v : AV} {sz n : Nat} {cs : List AV} {b : Bool} (k : Keeps H H') (h : OutC H H' v sz n cs) (hcl : closedL H.size cs = true) : ∃ w, back [0, 0] H (.tup [v, .bool b]) H' = (.tup [w, .bool b], H) ∧ ∀ H2, Reads H2 w sz n cs := by
  obtain ⟨w, h1, h2, h3⟩ := frz_out h hcl
  have he : frz H' H.size [0, 0] (.tup [v, .bool b]) = .tup [w, .bool b] := by rw [frz_tup]; simp only [List.map_cons, List.map_nil, h1]; rfl
  exact ⟨w, by rw [back_cons (by rw [he]; simp [h2]) k.shut, cut_keeps k, he], h3⟩
theorem closed_flat {n : Nat} : ∀ l : List Nd, closedL n (flat l) = true
  | [] => rfl
  | x :: l => by
    rw [show flat (x :: l) = x.cs ++ flat l from rfl, closedL_append, closed_flat l]
    simp [Nd.cs]
theorem few_loop {H0 H : AHeap} {g : Nat} {most : Int} {ns : List Nd} {F : List Nat} (G : GT H0 g most ns F) (k0 : Keeps H0 H) {s : AV} {xs : List Int} (hs : ∀ H', RI H' s xs) (hx : xs.length ≤ 5000) {e : Env} {r : Rn} (hL : loopL Try.prog KT R Zde e H = r)
    (e0 : e 0 = some (.ptr g 0)) (e6 : e 6 = some .nils) (e7 : e 7 = some s) (e8 : e 8 = some (.int .i64 0)) :
    ∃ y e' H', r = some (y, e', H') ∧ (y = .exit 0 ∧ Keeps H0 H' ∧ ∃ w, e' 6 = some w ∧ OutC H0 H' w 11 xs.length (flat (xs.map (ndF ns)))) ∧ ∀ t, t ∉ defs Zde → e' t = e t := by
  have hlen := (hs H).len
  refine loop_count Zde.eq_1 hL xs.length (fun i e1 H1 => e1 8 = some (.int .i64 i) ∧ Keeps H0 H1 ∧ ∃ w, e1 6 = some w ∧ OutC H0 H1 w 11 i (flat ((xs.take i).map (ndF ns)))) _ 0 (by omega) ⟨e8, k0, .nils, e6, OutC.nils⟩ ?_ ?_
  · rintro i f H1 hf - hi ⟨f8, k, w, f6, hw⟩
    have w1 : IntKind.i64.wrap ((i : Int) + 1) = (i : Int) + 1 := i64w (by omega) (by omega)
    have c1 : (i : Int) < xs.length := by omega
    obtain ⟨a1, a2⟩ := loadi_of (hs H1) hi
    replace a2 := a2 H1 (Keeps.refl _)
    have ht : xs.take (i + 1) = xs.take i ++ [xs.getD i 0] := by rw [List.take_add_one]; simp [List.getD_eq_getElem?_getD, hi]
    rw [ht]
    obtain ⟨x, hx⟩ : ∃ x, x = xs.getD i 0 := ⟨_, rfl⟩
    rw [← hx] at a2 ⊢
    have hnode : R Zm [.ptr g 0, .int .i64 x] H1 = some (.tup [.agg (ndF ns x).cs, .bool (nodeS ns x).isSome], H1) := by
      obtain ⟨o1, o2, o3, t, -⟩ := G.keeps k
      exact node_run t
    rw [List.map_append, show flat ((xs.take i).map (ndF ns) ++ [x].map (ndF ns)) = flat ((xs.take i).map (ndF ns)) ++ (ndF ns x).cs by simp [flat]]
    obtain ⟨n, hn⟩ : ∃ n, n = ndF ns x := ⟨_, rfl⟩
    rw [← hn] at hnode ⊢
    simp only [Nd.parts'] at hnode ⊢
    simp (maxDischargeDepth := 40) [hf, e0, e7, f8, f6, hlen, c1, a1, a2, hnode]
    generalize hA : appU _ _ _ _ = q
    have kA : Keeps H1 ((H1.new (.cells [.int .i64 0, .int .i64 0, .int .i64 0, .int .i64 0, .int .i64 0, .int .i64 0, .int .i64 0, .int .i64 0, u 0#64, u 0#64, .str .empty])).set H1.size (.cells [.int .i64 n.op, .int .i64 n.sort, .int .i64 n.a, .int .i64 n.b, .int .i64 n.c, .int .i64 n.p, .int .i64 n.q, .int .i64 n.vw, u n.vl, u n.vh, .str n.name])) := by ((repeat (first | exact Keeps.refl _ | assumption | refine Keeps.new' ?_ _ | refine Keeps.set ?_ ?_ _)) <;> (first | assumption | (simp; done) | (simp; omega)))
    obtain ⟨v', H', rfl, o2, k2, -⟩ := (hw.keep kA).push (k.trans kA) hA (by rfl) (by rfl) (by omega) (by omega) (by omega) (by rfl)
    simp (maxDischargeDepth := 40) [f8, w1]
    rw [List.map_take] at o2
    exact ⟨k2, o2⟩
  · rintro f H1 hf ⟨f8, k, w, f6, hw⟩
    rw [List.take_of_length_le (Nat.le_refl _)] at hw
    simp [hf, e7, f8, hlen]
    exact ⟨k, w, f6, hw⟩
theorem vnodes_len (ns : List Nd) : (vnodes ns).length ≤ ns.length := by
  unfold vnodes
  rw [List.length_map]
  exact varsT_len ns ns.length
theorem few_run {N : Int} {H : AHeap} {g : Nat} {most : Int} {ns : List Nd} {F : List Nat} (G : GT H g most ns F) (gk : Gok ns) :
    ∃ w, R Zdc [.ptr g 0, .int .i64 N] H = some (.tup [w, .bool (decide (widthF N (vnodes ns) 0 ≤ N))], H) ∧ ∀ H', Reads H' w 11 (vnodes ns).length (flat (vnodes ns)) := by
  generalize hr : R Zdc [.ptr g 0, .int .i64 N] H = r
  have hlim := G.lim
  have hvl := varsT_len ns ns.length
  obtain ⟨v, hv, hvr⟩ := vars_run2 G
  have hlen := (hvr H).len
  rw [Zhz] at hr
  simp (maxDischargeDepth := 40) [Zgj, hv] at hr
  generalize hL : loopL _ _ _ _ _ _ = q at hr
  obtain ⟨y, e1, H1, rfl, ⟨rfl, k1, w, f6, hw⟩, fr⟩ := few_loop G (Keeps.refl H) hvr (by omega) hL (by simp) (by simp) (by simp) (by simp)
  have hvn : (varsT ns ns.length).map (ndF ns) = vnodes ns := rfl
  rw [hvn] at hw
  have hl2 : (varsT ns ns.length).length = (vnodes ns).length := by rw [← hvn, List.length_map]
  rw [hl2] at hw
  have hwd := width_run (N := N) hw.rd (by omega) (fun n hn => by
    obtain ⟨h1, h2⟩ := vnodes_mem.1 hn
    have hso := gk.sort h1 h2
    unfold isSort at hso
    exact of_decide_eq_true hso)
  simp (maxDischargeDepth := 40) [fr, f6, hwd] at hr
  obtain ⟨w', b1, b2⟩ := back_outB (b := decide (widthF N (vnodes ns) 0 ≤ N)) k1 hw (closed_flat _)
  rw [b1] at hr
  exact ⟨w', hr.symm, b2⟩
theorem nth_loop {H : AHeap} {v : AV} {l : List Nd} (hv : ∀ H', Reads H' v 11 l.length (flat l)) (hl : l.length ≤ 5000) (hs : ∀ n, n ∈ l → 0 ≤ n.sort ∧ n.sort ≤ 9) {k : Int} {e : Env} {r : Rn} (hL : loopL Try.prog KT R Zdg e H = r)
    (e0 : e 0 = some v) (e1 : e 1 = some (.int .i64 k)) (e5 : e 5 = some .nils) (e6 : e 6 = some (.int .i64 0)) :
    ∃ y e' H', r = some (y, e', H') ∧ (y = .exit 0 ∧ Keeps H H' ∧ ∃ w, e' 5 = some w ∧ OutC H H' w 4 l.length (flatN (nthL l k))) ∧ ∀ t, t ∉ defs Zdg → e' t = e t := by
  have hlen0 := (hv H).len
  refine loop_count Zdg.eq_1 hL l.length (fun i e1 H1 => e1 6 = some (.int .i64 i) ∧ Keeps H H1 ∧ ∃ w k' done, e1 5 = some w ∧ OutC H H1 w 4 i (flatN done) ∧ e1 1 = some (.int .i64 k') ∧ nthL l k = done ++ nthL (l.drop i) k') _ 0 (by omega) ⟨e6, Keeps.refl _, .nils, k, [], e5, OutC.nils, e1, by simp⟩ ?_ ?_
  · rintro i f H1 hf - hi ⟨f6, k1, w, k', done, f5, hw, f1, hd⟩
    have w1 : IntKind.i64.wrap ((i : Int) + 1) = (i : Int) + 1 := i64w (by omega) (by omega)
    have c1 : (i : Int) < l.length := by omega
    obtain ⟨n, hn⟩ : ∃ n, l[i]? = some n := ⟨l[i], by simp [hi]⟩
    obtain ⟨s0, s1⟩ := hs n (List.mem_of_getElem? hn)
    have hdrop : l.drop i = n :: l.drop (i + 1) := by
      rw [List.drop_eq_getElem_cons hi]
      rw [List.getElem?_eq_getElem hi] at hn
      cases hn
      rfl
    rw [hdrop] at hd
    rw [show nthL (n :: l.drop (i + 1)) k' = ⟨n.name, maskV n.sort k'⟩ :: nthL (l.drop (i + 1)) (k'.fdiv (2 ^ (min (max n.sort 1).toNat 64))) from rfl] at hd
    have hmk : (maskV n.sort k').cs = [.int .i64 n.sort, u (BitVec.ofInt 64 k' &&& ((1#64 <<< (max n.sort 1).toNat) - 1#64)), u 0#64] := by
      unfold maskV Vl.cs
      simp only [lo_mk, hi_mk]
    obtain ⟨mx, hmx⟩ : ∃ mx, mx = max n.sort 1 := ⟨_, rfl⟩
    have m0 : 0 ≤ mx := by omega
    have m1 : ¬ mx < 0 := by omega
    rw [← hmx] at hd hmk
    have hcs : (⟨n.name, maskV n.sort k'⟩ : Nm).cs = [.str n.name, .int .i64 n.sort, u (BitVec.ofInt 64 k' &&& ((1#64 <<< mx.toNat) - 1#64)), u 0#64] := by
      unfold Nm.cs
      rw [hmk]
    rcases nd_fldA hv hn with ⟨o, off, q1, q2, q3⟩ | ⟨cs, off, q1, q2, q3⟩ <;>
    · simp (maxDischargeDepth := 40) [hf, e0, f1, f5, f6, c1, hlen0, q1, q2, q3, ← hmx, m0, m1]
      generalize hA : appU _ _ _ _ = q
      have kA : Keeps H1 ((H1.new (.cells [.int .i64 0, u 0#64, u 0#64])).set H1.size (.cells [.int .i64 n.sort, u (BitVec.ofInt 64 k' &&& ((1#64 <<< mx.toNat) - 1#64)), u 0#64])) := by ((repeat (first | exact Keeps.refl _ | assumption | refine Keeps.new' ?_ _ | refine Keeps.set ?_ ?_ _)) <;> (first | assumption | (simp; done) | (simp; omega)))
      obtain ⟨v', H', rfl, o2, k2, -⟩ := (hw.keep kA).push (k1.trans kA) hA (by rfl) (by rfl) (by omega) (by omega) (by omega) (by rfl)
      rw [← hcs] at o2
      simp (maxDischargeDepth := 40) [f6, w1]
      refine ⟨k2, k'.fdiv (2 ^ min mx.toNat 64), done ++ [⟨n.name, maskV n.sort k'⟩], by rw [flatN_append]; simpa [flatN] using o2, rfl, ?_⟩
      rw [hd, List.append_assoc]
      rfl
  · rintro f H1 hf ⟨f6, k1, w, k', done, f5, hw, f1, hd⟩
    simp [hf, e0, f6, hlen0, f5]
    rw [hd, List.drop_length]
    refine ⟨k1, ?_⟩
    rw [show nthL [] k' = [] from rfl, List.append_nil]
    exact hw
theorem nth_run {H : AHeap} {v : AV} {l : List Nd} (hv : ∀ H', Reads H' v 11 l.length (flat l)) (hl : l.length ≤ 5000) (hs : ∀ n, n ∈ l → 0 ≤ n.sort ∧ n.sort ≤ 9) {k : Int} :
    ∃ w, R Zdd [v, .int .i64 k] H = some (w, H) ∧ ∀ H', RN H' w (nthL l k) := by
  generalize hr : R Zdd [v, .int .i64 k] H = r
  rw [Zh2] at hr
  simp (maxDischargeDepth := 40) [Zgl] at hr
  generalize hL : loopL _ _ _ _ _ _ = q at hr
  obtain ⟨y, e1, H1, rfl, ⟨rfl, k1, w, f5, hw⟩, fr⟩ := nth_loop (k := k) hv hl hs hL (by simp) (by simp) (by simp) (by simp)
  simp (maxDischargeDepth := 40) [f5] at hr
  obtain ⟨w', b1, b2⟩ := back_out k1 hw (closed_flatN _)
  rw [b1] at hr
  refine ⟨w', hr.symm, fun H' => ?_⟩
  unfold RN
  rw [nthL_len]
  exact b2 H'
end Go.Proofs.Ytiobohfiaapgeaa
end
section
namespace Go.Proofs.Ytiobohfiaapgeaa
set_option maxRecDepth 100000
def r1 : Nd := ⟨2, 4, 0, 0, 0, 0, 0, 0, 0#64, 0#64, ⟨#[120]⟩⟩
def r2 : Nd := ⟨1, 4, 0, 0, 0, 0, 0, 4, 3#64, 0#64, .empty⟩
def r3 : Nd := ⟨1, 4, 0, 0, 0, 0, 0, 4, 0#64, 0#64, .empty⟩
def r4 : Nd := ⟨20, 0, 2, 3, 0, 0, 0, 0, 0#64, 0#64, .empty⟩
def r4' : Nd := ⟨20, 4, 2, 3, 0, 0, 0, 0, 0#64, 0#64, .empty⟩
def r5 : Nd := ⟨18, 0, 1, 4, 0, 0, 0, 0, 0#64, 0#64, .empty⟩
def r5' : Nd := ⟨18, 4, 1, 4, 0, 0, 0, 0, 0#64, 0#64, .empty⟩
def r6 : Nd := ⟨8, 0, 1, 1, 0, 0, 0, 0, 0#64, 0#64, .empty⟩
def r7 : Nd := ⟨1, 0, 0, 0, 0, 0, 0, 0, 1#64, 0#64, .empty⟩
theorem rmk1 : makT 50 [] r1 = ([r1], 1, 0) := by decide
theorem rmk2 : makT 50 [r1] r2 = ([r1, r2], 2, 0) := by decide
theorem rmk3 : makT 50 [r1, r2] r3 = ([r1, r2, r3], 3, 0) := by decide
theorem rmk4 : makT 50 [r1, r2, r3] r4 = ([r1, r2, r3, r4'], 4, 0) := by decide
theorem rmk5 : makT 50 [r1, r2, r3, r4'] r5 = ([r1, r2, r3, r4', r5'], 5, 0) := by decide
theorem rmk6 : makT 50 [r1, r2, r3, r4', r5'] r6 = ([r1, r2, r3, r4', r5', r6], 6, 0) := by decide
theorem rsim5 : simT 50 60 [r1, r2, r3, r4', r5', r6] 5 = ([r1, r2, r3, r4', r5', r6], 1, 0) := by decide
theorem rsim6 : simT 50 60 [r1, r2, r3, r4', r5', r6] 6 = ([r1, r2, r3, r4', r5', r6, r7], 7, 0) := by decide
theorem rsim99 : simT 50 60 [r1, r2, r3, r4', r5', r6, r7] 99 = ([r1, r2, r3, r4', r5', r6, r7], 0, 70) := by decide
theorem rcone5 : coneT [r1, r2, r3, r4', r5', r6, r7] 5 = [1, 2, 3, 4, 5] := by decide
theorem rnode7 : ndF [r1, r2, r3, r4', r5', r6, r7] 7 = r7 := by decide
theorem rgok6 : Gok [r1, r2, r3, r4', r5', r6] := by
  have a1 := Gok.nil.make (most := 50) (n := r1)
  rw [rmk1] at a1
  have a2 := a1.make (most := 50) (n := r2)
  rw [rmk2] at a2
  have a3 := a2.make (most := 50) (n := r3)
  rw [rmk3] at a3
  have a4 := a3.make (most := 50) (n := r4)
  rw [rmk4] at a4
  have a5 := a4.make (most := 50) (n := r5)
  rw [rmk5] at a5
  have a6 := a5.make (most := 50) (n := r6)
  rw [rmk6] at a6
  exact a6
theorem rgok7 : Gok [r1, r2, r3, r4', r5', r6, r7] := by
  have a6 := rgok6.make (most := 50) (n := r7)
  rw [show makT 50 [r1, r2, r3, r4', r5', r6] r7 = ([r1, r2, r3, r4', r5', r6, r7], 7, 0) by decide] at a6
  exact a6
end Go.Proofs.Ytiobohfiaapgeaa
end
section
namespace Go.Proofs.Ytiobohfiaapgeaa
set_option maxRecDepth 100000
set_option maxHeartbeats 2000000
theorem tmod_cases (k n : Int) (hn : 0 < n) : (k.tmod n < 0 → k % n = k.tmod n + n) ∧ (¬ k.tmod n < 0 → k % n = k.tmod n) ∧ k.tmod n < n ∧ - n < k.tmod n := by
  have h := Int.tmod_eq_emod (a := k) (b := n)
  have h1 := Int.emod_nonneg k (by omega : n ≠ 0)
  have h2 := Int.emod_lt_of_pos k hn
  rw [h]
  split
  · simp; omega
  · rename_i hh
    have : (n.natAbs : Int) = n := by omega
    rw [this]
    refine ⟨by omega, ?_, by omega, ?_⟩
    · intro hx; omega
    · have : ¬ k % n = 0 := by
        intro h0; exact hh (Or.inr (Int.dvd_of_emod_eq_zero h0))
      omega
theorem place_run {k n : Int} (hn : 0 < n) (hn2 : n ≤ 1000000) {H : AHeap} : R Zea [.int .i64 k, .int .i64 n] H = some (.int .i64 (k % n), H) := by
  rw [Zhf]
  obtain ⟨q1, q2, q3, q4⟩ := tmod_cases k n hn
  have h0 : ¬ n = 0 := by omega
  by_cases c : k.tmod n < 0
  · have hw2 : IntKind.i64.wrap (k.tmod n + n) = k.tmod n + n := i64w (by omega) (by omega)
    simp (maxDischargeDepth := 40) [Ze2, h0, c, hw2, q1 c]
  · simp (maxDischargeDepth := 40) [Ze2, h0, c, q2 c]
end Go.Proofs.Ytiobohfiaapgeaa
end
section
namespace Go.Proofs.Ytiobohfiaapgeaa
set_option maxRecDepth 100000
set_option maxHeartbeats 4000000
structure Sg (H H' : AHeap) (g : Nat) (most : Int) (ns : List Nd) (F : List Nat) : Prop where
  G : GT H' g most ns F
  k : Keeps H H'
  new : ∀ p, p ∈ F → H.size ≤ p
section
variable {H H1 : AHeap} {g : Nat} {most : Int} {ns : List Nd} {F : List Nat}
theorem Sg.keep {H2 : AHeap} (S : Sg H H1 g most ns F) (k : Keeps H1 H2) : Sg H H2 g most ns F := ⟨S.G.keeps k, S.k.trans k, S.new⟩
theorem Sg.make (S : Sg H H1 g most ns F) {n : Nd} {js : List Nd} {x er : Int} (hmk : makT most ns n = (js, x, er)) {q : Option (AV × AHeap)} (hN : R Zo [.ptr g 0, .agg n.cs] H1 = q) :
    ∃ H2 F2, q = some (.tup [.int .i64 x, .int .i64 er], H2) ∧ Sg H H2 g most js F2 := by
  obtain ⟨H2, F2, rfl, g2, m2⟩ := GvT.go S.G hmk hN
  refine ⟨H2, F2, rfl, g2, m2.fr.keeps S.k S.new, fun p hp => ?_⟩
  have := S.k.size
  rcases m2.new p hp with h | h
  · exact S.new p h
  · omega
theorem Sg.simp (S : Sg H H1 g most ns F) (gk : Gok ns) {f : Nat} (hf : most + 2 ≤ f) {id : Int} {q : Option (AV × AHeap)} (hN : R Zw [.ptr g 0, .int .i64 id] H1 = q) :
    ∃ H2 F2 js, q = some (.tup [.int .i64 (simT most f ns id).2.1, .int .i64 (simT most f ns id).2.2], H2) ∧ Sg H H2 g most js F2 ∧ Fr F H1 H2 ∧ ((simT most f ns id).2.2 = 0 → js = (simT most f ns id).1) := by
  obtain ⟨H2, F2, js, rfl, g2, k2, n2, ok⟩ := simplify_run S.G gk hf hN
  refine ⟨H2, F2, js, rfl, ⟨g2, k2.keeps S.k S.new, fun p hp => ?_⟩, k2, ok⟩
  have := S.k.size
  rcases n2 p hp with h | h
  · exact S.new p h
  · omega
theorem Sg.node (S : Sg H H1 g most ns F) (id : Int) : R Zm [.ptr g 0, .int .i64 id] H1 = some (.tup [.agg (ndF ns id).cs, .bool (nodeS ns id).isSome], H1) := by
  obtain ⟨o1, o2, o3, t, -⟩ := S.G
  exact node_run t
theorem node_yes {ns : List Nd} {id : Int} (h1 : 1 ≤ id) (h2 : id ≤ ns.length) : (nodeS ns id).isSome = true := by
  obtain ⟨i, hi, hni⟩ := nd_at h1 h2
  unfold nodeS
  rw [if_neg (by omega), show (id - 1).toNat = i by omega, hni]
  rfl
theorem weight_run (G : GT H1 g most ns F) {id : Int} (h1 : 1 ≤ id) (h2 : id ≤ ns.length) : R Zem [.ptr g 0, .int .i64 id] H1 = some (.tup [.int .i64 (coneT ns id).length, .int .i64 0], H1) := by
  rw [Zht]
  have hn : R Zm [.ptr g 0, .int .i64 id] H1 = some (.tup [.agg (ndF ns id).cs, .bool true], H1) := by
    have hy := node_yes h1 h2
    obtain ⟨o1, o2, o3, t, -⟩ := G
    rw [← hy]
    exact node_run t
  obtain ⟨x, hx⟩ : ∃ x, x = ndF ns id := ⟨_, rfl⟩
  rw [← hx] at hn
  have kX : Keeps H1 ((H1.new (.cells Nd.zero.cs)).set H1.size (.cells x.cs)) := by ((repeat (first | exact Keeps.refl _ | assumption | refine Keeps.new' ?_ _ | refine Keeps.set ?_ ?_ _)) <;> (first | assumption | (simp; done) | (simp; omega)))
  obtain ⟨v, hc, hv⟩ := cone_run2 (G.keeps kX) (id := id)
  have hlen := (hv H1).len
  simp only [Nd.parts'] at hc hn
  simp (maxDischargeDepth := 40) [Nd.zero] at hc
  simp (maxDischargeDepth := 40) [Zgf, hn, hc, hlen]
end
theorem known7_run {H : AHeap} : R Zdb [] H = some (.bool true, H) := by
  generalize h : R Zdb [] H = r
  rw [Zhe] at h
  simp (maxDischargeDepth := 40) [Zf5] at h
  generalize hN : R Ze0 _ _ = q at h
  obtain ⟨H1, g, F1, rfl, g1, k1, f1⟩ := tnew_run hN
  rw [show min (max (50 : Int) 1) 4096 = 50 from by decide] at g1
  have S1 : Sg H H1 g 50 [] F1 := ⟨g1, k1, f1⟩
  simp (maxDischargeDepth := 40) at h
  generalize hN : R Zo _ _ = q at h
  obtain ⟨H2, F2, rfl, S2⟩ := S1.make (n := r1) rmk1 hN
  simp (maxDischargeDepth := 40) at h
  generalize hN : R Zo _ _ = q at h
  obtain ⟨H3, F3, rfl, S3⟩ := S2.make (n := r2) rmk2 hN
  simp (maxDischargeDepth := 40) at h
  generalize hN : R Zo _ _ = q at h
  obtain ⟨H4, F4, rfl, S4⟩ := S3.make (n := r3) rmk3 hN
  simp (maxDischargeDepth := 40) at h
  generalize hN : R Zo _ _ = q at h
  obtain ⟨H5, F5, rfl, S5⟩ := S4.make (n := r4) rmk4 hN
  simp (maxDischargeDepth := 40) at h
  generalize hN : R Zo _ _ = q at h
  obtain ⟨H6, F6, rfl, S6⟩ := S5.make (n := r5) rmk5 hN
  simp (maxDischargeDepth := 40) at h
  generalize hN : R Zo _ _ = q at h
  obtain ⟨H7, F7, rfl, S7⟩ := S6.make (n := r6) rmk6 hN
  simp (maxDischargeDepth := 40) at h
  generalize hN : R Zw _ _ = q at h
  obtain ⟨H8, F8, js, rfl, S8, -, ok8⟩ := S7.simp rgok6 (f := 60) (by decide) hN
  rw [rsim5] at h ok8
  obtain rfl := ok8 rfl
  simp (maxDischargeDepth := 40) at h
  generalize hN : R Zw _ _ = q at h
  obtain ⟨H9, F9, js, rfl, S9, -, ok9⟩ := S8.simp rgok6 (f := 60) (by decide) hN
  rw [rsim6] at h ok9
  obtain rfl := ok9 rfl
  have hnode := S9.node 7
  rw [rnode7, show (nodeS [r1, r2, r3, r4', r5', r6, r7] 7).isSome = true by decide] at hnode
  simp only [Nd.cs, r7] at hnode
  obtain ⟨HX, hX⟩ : ∃ HX, HX = (H9.new (.cells [.int .i64 0, .int .i64 0, .int .i64 0, .int .i64 0, .int .i64 0, .int .i64 0, .int .i64 0, .int .i64 0, u 0#64, u 0#64, .str .empty])).set H9.size (.cells [.int .i64 1, .int .i64 0, .int .i64 0, .int .i64 0, .int .i64 0, .int .i64 0, .int .i64 0, .int .i64 0, u 1#64, u 0#64, .str .empty]) := ⟨_, rfl⟩
  have kX : Keeps H9 HX := by rw [hX]; ((repeat (first | exact Keeps.refl _ | assumption | refine Keeps.new' ?_ _ | refine Keeps.set ?_ ?_ _)) <;> (first | assumption | (simp; done) | (simp; omega)))
  have oX : HX.obj H9.size = (.cells [.int .i64 1, .int .i64 0, .int .i64 0, .int .i64 0, .int .i64 0, .int .i64 0, .int .i64 0, .int .i64 0, u 1#64, u 0#64, .str .empty]) := by rw [hX]; simp
  have lX : H9.size < HX.size := by rw [hX]; simp
  have S10 := S9.keep kX
  have hwt := weight_run S10.G (id := 5) (by decide) (by decide)
  rw [rcone5] at hwt
  obtain ⟨q, hq⟩ : ∃ q, q = R Zw [.ptr g 0, .int .i64 99] HX := ⟨_, rfl⟩
  obtain ⟨H11, F11, js, hq2, S11, k11, -⟩ := S10.simp rgok7 (f := 60) (by decide) hq.symm
  rw [rsim99] at hq2
  have hsi : R Zw [.ptr g 0, .int .i64 99] HX = some (.tup [.int .i64 0, .int .i64 70], H11) := by rw [← hq]; exact hq2
  have o11 : H11.obj H9.size = (.cells [.int .i64 1, .int .i64 0, .int .i64 0, .int .i64 0, .int .i64 0, .int .i64 0, .int .i64 0, .int .i64 0, u 1#64, u 0#64, .str .empty]) := by
    rw [k11.obj _ lX (fun hp => by have := S9.G.ltF hp; omega)]
    exact oX
  have l11 := k11.lt lX
  simp (maxDischargeDepth := 40) [hnode, ← hX] at h
  simp (maxDischargeDepth := 40) [hwt, hsi, o11, S11.k] at h
  exact h.symm
end Go.Proofs.Ytiobohfiaapgeaa
end
section
namespace Go.Proofs.Ytiobohfiaapgeaa
set_option maxRecDepth 100000
set_option maxHeartbeats 4000000
theorem widthF_nonneg {most : Int} : ∀ (l : List Nd) (a : Int), 0 ≤ a → 0 ≤ widthF most l a
  | [], a, h => h
  | n :: l, a, h => by
    rw [widthF_cons]
    split
    · exact widthF_nonneg l _ (by omega)
    · exact h
theorem AllFit.less {look : ByteArray → Option Vl} {ns t : List Nd} (h : AllFit look (ns ++ t)) : AllFit look ns := fun i n hn h2 => h i n (by rw [List.getElem?_append_left (List.getElem?_eq_some_iff.1 hn).1]; exact hn) h2
end Go.Proofs.Ytiobohfiaapgeaa
end
section
namespace Go.Proofs.Ytiobohfiaapgeaa
set_option maxRecDepth 100000
def Kd (ns0 ns : List Nd) (y z : Int) : Prop := (y = 0 ∧ z = 0) ∨ (1 ≤ y ∧ y ≤ ns0.length ∧ 1 ≤ z ∧ z ≤ ns.length ∧ (ndF ns z).sort = (ndF ns0 y).sort ∧ ∀ look, AllFit look ns0 → V look ns z = V look ns0 y)
theorem Kd.more {ns0 ns : List Nd} {y z : Int} (h : Kd ns0 ns y z) {ns' t : List Nd} (ht : ns' = ns ++ t) : Kd ns0 ns' y z := by
  rcases h with h | ⟨h1, h2, h3, h4, h5, h6⟩
  · exact .inl h
  · have hl : ns.length ≤ ns'.length := by rw [ht]; simp
    exact .inr ⟨h1, h2, h3, by omega, by rw [ht, ndF_more h3 h4]; exact h5, fun look hA => by rw [ht, V_more h4]; exact h6 look hA⟩
theorem next3 {ns0 ns : List Nd} (g0 : Gok ns0) (g : Gok ns) {t : List Nd} (ht : ns = ns0 ++ t) {k a b c : Int} (h1 : 1 ≤ k) (h2 : k ≤ ns0.length) (ha : Kd ns0 ns (ndF ns0 k).a a) (hb : Kd ns0 ns (ndF ns0 k).b b) (hc : Kd ns0 ns (ndF ns0 k).c c) :
    formedF ns.length { ndF ns0 k with a := a, b := b, c := c } = true ∧ sortedF ns { ndF ns0 k with a := a, b := b, c := c } = ({ ndF ns0 k with a := a, b := b, c := c }, 0) ∧ ((ndF ns0 k).op = 1 ∨ (ndF ns0 k).op = 2 → ({ ndF ns0 k with a := a, b := b, c := c } : Nd) = ndF ns0 k) ∧
    ∀ look, AllFit look ns0 → nodeV look (valsV look ns) { ndF ns0 k with a := a, b := b, c := c } = V look ns0 k := by
  obtain ⟨i, hi, hn⟩ := nd_at h1 h2
  have hmem0 : ndF ns0 k ∈ ns0 := List.mem_of_getElem? hn
  have hf0 := g0.form _ hmem0
  have hs0 := g0.srt _ hmem0
  obtain ⟨m, hm⟩ : ∃ m, m = ndF ns0 k := ⟨_, rfl⟩
  rw [← hm] at hf0 hs0 hmem0 ha hb hc ⊢
  have kok : ∀ (ar : Int) (j : Nat) (y z : Int), Kd ns0 ns y z → kidOK ns0.length ar j y = true → kidOK ns.length ar j z = true := fun ar j y z hy hk => by
    unfold kidOK at hk ⊢
    rcases hy with ⟨e1, e2⟩ | ⟨e1, e2, e3, e4, -⟩
    · rw [e2]; rw [e1] at hk
      split
      · rename_i c; rw [if_pos c] at hk; simp at hk
      · simp
    · split
      · simp [e3, e4]
      · rename_i c; rw [if_neg c] at hk
        simp at hk; omega
  have ks : ∀ y z, Kd ns0 ns y z → ksort ns z = ksort ns0 y := fun y z hy => by
    rcases hy with ⟨e1, e2⟩ | ⟨e1, e2, e3, e4, e5, -⟩
    · rw [e2, e1, ksort_none rfl, ksort_none rfl]
    · rw [ksort_at e3 e4, ksort_at e1 e2, e5]
  have z0 : ∀ y z, Kd ns0 ns y z → y = 0 → z = 0 := fun y z hy h0 => by
    rcases hy with ⟨e1, e2⟩ | ⟨e1, -⟩
    · exact e2
    · omega
  have hlow : m.op = 1 ∨ m.op = 2 → ({ m with a := a, b := b, c := c } : Nd) = m := fun ho => by
    unfold formedF at hf0
    have har : arity m.op = 0 := by rcases ho with h | h <;> rw [h] <;> decide
    simp only [kidsOK, kidOK, har, Bool.and_eq_true] at hf0
    obtain ⟨⟨z1, z2, z3, -⟩, -⟩ := hf0
    simp at z1 z2 z3
    have ea := z0 _ _ ha z1
    have eb := z0 _ _ hb z2
    have ec := z0 _ _ hc z3
    obtain ⟨op, sort, a', b', c', p, q, vw, vl, vh, name⟩ := m
    simp only at z1 z2 z3 ⊢
    rw [ea, eb, ec, z1, z2, z3]
  refine ⟨?_, ?_, hlow, fun look hA => ?_⟩
  · unfold formedF at hf0 ⊢
    simp only [kidsOK, Bool.and_eq_true] at hf0 ⊢
    obtain ⟨⟨z1, z2, z3, -⟩, z4⟩ := hf0
    exact ⟨⟨kok _ _ _ _ ha z1, kok _ _ _ _ hb z2, kok _ _ _ _ hc z3, trivial⟩, z4⟩
  · by_cases o12 : m.op = 1 ∨ m.op = 2
    · rw [hlow o12]
      exact g.srt m (by rw [ht]; exact List.mem_append_left _ hmem0)
    · unfold sortedF at hs0 ⊢
      rw [if_neg (by omega), if_neg (by omega)] at hs0
      simp only
      rw [if_neg (by omega), if_neg (by omega), ks _ _ ha, ks _ _ hb, ks _ _ hc]
      have q1 := congrArg Prod.snd hs0
      have q2 := congrArg (fun x => x.1.sort) hs0
      simp only at q1 q2
      rw [q1, q2]
  · have hv0 : V look ns0 k = nodeV look (valsV look ns0) m := by
      have := V_node (look := look) g0.kok hn
      rw [← hi, ← hm] at this
      exact this
    rw [hv0]
    have pk : ∀ y z, Kd ns0 ns y z → pick (valsV look ns) z = pick (valsV look ns0) y := fun y z hy => by
      rcases hy with ⟨e1, e2⟩ | ⟨e1, e2, e3, e4, e5, e6⟩
      · rw [e2, e1]; rfl
      · exact e6 look hA
    unfold nodeV kidsV
    simp only
    rw [pk _ _ ha, pk _ _ hb, pk _ _ hc]
    rfl
end Go.Proofs.Ytiobohfiaapgeaa
end
