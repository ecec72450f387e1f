/- The evaluator: a term's value. -/
import Derived.Test.YtiaoojghohfkjaaEG
import Derived.Test.YtiaoojghohfkjaaTQ
namespace Go.Proofs.Ytiaoojghohfkjaa
set_option maxRecDepth 100000
set_option maxHeartbeats 2000000

@[simp] theorem plainV_u {x : BitVec 64} : plainV (u x) = true := rfl
theorem aslice_to {P : Program} {H : AHeap} {t : TypeId} {sz o off n : Nat} {full : Bool} (h : eszS P t = some sz) {k : Nat} (hkn : k ≤ n) : aslice P H t (.row o off sz n full) none (some (.int .i64 (k : Int))) none = some (.row o off sz k (full && decide ((k : Int) = n))) := by
  have h3 : (k : Int) ≤ n := by omega
  unfold eszS at h
  unfold aslice
  split at h <;> first | (cases h; done) | skip
  rename_i e hu
  rw [hu]
  simp [h, h3]
theorem flatV_take (l : List Vl) : ∀ k, flatV (l.take k) = (flatV l).take (k * 3) := by
  induction l with
  | nil => intro k; simp [flatV]
  | cons x l ih =>
    intro k
    cases k with
    | zero => simp [flatV]
    | succ k =>
      rw [show (k + 1) * 3 = k * 3 + 3 from by omega]
      simpa [flatV, Vl.cs] using ih k

/-- The values of the terms that have been reckoned. -/
def ValM (es : List AEnt) (look : ByteArray → Option Vl) (ns : List Nd) (c : List Int) : Prop := ∀ k : Int, (findE (.int .i64 k) es).map (·.val) = if k ∈ c then some (V look ns k).av else none
theorem ValM.add {es : List AEnt} {look : ByteArray → Option Vl} {ns : List Nd} {c : List Int} {k : Int} {b : Nat} (h : ValM es look ns c) (hk : k ∉ c) : findE (.int .i64 k) es = none ∧ ValM (es ++ [⟨.int .i64 k, (V look ns k).av, b⟩]) look ns (c ++ [k]) := by
  have hn : findE (.int .i64 k) es = none := by
    have := h k
    rw [if_neg hk] at this
    cases hf : findE (.int .i64 k) es with
    | none => rfl
    | some x => rw [hf] at this; cases this
  refine ⟨hn, fun j => ?_⟩
  have h1 := h j
  have hkq : keyEq (.int .i64 j) (.int .i64 k) = decide (j = k) := by simp only [keyEq, scEq]; rw [Bool.eq_iff_iff]; simp
  rw [findE_append, hkq]
  by_cases e : j = k
  · subst e; rw [hn]; simp
  · simp only [e, decide_false, Bool.false_eq_true, if_false, Option.or_none, List.mem_append, List.mem_singleton, or_false]
    exact h1
theorem ValM.look {es : List AEnt} {look : ByteArray → Option Vl} {ns : List Nd} {c : List Int} (h : ValM es look ns c) {k : Int} (hk : k ∈ c ∨ k ≤ 0) : lookU false (.agg [.int .i64 0, u 0#64, u 0#64]) (findE (.int .i64 k) es) = (V look ns k).av := by
  have h1 := h k
  by_cases e : k ∈ c
  · rw [if_pos e] at h1
    cases hf : findE (.int .i64 k) es with
    | none => rw [hf] at h1; cases h1
    | some x => rw [hf] at h1; simpa using h1
  · rw [if_neg e] at h1
    have h0 : k ≤ 0 := hk.resolve_left e
    cases hf : findE (.int .i64 k) es with
    | some x => rw [hf] at h1; cases h1
    | none => rw [V_zero _ _ h0]; rfl

theorem take_low {N : List Int} (hp : N.Pairwise (· < ·)) {m : Nat} {y k : Int} (hy : y ∈ N.take m) (hk : k ∈ N) (h : k < y) : k ∈ N.take m := by
  rw [← List.take_append_drop m N, List.pairwise_append] at hp
  rw [← List.take_append_drop m N] at hk
  rcases List.mem_append.1 hk with h1 | h1
  · exact h1
  · have := hp.2.2 y hy k h1
    omega
/-- Parts of what a term is made of: its kids. -/
theorem cone_kid {ns : List Nd} (kok : Kok ns) {id : Int} (h1 : 1 ≤ id) (hid : id ≤ ns.length) {j : Nat} {n : Nd} (hj : (j : Int) + 1 ∈ coneT ns id) (hn : ns[j]? = some n) {k : Int} (hk : k = n.a ∨ k = n.b ∨ k = n.c) (h0 : 0 < k) : k ∈ coneT ns id ∧ k < (j : Int) + 1 := by
  have hj' : ((j + 1 : Nat) : Int) ∈ coneT ns id := by rw [show ((j + 1 : Nat) : Int) = (j : Int) + 1 from by omega]; exact hj
  have hc := (mem_cone kok (by omega) hid (by omega)).1 hj'
  obtain ⟨⟨a0, a1⟩, ⟨b0, b1⟩, ⟨d0, d1⟩⟩ := kok j n hn
  have := cP_kids kok id.toNat (by omega) j n hc hn k.toNat (by rcases hk with rfl | rfl | rfl <;> simp)
  have h2 := (mem_cone kok (by omega) hid (j := k.toNat) (by omega)).2 this
  rw [show ((k.toNat : Nat) : Int) = k from by omega] at h2
  exact ⟨h2, by rcases hk with rfl | rfl | rfl <;> omega⟩
theorem cone_part {ns : List Nd} (kok : Kok ns) {id : Int} (h1 : 1 ≤ id) (hid : id ≤ ns.length) (m : Nat) : Cl ns fun i => ((i : Int) + 1) ∈ (coneT ns id).take m := by
  intro i n hS hn k hk h0
  obtain ⟨h2, h3⟩ := cone_kid kok h1 hid (List.mem_of_mem_take hS) hn hk h0
  rw [show (((k - 1).toNat : Nat) : Int) + 1 = k from by omega]
  exact take_low (cone_rises ns id) hS h2 h3
theorem arity_some {op : Int} (h0 : 0 ≤ arity op) (h1 : ¬ op = 1) (h2 : ¬ op = 2) : 1 ≤ arity op := by
  unfold arity at h0 ⊢
  repeat' split
  all_goals first | omega | (simp_all; done) | skip

theorem worth_loop {H0 H : AHeap} {g em : Nat} {most : Int} {ns : List Nd} {F : List Nat} (G : GT H0 g most ns F) (gok : Gok ns) {look : ByteArray → Option Vl} {es0 : List AEnt} {c0 : Nat} (lem : em < H0.size) (oem : H0.obj em = .map (.one .s) es0 c0) (hem : EnvM es0 look)
    {id : Int} (h1 : 1 ≤ id) (hid : id ≤ ns.length) {s : AV} (k0 : Keeps H0 H) (z : H0.size + 2 < H.size)
    (o6 : H.obj H0.size = .cells [.int .i64 0, u 0#64, u 0#64]) (ob : H.obj (H0.size + 2) = .map (.one (.i .i64)) [] 0)
    {e : Env} {r : Rn} (hL : loopL Go.Proofs.Try.prog KT R l_eval_worth_0 e H = r) (e0 : e 0 = some (.ptr g 0)) (e2 : e 2 = some (.map em)) (e6 : e 6 = some (.ptr H0.size 0)) (e10 : e 10 = some (.map (H0.size + 2))) (e32 : e 32 = some s) (e33 : e 33 = some (.int .i64 (coneT ns id).length)) (e34 : e 34 = some (.int .i64 0)) (hs : ∀ H', RI H' s (coneT ns id)) :
    ∃ y e' H', r = some (y, e', H') ∧ (((coneT ns id).any (unfit look ns) = false ∧ y = .exit 0 ∧ Keeps H0 H' ∧ H0.size + 2 < H'.size ∧ H'.obj H0.size = .cells [.int .i64 0, u 0#64, u 0#64] ∧ ∃ es c, H'.obj (H0.size + 2) = .map (.one (.i .i64)) es c ∧ ValM es look ns (coneT ns id)) ∨
      ((coneT ns id).any (unfit look ns) = true ∧ y = .ret ∧ Keeps H0 H' ∧ H0.size + 2 < H'.size ∧ H'.obj H0.size = .cells [.int .i64 0, u 0#64, u 0#64] ∧ e' 7 = some (.int .i64 41))) ∧ ∀ t, t ∉ defs l_eval_worth_0 → e' t = e t := by
  obtain ⟨N, hN⟩ : ∃ N, N = coneT ns id := ⟨_, rfl⟩
  have hlen : N.length ≤ 5000 := by
    obtain ⟨p1, p2, p3, tg, -⟩ := G
    have := tg.lim
    have := tg.lim2
    rw [hN]
    unfold coneT
    rw [if_neg (by omega)]
    have := outT_len (coneM ns id.toNat) (id.toNat + 1)
    omega
  rw [← hN] at hs e33 ⊢
  refine loop_count l_eval_worth_0.eq_1 hL N.length (fun i e1 H1 => e1 34 = some (.int .i64 i) ∧ (∀ x, x ∈ N.take i → unfit look ns x = false) ∧ Keeps H0 H1 ∧ H0.size + 2 < H1.size ∧ H1.obj H0.size = .cells [.int .i64 0, u 0#64, u 0#64] ∧ ∃ es c, H1.obj (H0.size + 2) = .map (.one (.i .i64)) es c ∧ ValM es look ns (N.take i)) _ 0 (by omega)
    ⟨e34, by simp, k0, z, o6, [], 0, ob, fun s => by simp [findE]⟩ ?_ ?_
  · rintro i f H1 hf - hlt ⟨f34, hfit, k, z1, o1, es, c, o2, hv⟩
    have w1 := i64w (n := (i : Int) + 1) (by omega) (by omega)
    have c1 : (i : Int) < N.length := by omega
    obtain ⟨x, hx⟩ : ∃ x, N[i]? = some x := ⟨N[i], by simp [hlt]⟩
    have ht : N.take (i + 1) = N.take i ++ [x] := by rw [List.take_add_one, hx]; rfl
    have hxm : x ∈ N := List.mem_of_getElem? hx
    obtain ⟨j, hxj, hj1, hj2⟩ := cone_mem (hN ▸ hxm)
    have hjl : j - 1 < ns.length := by omega
    have hxt : (x - 1).toNat = j - 1 := by omega
    obtain ⟨n, hn⟩ : ∃ n, ns[j - 1]? = some n := ⟨ns[j - 1], List.getElem?_eq_getElem hjl⟩
    obtain ⟨x0, y0⟩ := loadi_of (hs H1) hlt
    replace y0 := y0 H1 (Keeps.refl _)
    have hg : N.getD i 0 = x := by simp [List.getD_eq_getElem?_getD, hx]
    rw [hg] at y0
    have hns : nodeS ns x = some n := by
      unfold nodeS
      rw [if_neg (by omega), hxt, hn]
    have hgd : ns.getD (x - 1).toNat Nd.zero = n := by
      rw [hxt, List.getD_eq_getElem?_getD, hn]; rfl
    have hnode : ∀ H', Keeps H0 H' → R f_plait_term_Graph_Node [.ptr g 0, .int .i64 x] H' = some (.tup [.agg n.cs, .bool true], H') := fun H' k' => by
      obtain ⟨p1, p2, p3, tg, -⟩ := G.keeps k'
      have := node_run tg (id := x)
      rw [hns] at this
      exact this
    have hVx : V look ns x = nodeV look (valsV look ns) n := by
      rw [show x = ((j - 1 : Nat) : Int) + 1 from by omega]
      exact V_node gok.kok hn
    have hin : x ∉ N.take i := by
      intro hmem
      have hp : N.Pairwise (· < ·) := hN ▸ cone_rises ns id
      rw [← List.take_append_drop i N, List.pairwise_append] at hp
      have := hp.2.2 x hmem x (by rw [List.drop_eq_getElem_cons hlt]; simp [(List.getElem?_eq_some_iff.1 hx).2])
      omega
    have hun : unfit look ns x = (decide (n.op = 2) && !varFit look n) := by unfold unfit; rw [hgd]
    obtain ⟨hfe, hadd⟩ := hv.add (b := c) hin
    have n1 : ¬ H0.size = H1.size := by omega
    have n2 : ¬ H1.size = H0.size := by omega
    have n3 : H0.size ≤ H1.size := by omega
    have n4 : ¬ H0.size + 2 = H1.size := by omega
    have n5 : ¬ H1.size = H0.size + 2 := by omega
    have n6 : H0.size + 2 < H1.size + 1 := by omega
    rw [ht]
    obtain ⟨⟨a0, a1⟩, ⟨b0, b1⟩, ⟨d0, d1⟩⟩ := gok.kok _ _ hn
    have hfits : unfit look ns x = false → ∀ y, y ∈ N.take i ∨ y = x → unfit look ns y = false := fun h y hy => by
      rcases hy with h1 | h1
      · exact hfit y h1
      · rw [h1]; exact h
    by_cases p1 : n.op = 1
    · have hu : unfit look ns x = false := by rw [hun]; simp [p1]
      have hV : V look ns x = n.v := by rw [hVx]; unfold nodeV; rw [if_pos p1]
      rw [hV] at hadd
      simp only [Nd.v, Vl.av, lo_mk, hi_mk] at hadd
      replace hfits := hfits hu
      obtain ⟨op, sort, a, b, d, p, q, vw, vl, vh, name⟩ := n
      simp only at p1 hadd
      subst p1
      simp only [Nd.cs] at hnode
      simp (maxDischargeDepth := 20) [hf, e0, e10, e32, e33, f34, c1, x0, y0, o1, o2, w1, n1, n3, n4, k, hnode, hfe]
      exact ⟨hfits, by omega, hadd⟩
    by_cases p2 : n.op = 2
    · have hV : V look ns x = (look n.name).getD Vl.zero := by rw [hVx]; unfold nodeV; rw [if_neg p1, if_pos p2]
      rw [hV] at hadd
      have lem1 : em < H1.size := k.lt lem
      have oem1 := (k.obj _ lem).trans oem
      have m1 : ¬ em = H1.size := by omega
      have m2 : ¬ em = H1.size + 1 := by omega
      have q1 : ¬ H0.size = H1.size + 1 := by omega
      have q2 : ¬ H1.size + 1 = H0.size := by omega
      have q3 : ¬ H0.size + 2 = H1.size + 1 := by omega
      have q4 : ¬ H1.size + 1 = H0.size + 2 := by omega
      obtain ⟨op, sort, a, b, d, p, q, vw, vl, vh, name⟩ := n
      simp only at p2 hadd
      subst p2
      simp only [Nd.cs] at hnode
      rcases hem.find (s := name) with ⟨hl, hfe2⟩ | ⟨v, y, hl, hfe2, hy⟩
      · have hany : ∃ y, y ∈ N ∧ unfit look ns y = true := ⟨x, hxm, by rw [hun]; unfold varFit; rw [hl]; rfl⟩
        simp (maxDischargeDepth := 20) [hf, e0, e2, e6, e32, e33, f34, c1, x0, y0, o1, o2, n1, n3, n4, k, hnode, oem1, m1, q1, q3, hfe2]
        exact ⟨hany, by omega⟩
      · have hr := fun H => fits_run (v := v) (s := sort) (H := H)
        by_cases ok : (v.ok && decide (v.w = sort)) = true
        · rw [ok] at hr
          have hu : unfit look ns x = false := by rw [hun]; unfold varFit; rw [hl]; simp only; rw [ok]; rfl
          rw [hl] at hadd
          simp only [Option.getD_some] at hadd
          simp (maxDischargeDepth := 20) [hf, e0, e2, e10, e32, e33, f34, c1, x0, y0, o1, o2, w1, n1, n3, n4, k, hnode, oem1, m1, q1, q3, hfe2, hy, hr, hfe]
          exact ⟨hfits hu, by omega, hadd⟩
        · rw [Bool.not_eq_true] at ok
          rw [ok] at hr
          have hany : ∃ y, y ∈ N ∧ unfit look ns y = true := ⟨x, hxm, by rw [hun]; unfold varFit; rw [hl]; simp only; rw [ok]; rfl⟩
          simp (maxDischargeDepth := 20) [hf, e0, e2, e6, e32, e33, f34, c1, x0, y0, o1, o2, n1, n3, n4, k, hnode, oem1, m1, q1, q3, hfe2, hy, hr]
          exact ⟨hany, by omega⟩
    · have hmem : n ∈ ns := List.mem_of_getElem? hn
      have hkk : ∀ k, (k = n.a ∨ k = n.b ∨ k = n.c) → k ∈ N.take i ∨ k ≤ 0 := fun kk hk => by
        by_cases h0 : 0 < kk
        · obtain ⟨h2, h3⟩ := cone_kid gok.kok h1 hid (j := j - 1) (by rw [show ((j - 1 : Nat) : Int) + 1 = x from by omega]; exact hN ▸ hxm) hn hk h0
          have h4 : kk ∈ N.take (i + 1) := take_low (hN ▸ cone_rises ns id) (y := x) (by rw [ht]; simp) (hN ▸ h2) (by omega)
          rw [ht] at h4
          rcases List.mem_append.1 h4 with h5 | h5
          · exact .inl h5
          · simp at h5; omega
        · exact .inr (by omega)
      have hu : unfit look ns x = false := by rw [hun]; simp [p2]
      replace hfits := hfits hu
      have hgood := val_good gok (cone_part gok.kok h1 hid (i + 1)) (look := look) (fun i' m hS hm hop => by
        rw [← hN, ht] at hS
        have h6 := hfits _ (by simpa using hS)
        have h7 : unfit look ns ((i' : Int) + 1) = (decide (m.op = 2) && !varFit look m) := by
          unfold unfit
          rw [show ((i' : Int) + 1 - 1).toNat = i' from by omega, List.getD_eq_getElem?_getD, hm]; rfl
        rw [h7] at h6
        simpa [hop] using h6) (j - 1) n (by rw [← hN, ht, show ((j - 1 : Nat) : Int) + 1 = x from by omega]; simp) hn
      rw [show ((j - 1 : Nat) : Int) + 1 = x from by omega] at hgood
      have happ := (hgood.2.2 p1 p2).2
      have ha0 : 0 ≤ arity n.op := by
        have := gok.form n hmem
        unfold formedF at this
        simp only [Bool.and_eq_true, decide_eq_true_eq] at this
        exact this.2.1.1
      have ha1 := arity_some ha0 p1 p2
      have ha3 := arity_le n.op
      obtain ⟨K, hK⟩ : ∃ K : Nat, arity n.op = K := ⟨(arity n.op).toNat, by omega⟩
      have hkv : kidsV (valsV look ns) n = [V look ns n.a, V look ns n.b, V look ns n.c].take K := by unfold kidsV; rw [hK]; rfl
      have lkA := hv.look (hkk n.a (.inl rfl))
      have lkB := hv.look (hkk n.b (.inr (.inl rfl)))
      have lkC := hv.look (hkk n.c (.inr (.inr rfl)))
      rw [hkv] at happ
      have har := fun H => arity_run (op := n.op) (H := H)
      rw [hK] at har
      clear hgood hVx hun hgd hns hfit
      generalize V look ns n.a = A at *
      generalize V look ns n.b = B' at *
      generalize V look ns n.c = D at *
      have hap : ∀ (H2 : AHeap) (o : Nat) (full : Bool), o < H2.size → H2.obj o = .cells [.int .i64 A.w, u (lo A.n), u (hi A.n), .int .i64 B'.w, u (lo B'.n), u (hi B'.n), .int .i64 D.w, u (lo D.n), u (hi D.n)] → R f_eval_Apply [.int .i64 n.op, .int .i64 n.p, .int .i64 n.q, .row o 0 3 K full] H2 = some (.tup [(V look ns x).av, .int .i64 0], H2) := fun H2 o full lo' ho => by
        have hrv : RV H2 (.row o 0 3 K full) ([A, B', D].take K) := by
          have h8 := Reads.row (full := full) (off := 0) (n := K) (sz := 3) lo' ho (by simp; omega)
          unfold RV
          rw [flatV_take, show ([A, B', D].take K).length = K from by simp; omega]
          exact h8
        have := apply_run (op := n.op) (p := n.p) (q := n.q) hrv (by simp; omega)
        rw [happ] at this
        exact this
      have hsl : ∀ H o, aslice Go.Proofs.Try.prog H T_s_api_Bits (.row o 0 3 3 true) none (some (.int .i64 (K : Int))) none = some (.row o 0 3 K (true && decide ((K : Int) = (3 : Nat)))) := fun H o => aslice_to (by simp) (by omega)
      generalize V look ns x = X at *
      obtain ⟨op, sort, a, b, d, p, q, vw, vl, vh, name⟩ := n
      simp only at p1 p2 hap lkA lkB lkC har
      simp only [Nd.cs] at hnode
      have q1 : ¬ H0.size = H1.size + 1 := by omega
      have q2 : ¬ H1.size + 1 = H0.size := by omega
      have q3 : ¬ H0.size + 2 = H1.size + 1 := by omega
      have q4 : ¬ H1.size + 1 = H0.size + 2 := by omega
      have q5 : ¬ H0.size = H1.size + 1 + 1 := by omega
      have q6 : ¬ H0.size + 2 = H1.size + 1 + 1 := by omega
      have q7 : ¬ H1.size + 1 + 1 = H0.size + 2 := by omega
      simp (maxDischargeDepth := 20) [hf, e0, e10, e32, e33, f34, c1, x0, y0, o1, o2, w1, n1, n3, n4, k, hnode, hfe, p1, p2, lkA, lkB, lkC, har, hsl, hap, q1, q3, q5]
      exact ⟨hfits, by omega, hadd⟩
  · rintro f H1 hf ⟨f34, hfit, k, z1, o1, es, c, o2, hv⟩
    rw [List.take_of_length_le (Nat.le_refl _)] at hfit hv
    have ha : N.any (unfit look ns) = false := by
      rw [List.any_eq_false]
      intro x hx
      rw [hfit x hx]; simp
    simp [hf, e33, f34]
    exact ⟨hfit, k, z1, o1, es, ⟨c, o2⟩, hv⟩
end Go.Proofs.Ytiaoojghohfkjaa
