/- Texts EH EI OC EJ EK BRR TX TZ TZ2 TZ3 TZ4 TW EL EM EN EP SC SD SE SF SG SH SI SJ SK SL SM SN SO SP BVN SQ SR SRB SS of this claim, one behind the other. -/
import Derived.Test.YtiobohfiaapgeaaK6
section
namespace Go.Proofs.Ytiobohfiaapgeaa
set_option maxRecDepth 100000
set_option maxHeartbeats 2000000
@[simp] theorem plainV_u {x : BitVec 64} : plainV (u x) = true := rfl
theorem aslice_to {P : Program} {H : AHeap} {t : TypeId} {sz o off n : Nat} {full : Bool} (h : eszS P t = some sz) {k : Nat} (hkn : k ≤ n) : aslice P H t (.row o off sz n full) none (some (.int .i64 (k : Int))) none = some (.row o off sz k (full && decide ((k : Int) = n))) := by
  have h3 : (k : Int) ≤ n := by omega
  unfold eszS at h
  unfold aslice
  split at h <;> first | (cases h; done) | skip
  rename_i e hu
  rw [hu]
  simp [h, h3]
theorem flatV_take (l : List Vl) : ∀ k, flatV (l.take k) = (flatV l).take (k * 3) := by
  induction l with
  | nil => intro k; simp [flatV]
  | cons x l ih =>
    intro k
    cases k with
    | zero => simp [flatV]
    | succ k =>
      rw [show (k + 1) * 3 = k * 3 + 3 from by omega]
      simpa [flatV, Vl.cs] using ih k
def ValM (es : List AEnt) (look : ByteArray → Option Vl) (ns : List Nd) (c : List Int) : Prop := ∀ k : Int, (findE (.int .i64 k) es).map (·.val) = if k ∈ c then some (V look ns k).av else none
theorem ValM.add {es : List AEnt} {look : ByteArray → Option Vl} {ns : List Nd} {c : List Int} {k : Int} {b : Nat} (h : ValM es look ns c) (hk : k ∉ c) : findE (.int .i64 k) es = none ∧ ValM (es ++ [⟨.int .i64 k, (V look ns k).av, b⟩]) look ns (c ++ [k]) := by
  have hn : findE (.int .i64 k) es = none := by
    have := h k
    rw [if_neg hk] at this
    cases hf : findE (.int .i64 k) es with
    | none => rfl
    | some x => rw [hf] at this; cases this
  refine ⟨hn, fun j => ?_⟩
  have h1 := h j
  have hkq : keyEq (.int .i64 j) (.int .i64 k) = decide (j = k) := by simp only [keyEq, scEq]; rw [Bool.eq_iff_iff]; simp
  rw [findE_append, hkq]
  by_cases e : j = k
  · subst e; rw [hn]; simp
  · simp only [e, decide_false, Bool.false_eq_true, if_false, Option.or_none, List.mem_append, List.mem_singleton, or_false]
    exact h1
theorem ValM.look {es : List AEnt} {look : ByteArray → Option Vl} {ns : List Nd} {c : List Int} (h : ValM es look ns c) {k : Int} (hk : k ∈ c ∨ k ≤ 0) : lookU false (.agg [.int .i64 0, u 0#64, u 0#64]) (findE (.int .i64 k) es) = (V look ns k).av := by
  have h1 := h k
  by_cases e : k ∈ c
  · rw [if_pos e] at h1
    cases hf : findE (.int .i64 k) es with
    | none => rw [hf] at h1; cases h1
    | some x => rw [hf] at h1; simpa using h1
  · rw [if_neg e] at h1
    have h0 : k ≤ 0 := hk.resolve_left e
    cases hf : findE (.int .i64 k) es with
    | some x => rw [hf] at h1; cases h1
    | none => rw [V_zero _ _ h0]; rfl
theorem take_low {N : List Int} (hp : N.Pairwise (· < ·)) {m : Nat} {y k : Int} (hy : y ∈ N.take m) (hk : k ∈ N) (h : k < y) : k ∈ N.take m := by
  rw [← List.take_append_drop m N, List.pairwise_append] at hp
  rw [← List.take_append_drop m N] at hk
  rcases List.mem_append.1 hk with h1 | h1
  · exact h1
  · have := hp.2.2 y hy k h1
    omega
theorem cone_kid {ns : List Nd} (kok : Kok ns) {id : Int} (h1 : 1 ≤ id) (hid : id ≤ ns.length) {j : Nat} {n : Nd} (hj : (j : Int) + 1 ∈ coneT ns id) (hn : ns[j]? = some n) {k : Int} (hk : k = n.a ∨ k = n.b ∨ k = n.c) (h0 : 0 < k) : k ∈ coneT ns id ∧ k < (j : Int) + 1 := by
  have hj' : ((j + 1 : Nat) : Int) ∈ coneT ns id := by rw [show ((j + 1 : Nat) : Int) = (j : Int) + 1 from by omega]; exact hj
  have hc := (mem_cone kok (by omega) hid (by omega)).1 hj'
  obtain ⟨⟨a0, a1⟩, ⟨b0, b1⟩, ⟨d0, d1⟩⟩ := kok j n hn
  have := cP_kids kok id.toNat (by omega) j n hc hn k.toNat (by rcases hk with rfl | rfl | rfl <;> simp)
  have h2 := (mem_cone kok (by omega) hid (j := k.toNat) (by omega)).2 this
  rw [show ((k.toNat : Nat) : Int) = k from by omega] at h2
  exact ⟨h2, by rcases hk with rfl | rfl | rfl <;> omega⟩
theorem cone_part {ns : List Nd} (kok : Kok ns) {id : Int} (h1 : 1 ≤ id) (hid : id ≤ ns.length) (m : Nat) : Cl ns fun i => ((i : Int) + 1) ∈ (coneT ns id).take m := by
  intro i n hS hn k hk h0
  obtain ⟨h2, h3⟩ := cone_kid kok h1 hid (List.mem_of_mem_take hS) hn hk h0
  rw [show (((k - 1).toNat : Nat) : Int) + 1 = k from by omega]
  exact take_low (cone_rises ns id) hS h2 h3
theorem arity_some {op : Int} (h0 : 0 ≤ arity op) (h1 : ¬ op = 1) (h2 : ¬ op = 2) : 1 ≤ arity op := by
  unfold arity at h0 ⊢
  repeat' split
  all_goals first | omega | (simp_all; done) | skip
theorem worth_loop {H0 H : AHeap} {g em : Nat} {most : Int} {ns : List Nd} {F : List Nat} (G : GT H0 g most ns F) (gok : Gok ns) {look : ByteArray → Option Vl} {es0 : List AEnt} {c0 : Nat} (lem : em < H0.size) (oem : H0.obj em = .map (.one .s) es0 c0) (hem : EnvM es0 look)
    {id : Int} (h1 : 1 ≤ id) (hid : id ≤ ns.length) {s : AV} (k0 : Keeps H0 H) (z : H0.size + 2 < H.size)
    (o6 : H.obj H0.size = .cells [.int .i64 0, u 0#64, u 0#64]) (ob : H.obj (H0.size + 2) = .map (.one (.i .i64)) [] 0)
    {e : Env} {r : Rn} (hL : loopL Try.prog KT R Zev e H = r) (e0 : e 0 = some (.ptr g 0)) (e2 : e 2 = some (.map em)) (e6 : e 6 = some (.ptr H0.size 0)) (e10 : e 10 = some (.map (H0.size + 2))) (e32 : e 32 = some s) (e33 : e 33 = some (.int .i64 (coneT ns id).length)) (e34 : e 34 = some (.int .i64 0)) (hs : ∀ H', RI H' s (coneT ns id)) :
    ∃ y e' H', r = some (y, e', H') ∧ (((coneT ns id).any (unfit look ns) = false ∧ y = .exit 0 ∧ Keeps H0 H' ∧ H0.size + 2 < H'.size ∧ H'.obj H0.size = .cells [.int .i64 0, u 0#64, u 0#64] ∧ ∃ es c, H'.obj (H0.size + 2) = .map (.one (.i .i64)) es c ∧ ValM es look ns (coneT ns id)) ∨
      ((coneT ns id).any (unfit look ns) = true ∧ y = .ret ∧ Keeps H0 H' ∧ H0.size + 2 < H'.size ∧ H'.obj H0.size = .cells [.int .i64 0, u 0#64, u 0#64] ∧ e' 7 = some (.int .i64 41))) ∧ ∀ t, t ∉ defs Zev → e' t = e t := by
  obtain ⟨N, hN⟩ : ∃ N, N = coneT ns id := ⟨_, rfl⟩
  have hlen : N.length ≤ 5000 := by
    obtain ⟨p1, p2, p3, tg, -⟩ := G
    have := tg.lim
    have := tg.lim2
    rw [hN]
    unfold coneT
    rw [if_neg (by omega)]
    have := outT_len (coneM ns id.toNat) (id.toNat + 1)
    omega
  rw [← hN] at hs e33 ⊢
  refine loop_count Zev.eq_1 hL N.length (fun i e1 H1 => e1 34 = some (.int .i64 i) ∧ (∀ x, x ∈ N.take i → unfit look ns x = false) ∧ Keeps H0 H1 ∧ H0.size + 2 < H1.size ∧ H1.obj H0.size = .cells [.int .i64 0, u 0#64, u 0#64] ∧ ∃ es c, H1.obj (H0.size + 2) = .map (.one (.i .i64)) es c ∧ ValM es look ns (N.take i)) _ 0 (by omega)
    ⟨e34, by simp, k0, z, o6, [], 0, ob, fun s => by simp [findE]⟩ ?_ ?_
  · rintro i f H1 hf - hlt ⟨f34, hfit, k, z1, o1, es, c, o2, hv⟩
    have w1 := i64w (n := (i : Int) + 1) (by omega) (by omega)
    have c1 : (i : Int) < N.length := by omega
    obtain ⟨x, hx⟩ : ∃ x, N[i]? = some x := ⟨N[i], by simp [hlt]⟩
    have ht : N.take (i + 1) = N.take i ++ [x] := by rw [List.take_add_one, hx]; rfl
    have hxm : x ∈ N := List.mem_of_getElem? hx
    obtain ⟨j, hxj, hj1, hj2⟩ := cone_mem (hN ▸ hxm)
    have hjl : j - 1 < ns.length := by omega
    have hxt : (x - 1).toNat = j - 1 := by omega
    obtain ⟨n, hn⟩ : ∃ n, ns[j - 1]? = some n := ⟨ns[j - 1], List.getElem?_eq_getElem hjl⟩
    obtain ⟨x0, y0⟩ := loadi_of (hs H1) hlt
    replace y0 := y0 H1 (Keeps.refl _)
    have hg : N.getD i 0 = x := by simp [List.getD_eq_getElem?_getD, hx]
    rw [hg] at y0
    have hns : nodeS ns x = some n := by
      unfold nodeS
      rw [if_neg (by omega), hxt, hn]
    have hgd : ns.getD (x - 1).toNat Nd.zero = n := by
      rw [hxt, List.getD_eq_getElem?_getD, hn]; rfl
    have hnode : ∀ H', Keeps H0 H' → R Zj [.ptr g 0, .int .i64 x] H' = some (.tup [.agg n.cs, .bool true], H') := fun H' k' => by
      obtain ⟨p1, p2, p3, tg, -⟩ := G.keeps k'
      have := node_run tg (id := x)
      rw [hns] at this
      exact this
    have hVx : V look ns x = nodeV look (valsV look ns) n := by
      rw [show x = ((j - 1 : Nat) : Int) + 1 from by omega]
      exact V_node gok.kok hn
    have hin : x ∉ N.take i := by
      intro hmem
      have hp : N.Pairwise (· < ·) := hN ▸ cone_rises ns id
      rw [← List.take_append_drop i N, List.pairwise_append] at hp
      have := hp.2.2 x hmem x (by rw [List.drop_eq_getElem_cons hlt]; simp [(List.getElem?_eq_some_iff.1 hx).2])
      omega
    have hun : unfit look ns x = (decide (n.op = 2) && !varFit look n) := by unfold unfit; rw [hgd]
    obtain ⟨hfe, hadd⟩ := hv.add (b := c) hin
    have n1 : ¬ H0.size = H1.size := by omega
    have n2 : ¬ H1.size = H0.size := by omega
    have n3 : H0.size ≤ H1.size := by omega
    have n4 : ¬ H0.size + 2 = H1.size := by omega
    have n5 : ¬ H1.size = H0.size + 2 := by omega
    have n6 : H0.size + 2 < H1.size + 1 := by omega
    rw [ht]
    obtain ⟨⟨a0, a1⟩, ⟨b0, b1⟩, ⟨d0, d1⟩⟩ := gok.kok _ _ hn
    have hfits : unfit look ns x = false → ∀ y, y ∈ N.take i ∨ y = x → unfit look ns y = false := fun h y hy => by
      rcases hy with h1 | h1
      · exact hfit y h1
      · rw [h1]; exact h
    by_cases p1 : n.op = 1
    · have hu : unfit look ns x = false := by rw [hun]; simp [p1]
      have hV : V look ns x = n.v := by rw [hVx]; unfold nodeV; rw [if_pos p1]
      rw [hV] at hadd
      simp only [Nd.v, Vl.av, lo_mk, hi_mk] at hadd
      replace hfits := hfits hu
      obtain ⟨op, sort, a, b, d, p, q, vw, vl, vh, name⟩ := n
      simp only at p1 hadd
      subst p1
      simp only [Nd.cs] at hnode
      simp (maxDischargeDepth := 20) [hf, e0, e10, e32, e33, f34, c1, x0, y0, o1, o2, w1, n1, n3, n4, k, hnode, hfe]
      exact ⟨hfits, by omega, hadd⟩
    by_cases p2 : n.op = 2
    · have hV : V look ns x = (look n.name).getD Vl.zero := by rw [hVx]; unfold nodeV; rw [if_neg p1, if_pos p2]
      rw [hV] at hadd
      have lem1 : em < H1.size := k.lt lem
      have oem1 := (k.obj _ lem).trans oem
      have m1 : ¬ em = H1.size := by omega
      have m2 : ¬ em = H1.size + 1 := by omega
      have q1 : ¬ H0.size = H1.size + 1 := by omega
      have q2 : ¬ H1.size + 1 = H0.size := by omega
      have q3 : ¬ H0.size + 2 = H1.size + 1 := by omega
      have q4 : ¬ H1.size + 1 = H0.size + 2 := by omega
      obtain ⟨op, sort, a, b, d, p, q, vw, vl, vh, name⟩ := n
      simp only at p2 hadd
      subst p2
      simp only [Nd.cs] at hnode
      rcases hem.find (s := name) with ⟨hl, hfe2⟩ | ⟨v, y, hl, hfe2, hy⟩
      · have hany : ∃ y, y ∈ N ∧ unfit look ns y = true := ⟨x, hxm, by rw [hun]; unfold varFit; rw [hl]; rfl⟩
        simp (maxDischargeDepth := 20) [hf, e0, e2, e6, e32, e33, f34, c1, x0, y0, o1, o2, n1, n3, n4, k, hnode, oem1, m1, q1, q3, hfe2]
        exact ⟨hany, by omega⟩
      · have hr := fun H => fits_run (v := v) (s := sort) (H := H)
        by_cases ok : (v.ok && decide (v.w = sort)) = true
        · rw [ok] at hr
          have hu : unfit look ns x = false := by rw [hun]; unfold varFit; rw [hl]; simp only; rw [ok]; rfl
          rw [hl] at hadd
          simp only [Option.getD_some] at hadd
          simp (maxDischargeDepth := 20) [hf, e0, e2, e10, e32, e33, f34, c1, x0, y0, o1, o2, w1, n1, n3, n4, k, hnode, oem1, m1, q1, q3, hfe2, hy, hr, hfe]
          exact ⟨hfits hu, by omega, hadd⟩
        · rw [Bool.not_eq_true] at ok
          rw [ok] at hr
          have hany : ∃ y, y ∈ N ∧ unfit look ns y = true := ⟨x, hxm, by rw [hun]; unfold varFit; rw [hl]; simp only; rw [ok]; rfl⟩
          simp (maxDischargeDepth := 20) [hf, e0, e2, e6, e32, e33, f34, c1, x0, y0, o1, o2, n1, n3, n4, k, hnode, oem1, m1, q1, q3, hfe2, hy, hr]
          exact ⟨hany, by omega⟩
    · have hmem : n ∈ ns := List.mem_of_getElem? hn
      have hkk : ∀ k, (k = n.a ∨ k = n.b ∨ k = n.c) → k ∈ N.take i ∨ k ≤ 0 := fun kk hk => by
        by_cases h0 : 0 < kk
        · obtain ⟨h2, h3⟩ := cone_kid gok.kok h1 hid (j := j - 1) (by rw [show ((j - 1 : Nat) : Int) + 1 = x from by omega]; exact hN ▸ hxm) hn hk h0
          have h4 : kk ∈ N.take (i + 1) := take_low (hN ▸ cone_rises ns id) (y := x) (by rw [ht]; simp) (hN ▸ h2) (by omega)
          rw [ht] at h4
          rcases List.mem_append.1 h4 with h5 | h5
          · exact .inl h5
          · simp at h5; omega
        · exact .inr (by omega)
      have hu : unfit look ns x = false := by rw [hun]; simp [p2]
      replace hfits := hfits hu
      have hgood := val_good gok (cone_part gok.kok h1 hid (i + 1)) (look := look) (fun i' m hS hm hop => by
        rw [← hN, ht] at hS
        have h6 := hfits _ (by simpa using hS)
        have h7 : unfit look ns ((i' : Int) + 1) = (decide (m.op = 2) && !varFit look m) := by
          unfold unfit
          rw [show ((i' : Int) + 1 - 1).toNat = i' from by omega, List.getD_eq_getElem?_getD, hm]; rfl
        rw [h7] at h6
        simpa [hop] using h6) (j - 1) n (by rw [← hN, ht, show ((j - 1 : Nat) : Int) + 1 = x from by omega]; simp) hn
      rw [show ((j - 1 : Nat) : Int) + 1 = x from by omega] at hgood
      have happ := (hgood.2.2 p1 p2).2
      have ha0 : 0 ≤ arity n.op := by
        have := gok.form n hmem
        unfold formedF at this
        simp only [Bool.and_eq_true, decide_eq_true_eq] at this
        exact this.2.1.1
      have ha1 := arity_some ha0 p1 p2
      have ha3 := arity_le n.op
      obtain ⟨K, hK⟩ : ∃ K : Nat, arity n.op = K := ⟨(arity n.op).toNat, by omega⟩
      have hkv : kidsV (valsV look ns) n = [V look ns n.a, V look ns n.b, V look ns n.c].take K := by unfold kidsV; rw [hK]; rfl
      have lkA := hv.look (hkk n.a (.inl rfl))
      have lkB := hv.look (hkk n.b (.inr (.inl rfl)))
      have lkC := hv.look (hkk n.c (.inr (.inr rfl)))
      rw [hkv] at happ
      have har := fun H => arity_run (op := n.op) (H := H)
      rw [hK] at har
      clear hgood hVx hun hgd hns hfit
      generalize V look ns n.a = A at *
      generalize V look ns n.b = B' at *
      generalize V look ns n.c = D at *
      have hap : ∀ (H2 : AHeap) (o : Nat) (full : Bool), o < H2.size → H2.obj o = .cells [.int .i64 A.w, u (lo A.n), u (hi A.n), .int .i64 B'.w, u (lo B'.n), u (hi B'.n), .int .i64 D.w, u (lo D.n), u (hi D.n)] → R Zez [.int .i64 n.op, .int .i64 n.p, .int .i64 n.q, .row o 0 3 K full] H2 = some (.tup [(V look ns x).av, .int .i64 0], H2) := fun H2 o full lo' ho => by
        have hrv : RV H2 (.row o 0 3 K full) ([A, B', D].take K) := by
          have h8 := Reads.row (full := full) (off := 0) (n := K) (sz := 3) lo' ho (by simp; omega)
          unfold RV
          rw [flatV_take, show ([A, B', D].take K).length = K from by simp; omega]
          exact h8
        have := apply_run (op := n.op) (p := n.p) (q := n.q) hrv (by simp; omega)
        rw [happ] at this
        exact this
      have hsl : ∀ H o, aslice Try.prog H Zp (.row o 0 3 3 true) none (some (.int .i64 (K : Int))) none = some (.row o 0 3 K (true && decide ((K : Int) = (3 : Nat)))) := fun H o => aslice_to (by simp) (by omega)
      generalize V look ns x = X at *
      obtain ⟨op, sort, a, b, d, p, q, vw, vl, vh, name⟩ := n
      simp only at p1 p2 hap lkA lkB lkC har
      simp only [Nd.cs] at hnode
      have q1 : ¬ H0.size = H1.size + 1 := by omega
      have q2 : ¬ H1.size + 1 = H0.size := by omega
      have q3 : ¬ H0.size + 2 = H1.size + 1 := by omega
      have q4 : ¬ H1.size + 1 = H0.size + 2 := by omega
      have q5 : ¬ H0.size = H1.size + 1 + 1 := by omega
      have q6 : ¬ H0.size + 2 = H1.size + 1 + 1 := by omega
      have q7 : ¬ H1.size + 1 + 1 = H0.size + 2 := by omega
      simp (maxDischargeDepth := 20) [hf, e0, e10, e32, e33, f34, c1, x0, y0, o1, o2, w1, n1, n3, n4, k, hnode, hfe, p1, p2, lkA, lkB, lkC, har, hsl, hap, q1, q3, q5]
      exact ⟨hfits, by omega, hadd⟩
  · rintro f H1 hf ⟨f34, hfit, k, z1, o1, es, c, o2, hv⟩
    rw [List.take_of_length_le (Nat.le_refl _)] at hfit hv
    have ha : N.any (unfit look ns) = false := by
      rw [List.any_eq_false]
      intro x hx
      rw [hfit x hx]; simp
    simp [hf, e33, f34]
    exact ⟨hfit, k, z1, o1, es, ⟨c, o2⟩, hv⟩
end Go.Proofs.Ytiobohfiaapgeaa
end
section
namespace Go.Proofs.Ytiobohfiaapgeaa
set_option maxRecDepth 100000
set_option maxHeartbeats 2000000
theorem worth_run {H : AHeap} {g em : Nat} {most : Int} {ns : List Nd} {F : List Nat} (G : GT H g most ns F) (gok : Gok ns) {look : ByteArray → Option Vl} {es0 : List AEnt} {c0 : Nat} (lem : em < H.size) (oem : H.obj em = .map (.one .s) es0 c0) (hem : EnvM es0 look) {id : Int} :
    R Zfk [.ptr g 0, .int .i64 id, .map em] H = some (.tup [(worthS look ns id).1.av, .int .i64 (worthS look ns id).2], H) := by
  have hnode : ∀ H', Keeps H H' → R Zj [.ptr g 0, .int .i64 id] H' = some (.tup [.agg ((nodeS ns id).getD Nd.zero).cs, .bool (nodeS ns id).isSome], H') := fun H' k' => by
    obtain ⟨p1, p2, p3, tg, -⟩ := G.keeps k'
    exact node_run tg (id := id)
  rw [Zjt]
  by_cases c1 : id < 1 ∨ (ns.length : Int) < id
  · have hns : nodeS ns id = none := by unfold nodeS; rw [if_pos c1]
    rw [hns] at hnode
    simp only [Option.getD_none, Nd.zero, Nd.cs, Option.isSome_none] at hnode
    have hw : worthS look ns id = (Vl.zero, 40) := by unfold worthS; rw [if_pos c1]
    rw [hw]
    simp (maxDischargeDepth := 40) [Zg3, hnode, Vl.zero]
  obtain ⟨n, hn⟩ : ∃ n, nodeS ns id = some n := by
    unfold nodeS
    rw [if_neg c1]
    exact ⟨ns[(id - 1).toNat]'(by omega), List.getElem?_eq_getElem (by omega)⟩
  rw [hn] at hnode
  obtain ⟨op, sort, a, b, d, p, q, vw, vl, vh, name⟩ := n
  simp only [Option.getD_some, Nd.cs, Option.isSome_some] at hnode
  have hcone : ∃ v : AHeap → AV, (∀ H', Keeps H H' → R Z4 [.ptr g 0, .int .i64 id] H' = some (v H', H')) ∧ ∀ H' H2, Keeps H H' → RI H2 (v H') (coneT ns id) := by
    have : ∀ H', ∃ v, Keeps H H' → (R Z4 [.ptr g 0, .int .i64 id] H' = some (v, H') ∧ ∀ H2, RI H2 v (coneT ns id)) := fun H' => by
      by_cases k : Keeps H H'
      · obtain ⟨v, h1, h2⟩ := cone_run2 (G.keeps k) (id := id)
        exact ⟨v, fun _ => ⟨h1, h2⟩⟩
      · exact ⟨.nils, fun h => absurd h k⟩
    exact ⟨fun H' => (this H').choose, fun H' k => ((this H').choose_spec k).1, fun H' H2 k => ((this H').choose_spec k).2 H2⟩
  obtain ⟨v, hc, hv⟩ := hcone
  have hlen : ∀ H', Keeps H H' → sliceLen (v H') = some (coneT ns id).length := fun H' k => (hv H' H' k).len
  obtain ⟨W, hW⟩ : ∃ W, W = worthS look ns id := ⟨_, rfl⟩
  rw [← hW]
  unfold worthS at hW
  rw [if_neg c1] at hW
  simp (maxDischargeDepth := 40) [Zg3, hnode, hc, hlen]
  generalize hL : loopL _ _ _ _ _ _ = y
  obtain ⟨y, e1, H1, rfl, hy, fr⟩ := worth_loop G gok lem oem hem (by omega) (by omega) (by simp (maxDischargeDepth := 40)) (by simp) (by simp) (by simp) hL (by simp) (by simp) (by simp) (by simp) (by simp; rfl) (by simp) (by simp) (fun H' => hv _ H' (by simp (maxDischargeDepth := 40)))
  have hid0 : id ∈ coneT ns id := by
    obtain ⟨i, rfl⟩ := Int.eq_ofNat_of_zero_le (show 0 ≤ id by omega)
    exact (mem_cone gok.kok (by omega) (by omega) (by omega)).2 (by rw [Int.toNat_natCast]; exact cP_self gok.kok i (by omega))
  rcases hy with ⟨hany, rfl, k, z1, o1, es, c, o2, hvm⟩ | ⟨hany, rfl, k, z1, o1, e7⟩
  · have lk := hvm.look (.inl hid0)
    have n1 : H.size ≤ H1.size := by omega
    rw [if_neg (by rw [hany]; simp)] at hW
    rw [hW]
    simp (maxDischargeDepth := 40) [fr, o1, o2, lk, k]
  · rw [if_pos hany] at hW
    rw [hW]
    simp (maxDischargeDepth := 40) [fr, e7, o1, k, Vl.zero]
end Go.Proofs.Ytiobohfiaapgeaa
end
section
namespace Go.Proofs.Ytiobohfiaapgeaa
set_option maxRecDepth 100000
structure OutC (H0 H : AHeap) (v : AV) (sz n : Nat) (cs : List AV) : Prop where
  rd : Reads H v sz n cs
  gr : grows v
  new : ∀ p, p ∈ objs v → H0.size ≤ p
theorem OutC.nils {H0 H : AHeap} {sz : Nat} : OutC H0 H .nils sz 0 [] := ⟨Reads.nils, by simp, by simp⟩
theorem OutC.keep {H0 H H' : AHeap} {v : AV} {sz n : Nat} {cs : List AV} (h : OutC H0 H v sz n cs) (k : Keeps H H') : OutC H0 H' v sz n cs := ⟨h.rd.keep k, h.gr, h.new⟩
theorem OutC.base {H0 H1 H : AHeap} {v : AV} {sz n : Nat} {cs : List AV} (h : OutC H1 H v sz n cs) (k : H0.size ≤ H1.size) : OutC H0 H v sz n cs := ⟨h.rd, h.gr, fun p hp => Nat.le_trans k (h.new p hp)⟩
theorem OutC.push {H0 H : AHeap} {v : AV} {sz n : Nat} {cs c z : List AV} {by_ : Nat} (h : OutC H0 H v sz n cs) (k : Keeps H0 H) {r : Option (AV × AHeap)}
    (hA : appU (H.new (.cells c)) v (.row H.size 0 sz 1 true) (some (sz, by_, z)) = r) (hc : c.length = sz) (hz : z.length = sz) (hs : 0 < sz) (h1 : (n + 1) * by_ ≤ 140737488355328) (h2 : n + 1 ≤ 9223372036854775807) (ho : allOne c = true) :
    ∃ v' H', r = some (v', H') ∧ OutC H0 H' v' sz (n + 1) (cs ++ c) ∧ Keeps H0 H' ∧ H.size < H'.size ∧ (∀ p, p < H.size → p ∉ objs v → H'.obj p = H.obj p) ∧ ∀ p, p ∈ objs v' → H.size ≤ p := by
  obtain ⟨H1, rfl, f1, s1, o1, rd⟩ := app_of hA (h.rd.keep (Keeps.new H _)) h.gr (Reads.row' (all := c) (by simp) (by simp) (by omega)) (by omega) hz hs h1 h2 ho
  simp only [new_size] at s1
  have := k.size
  refine ⟨_, H1, rfl, ⟨rd, by simp, by simp; omega⟩, f1.keeps (k.new' _) (fun p hp => h.new p hp), by omega, fun p hp hn => ?_, by simp⟩
  rw [f1.obj p (by simp; omega) hn, new_old (by omega)]
theorem frz_out {H H' : AHeap} {v : AV} {sz n : Nat} {cs : List AV} (h : OutC H H' v sz n cs) (hcl : closedL H.size cs = true) : ∃ w, frz H' H.size [0] v = w ∧ closed H.size w = true ∧ ∀ H2, Reads H2 w sz n cs := by
  obtain ⟨rd, gr, new⟩ := h
  cases v <;> first | (exact gr.elim) | skip
  · have hn : n = 0 := by
      have := rd.len
      simp [sliceLen] at this
      omega
    subst hn
    have : cs = [] := List.eq_nil_of_length_eq_zero (by simpa using rd.size)
    subst this
    exact ⟨.nils, by simp, by simp, fun _ => Reads.nils⟩
  · rename_i o off s m full
    obtain ⟨g1, g2, g3, g4⟩ := rd
    obtain ⟨rfl, g4⟩ := g4
    simp [sliceLen] at g1
    subst g1
    have ho : ¬ o < H.size := by have := new o (by simp); omega
    unfold sliceCells at g2
    simp only at g2
    split at g2 <;> first | (cases g2; done) | skip
    rename_i all hob
    split at g2 <;> first | (cases g2; done) | skip
    rename_i hle
    simp only [Option.some.injEq] at g2
    refine ⟨.lst s m cs, ?_, by simpa using hcl, fun _ => Reads.lst g3⟩
    rw [frz_row, if_neg ho, hob, frzO_cells, if_pos hle, g2, frz_nil', List.map_id]
theorem back_out {H H' : AHeap} {v : AV} {sz n : Nat} {cs : List AV} (k : Keeps H H') (h : OutC H H' v sz n cs) (hcl : closedL H.size cs = true) : ∃ w, back [0] H v H' = (w, H) ∧ ∀ H2, Reads H2 w sz n cs := by
  obtain ⟨w, h1, h2, h3⟩ := frz_out h hcl
  exact ⟨w, by rw [back_cons (by rw [h1]; exact h2) k.shut, cut_keeps k, h1], h3⟩
end Go.Proofs.Ytiobohfiaapgeaa
end
section
namespace Go.Proofs.Ytiobohfiaapgeaa
set_option maxRecDepth 100000
set_option maxHeartbeats 2000000
theorem eval_run {H : AHeap} {g : Nat} {most : Int} {ns : List Nd} {F : List Nat} (G : GT H g most ns F) (gok : Gok ns) {s : AV} {env : List Nm} (hs : RN H s env) (hm : env.length ≤ 1000000) {id : Int} :
    R Zdi [.ptr g 0, .int .i64 id, s] H = some (.tup [(worthS (lookL env) ns id).1.av, .int .i64 (worthS (lookL env) ns id).2], H) := by
  obtain ⟨H1, es, c, hk, k1, z1, o1, he⟩ := known_env (H := H.new (.cells [.int .i64 0, u 0#64, u 0#64])) (hs.keep (Keeps.new _ _)) hm
  simp only [new_size] at hk z1 o1
  have k2 := (Keeps.new H (.cells [.int .i64 0, u 0#64, u 0#64])).trans k1
  have hw := worth_run (G.keeps k2) gok z1 o1 he (id := id)
  have oz : H1.obj H.size = .cells [.int .i64 0, u 0#64, u 0#64] := (k1.obj _ (by simp)).trans (by simp)
  have n1 : H.size < H1.size := by omega
  rw [Zka]
  generalize worthS (lookL env) ns id = W at *
  simp (maxDischargeDepth := 40) [Zir, hk, hw, oz, k2]
theorem vars_run2 {H : AHeap} {g : Nat} {most : Int} {ns : List Nd} {F : List Nat} (G : GT H g most ns F) : ∃ v, R Zb3 [.ptr g 0] H = some (v, H) ∧ ∀ H', RI H' v (varsT ns ns.length) := by
  obtain ⟨o1, o2, o3, t, v, kok, rfl⟩ := id G
  rw [Zgu]
  have hlen := slv_len o1 ns
  simp (maxDischargeDepth := 40) [Ze9, t.og, hlen]
  generalize hL : loopL _ _ _ _ _ _ = r
  obtain ⟨y, e1, H1, rfl, ⟨rfl, k1, w, e7, hw⟩, fr⟩ := vars_loop t hL (by simp) (by simp) (by simp) (by simp)
  simp (maxDischargeDepth := 40) [e7]
  exact back_ints2 k1 hw
def fullV (look : ByteArray → Option Vl) (n : Nd) : Vl := if (((look n.name).getD Vl.zero).ok && decide (((look n.name).getD Vl.zero).w = n.sort)) = true then (look n.name).getD Vl.zero else ⟨n.sort, 0#128⟩
def fullS (look : ByteArray → Option Vl) (ns : List Nd) (xs : List Int) : List Nm := xs.map fun x => ⟨(ns.getD (x - 1).toNat Nd.zero).name, fullV look (ns.getD (x - 1).toNat Nd.zero)⟩
theorem flatN_append (l m : List Nm) : flatN (l ++ m) = flatN l ++ flatN m := by simp [flatN]
theorem fullS_take {look : ByteArray → Option Vl} {ns : List Nd} {xs : List Int} {i : Nat} {x : Int} (hx : xs[i]? = some x) {n : Nd} (hn : ns.getD (x - 1).toNat Nd.zero = n) : fullS look ns (xs.take (i + 1)) = fullS look ns (xs.take i) ++ [⟨n.name, fullV look n⟩] := by
  unfold fullS
  rw [List.take_add_one, hx, List.map_append]
  simp only [Option.toList_some, List.map_cons, List.map_nil, hn]
theorem EnvM.val {es : List AEnt} {look : ByteArray → Option Vl} (h : EnvM es look) {s : ByteArray} : lookU false (.agg [.int .i64 0, u 0#64, u 0#64]) (findE (.str s) es) = ((look s).getD Vl.zero).av := by
  rcases h.find (s := s) with ⟨h1, h2⟩ | ⟨v, x, h1, h2, h3⟩
  · rw [h1, h2]; rfl
  · rw [h1, h2]; simpa using h3
theorem mem_vars {ns : List Nd} {x : Int} (h : x ∈ varsT ns ns.length) : ∃ j : Nat, x = (j : Int) + 1 ∧ j < ns.length ∧ (ns.getD j Nd.zero).op = 2 := by
  unfold varsT at h
  simp only [List.mem_map, List.mem_filter, List.mem_range, decide_eq_true_eq] at h
  obtain ⟨j, ⟨h1, h2⟩, rfl⟩ := h
  exact ⟨j, rfl, h1, h2⟩
theorem complete_loop {H0 H : AHeap} {g em : Nat} {most : Int} {ns : List Nd} {F : List Nat} (G : GT H0 g most ns F) {look : ByteArray → Option Vl} {es0 : List AEnt} {c0 : Nat} (lem : em < H0.size) (oem : H0.obj em = .map (.one .s) es0 c0) (hem : EnvM es0 look) (k0 : Keeps H0 H)
    {s : AV} {e : Env} {r : Rn} (hL : loopL Try.prog KT R Zdo e H = r) (e0 : e 0 = some (.ptr g 0)) (e5 : e 5 = some (.map em)) (e6 : e 6 = some .nils) (e15 : e 15 = some s) (e16 : e 16 = some (.int .i64 (varsT ns ns.length).length)) (e17 : e 17 = some (.int .i64 0)) (hs : ∀ H', RI H' s (varsT ns ns.length)) :
    ∃ y e' H', r = some (y, e', H') ∧ (y = .exit 0 ∧ Keeps H0 H' ∧ ∃ w, e' 6 = some w ∧ OutC H0 H' w 4 (varsT ns ns.length).length (flatN (fullS look ns (varsT ns ns.length)))) ∧ ∀ t, t ∉ defs Zdo → e' t = e t := by
  have hlim : ns.length ≤ 4096 := by
    obtain ⟨p1, p2, p3, tg, -⟩ := G
    have := tg.lim
    have := tg.lim2
    omega
  have hvl := varsT_len ns ns.length
  have hmem : ∀ x, x ∈ varsT ns ns.length → _ := fun x hx => mem_vars hx
  generalize varsT ns ns.length = N at *
  refine loop_count Zdo.eq_1 hL N.length (fun i e1 H1 => e1 17 = some (.int .i64 i) ∧ Keeps H0 H1 ∧ ∃ w, e1 6 = some w ∧ OutC H0 H1 w 4 i (flatN (fullS look ns (N.take i)))) _ 0 (by omega)
    ⟨e17, k0, .nils, e6, OutC.nils⟩ ?_ ?_
  · rintro i f H1 hf - hlt ⟨f17, k, w, f6, hw⟩
    have w1 := i64w (n := (i : Int) + 1) (by omega) (by omega)
    have c1 : (i : Int) < N.length := by omega
    obtain ⟨x, hx⟩ : ∃ x, N[i]? = some x := ⟨N[i], by simp [hlt]⟩
    obtain ⟨j, hxj, hj1, hj2⟩ := hmem x (List.mem_of_getElem? hx)
    obtain ⟨n, hn⟩ : ∃ n, ns[j]? = some n := ⟨ns[j], List.getElem?_eq_getElem hj1⟩
    obtain ⟨x0, y0⟩ := loadi_of (hs H1) hlt
    replace y0 := y0 H1 (Keeps.refl _)
    have hg : N.getD i 0 = x := by simp [List.getD_eq_getElem?_getD, hx]
    rw [hg] at y0
    have hns : nodeS ns x = some n := by
      unfold nodeS
      rw [if_neg (by omega), show (x - 1).toNat = j from by omega, hn]
    have hgd : ns.getD (x - 1).toNat Nd.zero = n := by
      rw [show (x - 1).toNat = j from by omega, List.getD_eq_getElem?_getD, hn]; rfl
    have hnode : ∀ H', Keeps H0 H' → R Zj [.ptr g 0, .int .i64 x] H' = some (.tup [.agg n.cs, .bool true], H') := fun H' k' => by
      obtain ⟨p1, p2, p3, tg, -⟩ := G.keeps k'
      have := node_run tg (id := x)
      rw [hns] at this
      exact this
    have ht := fullS_take (look := look) hx hgd
    have lem1 : em < H1.size := k.lt lem
    have oem1 := (k.obj _ lem).trans oem
    have m1 : ¬ em = H1.size := by omega
    have m2 : ¬ em = H1.size + 1 := by omega
    have hlk := hem.val (s := n.name)
    have hfv : fullV look n = if (((look n.name).getD Vl.zero).ok && decide (((look n.name).getD Vl.zero).w = n.sort)) = true then (look n.name).getD Vl.zero else ⟨n.sort, 0#128⟩ := rfl
    have hr := fun H => fits_run (v := (look n.name).getD Vl.zero) (s := n.sort) (H := H)
    rw [ht]
    generalize fullV look n = X at *
    generalize (look n.name).getD Vl.zero = W at *
    have key : ∀ (H2 : AHeap) (r : Option (AV × AHeap)), Keeps H1 H2 → appU (H2.new (.cells [.str n.name, .int .i64 X.w, u (lo X.n), u (hi X.n)])) w (.row H2.size 0 4 1 true) (some (4, 40, [.str .empty, .int .i64 0, u 0#64, u 0#64])) = r → ∃ v' H', r = some (v', H') ∧ OutC H0 H' v' 4 (i + 1) (flatN (fullS look ns (N.take i) ++ [⟨n.name, X⟩])) ∧ Keeps H0 H' := fun H2 r k2 hA => by
      obtain ⟨v', H', h1, h2, h3, -⟩ := (hw.keep k2).push (k.trans k2) hA rfl rfl (by omega) (by omega) (by omega) rfl
      refine ⟨v', H', h1, ?_, h3⟩
      rw [flatN_append]
      simpa [flatN, Nm.cs, Vl.cs] using h2
    obtain ⟨op, sort, a, b, d, p, q, vw, vl, vh, name⟩ := n
    simp only [Nd.cs] at hnode
    simp only at hlk hfv hr key
    by_cases ok : (W.ok && decide (W.w = sort)) = true
    · rw [ok] at hr
      rw [if_pos ok] at hfv
      subst hfv
      simp (maxDischargeDepth := 20) [hf, e0, e5, e15, e16, f17, f6, c1, x0, y0, k, hnode, oem1, m1, hlk, hr]
      generalize hA : appU _ _ _ _ = q
      obtain ⟨v', H', rfl, h2, h3⟩ := key _ q (by simp (maxDischargeDepth := 20)) hA
      simp [f17, w1, h3]
      exact h2
    · rw [Bool.not_eq_true] at ok
      rw [ok] at hr
      rw [if_neg (by rw [ok]; simp)] at hfv
      subst hfv
      have z0 : lo (0#128) = 0#64 := rfl
      have z1 : hi (0#128) = 0#64 := rfl
      simp only [z0, z1] at key
      simp (maxDischargeDepth := 20) [hf, e0, e5, e15, e16, f17, f6, c1, x0, y0, k, hnode, oem1, m1, hlk, hr]
      generalize hA : appU _ _ _ _ = q
      obtain ⟨v', H', rfl, h2, h3⟩ := key _ q (by simp (maxDischargeDepth := 20)) hA
      simp [f17, w1, h3]
      exact h2
  · rintro f H1 hf ⟨f17, k, w, f6, hw⟩
    rw [List.take_of_length_le (Nat.le_refl _)] at hw
    simp [hf, e16, f17]
    exact ⟨k, w, f6, hw⟩
theorem closed_flatN {n : Nat} : ∀ l : List Nm, closedL n (flatN l) = true
  | [] => rfl
  | x :: l => by
    rw [show flatN (x :: l) = x.cs ++ flatN l from rfl, closedL_append, closed_flatN l]
    simp [Nm.cs, Vl.cs]
theorem complete_run {H : AHeap} {g : Nat} {most : Int} {ns : List Nd} {F : List Nat} (G : GT H g most ns F) {s : AV} {env : List Nm} (hs : RN H s env) (hm : env.length ≤ 1000000) :
    ∃ v, R Zdm [.ptr g 0, s] H = some (v, H) ∧ ∀ H', RN H' v (fullS (lookL env) ns (varsT ns ns.length)) := by
  obtain ⟨H1, es, c, hk, k1, z1, o1, he⟩ := known_env hs hm
  obtain ⟨v, hv, hvr⟩ := vars_run2 (G.keeps k1)
  have hlen := (hvr H1).len
  rw [Ziq]
  simp (maxDischargeDepth := 40) [Zg1, hk, hv, hlen]
  generalize hL : loopL _ _ _ _ _ _ = r
  obtain ⟨y, e1, H2, rfl, ⟨rfl, k2, w, e6, hw⟩, fr⟩ := complete_loop (G.keeps k1) z1 o1 he (Keeps.refl _) hL (by simp) (by simp) (by simp) (by simp) (by simp) (by simp) hvr
  simp (maxDischargeDepth := 40) [e6]
  obtain ⟨v', b1, b2⟩ := back_out (k1.trans k2) (hw.base k1.size) (closed_flatN _)
  refine ⟨v', b1, fun H' => ?_⟩
  have := b2 H'
  unfold RN
  rw [show (fullS (lookL env) ns (varsT ns ns.length)).length = (varsT ns ns.length).length from by simp [fullS]]
  exact this
end Go.Proofs.Ytiobohfiaapgeaa
end
section
namespace Go.Proofs.Ytiobohfiaapgeaa
set_option maxRecDepth 100000
set_option maxHeartbeats 2000000
end Go.Proofs.Ytiobohfiaapgeaa
end
section
namespace Go.Proofs.Ytiobohfiaapgeaa
set_option maxRecDepth 100000
set_option maxHeartbeats 4000000
end Go.Proofs.Ytiobohfiaapgeaa
end
section
namespace Go.Proofs.Ytiobohfiaapgeaa
set_option maxRecDepth 100000
set_option maxHeartbeats 4000000
structure RG (H : AHeap) (g : Nat) (most : Int) (ns : List Nd) (o : Nat) : Prop where
  lg : g < H.size
  l1 : ns ≠ [] → o < H.size
  og : H.obj g = .cells [slv o ns, .int .i64 most]
  b1 : ns ≠ [] → H.obj o = .cells (flat ns)
  n1 : ns ≠ [] → g ≠ o
  lim : (ns.length : Int) ≤ most
  lim2 : most ≤ 4096
theorem RG.same {H H' : AHeap} {g : Nat} {most : Int} {ns : List Nd} {o : Nat} (h : RG H g most ns o) (z : H.size ≤ H'.size) (k : ∀ p, p ∈ g :: objs (slv o ns) → H'.obj p = H.obj p) : RG H' g most ns o := by
  have k1 : ns ≠ [] → H'.obj o = H.obj o := fun e => k o (by
    unfold slv; rw [if_neg e]; simp)
  exact ⟨Nat.lt_of_lt_of_le h.lg z, fun e => Nat.lt_of_lt_of_le (h.l1 e) z, (k _ (by simp)).trans h.og, fun e => (k1 e).trans (h.b1 e), h.n1, h.lim, h.lim2⟩
theorem RG.keep {H H' : AHeap} {g : Nat} {most : Int} {ns : List Nd} {o : Nat} (h : RG H g most ns o) (k : Keeps H H') : RG H' g most ns o :=
  ⟨k.lt h.lg, fun e => k.lt (h.l1 e), (k.obj _ h.lg).trans h.og, fun e => (k.obj _ (h.l1 e)).trans (h.b1 e), h.n1, h.lim, h.lim2⟩
def GR (H : AHeap) (g : Nat) (most : Int) (ns : List Nd) (F : List Nat) : Prop := ∃ o, RG H g most ns o ∧ Vok ns ∧ Kok ns ∧ F = g :: objs (slv o ns)
theorem GR.keeps {H H' : AHeap} {g : Nat} {most : Int} {ns : List Nd} {F : List Nat} (h : GR H g most ns F) (k : Keeps H H') : GR H' g most ns F := by
  obtain ⟨o, t, v, kk, rfl⟩ := h
  exact ⟨o, t.keep k, v, kk, rfl⟩
theorem GR.same {H H' : AHeap} {g : Nat} {most : Int} {ns : List Nd} {F : List Nat} (h : GR H g most ns F) (z : H.size ≤ H'.size) (k : ∀ p, p ∈ F → H'.obj p = H.obj p) : GR H' g most ns F := by
  obtain ⟨o, t, v, kk, rfl⟩ := h
  exact ⟨o, t.same z k, v, kk, rfl⟩
theorem GR.lt {H : AHeap} {g : Nat} {most : Int} {ns : List Nd} {F : List Nat} (h : GR H g most ns F) : ∀ p, p ∈ F → p < H.size := by
  obtain ⟨o, t, v, kk, rfl⟩ := h
  intro p hp
  simp only [List.mem_cons] at hp
  rcases hp with rfl | hp
  · exact t.lg
  · unfold slv at hp
    split at hp
    · simp at hp
    · rename_i hne
      simp at hp
      subst hp
      exact t.l1 hne
end Go.Proofs.Ytiobohfiaapgeaa
end
section
namespace Go.Proofs.Ytiobohfiaapgeaa
set_option maxRecDepth 100000
set_option maxHeartbeats 4000000
end Go.Proofs.Ytiobohfiaapgeaa
end
section
namespace Go.Proofs.Ytiobohfiaapgeaa
set_option maxRecDepth 100000
set_option maxHeartbeats 4000000
def GvR (H : AHeap) (g : Nat) (most : Int) (F : List Nat) (x : List Nd × Int × Int) (r : Option (AV × AHeap)) : Prop :=
  ∃ H' F', r = some (.tup [.int .i64 x.2.1, .int .i64 x.2.2], H') ∧ GR H' g most x.1 F' ∧ MvT F H F' H'
theorem GvR.mk {H H' : AHeap} {g : Nat} {most l e : Int} {F : List Nat} {x : List Nd × Int × Int} {js : List Nd} {r : Option (AV × AHeap)} (h : some (.tup [.int .i64 l, .int .i64 e], H') = r) (hx : x = (js, l, e)) (F' : List Nat) (g' : GR H' g most js F') (k : MvT F H F' H') : GvR H g most F x r := by
  subst hx; exact ⟨H', F', h.symm, g', k⟩
theorem GvR.keep {H H' : AHeap} {g : Nat} {most l e : Int} {F : List Nat} {ns : List Nd} {x : List Nd × Int × Int} {r : Option (AV × AHeap)} (G : GR H g most ns F) (h : some (.tup [.int .i64 l, .int .i64 e], H') = r) (hx : x = (ns, l, e)) (k : Keeps H H') : GvR H g most F x r :=
  GvR.mk h hx _ (G.keeps k) (MvT.keeps k)
end Go.Proofs.Ytiobohfiaapgeaa
end
section
namespace Go.Proofs.Ytiobohfiaapgeaa
set_option maxRecDepth 100000
set_option maxHeartbeats 4000000
end Go.Proofs.Ytiobohfiaapgeaa
end
section
namespace Go.Proofs.Ytiobohfiaapgeaa
set_option maxRecDepth 100000
set_option maxHeartbeats 4000000
end Go.Proofs.Ytiobohfiaapgeaa
end
section
namespace Go.Proofs.Ytiobohfiaapgeaa
set_option maxRecDepth 100000
set_option maxHeartbeats 4000000
structure Two (H0 H : AHeap) (g q : Nat) (most : Int) (ns : List Nd) (F E : List Nat) : Prop where
  gt : GT H g most ns F
  gr : GR H q most ns E
  kp : Keeps H0 H
  fF : ∀ p, p ∈ F → H0.size ≤ p
  fE : ∀ p, p ∈ E → H0.size ≤ p
  dj : ∀ p, p ∈ F → p ∉ E
theorem Two.make {H0 H H1 H2 : AHeap} {g q : Nat} {most : Int} {ns js : List Nd} {F E F' E' : List Nat} (T : Two H0 H g q most ns F E) (g1 : GT H1 g most js F') (m1 : MvT F H F' H1) (g2 : GR H2 q most js E') (m2 : MvT E H1 E' H2) : Two H0 H2 g q most js F' E' := by
  have hF' : ∀ p, p ∈ F' → H0.size ≤ p := fun p hp => by
    rcases m1.new p hp with h | h
    · exact T.fF p h
    · exact Nat.le_trans T.kp.size h
  have dj1 : ∀ p, p ∈ F' → p ∉ E := fun p hp hE => by
    rcases m1.new p hp with h | h
    · exact T.dj p h hE
    · have := T.gr.lt p hE; omega
  have k1 := m1.fr.keeps T.kp T.fF
  refine ⟨g1.same m2.fr.size fun p hp => m2.fr.obj p (g1.lt p hp) (dj1 p hp), g2, m2.fr.keeps k1 T.fE, hF', fun p hp => ?_, fun p hp hE => ?_⟩
  · rcases m2.new p hp with h | h
    · exact T.fE p h
    · exact Nat.le_trans k1.size h
  · rcases m2.new p hE with h | h
    · exact dj1 p hp h
    · have := g1.lt p hp; omega
theorem Two.keeps {H0 H H' : AHeap} {g q : Nat} {most : Int} {ns : List Nd} {F E : List Nat} (T : Two H0 H g q most ns F E) (k : Keeps H H') : Two H0 H' g q most ns F E :=
  ⟨T.gt.keeps k, T.gr.keeps k, T.kp.trans k, T.fF, T.fE, T.dj⟩
end Go.Proofs.Ytiobohfiaapgeaa
end
section
namespace Go.Proofs.Ytiobohfiaapgeaa
set_option maxRecDepth 100000
set_option maxHeartbeats 4000000
theorem makT_len {most : Int} {ns : List Nd} {n : Nd} : (makT most ns n).1.length ≤ ns.length + 1 := by
  unfold makT
  repeat' split
  all_goals simp
end Go.Proofs.Ytiobohfiaapgeaa
end
section
namespace Go.Proofs.Ytiobohfiaapgeaa
set_option maxRecDepth 100000
set_option maxHeartbeats 4000000
instance : DecidableEq Nm := fun a b => decidable_of_iff (a.name = b.name ∧ a.v = b.v) (by cases a; cases b; simp)
def kX : Nd := ⟨2, 4, 0, 0, 0, 0, 0, 0, 0#64, 0#64, ⟨#[120]⟩⟩
def kA : Nd := ⟨18, 0, 1, 1, 0, 0, 0, 0, 0#64, 0#64, .empty⟩
end Go.Proofs.Ytiobohfiaapgeaa
end
section
namespace Go.Proofs.Ytiobohfiaapgeaa
set_option maxRecDepth 100000
set_option maxHeartbeats 4000000
end Go.Proofs.Ytiobohfiaapgeaa
end
section
namespace Go.Proofs.Ytiobohfiaapgeaa
set_option maxRecDepth 100000
set_option maxHeartbeats 2000000
theorem zero_ok {s : Int} (h : isSort s = true) : (⟨s, 0#128⟩ : Vl).ok = true := by
  unfold isSort at h
  have h := of_decide_eq_true h
  unfold Vl.ok rightF
  by_cases c : s = 0
  · rw [if_pos c]; exact (by decide : decide (lo (0#128) ≤ 1#64 ∧ hi (0#128) = 0#64) = true)
  · rw [if_neg c]
    have e : mkN (lo (0#128)) (hi (0#128)) = 0#128 := by decide
    simp only
    rw [e]
    simp; omega
theorem fullV_fit {look : ByteArray → Option Vl} {n : Nd} (h : isSort n.sort = true) : (fullV look n).ok = true ∧ (fullV look n).w = n.sort := by
  unfold fullV
  split
  · rename_i h1
    simp only [Bool.and_eq_true, decide_eq_true_eq] at h1
    exact h1
  · exact ⟨zero_ok h, rfl⟩
theorem Gok.sort {ns : List Nd} (g : Gok ns) {n : Nd} (h : n ∈ ns) (h2 : n.op = 2) : isSort n.sort = true := by
  have := g.srt n h
  unfold sortedF at this
  rw [if_neg (by omega), if_pos h2] at this
  have h2 := congrArg Prod.snd this
  simp only at h2
  split at h2
  · rename_i h; exact h.1
  · cases h2
theorem Gok.same {ns : List Nd} (g : Gok ns) {i j : Nat} {n m : Nd} (hn : ns[i]? = some n) (hm : ns[j]? = some m) (h2 : n.op = 2) (h2' : m.op = 2) (h : n.name = m.name) : i = j := by
  have a := g.uniq i n hn h2
  have b := g.uniq j m hm h2'
  rw [h, b] at a
  exact (Option.some.inj a).symm
theorem look_full {look : ByteArray → Option Vl} {ns : List Nd} (g : Gok ns) {i : Nat} {n : Nd} (hn : ns[i]? = some n) (h2 : n.op = 2) : lookL (fullS look ns (varsT ns ns.length)) n.name = some (fullV look n) := by
  have hi := (List.getElem?_eq_some_iff.1 hn).1
  have hgi : ns.getD i Nd.zero = n := by rw [List.getD_eq_getElem?_getD, hn]; rfl
  unfold lookL
  cases hf : (fullS look ns (varsT ns ns.length)).find? (fun m => decide (m.name = n.name)) with
  | none =>
    exfalso
    have hm : (i : Int) + 1 ∈ varsT ns ns.length := by
      unfold varsT
      simp only [List.mem_map, List.mem_filter, List.mem_range, decide_eq_true_eq]
      exact ⟨i, ⟨hi, by rw [hgi]; exact h2⟩, rfl⟩
    have := List.find?_eq_none.1 hf ⟨n.name, fullV look n⟩ (by
      unfold fullS
      refine List.mem_map.2 ⟨_, hm, ?_⟩
      rw [show ((i : Int) + 1 - 1).toNat = i from by omega, hgi])
    simp at this
  | some m =>
    have hp := List.find?_some hf
    have hm := List.mem_of_find?_eq_some hf
    unfold fullS at hm
    obtain ⟨x, hx, rfl⟩ := List.mem_map.1 hm
    obtain ⟨j, rfl, hj, hj2⟩ := mem_vars hx
    rw [show ((j : Int) + 1 - 1).toNat = j from by omega] at hp ⊢
    obtain ⟨m, hm⟩ : ∃ m, ns[j]? = some m := ⟨ns[j], List.getElem?_eq_getElem hj⟩
    have hgj : ns.getD j Nd.zero = m := by rw [List.getD_eq_getElem?_getD, hm]; rfl
    rw [hgj] at hj2 hp ⊢
    have e := g.same hm hn hj2 h2 (by simpa using hp)
    subst e
    rw [hm] at hn
    cases hn
    rfl
def AllFit (look : ByteArray → Option Vl) (ns : List Nd) : Prop := ∀ (i : Nat) (n : Nd), ns[i]? = some n → n.op = 2 → varFit look n = true
theorem full_fit {look : ByteArray → Option Vl} {ns : List Nd} (g : Gok ns) : AllFit (lookL (fullS look ns (varsT ns ns.length))) ns := by
  intro i n hn h2
  unfold varFit
  rw [look_full g hn h2]
  obtain ⟨h3, h4⟩ := fullV_fit (look := look) (g.sort (List.mem_of_getElem? hn) h2)
  simp [h3, h4]
theorem AllFit.any {look : ByteArray → Option Vl} {ns : List Nd} (h : AllFit look ns) (xs : List Int) : xs.any (unfit look ns) = false := by
  rw [List.any_eq_false]
  intro x hx
  unfold unfit
  cases hn : ns[(x - 1).toNat]? with
  | none => rw [List.getD_eq_getElem?_getD, hn]; simp [Nd.zero]
  | some n =>
    rw [List.getD_eq_getElem?_getD, hn]
    simp only [Option.getD_some, Bool.and_eq_true, decide_eq_true_eq, Bool.not_eq_true']
    rintro ⟨h2, h3⟩
    rw [h _ n hn h2] at h3
    cases h3
theorem AllFit.worth {look : ByteArray → Option Vl} {ns : List Nd} (h : AllFit look ns) {id : Int} (h1 : 1 ≤ id) (h2 : id ≤ ns.length) : worthS look ns id = (V look ns id, 0) := by
  unfold worthS
  rw [if_neg (by omega), h.any]
  simp
theorem AllFit.good {look : ByteArray → Option Vl} {ns : List Nd} (h : AllFit look ns) (g : Gok ns) {i : Nat} {n : Nd} (hn : ns[i]? = some n) : (V look ns ((i : Int) + 1)).ok = true ∧ (V look ns ((i : Int) + 1)).w = n.sort := by
  have := val_good g (S := fun _ => True) (fun _ _ _ _ _ _ _ => trivial) (fun i n _ hn h2 => h i n hn h2) i n trivial hn
  exact ⟨this.1, this.2.1⟩
theorem AllFit.more {look : ByteArray → Option Vl} {ns : List Nd} (h : AllFit look ns) {M : Nd} (hM : ¬ M.op = 2) : AllFit look (ns ++ [M]) := by
  intro i n hn h2
  by_cases c : i < ns.length
  · rw [List.getElem?_append_left c] at hn; exact h i n hn h2
  · rw [List.getElem?_append_right (by omega)] at hn
    have := List.mem_of_getElem? hn
    simp at this
    rw [this] at h2
    exact absurd h2 hM
theorem formed_arity {N : Int} {n : Nd} (h : formedF N n = true) : (∀ i, i < 3 → kidOK N (arity n.op) i ([n.a, n.b, n.c].getD i 0) = true) ∧ 0 ≤ arity n.op := by
  unfold formedF at h
  simp only [kidsOK, Bool.and_eq_true, decide_eq_true_eq] at h
  obtain ⟨⟨f1, f2, f3, -⟩, ⟨f4, -⟩, -⟩ := h
  refine ⟨fun i hi => ?_, f4⟩
  rcases (by omega : i = 0 ∨ i = 1 ∨ i = 2) with rfl | rfl | rfl
  · exact f1
  · exact f2
  · exact f3
end Go.Proofs.Ytiobohfiaapgeaa
end
section
namespace Go.Proofs.Ytiobohfiaapgeaa
set_option maxRecDepth 100000
set_option maxHeartbeats 1000000
theorem nd_at {ns : List Nd} {k : Int} (h1 : 1 ≤ k) (h2 : k ≤ ns.length) : ∃ i : Nat, k = (i : Int) + 1 ∧ ns[i]? = some (ndF ns k) := by
  obtain ⟨i, hi⟩ : ∃ i : Nat, k = (i : Int) + 1 := ⟨(k - 1).toNat, by omega⟩
  refine ⟨i, hi, ?_⟩
  subst hi
  have hl : i < ns.length := by omega
  unfold ndF nodeS
  rw [if_neg (by omega), show ((i : Int) + 1 - 1).toNat = i by omega, List.getElem?_eq_getElem hl]
  rfl
theorem formed1 {N : Int} {n : Nd} (h : formedF N n = true) (ha : arity n.op = 1) : 1 ≤ n.a ∧ n.a ≤ N ∧ n.b = 0 ∧ n.c = 0 := by
  unfold formedF at h
  simp only [kidsOK, kidOK, Bool.and_eq_true, ha] at h
  obtain ⟨⟨f1, f2, f3, -⟩, -⟩ := h
  simp at f1 f2 f3
  exact ⟨f1.1, f1.2, f2, f3⟩
theorem formed2 {N : Int} {n : Nd} (h : formedF N n = true) (ha : arity n.op = 2) : 1 ≤ n.a ∧ n.a ≤ N ∧ 1 ≤ n.b ∧ n.b ≤ N ∧ n.c = 0 := by
  unfold formedF at h
  simp only [kidsOK, kidOK, Bool.and_eq_true, ha] at h
  obtain ⟨⟨f1, f2, f3, -⟩, -⟩ := h
  simp at f1 f2 f3
  exact ⟨f1.1, f1.2, f2.1, f2.2, f3⟩
theorem formed3 {N : Int} {n : Nd} (h : formedF N n = true) (ha : arity n.op = 3) : 1 ≤ n.a ∧ n.a ≤ N ∧ 1 ≤ n.b ∧ n.b ≤ N ∧ 1 ≤ n.c ∧ n.c ≤ N := by
  unfold formedF at h
  simp only [kidsOK, kidOK, Bool.and_eq_true, ha] at h
  obtain ⟨⟨f1, f2, f3, -⟩, -⟩ := h
  simp at f1 f2 f3
  exact ⟨f1.1, f1.2, f2.1, f2.2, f3.1, f3.2⟩
section
variable {look : ByteArray → Option Vl} {ns : List Nd}
theorem kidsV_1 {n : Nd} (ha : arity n.op = 1) : kidsV (valsV look ns) n = [V look ns n.a] := by unfold kidsV V; rw [ha]; rfl
theorem kidsV_2 {n : Nd} (ha : arity n.op = 2) : kidsV (valsV look ns) n = [V look ns n.a, V look ns n.b] := by unfold kidsV V; rw [ha]; rfl
theorem kidsV_3 {n : Nd} (ha : arity n.op = 3) : kidsV (valsV look ns) n = [V look ns n.a, V look ns n.b, V look ns n.c] := by unfold kidsV V; rw [ha]; rfl
structure KidOK (look : ByteArray → Option Vl) (ns : List Nd) (k : Int) : Prop where
  val : V look ns k = nodeV look (valsV look ns) (ndF ns k)
  ok : (V look ns k).ok = true
  w : (V look ns k).w = (ndF ns k).sort
  form : formedF ns.length (ndF ns k) = true
  fit : ¬ (ndF ns k).op = 1 → ¬ (ndF ns k).op = 2 → Fit (ndF ns k).op (ndF ns k).p (ndF ns k).q (kidsV (valsV look ns) (ndF ns k)) (ndF ns k).sort
  con : ∀ v, conF ns k = some v → V look ns k = v
theorem kid_ok (g : Gok ns) (hA : AllFit look ns) {k : Int} (h1 : 1 ≤ k) (h2 : k ≤ ns.length) : KidOK look ns k := by
  obtain ⟨i, rfl, hi⟩ := nd_at h1 h2
  obtain ⟨v1, v2, v3⟩ := val_good g (S := fun _ => True) (fun _ _ _ _ _ _ _ => trivial) (fun i n _ hn h2 => hA i n hn h2) i _ trivial hi
  have hv := V_node (look := look) g.kok hi
  refine ⟨hv, v1, v2, g.form _ (List.mem_of_getElem? hi), fun a b => (v3 a b).1, fun v hc => ?_⟩
  unfold conF at hc
  split at hc
  · rename_i ho
    cases hc
    rw [hv]
    unfold nodeV
    rw [if_pos ho]
  · cases hc
theorem node_fit (g : Gok ns) (hA : AllFit look ns) {n : Nd} (hf : formedF ns.length n = true) (hs : (sortedF ns n).2 = 0) (h1 : ¬ n.op = 1) (h2 : ¬ n.op = 2) : Fit n.op n.p n.q (kidsV (valsV look ns) n) (sortedF ns n).1.sort := by
  have hk := kids_list hf h1 h2 (valsV look ns) fun k hk h0 => by
    have hkl : k ≤ ns.length := by
      obtain ⟨k1, k2, k3⟩ := formed_kids hf
      rcases hk with rfl | rfl | rfl <;> assumption
    obtain ⟨i, rfl, hi⟩ := nd_at (by omega) hkl
    have K := kid_ok g hA (k := (i : Int) + 1) (by omega) hkl
    exact ⟨_, by rw [show ((i : Int) + 1 - 1).toNat = i by omega]; exact hi, K.ok, K.w⟩
  unfold sortedF at hs ⊢
  rw [if_neg h1, if_neg h2] at hs ⊢
  simp only at hs ⊢
  refine fit_of ?_ hk.2
  rw [hk.1]
  rw [← hs]
theorem consF_val (hk : ∀ k v, conF ns k = some v → V look ns k = v) : ∀ {l : List Int} {vs : List Vl}, consF ns l = some vs → vs = l.map (V look ns)
  | [], vs, h => by simp [consF] at h; subst h; rfl
  | k :: l, vs, h => by
    unfold consF at h
    cases hc : conF ns k with
    | none => rw [hc] at h; cases h
    | some v =>
      rw [hc] at h
      simp only [Option.map_eq_some_iff] at h
      obtain ⟨us, hu, rfl⟩ := h
      rw [List.map_cons, hk k v hc, consF_val hk hu]
theorem con_all (g : Gok ns) (hA : AllFit look ns) {k : Int} {v : Vl} (h : conF ns k = some v) : V look ns k = v := by
  by_cases c : 1 ≤ k ∧ k ≤ ns.length
  · exact (kid_ok g hA c.1 c.2).con v h
  · have e : nodeS ns k = none := by unfold nodeS; rw [if_pos (by omega)]
    unfold conF ndF at h
    rw [e] at h
    simp [Nd.zero] at h
theorem fold_val (g : Gok ns) (hA : AllFit look ns) {n : Nd} (h1 : ¬ n.op = 1) (h2 : ¬ n.op = 2) {v : Vl} (h : foldF ns n = some v) : nodeV look (valsV look ns) n = v := by
  unfold foldF at h
  cases hc : consF ns ([n.a, n.b, n.c].take (arity n.op).toNat) with
  | none => rw [hc] at h; cases h
  | some l =>
    rw [hc] at h
    simp only at h
    split at h
    · rename_i h0
      cases h
      have hl := consF_val (look := look) (fun k v h => con_all g hA h) hc
      have hk : kidsV (valsV look ns) n = l := by
        rw [hl]
        unfold kidsV
        rw [List.map_take]
        rfl
      unfold nodeV
      rw [if_neg h1, if_neg h2, hk]
      unfold applyS at h0 ⊢
      split at h0
      · rename_i h3; rw [if_pos h3]
      · rename_i h3; exact absurd h0 h3
    · cases h
end
end Go.Proofs.Ytiobohfiaapgeaa
end
section
namespace Go.Proofs.Ytiobohfiaapgeaa
set_option maxRecDepth 100000
set_option maxHeartbeats 4000000
def PV (look : ByteArray → Option Vl) (ns : List Nd) (n : Nd) : Ch → Prop
  | .at k => 1 ≤ k ∧ k ≤ ns.length ∧ V look ns k = nodeV look (valsV look ns) n
  | .con v => nodeV look (valsV look ns) n = v
  | .mk => True
  | .again m => ¬ m.op = 1 ∧ ¬ m.op = 2 ∧ formedF ns.length m = true ∧ sortedF ns m = ({ m with sort := (sortedF ns n).1.sort }, 0) ∧ nodeV look (valsV look ns) m = nodeV look (valsV look ns) n
  | .shl x v => v.ok = true ∧ v.w = (sortedF ns n).1.sort ∧ 0 < v.w ∧ 1 ≤ x ∧ x ≤ ns.length ∧ (ndF ns x).sort = v.w ∧ meanV 26 0 0 [V look ns x, v] = nodeV look (valsV look ns) n
theorem nodeV_op {look : ByteArray → Option Vl} {acc : List Vl} {n : Nd} (h1 : ¬ n.op = 1) (h2 : ¬ n.op = 2) : nodeV look acc n = meanV n.op n.p n.q (kidsV acc n) := by unfold nodeV; rw [if_neg h1, if_neg h2]
theorem sorted_ext {ns : List Nd} {a p q s : Int} (h1 : 1 ≤ a) (h2 : a ≤ ns.length) (hs : (ndF ns a).sort = s) (hw : s ≤ 128) (h3 : 0 ≤ q) (h4 : q ≤ p) (h5 : p < s) : formedF ns.length (nodeO 39 a 0 0 p q) = true ∧ sortedF ns (nodeO 39 a 0 0 p q) = ({ nodeO 39 a 0 0 p q with sort := p - q + 1 }, 0) := by
  obtain ⟨i, rfl, hi⟩ := nd_at h1 h2
  have hk : ksort ns ((i : Int) + 1) = [s] := by rw [ksort_pos (by omega) (m := ndF ns ((i : Int) + 1)) (by rw [show ((i : Int) + 1 - 1).toNat = i by omega]; exact hi), hs]
  have hk0 : ksort ns 0 = [] := ksort_none rfl
  have har : arity 39 = 1 := by decide
  refine ⟨?_, ?_⟩
  · unfold formedF nodeO
    simp [kidsOK, kidOK, har]
    omega
  · have hss : sortS 39 p q [s] = (p - q + 1, 0) := by
      have h6 : isSort s = true := by unfold isSort; simp; omega
      have h7 : toldB 39 p q s s 0 = true := by unfold toldB numB; simp; omega
      have h8 : toldV 39 p q s s = p - q + 1 := by unfold toldV numV; simp
      unfold sortS
      simp [har, h6, h7, h8]
      omega
    unfold sortedF nodeO
    simp only [hk, hk0, List.append_nil, hss]
    simp
theorem sorted_not {ns : List Nd} {a : Int} (h1 : 1 ≤ a) (h2 : a ≤ ns.length) (hs : (ndF ns a).sort = 0) : formedF ns.length (nodeO 3 a 0 0 0 0) = true ∧ sortedF ns (nodeO 3 a 0 0 0 0) = ({ nodeO 3 a 0 0 0 0 with sort := 0 }, 0) := by
  obtain ⟨i, rfl, hi⟩ := nd_at h1 h2
  have hk : ksort ns ((i : Int) + 1) = [0] := by rw [ksort_pos (by omega) (m := ndF ns ((i : Int) + 1)) (by rw [show ((i : Int) + 1 - 1).toNat = i by omega]; exact hi), hs]
  have hk0 : ksort ns 0 = [] := ksort_none rfl
  have har : arity 3 = 1 := by decide
  refine ⟨?_, ?_⟩
  · unfold formedF nodeO
    simp [kidsOK, kidOK, har]
    omega
  · have hss : sortS 3 0 0 [0] = (0, 0) := by decide
    unfold sortedF nodeO
    simp only [hk, hk0, List.append_nil, hss]
    simp
section
variable {look : ByteArray → Option Vl} {ns : List Nd}
theorem pv_again {n : Nd} {kk P Q w : Int} (h1 : 1 ≤ kk) (h2 : kk ≤ ns.length) (hw : (ndF ns kk).sort = w) (h3 : w ≤ 128) (h4 : 0 ≤ Q) (h5 : Q ≤ P) (h6 : P < w) (hS : P - Q + 1 = (sortedF ns n).1.sort) (hv : meanV 39 P Q [V look ns kk] = nodeV look (valsV look ns) n) : PV look ns n (.again (nodeO 39 kk 0 0 P Q)) := by
  obtain ⟨s1, s2⟩ := sorted_ext h1 h2 hw h3 h4 h5 h6
  refine ⟨by simp [nodeO], by simp [nodeO], s1, by rw [s2, hS], ?_⟩
  rw [nodeV_op (by simp [nodeO]) (by simp [nodeO]), kidsV_1 (n := nodeO 39 kk 0 0 P Q) (by show arity 39 = 1; decide)]
  exact hv
theorem slice_val (g : Gok ns) (hA : AllFit look ns) {n : Nd} (hf : formedF ns.length n = true) (hs : (sortedF ns n).2 = 0) (h39 : n.op = 39) : PV look ns n (sliceF ns n (ndF ns n.a)) := by
  have har : arity n.op = 1 := by rw [h39]; decide
  obtain ⟨f1, f2, f3, f4⟩ := formed1 hf har
  have K := kid_ok g hA f1 f2
  have F := node_fit g hA hf hs (by omega) (by omega)
  have hv := nodeV_op (look := look) (acc := valsV look ns) (n := n) (by omega) (by omega)
  rw [kidsV_1 har] at F hv
  obtain ⟨s, hse⟩ : ∃ s, s = (sortedF ns n).1.sort := ⟨_, rfl⟩
  rw [← hse] at F
  have hkw := K.w
  obtain ⟨A, hAe⟩ : ∃ A, A = V look ns n.a := ⟨_, rfl⟩
  rw [← hAe] at F hv hkw
  obtain ⟨k, hke⟩ : ∃ k, k = ndF ns n.a := ⟨_, rfl⟩
  rw [← hke] at hkw ⊢
  have KK : V look ns n.a = nodeV look (valsV look ns) k ∧ formedF ns.length k = true ∧ (¬ k.op = 1 → ¬ k.op = 2 → Fit k.op k.p k.q (kidsV (valsV look ns) k) k.sort) := by
    rw [hke]; exact ⟨K.val, K.form, K.fit⟩
  obtain ⟨kv, kf, kfit⟩ := KK
  rw [← hAe] at kv
  obtain ⟨op, sort, a, b, c, p, q, vw, vl, vh, name⟩ := n
  simp only at *
  subst h39
  cases F with
  | extract N i j x g1 g2 _ g4 g5 g6 g7 =>
    subst g4; subst g5
    unfold sliceF
    simp only
    have hlt : (i : Int) - j + 1 = ((i - j + 1 : Nat) : Int) := by omega
    rw [of_w] at hkw
    by_cases c1 : k.op = 39
    · rw [if_pos c1]
      have kfit := kfit (by omega) (by omega)
      have kar : arity k.op = 1 := by rw [c1]; decide
      obtain ⟨e1, e2, e3, e4⟩ := formed1 kf kar
      rw [nodeV_op (by omega) (by omega), kidsV_1 kar] at kv
      rw [kidsV_1 kar, c1] at kfit
      rw [c1] at kv
      have K2 := kid_ok g hA e1 e2
      have hw2 := K2.w
      obtain ⟨A2, hA2⟩ : ∃ A2, A2 = V look ns k.a := ⟨_, rfl⟩
      rw [← hA2] at kfit kv hw2
      obtain ⟨ks, hks⟩ : ∃ ks, ks = k.sort := ⟨_, rfl⟩
      obtain ⟨kp, hkp⟩ : ∃ kp, kp = k.p := ⟨_, rfl⟩
      obtain ⟨kq, hkq⟩ : ∃ kq, kq = k.q := ⟨_, rfl⟩
      rw [← hks, ← hkp, ← hkq] at kfit
      rw [← hkp, ← hkq] at kv
      rw [← hks] at hkw
      rw [← hkq]
      cases kfit with
      | extract N2 i2 j2 x2 r1 r2 _ r4 r5 r6 r7 =>
        subst r4; subst r5
        rw [of_w] at hw2
        refine pv_again e1 e2 hw2.symm (by omega) (by omega) (by omega) (by omega) (by rw [← hse]; omega) ?_
        rw [← hA2, hv, kv]
        exact (v_ext_ext r2 r6 r7 g6 (by omega) x2).symm
      | _ => omega
    rw [if_neg c1]
    by_cases c2 : k.op = 38
    · rw [if_pos c2]
      have kfit := kfit (by omega) (by omega)
      have kar : arity k.op = 2 := by rw [c2]; decide
      obtain ⟨e1, e2, e3, e4, -⟩ := formed2 kf kar
      rw [nodeV_op (by omega) (by omega), kidsV_2 kar] at kv
      rw [kidsV_2 kar, c2] at kfit
      rw [c2] at kv
      have K2 := kid_ok g hA e1 e2
      have K3 := kid_ok g hA e3 e4
      have hw2 := K2.w
      have hw3 := K3.w
      obtain ⟨A2, hA2⟩ : ∃ A2, A2 = V look ns k.a := ⟨_, rfl⟩
      obtain ⟨A3, hA3⟩ : ∃ A3, A3 = V look ns k.b := ⟨_, rfl⟩
      rw [← hA2, ← hA3] at kfit kv
      rw [← hA2] at hw2
      rw [← hA3] at hw3
      obtain ⟨ks, hks⟩ : ∃ ks, ks = k.sort := ⟨_, rfl⟩
      obtain ⟨kp, hkp⟩ : ∃ kp, kp = k.p := ⟨_, rfl⟩
      obtain ⟨kq, hkq⟩ : ∃ kq, kq = k.q := ⟨_, rfl⟩
      rw [← hks, ← hkp, ← hkq] at kfit
      rw [← hkp, ← hkq] at kv
      rw [← hks] at hkw
      cases kfit with
      | concat N2 M2 x2 y2 r1 r2 r3 _ r5 r6 =>
        rw [of_w] at hw2 hw3
        rw [← hw3]
        by_cases d1 : (M2 : Int) ≤ j
        · rw [if_pos d1]
          refine pv_again e1 e2 hw2.symm (by omega) (by omega) (by omega) (by omega) (by rw [← hse]; omega) ?_
          rw [← hA2, hv, kv]
          exact (v_ext_high r3 g6 (by omega) (by omega) x2 y2).symm
        · rw [if_neg d1]
          by_cases d2 : (i : Int) < M2
          · rw [if_pos d2]
            refine pv_again e3 e4 hw3.symm (by omega) (by omega) (by omega) (by omega) (by rw [← hse]; omega) ?_
            rw [← hA3, hv, kv]
            exact (v_ext_low r3 g6 (by omega) x2 y2).symm
          · rw [if_neg d2]; trivial
      | _ => omega
    rw [if_neg c2]
    by_cases c3 : k.op = 40 ∨ k.op = 41
    · rw [if_pos c3]
      have kfit := kfit (by omega) (by omega)
      have kar : arity k.op = 1 := by rcases c3 with h | h <;> rw [h] <;> decide
      obtain ⟨e1, e2, e3, e4⟩ := formed1 kf kar
      rw [nodeV_op (by omega) (by omega), kidsV_1 kar] at kv
      rw [kidsV_1 kar] at kfit
      have K2 := kid_ok g hA e1 e2
      have hw2 := K2.w
      obtain ⟨A2, hA2⟩ : ∃ A2, A2 = V look ns k.a := ⟨_, rfl⟩
      rw [← hA2] at kfit kv hw2
      obtain ⟨ks, hks⟩ : ∃ ks, ks = k.sort := ⟨_, rfl⟩
      obtain ⟨kp, hkp⟩ : ∃ kp, kp = k.p := ⟨_, rfl⟩
      obtain ⟨kq, hkq⟩ : ∃ kq, kq = k.q := ⟨_, rfl⟩
      obtain ⟨ko, hko⟩ : ∃ ko, ko = k.op := ⟨_, rfl⟩
      rw [← hks, ← hkp, ← hkq, ← hko] at kfit
      rw [← hkp, ← hkq, ← hko] at kv
      rw [← hks] at hkw
      rw [← hko] at c3
      cases kfit with
      | ext N2 k2 x2 r1 r2 r3 r4 r5 r6 =>
        subst r5
        rw [of_w] at hw2
        rw [← hw2]
        by_cases d2 : (i : Int) < N2
        · rw [if_pos d2]
          refine pv_again e1 e2 hw2.symm (by omega) (by omega) (by omega) (by omega) (by rw [← hse]; omega) ?_
          rw [← hA2, hv, kv]
          rcases c3 with rfl | rfl
          · exact (v_ext_zext r2 g6 (by omega) x2).symm
          · exact (v_ext_sext r2 g6 (by omega) x2).symm
        · rw [if_neg d2]; trivial
      | _ => omega
    rw [if_neg c3]; trivial
  | _ => omega
end
end Go.Proofs.Ytiobohfiaapgeaa
end
section
namespace Go.Proofs.Ytiobohfiaapgeaa
set_option maxRecDepth 100000
set_option maxHeartbeats 4000000
section
variable {look : ByteArray → Option Vl} {ns : List Nd}
theorem un_val (g : Gok ns) (hA : AllFit look ns) {n : Nd} (hf : formedF ns.length n = true) (hs : (sortedF ns n).2 = 0) (h1 : ¬ n.op = 1) (h2 : ¬ n.op = 2) (har : arity n.op = 1) : PV look ns n (unC ns n) := by
  unfold unC
  cases hfo : foldF ns n with
  | some v => exact fold_val g hA h1 h2 hfo
  | none =>
    simp only
    obtain ⟨f1, f2, f3, f4⟩ := formed1 hf har
    have K := kid_ok g hA f1 f2
    have F := node_fit g hA hf hs h1 h2
    have hv := nodeV_op (look := look) (acc := valsV look ns) h1 h2
    rw [kidsV_1 har] at F hv
    obtain ⟨s, hse⟩ : ∃ s, s = (sortedF ns n).1.sort := ⟨_, rfl⟩
    rw [← hse] at F
    have hkw := K.w
    obtain ⟨A, hAe⟩ : ∃ A, A = V look ns n.a := ⟨_, rfl⟩
    rw [← hAe] at F hv hkw
    by_cases c1 : (n.op = 3 ∨ n.op = 10 ∨ n.op = 11) ∧ (ndF ns n.a).op = n.op
    · rw [if_pos c1]
      obtain ⟨c1, c2⟩ := c1
      have kar : arity (ndF ns n.a).op = 1 := by rw [c2]; exact har
      obtain ⟨e1, e2, e3, e4⟩ := formed1 K.form kar
      have kfit := K.fit (by omega) (by omega)
      have kv := K.val
      rw [← hAe, nodeV_op (by omega) (by omega), kidsV_1 kar, c2] at kv
      rw [kidsV_1 kar, c2] at kfit
      refine ⟨e1, e2, ?_⟩
      rw [hv, kv]
      obtain ⟨A2, hA2⟩ : ∃ A2, A2 = V look ns (ndF ns n.a).a := ⟨_, rfl⟩
      rw [← hA2] at kfit kv ⊢
      obtain ⟨ks, hks⟩ : ∃ ks, ks = (ndF ns n.a).sort := ⟨_, rfl⟩
      obtain ⟨kp, hkp⟩ : ∃ kp, kp = (ndF ns n.a).p := ⟨_, rfl⟩
      obtain ⟨kq, hkq⟩ : ∃ kq, kq = (ndF ns n.a).q := ⟨_, rfl⟩
      obtain ⟨ko, hko⟩ : ∃ ko, ko = n.op := ⟨_, rfl⟩
      rw [← hks, ← hkp, ← hkq, ← hko] at kfit
      rw [← hkp, ← hkq, ← hko]
      rw [← hko] at c1
      cases kfit with
      | not a q1 q2 q3 => subst q1; exact (v_not2 a).symm
      | one N x q1 q2 q3 q4 q5 q6 =>
        rcases (by omega : ko = 10 ∨ ko = 11) with rfl | rfl
        · exact (v_bvnot2 q2 x).symm
        · exact (v_neg2 q2 x).symm
      | _ => omega
    rw [if_neg c1]
    clear c1
    obtain ⟨np, hnp⟩ : ∃ x, x = n.p := ⟨_, rfl⟩
    obtain ⟨nq, hnq⟩ : ∃ x, x = n.q := ⟨_, rfl⟩
    obtain ⟨no, hno⟩ : ∃ x, x = n.op := ⟨_, rfl⟩
    obtain ⟨ks, hks⟩ : ∃ ks, ks = (ndF ns n.a).sort := ⟨_, rfl⟩
    rw [← hnp, ← hnq, ← hno] at F hv
    rw [← hks] at hkw
    rw [← hno] at h1 h2
    rw [← hno, ← hnp, ← hnq, ← hks]
    have at_ : V look ns n.a = nodeV look (valsV look ns) n → PV look ns n (.at n.a) := fun h => ⟨f1, f2, h⟩
    by_cases c2 : no = 39 ∧ nq = 0 ∧ np = ks - 1
    · rw [if_pos c2]
      refine at_ ?_
      rw [← hAe, hv]
      obtain ⟨rfl, rfl, rfl⟩ := c2
      cases F with
      | extract N i j x g1 g2 _ g4 g5 g6 g7 =>
        rw [of_w] at hkw
        rw [← hkw]
        exact (v_extract_all g1 g2 x).symm
      | _ => omega
    rw [if_neg c2]
    by_cases c3 : (no = 40 ∨ no = 41) ∧ np = 0
    · rw [if_pos c3]
      refine at_ ?_
      rw [← hAe, hv]
      obtain ⟨c3, rfl⟩ := c3
      cases F with
      | ext N k x r1 r2 r3 r4 r5 r6 =>
        rcases c3 with rfl | rfl
        · exact (v_zext0 (by omega) x).symm
        · exact (v_sext0 (by omega) x).symm
      | _ => omega
    rw [if_neg c3]
    by_cases c4 : (no = 42 ∨ no = 43) ∧ np.tmod ks = 0
    · rw [if_pos c4]
      refine at_ ?_
      rw [← hAe, hv]
      obtain ⟨c4, c5⟩ := c4
      cases F with
      | rot N k x r1 r2 r3 r4 r5 r6 =>
        subst r5
        rw [of_w] at hkw
        rw [← hkw] at c5
        have hm : k % N = 0 := by
          have := c5
          rw [Int.tmod_eq_emod_of_nonneg (by omega)] at this
          omega
        rcases c4 with rfl | rfl
        · exact (v_rotl0 r2 hm x).symm
        · exact (v_rotr0 r2 hm x).symm
      | _ => omega
    rw [if_neg c4]
    by_cases c6 : no = 44 ∧ np = 1
    · rw [if_pos c6]
      refine at_ ?_
      rw [← hAe, hv]
      obtain ⟨rfl, rfl⟩ := c6
      cases F with
      | rep N k x r1 r2 r3 r4 r5 r6 =>
        obtain rfl : k = 1 := by omega
        exact (v_rep1 r1 (by omega) x).symm
      | _ => omega
    rw [if_neg c6]
    by_cases c7 : no = 39
    · rw [if_pos c7]
      exact slice_val g hA hf hs (by rw [← hno]; exact c7)
    · rw [if_neg c7]; trivial
theorem ite_val (g : Gok ns) (hA : AllFit look ns) {n : Nd} (hf : formedF ns.length n = true) (hs : (sortedF ns n).2 = 0) (h1 : ¬ n.op = 1) (h2 : ¬ n.op = 2) (har : arity n.op = 3) : PV look ns n (iteC ns n) := by
  have h9 : n.op = 9 := by
    unfold arity at har
    repeat' split at har
    all_goals omega
  obtain ⟨f1, f2, f3, f4, f5, f6⟩ := formed3 hf har
  have F := node_fit g hA hf hs h1 h2
  have hv := nodeV_op (look := look) (acc := valsV look ns) h1 h2
  rw [kidsV_3 har] at F hv
  rw [h9, mean_ite] at hv
  unfold iteC
  by_cases c : n.b = n.c
  · rw [if_pos c]
    refine ⟨f3, f4, ?_⟩
    rw [hv, c]; simp
  · rw [if_neg c]
    cases hc : conF ns n.a with
    | none => trivial
    | some v =>
      simp only
      have hva := con_all g hA hc
      rw [hva] at hv
      have hy : v.yes = decide (lo v.n = 1#64) := rfl
      by_cases d : lo v.n = 1#64
      · rw [if_pos d]
        exact ⟨f3, f4, by rw [hv, hy, decide_eq_true d]; rfl⟩
      · rw [if_neg d]
        exact ⟨f5, f6, by rw [hv, hy, decide_eq_false d]; rfl⟩
end
end Go.Proofs.Ytiobohfiaapgeaa
end
section
namespace Go.Proofs.Ytiobohfiaapgeaa
set_option maxRecDepth 100000
set_option maxHeartbeats 4000000
theorem of_zero {n : Nat} : Vl.of (0#n) = ⟨n, 0#128⟩ := by
  unfold Vl.of E
  simp
theorem two_word {op p q : Int} (h1 : 12 ≤ op) (h2 : op ≤ 28) {n : Nat} (hn : n ≤ 128) (x y : BitVec n) : meanV op p q [Vl.of x, Vl.of y] = Vl.of (wordV op x y) := by
  rw [mean_two h1 (by omega) hn]
  unfold twoV
  rw [if_pos h2]
theorem two_cmp {op p q : Int} (h1 : 29 ≤ op) (h2 : op ≤ 36) {n : Nat} (hn : n ≤ 128) (x y : BitVec n) : meanV op p q [Vl.of x, Vl.of y] = Vl.bool (cmpF op x y) := by
  rw [mean_two (by omega) (by omega) hn]
  unfold twoV
  rw [if_neg (by omega), if_pos h2]
section
variable {look : ByteArray → Option Vl} {ns : List Nd}
theorem isF_val (g : Gok ns) (hA : AllFit look ns) {k : Int} {c : BitVec 64} (h : isF ns k c = true) {n : Nat} {x : BitVec n} (hv : V look ns k = Vl.of x) : lo (E x) = c ∧ hi (E x) = 0#64 := by
  unfold isF at h
  cases hc : conF ns k with
  | none => rw [hc] at h; cases h
  | some v =>
    rw [hc] at h
    simp only [Bool.and_eq_true, decide_eq_true_eq] at h
    have h2 := con_all g hA hc
    rw [h2] at hv
    subst hv
    exact ⟨h.1.2, h.2⟩
theorem isF0 (g : Gok ns) (hA : AllFit look ns) {k : Int} (h : isF ns k 0#64 = true) {n : Nat} (hn : n ≤ 128) {x : BitVec n} (hv : V look ns k = Vl.of x) : x = 0#n := by
  obtain ⟨h1, h2⟩ := isF_val g hA h hv
  refine E_inj hn (pair_ext ?_ ?_)
  · rw [h1]; unfold E lo; simp
  · rw [h2]; unfold E hi; simp
theorem isF1 (g : Gok ns) (hA : AllFit look ns) {k : Int} (h : isF ns k 1#64 = true) {n : Nat} (h1n : 1 ≤ n) (hn : n ≤ 128) {x : BitVec n} (hv : V look ns k = Vl.of x) : x = 1#n := by
  obtain ⟨h1, h2⟩ := isF_val g hA h hv
  have e : E (1#n) = 1#128 := by
    apply BitVec.eq_of_toNat_eq
    unfold E
    have : (1 : Nat) % 2 ^ n = 1 := Nat.mod_eq_of_lt (Nat.one_lt_two_pow (by omega))
    simp [BitVec.toNat_setWidth, this]
  refine E_inj hn (pair_ext ?_ ?_)
  · rw [h1, e]; rfl
  · rw [h2, e]; rfl
theorem pv_not {n : Nd} {b : Int} (h1 : 1 ≤ b) (h2 : b ≤ ns.length) (hs : (ndF ns b).sort = 0) (hS : (sortedF ns n).1.sort = 0) (hv : meanV 3 0 0 [V look ns b] = nodeV look (valsV look ns) n) : PV look ns n (.again (nodeO 3 b 0 0 0 0)) := by
  obtain ⟨s1, s2⟩ := sorted_not h1 h2 hs
  refine ⟨by simp [nodeO], by simp [nodeO], s1, by rw [s2, hS], ?_⟩
  rw [nodeV_op (by simp [nodeO]) (by simp [nodeO]), kidsV_1 (n := nodeO 3 b 0 0 0 0) (by show arity 3 = 1; decide)]
  exact hv
theorem logicC_val {n : Nd} {v : Vl} {a b : Int} {c : Ch} (hb : n.op = 4 ∨ n.op = 5 ∨ n.op = 6 ∨ n.op = 7 ∨ n.op = 8) (h : logicC n.op v a b = some c) (hva : v.ok = true) (a1 : 1 ≤ a) (a2 : a ≤ ns.length) (b1 : 1 ≤ b) (b2 : b ≤ ns.length) (hVa : V look ns a = v) (hwb : (V look ns b).w = 0 → (V look ns b).ok = true ∧ (ndF ns b).sort = 0) (hw : v.w = (V look ns b).w)
    (hS : (sortedF ns n).1.sort = 0) (hn : nodeV look (valsV look ns) n = Vl.bool (boolV n.op v (V look ns b))) : PV look ns n c := by
  unfold logicC at h
  by_cases c0 : 0 < v.w
  · rw [if_pos c0] at h; cases h
  rw [if_neg c0] at h
  have hv0 : v.w = 0 := by
    unfold Vl.ok rightF at hva
    by_cases c : v.w = 0
    · exact c
    · rw [if_neg c] at hva
      simp at hva
      omega
  obtain ⟨x, rfl⟩ := Vl.of_bool hva hv0
  obtain ⟨hbo, hbs⟩ := hwb (by omega)
  obtain ⟨y, hy⟩ := Vl.of_bool hbo (by omega)
  rw [hy] at hn
  have hyes : ∀ t, (Vl.bool t).yes = t := fun t => by cases t <;> rfl
  obtain ⟨o, ho⟩ : ∃ o, o = n.op := ⟨_, rfl⟩
  rw [← ho] at hb h hn
  have pn : meanV 3 0 0 [V look ns b] = Vl.bool (!y) := by rw [hy]; cases y <;> rfl
  rcases hb with rfl | rfl | rfl | rfl | rfl <;> cases x <;> simp [hyes] at h <;> subst h
  · exact ⟨a1, a2, by rw [hVa, hn]; cases y <;> rfl⟩
  · exact ⟨b1, b2, by rw [hy, hn]; cases y <;> rfl⟩
  · exact ⟨b1, b2, by rw [hy, hn]; cases y <;> rfl⟩
  · exact ⟨a1, a2, by rw [hVa, hn]; cases y <;> rfl⟩
  · exact ⟨b1, b2, by rw [hy, hn]; cases y <;> rfl⟩
  · exact pv_not b1 b2 hbs hS (by rw [pn, hn]; cases y <;> rfl)
  · show nodeV look (valsV look ns) n = _
    rw [hn]; cases y <;> rfl
  · exact ⟨b1, b2, by rw [hy, hn]; cases y <;> rfl⟩
  · exact pv_not b1 b2 hbs hS (by rw [pn, hn]; cases y <;> rfl)
  · exact ⟨b1, b2, by rw [hy, hn]; cases y <;> rfl⟩
end
end Go.Proofs.Ytiobohfiaapgeaa
end
section
namespace Go.Proofs.Ytiobohfiaapgeaa
set_option maxRecDepth 100000
set_option maxHeartbeats 4000000
section
variable {look : ByteArray → Option Vl} {ns : List Nd}
theorem bool_inj {a b : Bool} (h : Vl.bool a = Vl.bool b) : a = b := by cases a <;> cases b <;> first | rfl | (exact absurd (congrArg Vl.n h) (by decide))
theorem powF_val {v : Vl} {i : Nat} (h : powF v = some i) : i < v.w.toNat ∧ v.n = 1#128 <<< i := by
  unfold powF at h
  have h1 := List.find?_some h
  have h2 := List.mem_of_find?_eq_some h
  exact ⟨List.mem_range.1 h2, of_decide_eq_true h1⟩
theorem pow_word {n i : Nat} (hn : n ≤ 128) (_hi : i < n) {x : BitVec n} (h : E x = 1#128 <<< i) : x = 1#n <<< i := by
  rw [← E_set hn x, h]
  apply BitVec.eq_of_getLsbD_eq
  intro t ht
  rw [BitVec.getLsbD_setWidth, BitVec.getLsbD_shiftLeft, BitVec.getLsbD_shiftLeft]
  have h1 : t < 128 := by omega
  have h2 : 0 < n := by omega
  simp [ht, h1, h2]
theorem double_val (g : Gok ns) (hA : AllFit look ns) {n : Nd} {N : Nat} {x y : BitVec N} (hN1 : 1 ≤ N) (hN : N ≤ 128) (f1 : 1 ≤ n.a) (f2 : n.a ≤ ns.length) (f3 : 1 ≤ n.b) (f4 : n.b ≤ ns.length) (ha : V look ns n.a = Vl.of x) (hb : V look ns n.b = Vl.of y) (hsa : (ndF ns n.a).sort = N) (hsb : (ndF ns n.b).sort = N)
    (hS : (sortedF ns n).1.sort = N) (hv : nodeV look (valsV look ns) n = Vl.of (wordV 20 x y)) : PV look ns n (doubleF ns n) := by
  have shl_ok : ∀ (k : Int) (i : Nat) (z : BitVec N), i < N → 1 ≤ k → k ≤ ns.length → (ndF ns k).sort = N → V look ns k = Vl.of z → wordV 20 x y = wordV 26 z (BitVec.ofNat N i) → PV look ns n (.shl k ⟨N, BitVec.ofNat 128 i⟩) := fun k i z hi k1 k2 ks kv kw => by
    have e : (⟨(N : Int), BitVec.ofNat 128 i⟩ : Vl) = Vl.of (BitVec.ofNat N i) := by
      unfold Vl.of E
      congr 1
      apply BitVec.eq_of_toNat_eq
      have hlt : i < 2 ^ N := Nat.lt_trans hi Nat.lt_two_pow_self
      have hlt2 : i < 2 ^ 128 := Nat.lt_trans (by omega : i < 128) (by decide)
      rw [BitVec.toNat_setWidth, BitVec.toNat_ofNat, BitVec.toNat_ofNat, Nat.mod_eq_of_lt hlt, Nat.mod_eq_of_lt hlt2]
    rw [e]
    refine ⟨Vl.of_ok hN1 hN _, hS.symm, by rw [of_w]; omega, k1, k2, by rw [ks, of_w], ?_⟩
    rw [kv, two_word (by omega) (by omega) hN, hv, kw]
  unfold doubleF
  cases hcb : (conF ns n.b).bind powF with
  | some i =>
    simp only
    obtain ⟨v, hc, hp⟩ := Option.bind_eq_some_iff.1 hcb
    obtain ⟨p1, p2⟩ := powF_val hp
    have hvb := con_all g hA hc
    rw [hb] at hvb
    rw [hc]
    subst hvb
    rw [of_w] at p1
    have hw := w_double (x := x) (y := y) (i := i) (by omega) (pow_word hN (by omega) p2)
    exact shl_ok n.a i x (by omega) f1 f2 hsa ha hw.1
  | none =>
    simp only
    cases hca : (conF ns n.a).bind powF with
    | some i =>
      simp only
      obtain ⟨v, hc, hp⟩ := Option.bind_eq_some_iff.1 hca
      obtain ⟨p1, p2⟩ := powF_val hp
      have hva := con_all g hA hc
      rw [ha] at hva
      rw [hc]
      subst hva
      rw [of_w] at p1
      have hw := w_double (x := y) (y := x) (i := i) (by omega) (pow_word hN (by omega) p2)
      exact shl_ok n.b i y (by omega) f3 f4 hsb hb hw.2
    | none => trivial
theorem beside_val (g : Gok ns) (hA : AllFit look ns) {n : Nd} {N : Nat} {x y : BitVec N} (hN1 : 1 ≤ N) (hN : N ≤ 128) (_h12 : 12 ≤ n.op) (_h28 : n.op ≤ 28) (f1 : 1 ≤ n.a) (f2 : n.a ≤ ns.length) (f3 : 1 ≤ n.b) (f4 : n.b ≤ ns.length) (ha : V look ns n.a = Vl.of x) (hb : V look ns n.b = Vl.of y) (hsa : (ndF ns n.a).sort = N) (hsb : (ndF ns n.b).sort = N)
    (hS : (sortedF ns n).1.sort = N) (hv : nodeV look (valsV look ns) n = Vl.of (wordV n.op x y)) : PV look ns n (besideF ns n) := by
  unfold besideF
  split
  · rename_i c
    show nodeV look (valsV look ns) n = _
    rw [hv, hsa, ← of_zero]
    rcases c with ⟨c, d | d⟩ | ⟨c, d⟩
    · rw [isF0 g hA d hN ha, (w_zero c y).2]
    · rw [isF0 g hA d hN hb, (w_zero c x).1]
    · rw [isF0 g hA d hN ha, w_shift0 c y]
  · split
    · rename_i c
      refine ⟨f1, f2, ?_⟩
      rw [hv, ha]
      rcases c with ⟨c, d⟩ | ⟨c, d⟩
      · rw [isF0 g hA d hN hb, w_right hN1 c x]
      · rw [isF1 g hA d hN1 hN hb, w_one hN1 c x]
    · split
      · rename_i c
        refine ⟨f3, f4, ?_⟩
        rw [hv, hb]
        rcases c with ⟨c, d⟩ | ⟨c, d⟩
        · rw [isF0 g hA d hN ha, w_left c y]
        · rw [isF1 g hA d hN1 hN ha, c]
          have := w_one hN1 (op := 20) (.inl rfl) y
          simp only [wordV] at this ⊢
          simp at this ⊢
      · split
        · rename_i c
          rw [c] at hv
          exact double_val g hA hN1 hN f1 f2 f3 f4 ha hb hsa hsb hS hv
        · trivial
theorem beside_none {n : Nd} (h : n.op < 12 ∨ 28 < n.op) : besideF ns n = .mk := by
  unfold besideF
  rw [if_neg (by omega), if_neg (by omega), if_neg (by omega), if_neg (by omega)]
theorem bin_val (g : Gok ns) (hA : AllFit look ns) {n : Nd} (hf : formedF ns.length n = true) (hs : (sortedF ns n).2 = 0) (h1 : ¬ n.op = 1) (h2 : ¬ n.op = 2) (har : arity n.op = 2) : PV look ns n (binC ns n) := by
  unfold binC
  cases hfo : foldF ns n with
  | some v => exact fold_val g hA h1 h2 hfo
  | none =>
    simp only
    obtain ⟨f1, f2, f3, f4, f5⟩ := formed2 hf har
    have KA := kid_ok g hA f1 f2
    have KB := kid_ok g hA f3 f4
    have F := node_fit g hA hf hs h1 h2
    have hv := nodeV_op (look := look) (acc := valsV look ns) h1 h2
    rw [kidsV_2 har] at F hv
    obtain ⟨s, hse⟩ : ∃ s, s = (sortedF ns n).1.sort := ⟨_, rfl⟩
    rw [← hse] at F
    have hka := KA.w
    have hkb := KB.w
    obtain ⟨A, hAe⟩ : ∃ A, A = V look ns n.a := ⟨_, rfl⟩
    obtain ⟨B', hBe⟩ : ∃ B', B' = V look ns n.b := ⟨_, rfl⟩
    have hAB : n.a = n.b → A = B' := fun h => by rw [hAe, hBe, h]
    rw [← hAe, ← hBe] at F hv
    rw [← hAe] at hka
    rw [← hBe] at hkb
    obtain ⟨no, hno⟩ : ∃ x, x = n.op := ⟨_, rfl⟩
    obtain ⟨np, hnp⟩ : ∃ x, x = n.p := ⟨_, rfl⟩
    obtain ⟨nq, hnq⟩ : ∃ x, x = n.q := ⟨_, rfl⟩
    rw [← hno, ← hnp, ← hnq] at F hv
    have lg : ∀ c, logicF ns n = some c → no = 4 ∨ no = 5 ∨ no = 6 ∨ no = 7 ∨ no = 8 := fun c hc => by
      unfold logicF at hc
      by_cases d : n.op < 4 ∨ 8 < n.op
      · rw [if_pos d] at hc; cases hc
      · omega
    have logic_ok : ∀ c, logicF ns n = some c → A.ok = true → B'.ok = true → A.w = B'.w → (sortedF ns n).1.sort = 0 → nodeV look (valsV look ns) n = Vl.bool (boolV n.op A B') → PV look ns n c := fun c hc oa ob hw hS hn => by
      have hop := lg c hc
      rw [hno] at hop
      unfold logicF at hc
      rw [if_neg (by omega)] at hc
      cases hca : conF ns n.a with
      | some v =>
        rw [hca] at hc
        simp only at hc
        have hva := con_all g hA hca
        rw [← hAe] at hva
        subst hva
        refine logicC_val hop hc oa f1 f2 f3 f4 hAe.symm (fun h => ?_) (by rw [← hBe]; exact hw) hS (by rw [← hBe]; exact hn)
        rw [← hBe] at h ⊢
        exact ⟨ob, by omega⟩
      | none =>
        rw [hca] at hc
        simp only at hc
        by_cases d : n.op = 7
        · rw [if_pos d] at hc; cases hc
        rw [if_neg d] at hc
        cases hcb : conF ns n.b with
        | none => rw [hcb] at hc; cases hc
        | some v =>
          rw [hcb] at hc
          simp only at hc
          have hvb := con_all g hA hcb
          rw [← hBe] at hvb
          subst hvb
          refine logicC_val hop hc ob f3 f4 f1 f2 hBe.symm (fun h => ?_) (by rw [← hAe]; exact hw.symm) hS ?_
          · rw [← hAe] at h ⊢
            exact ⟨oa, by omega⟩
          · rw [← hAe, hn]
            congr 1
            rcases hop with h | h | h | h | h
            · rw [h]; simp [boolV, Bool.and_comm]
            · rw [h]; simp [boolV, Bool.or_comm]
            · rw [h]; simp [boolV, Bool.xor_comm]
            · exact absurd h d
            · rw [h]; simp only [boolV]; simp; exact ⟨Eq.symm, Eq.symm⟩
    rw [← hno]
    by_cases c1 : n.a = n.b ∧ (no = 4 ∨ no = 5 ∨ no = 12 ∨ no = 13)
    · rw [if_pos c1]
      refine ⟨f1, f2, ?_⟩
      obtain ⟨c0, c1⟩ := c1
      have hab := hAB c0
      rw [← hAe, hv]
      have hyes : ∀ t, (Vl.bool t).yes = t := fun t => by cases t <;> rfl
      cases F with
      | two a b q1 q2 q3 q4 =>
        obtain rfl := bool_inj hab
        rw [mean_bool (by omega)]
        rcases (by omega : no = 4 ∨ no = 5) with rfl | rfl <;> simp [boolV, hyes]
      | word N x y q1 q2 q3 q4 q5 q6 =>
        obtain rfl := of_inj q2 hab
        rw [two_word q3 q4 q2, w_same (by omega)]
      | _ => omega
    rw [if_neg c1]
    by_cases c2 : n.a = n.b ∧ (no = 6 ∨ no = 29 ∨ no = 31 ∨ no = 33 ∨ no = 35 ∨ no = 14 ∨ no = 19)
    · rw [if_pos c2]
      show nodeV look (valsV look ns) n = _
      obtain ⟨c0, c2⟩ := c2
      have hab := hAB c0
      rw [hv]
      cases F with
      | two a b q1 q2 q3 q4 =>
        obtain rfl := bool_inj hab
        rw [mean_bool (by omega), if_neg (by omega)]
        obtain rfl : no = 6 := by omega
        simp [boolV]
      | word N x y q1 q2 q3 q4 q5 q6 =>
        obtain rfl := of_inj q2 hab
        rw [two_word q3 q4 q2, w_none (by omega), if_pos (by omega), ← hka, of_w, of_zero]
      | cmp N x y q1 q2 q3 q4 q5 q6 =>
        obtain rfl := of_inj q2 hab
        rw [two_cmp q3 q4 q2, c_same no q3 q4, if_neg (by omega), decide_eq_false (by omega)]
      | _ => omega
    rw [if_neg c2]
    by_cases c3 : n.a = n.b ∧ (no = 8 ∨ no = 30 ∨ no = 32 ∨ no = 34 ∨ no = 36 ∨ no = 7)
    · rw [if_pos c3]
      show nodeV look (valsV look ns) n = _
      obtain ⟨c0, c3⟩ := c3
      have hab := hAB c0
      rw [hv]
      cases F with
      | two a b q1 q2 q3 q4 =>
        obtain rfl := bool_inj hab
        rw [mean_bool (by omega)]
        obtain rfl : no = 7 := by omega
        simp [boolV]
      | eq _ _ q1 q2 q3 q4 q5 q6 =>
        subst q1
        rw [mean_bool (by omega), hab]
        simp [boolV]
      | cmp N x y q1 q2 q3 q4 q5 q6 =>
        obtain rfl := of_inj q2 hab
        rw [two_cmp q3 q4 q2, c_same no q3 q4, decide_eq_true (by omega)]
      | _ => omega
    rw [if_neg c3]
    have getF : ∀ (a b : Vl), [a, b].getD 0 Vl.zero = a ∧ [a, b].getD 1 Vl.zero = b := fun a b => ⟨rfl, rfl⟩
    cases hlo : logicF ns n with
    | some c =>
      simp only
      have hop := lg c hlo
      have hb8 : no ≤ 8 := by omega
      rw [mean_bool hb8, (getF A B').1, (getF A B').2] at hv
      rw [hno] at hv
      cases F with
      | two a b q1 q2 q3 q4 => exact logic_ok c hlo (Vl.bool_ok _) (Vl.bool_ok _) rfl hse.symm hv
      | eq _ _ q1 q2 q3 q4 q5 q6 => exact logic_ok c hlo q4 q5 q6 hse.symm hv
      | _ => omega
    | none =>
      simp only
      by_cases hw : 12 ≤ no ∧ no ≤ 28
      · cases F with
        | word N x y q1 q2 q3 q4 q5 q6 =>
          rw [two_word q3 q4 q2] at hv
          rw [of_w] at hka hkb
          rw [hno] at q3 q4 hv
          exact beside_val g hA q1 q2 q3 q4 f1 f2 f3 f4 hAe.symm hBe.symm hka.symm hkb.symm hse.symm hv
        | _ => omega
      · rw [beside_none (by omega)]; trivial
theorem path_val (g : Gok ns) (hA : AllFit look ns) {n : Nd} (hf : formedF ns.length n = true) (hs : (sortedF ns n).2 = 0) (h1 : ¬ n.op = 1) (h2 : ¬ n.op = 2) : PV look ns n (pathF ns n) := by
  have h0 := (formed_arity hf).2
  have h3 := arity_le n.op
  unfold pathF
  by_cases c0 : arity n.op = 0
  · rw [if_pos c0]; trivial
  rw [if_neg c0]
  by_cases c1 : arity n.op = 1
  · rw [if_pos c1]; exact un_val g hA hf hs h1 h2 c1
  rw [if_neg c1]
  by_cases c3 : arity n.op = 3
  · rw [if_pos c3]; exact ite_val g hA hf hs h1 h2 c3
  rw [if_neg c3]
  exact bin_val g hA hf hs h1 h2 (by omega)
end
end Go.Proofs.Ytiobohfiaapgeaa
end
section
namespace Go.Proofs.Ytiobohfiaapgeaa
set_option maxRecDepth 100000
set_option maxHeartbeats 2000000
theorem mak_ok {most : Int} {ns : List Nd} {n : Nd} (g : Gok ns) (hf : formedF ns.length n = true) (hs : (sortedF ns n).2 = 0) : Gok (makT most ns n).1 ∧
    ((makT most ns n).2.2 = 0 ∧ (∃ t, (makT most ns n).1 = ns ++ t ∧ ∀ m, m ∈ t → m = (sortedF ns n).1) ∧ 1 ≤ (makT most ns n).2.1 ∧ (makT most ns n).2.1 ≤ (makT most ns n).1.length ∧ ndF (makT most ns n).1 (makT most ns n).2.1 = (sortedF ns n).1 ∨
    (makT most ns n).2.2 = 33 ∧ (makT most ns n).1 = ns ∧ (makT most ns n).2.1 = 0) := by
  refine ⟨g.make, ?_⟩
  unfold makT
  rw [if_neg (by rw [hf]; simp), if_neg (by rw [hs]; simp)]
  cases hi : idx ns (sortedF ns n).1 with
  | some i =>
    simp only
    unfold idx at hi
    obtain ⟨h1, h2, -⟩ := List.findIdx?_eq_some_iff_getElem.1 hi
    have h2 := of_decide_eq_true h2
    refine .inl ⟨by first | trivial | rfl, ⟨[], by simp, by simp⟩, by omega, by omega, ?_⟩
    unfold ndF nodeS
    rw [if_neg (by omega), show ((i : Int) + 1 - 1).toNat = i by omega, List.getElem?_eq_getElem h1, h2]
    rfl
  | none =>
    simp only
    by_cases c : most ≤ ns.length
    · rw [if_pos c]; exact .inr ⟨rfl, rfl, rfl⟩
    · rw [if_neg c]
      refine .inl ⟨rfl, ⟨_, rfl, by simp⟩, (by show (1 : Int) ≤ (ns.length : Int) + 1; omega), by simp, ?_⟩
      unfold ndF nodeS
      rw [if_neg (by simp; omega), show ((ns.length : Int) + 1 - 1).toNat = ns.length by omega]
      simp
theorem ndF_more {ns t : List Nd} {k : Int} (h1 : 1 ≤ k) (h2 : k ≤ ns.length) : ndF (ns ++ t) k = ndF ns k := by
  unfold ndF nodeS
  rw [if_neg (by simp; omega), if_neg (by omega), List.getElem?_append_left (by omega)]
theorem AllFit.appends {look : ByteArray → Option Vl} {ns t : List Nd} (h : AllFit look ns) (ht : ∀ m, m ∈ t → ¬ m.op = 2) : AllFit look (ns ++ t) := by
  intro i n hn h2
  by_cases c : i < ns.length
  · rw [List.getElem?_append_left c] at hn; exact h i n hn h2
  · rw [List.getElem?_append_right (by omega)] at hn
    exact absurd h2 (ht n (List.mem_of_getElem? hn))
theorem sorted_parts {ns : List Nd} {n : Nd} (h1 : ¬ n.op = 2) : (sortedF ns n).1.op = n.op ∧ (sortedF ns n).1.p = n.p ∧ (sortedF ns n).1.q = n.q ∧ (sortedF ns n).1.a = n.a ∧ (sortedF ns n).1.b = n.b ∧ (sortedF ns n).1.c = n.c ∧ (sortedF ns n).1.v = n.v ∧ (sortedF ns n).1.name = n.name := by
  unfold sortedF
  by_cases c : n.op = 1
  · rw [if_pos c]; exact ⟨rfl, rfl, rfl, rfl, rfl, rfl, rfl, rfl⟩
  · rw [if_neg c, if_neg h1]; exact ⟨rfl, rfl, rfl, rfl, rfl, rfl, rfl, rfl⟩
theorem nodeV_sorted {look : ByteArray → Option Vl} {acc : List Vl} {ns : List Nd} {n : Nd} (h2 : ¬ n.op = 2) : nodeV look acc (sortedF ns n).1 = nodeV look acc n := by
  obtain ⟨h1, hp, hq, ha, hb, hc, hv, hn⟩ := sorted_parts (ns := ns) h2
  unfold nodeV kidsV
  rw [h1, hp, hq, ha, hb, hc, hv, hn]
structure NV (ns : List Nd) (n : Nd) (s : Int) (x : List Nd × Int × Int) : Prop where
  more : ∃ t, x.1 = ns ++ t ∧ ∀ m, m ∈ t → ¬ m.op = 2
  gok : Gok x.1
  lo : 1 ≤ x.2.1
  hi : x.2.1 ≤ x.1.length
  srt : (ndF x.1 x.2.1).sort = s
  val : ∀ look, AllFit look ns → V look x.1 x.2.1 = nodeV look (valsV look ns) n
theorem NV.made {most : Int} {ns : List Nd} {n : Nd} (g : Gok ns) (hf : formedF ns.length n = true) (hs : (sortedF ns n).2 = 0) (h2 : ¬ n.op = 2) (h0 : (makT most ns n).2.2 = 0) : NV ns n (sortedF ns n).1.sort (makT most ns n) := by
  obtain ⟨g1, hm⟩ := mak_ok (most := most) g hf hs
  rcases hm with ⟨-, ⟨t, ht, hmt⟩, l1, l2, hn⟩ | ⟨he, -⟩
  rotate_left
  · rw [he] at h0; cases h0
  have hop := (sorted_parts (ns := ns) h2).1
  have hno : ∀ m, m ∈ t → ¬ m.op = 2 := fun m hm => by rw [hmt m hm, hop]; exact h2
  refine ⟨⟨t, ht, hno⟩, g1, l1, l2, by rw [hn], fun look hA => ?_⟩
  obtain ⟨i, hi, hni⟩ := nd_at l1 l2
  rw [hi, V_node g1.kok hni, hn, nodeV_sorted h2]
  obtain ⟨u, hu⟩ := valsV_more look ns t
  rw [ht, hu]
  obtain ⟨k1, k2, k3⟩ := formed_kids hf
  exact (nodeV_more (by rw [valsV_len]; exact k1) (by rw [valsV_len]; exact k2) (by rw [valsV_len]; exact k3)).1
theorem look_any {ns : List Nd} (g : Gok ns) : ∃ look, AllFit look ns := ⟨_, full_fit (look := fun _ => none) g⟩
theorem con_formed {ns : List Nd} {v : Vl} (hv : v.ok = true) : formedF ns.length (constN v) = true ∧ sortedF ns (constN v) = (constN v, 0) := by
  have har : arity 1 = 0 := by decide
  refine ⟨?_, ?_⟩
  · unfold formedF constN
    simp [kidsOK, kidOK, har]
  · unfold sortedF constN
    have h : rightF v.w (lo v.n) (hi v.n) = true := hv
    simp [h]
theorem con_val {look : ByteArray → Option Vl} {acc : List Vl} {v : Vl} : nodeV look acc (constN v) = v := by
  unfold nodeV constN Nd.v
  simp only [if_true]
  have : mkN (lo v.n) (hi v.n) = v.n := pair_ext (by rw [lo_mk]) (by rw [hi_mk])
  rw [this]
theorem sorted_shl {ns : List Nd} {x c s : Int} (h1 : 1 ≤ x) (h2 : x ≤ ns.length) (h3 : 1 ≤ c) (h4 : c ≤ ns.length) (hx : (ndF ns x).sort = s) (hc : (ndF ns c).sort = s) (hs : 0 < s) (hs2 : s ≤ 128) : formedF ns.length (nodeO 26 x c 0 0 0) = true ∧ sortedF ns (nodeO 26 x c 0 0 0) = ({ nodeO 26 x c 0 0 0 with sort := s }, 0) := by
  obtain ⟨i, rfl, hi⟩ := nd_at h1 h2
  obtain ⟨j, rfl, hj⟩ := nd_at h3 h4
  have hk : ksort ns ((i : Int) + 1) = [s] := by rw [ksort_pos (by omega) (m := ndF ns ((i : Int) + 1)) (by rw [show ((i : Int) + 1 - 1).toNat = i by omega]; exact hi), hx]
  have hk2 : ksort ns ((j : Int) + 1) = [s] := by rw [ksort_pos (by omega) (m := ndF ns ((j : Int) + 1)) (by rw [show ((j : Int) + 1 - 1).toNat = j by omega]; exact hj), hc]
  have hk0 : ksort ns 0 = [] := ksort_none rfl
  have har : arity 26 = 2 := by decide
  refine ⟨?_, ?_⟩
  · unfold formedF nodeO
    simp [kidsOK, kidOK, har]
    omega
  · have h6 : isSort s = true := by unfold isSort; simp; omega
    have hss : sortS 26 0 0 [s, s] = (s, 0) := by
      unfold sortS toldB toldV
      simp [har, h6]
      rw [if_neg (by omega), if_neg (by omega)]
    unfold sortedF nodeO
    simp only [hk, hk2, hk0, List.append_nil, List.singleton_append, hss]
    simp
theorem norm_val {most : Int} : ∀ (f : Nat) {ns : List Nd} {n : Nd}, Gok ns → formedF ns.length n = true → (sortedF ns n).2 = 0 → ¬ n.op = 1 → ¬ n.op = 2 → (normF most f ns n).2.2 ≠ -1 →
    ((normF most f ns n).2.2 = 0 → NV ns n (sortedF ns n).1.sort (normF most f ns n)) ∧ ((normF most f ns n).2.2 = 0 ∨ (normF most f ns n).2.2 = 33)
  | 0, _, _, _, _, _, _, _, h => absurd rfl h
  | f + 1, ns, n, g, hf, hs, h1, h2, hne => by
    have mk2 : ∀ m : Nd, formedF ns.length m = true → (sortedF ns m).2 = 0 → (makT most ns m).2.2 = 0 ∨ (makT most ns m).2.2 = 33 := fun m a b => by
      obtain ⟨-, h | h⟩ := mak_ok (most := most) g a b
      · exact .inl h.1
      · exact .inr h.1
    obtain ⟨look0, hA0⟩ := look_any g
    have hfit0 := node_fit g hA0 hf hs h1 h2
    have hgood0 := hfit0.good
    have hpv := fun look (hA : AllFit look ns) => path_val g hA hf hs h1 h2
    unfold normF at hne ⊢
    cases hp : pathF ns n with
    | «at» k =>
      simp only [hp] at hne hpv ⊢
      obtain ⟨k1, k2, k3⟩ := hpv look0 hA0
      refine ⟨fun _ => ⟨⟨[], by simp, by simp⟩, g, k1, k2, ?_, fun look hA => (hpv look hA).2.2⟩, by simp⟩
      have K := kid_ok g hA0 k1 k2
      show (ndF ns k).sort = _
      rw [← K.w, k3, nodeV_op h1 h2]
      exact hgood0.2
    | con v =>
      simp only [hp] at hne hpv ⊢
      have hv0 := hpv look0 hA0
      change nodeV look0 (valsV look0 ns) n = v at hv0
      rw [nodeV_op h1 h2] at hv0
      have hvo : v.ok = true := by rw [← hv0]; exact hgood0.1
      have hvw : v.w = (sortedF ns n).1.sort := by rw [← hv0]; exact hgood0.2
      obtain ⟨c1, c2⟩ := con_formed (ns := ns) hvo
      refine ⟨fun h0 => ?_, mk2 _ c1 (by rw [c2])⟩
      have M := NV.made (n := constN v) g c1 (by rw [c2]) (by simp [constN]) h0
      rw [c2] at M
      exact ⟨M.more, M.gok, M.lo, M.hi, M.srt.trans hvw, fun look hA => by rw [M.val look hA, con_val]; exact (hpv look hA).symm⟩
    | mk =>
      simp only [hp] at hne ⊢
      exact ⟨fun h0 => NV.made g hf hs h2 h0, mk2 n hf hs⟩
    | again m =>
      simp only [hp] at hne hpv ⊢
      obtain ⟨m1, m2, m3, m4, -⟩ := hpv look0 hA0
      obtain ⟨r1, r2⟩ := norm_val f g m3 (by rw [m4]) m1 m2 hne
      refine ⟨fun h0 => ?_, r2⟩
      have M := r1 h0
      rw [m4] at M
      exact ⟨M.more, M.gok, M.lo, M.hi, M.srt, fun look hA => by rw [M.val look hA]; exact (hpv look hA).2.2.2.2⟩
    | shl x v =>
      simp only [hp] at hne hpv ⊢
      obtain ⟨v1, v2, v3, x1, x2, x3, -⟩ := hpv look0 hA0
      obtain ⟨c1, c2⟩ := con_formed (ns := ns) v1
      by_cases h0 : (makT most ns (constN v)).2.2 = 0
      · rw [if_pos h0] at hne ⊢
        have M := NV.made (n := constN v) g c1 (by rw [c2]) (by simp [constN]) h0
        rw [c2] at M
        obtain ⟨X, hX⟩ : ∃ X, X = makT most ns (constN v) := ⟨_, rfl⟩
        rw [← hX] at M hne ⊢
        obtain ⟨t, ht, hno⟩ := M.more
        have hle : ns.length ≤ X.1.length := by rw [ht]; simp
        have hxs : (ndF X.1 x).sort = v.w := by rw [ht, ndF_more x1 x2]; exact x3
        have hw128 : v.w ≤ 128 := by
          unfold Vl.ok rightF at v1
          rw [if_neg (by omega)] at v1
          simp at v1
          omega
        obtain ⟨s1, s2⟩ := sorted_shl (x := x) (c := X.2.1) x1 (by omega) M.lo M.hi hxs (by rw [M.srt]; rfl) v3 hw128
        obtain ⟨r1, r2⟩ := norm_val f M.gok s1 (by rw [s2]) (by simp [nodeO]) (by simp [nodeO]) hne
        refine ⟨fun h0 => ?_, r2⟩
        have Q := r1 h0
        rw [s2] at Q
        obtain ⟨t2, ht2, hno2⟩ := Q.more
        refine ⟨⟨t ++ t2, by rw [ht2, ht, List.append_assoc], fun m hm => ?_⟩, Q.gok, Q.lo, Q.hi, Q.srt.trans v2, fun look hA => ?_⟩
        · rcases List.mem_append.1 hm with h | h
          · exact hno m h
          · exact hno2 m h
        · have hA2 : AllFit look X.1 := by rw [ht]; exact hA.appends hno
          rw [Q.val look hA2, nodeV_op (by simp [nodeO]) (by simp [nodeO]), kidsV_2 (n := nodeO 26 x X.2.1 0 0 0) (by show arity 26 = 2; decide)]
          have e1 : V look X.1 x = V look ns x := by rw [ht]; exact V_more x2
          have e2 : V look X.1 X.2.1 = v := by rw [M.val look hA, con_val]
          show meanV 26 0 0 [V look X.1 x, V look X.1 X.2.1] = _
          rw [e1, e2]
          exact (hpv look hA).2.2.2.2.2.2
      · rw [if_neg h0] at hne ⊢
        refine ⟨fun h => absurd h h0, ?_⟩
        rcases mk2 (constN v) c1 (by rw [c2]) with h | h
        · exact absurd h h0
        · exact .inr h
end Go.Proofs.Ytiobohfiaapgeaa
end
section
namespace Go.Proofs.Ytiobohfiaapgeaa
set_option maxRecDepth 100000
set_option maxHeartbeats 2000000
def rankF (n : Nd) : Nat := if n.op = 39 then n.a.toNat + 1 else if (4 ≤ n.op ∧ n.op ≤ 8) ∨ n.op = 20 then 2 else 1
theorem rank_pos (n : Nd) : 1 ≤ rankF n := by
  unfold rankF
  split
  · omega
  · split <;> omega
def downF (n : Nd) : Ch → Prop
  | .again m => rankF m < rankF n
  | .shl _ _ => n.op = 20
  | _ => True
theorem slice_down {ns : List Nd} (kok : Kok ns) {n : Nd} (h39 : n.op = 39) (h1 : 1 ≤ n.a) (h2 : n.a ≤ ns.length) : downF n (sliceF ns n (ndF ns n.a)) := by
  obtain ⟨i, hi, hn⟩ := nd_at h1 h2
  obtain ⟨⟨a0, a1⟩, ⟨b0, b1⟩, -⟩ := kok i _ hn
  have ex : ∀ k p q : Int, k ≤ i → rankF (nodeO 39 k 0 0 p q) < rankF n := fun k p q hk => by
    unfold rankF nodeO
    simp only [h39, if_true]
    omega
  unfold sliceF
  split
  · exact ex _ _ _ a1
  · split
    · split
      · exact ex _ _ _ a1
      · split
        · exact ex _ _ _ b1
        · trivial
    · split
      · split
        · exact ex _ _ _ a1
        · trivial
      · trivial
theorem logicC_down {n : Nd} {v : Vl} {a b : Int} {c : Ch} (h4 : 4 ≤ n.op) (h8 : n.op ≤ 8) (h : logicC n.op v a b = some c) : downF n c := by
  have hr : rankF (nodeO 3 b 0 0 0 0) < rankF n := by
    unfold rankF nodeO
    simp
    rw [if_neg (by omega), if_pos (by omega)]
    omega
  unfold logicC at h
  split at h
  · cases h
  · split at h
    · cases h; split <;> trivial
    · split at h
      · cases h; split <;> trivial
      · split at h
        · cases h; split <;> trivial
        · split at h
          · cases h
            split
            · exact hr
            · trivial
          · cases h
            split
            · trivial
            · exact hr
theorem path_down {ns : List Nd} (kok : Kok ns) {n : Nd} (hf : formedF ns.length n = true) : downF n (pathF ns n) := by
  unfold pathF
  split
  · trivial
  · split
    · rename_i h1
      obtain ⟨f1, f2, -⟩ := formed1 hf h1
      unfold unC
      split
      · trivial
      · simp only
        split
        · trivial
        · split
          · trivial
          · split
            · trivial
            · split
              · trivial
              · split
                · trivial
                · split
                  · rename_i h39
                    exact slice_down kok h39 f1 f2
                  · trivial
    · split
      · unfold iteC
        split
        · trivial
        · split
          · split <;> trivial
          · trivial
      · unfold binC
        split
        · trivial
        · split
          · trivial
          · split
            · trivial
            · split
              · trivial
              · split
                · rename_i c hc
                  unfold logicF at hc
                  split at hc
                  · cases hc
                  · rename_i ho
                    split at hc
                    · exact logicC_down (by omega) (by omega) hc
                    · split at hc
                      · cases hc
                      · split at hc
                        · exact logicC_down (by omega) (by omega) hc
                        · cases hc
                · unfold besideF
                  split
                  · trivial
                  · split
                    · trivial
                    · split
                      · trivial
                      · split
                        · rename_i h20
                          unfold doubleF
                          split
                          · exact h20
                          · split
                            · exact h20
                            · trivial
                        · trivial
theorem norm_fuel {most : Int} : ∀ (f : Nat) {ns : List Nd} {n : Nd}, Gok ns → formedF ns.length n = true → (sortedF ns n).2 = 0 → ¬ n.op = 1 → ¬ n.op = 2 → rankF n ≤ f → (normF most f ns n).2.2 ≠ -1
  | 0, _, n, _, _, _, _, _, h => by have := rank_pos n; omega
  | f + 1, ns, n, g, hf, hs, h1, h2, hr => by
    have mk2 : ∀ m : Nd, formedF ns.length m = true → (sortedF ns m).2 = 0 → (makT most ns m).2.2 ≠ -1 := fun m a b => by
      obtain ⟨-, h | h⟩ := mak_ok (most := most) g a b
      · rw [h.1]; decide
      · rw [h.1]; decide
    obtain ⟨look0, hA0⟩ := look_any g
    have hgood0 := (node_fit g hA0 hf hs h1 h2).good
    have hpv := path_val g hA0 hf hs h1 h2
    have hd := path_down g.kok hf
    unfold normF
    cases hp : pathF ns n with
    | «at» k => simp
    | con v =>
      rw [hp] at hpv
      change nodeV look0 (valsV look0 ns) n = v at hpv
      rw [nodeV_op h1 h2] at hpv
      obtain ⟨c1, c2⟩ := con_formed (ns := ns) (v := v) (by rw [← hpv]; exact hgood0.1)
      exact mk2 _ c1 (by rw [c2])
    | mk => exact mk2 _ hf hs
    | again m =>
      rw [hp] at hpv hd
      obtain ⟨m1, m2, m3, m4, -⟩ := hpv
      change rankF m < rankF n at hd
      exact norm_fuel f g m3 (by rw [m4]) m1 m2 (by omega)
    | shl x v =>
      rw [hp] at hpv hd
      obtain ⟨v1, v2, v3, x1, x2, x3, -⟩ := hpv
      change n.op = 20 at hd
      obtain ⟨c1, c2⟩ := con_formed (ns := ns) v1
      simp only
      by_cases h0 : (makT most ns (constN v)).2.2 = 0
      · rw [if_pos h0]
        have M := NV.made (n := constN v) g c1 (by rw [c2]) (by simp [constN]) h0
        rw [c2] at M
        obtain ⟨X, hX⟩ : ∃ X, X = makT most ns (constN v) := ⟨_, rfl⟩
        rw [← hX] at M ⊢
        obtain ⟨t, ht, hno⟩ := M.more
        have hle : ns.length ≤ X.1.length := by rw [ht]; simp
        have hxs : (ndF X.1 x).sort = v.w := by rw [ht, ndF_more x1 x2]; exact x3
        have hw128 : v.w ≤ 128 := by
          unfold Vl.ok rightF at v1
          rw [if_neg (by omega)] at v1
          simp at v1
          omega
        obtain ⟨s1, s2⟩ := sorted_shl (x := x) (c := X.2.1) x1 (by omega) M.lo M.hi hxs (by rw [M.srt]; rfl) v3 hw128
        refine norm_fuel f M.gok s1 (by rw [s2]) (by simp [nodeO]) (by simp [nodeO]) ?_
        have : rankF n = 2 := by unfold rankF; rw [if_neg (by omega), if_pos (by omega)]
        have : rankF (nodeO 26 x X.2.1 0 0 0) = 1 := by unfold rankF nodeO; simp
        omega
      · rw [if_neg h0]
        exact mk2 _ c1 (by rw [c2])
end Go.Proofs.Ytiobohfiaapgeaa
end
section
namespace Go.Proofs.Ytiobohfiaapgeaa
set_option maxRecDepth 100000
set_option maxHeartbeats 2000000
def simF (most : Int) (f : Nat) : List Int → List Nd → (Int → Int) → List Nd × (Int → Int) × Int
  | [], ns, d => (ns, d, 0)
  | k :: l, ns, d =>
    if (normF most f ns { ndF ns k with a := d (ndF ns k).a, b := d (ndF ns k).b, c := d (ndF ns k).c }).2.2 = 0 then simF most f l (normF most f ns { ndF ns k with a := d (ndF ns k).a, b := d (ndF ns k).b, c := d (ndF ns k).c }).1 (fun x => if x = k then (normF most f ns { ndF ns k with a := d (ndF ns k).a, b := d (ndF ns k).b, c := d (ndF ns k).c }).2.1 else d x)
    else ((normF most f ns { ndF ns k with a := d (ndF ns k).a, b := d (ndF ns k).b, c := d (ndF ns k).c }).1, d, (normF most f ns { ndF ns k with a := d (ndF ns k).a, b := d (ndF ns k).b, c := d (ndF ns k).c }).2.2)
structure Did (ns0 ns : List Nd) (d : Int → Int) (P : Int → Prop) : Prop where
  more : ∃ t, ns = ns0 ++ t ∧ ∀ m, m ∈ t → ¬ m.op = 2
  gok : Gok ns
  zero : ∀ x, x ≤ 0 → d x = 0
  did : ∀ x, P x → 1 ≤ x → x ≤ ns0.length → 1 ≤ d x ∧ d x ≤ ns.length ∧ (ndF ns (d x)).sort = (ndF ns0 x).sort ∧ ∀ look, AllFit look ns0 → V look ns (d x) = V look ns0 x
theorem Did.fit {ns0 ns : List Nd} {d : Int → Int} {P : Int → Prop} (h : Did ns0 ns d P) {look : ByteArray → Option Vl} (hA : AllFit look ns0) : AllFit look ns := by
  obtain ⟨t, ht, hno⟩ := h.more
  rw [ht]; exact hA.appends hno
theorem ksort_at {ns : List Nd} {k : Int} (h1 : 1 ≤ k) (h2 : k ≤ ns.length) : ksort ns k = [(ndF ns k).sort] := by
  obtain ⟨i, rfl, hi⟩ := nd_at h1 h2
  exact ksort_pos (by omega) (by rw [show ((i : Int) + 1 - 1).toNat = i by omega]; exact hi)
structure Next (ns0 ns : List Nd) (d : Int → Int) (k : Int) : Prop where
  form : formedF ns.length { ndF ns k with a := d (ndF ns k).a, b := d (ndF ns k).b, c := d (ndF ns k).c } = true
  srt : sortedF ns { ndF ns k with a := d (ndF ns k).a, b := d (ndF ns k).b, c := d (ndF ns k).c } = ({ ndF ns k with a := d (ndF ns k).a, b := d (ndF ns k).b, c := d (ndF ns k).c }, 0)
  nd : ndF ns k = ndF ns0 k
  low : (ndF ns k).op = 1 ∨ (ndF ns k).op = 2 → ({ ndF ns k with a := d (ndF ns k).a, b := d (ndF ns k).b, c := d (ndF ns k).c } : Nd) = ndF ns k
  val : ∀ look, AllFit look ns0 → nodeV look (valsV look ns) { ndF ns k with a := d (ndF ns k).a, b := d (ndF ns k).b, c := d (ndF ns k).c } = V look ns0 k
theorem next_ok {ns0 ns : List Nd} {d : Int → Int} {P : Int → Prop} (g0 : Gok ns0) (h : Did ns0 ns d P) {k : Int} (h1 : 1 ≤ k) (h2 : k ≤ ns0.length) (hP : ∀ y, (y = (ndF ns0 k).a ∨ y = (ndF ns0 k).b ∨ y = (ndF ns0 k).c) → 0 < y → P y) : Next ns0 ns d k := by
  obtain ⟨t, ht, hno⟩ := h.more
  have hnd : ndF ns k = ndF ns0 k := by rw [ht, ndF_more h1 h2]
  obtain ⟨i, hi, hn⟩ := nd_at h1 h2
  have hmem0 : ndF ns0 k ∈ ns0 := List.mem_of_getElem? hn
  have hf0 := g0.form _ hmem0
  have hs0 := g0.srt _ hmem0
  obtain ⟨⟨a0, a1⟩, ⟨b0, b1⟩, ⟨c0, c1⟩⟩ := g0.kok i _ hn
  obtain ⟨m, hm⟩ : ∃ m, m = ndF ns0 k := ⟨_, rfl⟩
  have hnk : ndF ns k = m := hnd.trans hm.symm
  rw [← hm] at hf0 hs0 hmem0 hP a0 a1 b0 b1 c0 c1
  have hlen : i < ns0.length := (List.getElem?_eq_some_iff.1 hn).1
  have kid : ∀ y, (y = m.a ∨ y = m.b ∨ y = m.c) → (y = 0 ∧ d y = 0) ∨ (1 ≤ y ∧ y ≤ ns0.length ∧ 1 ≤ d y ∧ d y ≤ ns.length ∧ (ndF ns (d y)).sort = (ndF ns0 y).sort ∧ ∀ look, AllFit look ns0 → V look ns (d y) = V look ns0 y) := fun y hy => by
    have hy1 : 0 ≤ y ∧ y ≤ i := by rcases hy with rfl | rfl | rfl <;> omega
    by_cases c : y = 0
    · exact .inl ⟨c, h.zero y (by omega)⟩
    · have := h.did y (hP y hy (by omega)) (by omega) (by omega)
      exact .inr ⟨by omega, by omega, this.1, this.2.1, this.2.2.1, this.2.2.2⟩
  have kok : ∀ (ar : Int) (j : Nat) (y : Int), (y = m.a ∨ y = m.b ∨ y = m.c) → kidOK ns0.length ar j y = true → kidOK ns.length ar j (d y) = true := fun ar j y hy hk => by
    unfold kidOK at hk ⊢
    rcases kid y hy with ⟨e1, e2⟩ | ⟨e1, e2, e3, e4, -⟩
    · rw [e2]; rw [e1] at hk
      split
      · rename_i c; rw [if_pos c] at hk; simp at hk
      · simp
    · split
      · simp [e3, e4]
      · rename_i c; rw [if_neg c] at hk
        simp at hk; omega
  have ks : ∀ y, (y = m.a ∨ y = m.b ∨ y = m.c) → ksort ns (d y) = ksort ns0 y := fun y hy => by
    rcases kid y hy with ⟨e1, e2⟩ | ⟨e1, e2, e3, e4, e5, -⟩
    · rw [e2, e1, ksort_none rfl, ksort_none rfl]
    · rw [ksort_at e3 e4, ksort_at e1 e2, e5]
  have ha := kid m.a (.inl rfl)
  have hb := kid m.b (.inr (.inl rfl))
  have hc := kid m.c (.inr (.inr rfl))
  have hlow : m.op = 1 ∨ m.op = 2 → ({ m with a := d m.a, b := d m.b, c := d m.c } : Nd) = m := fun ho => by
    unfold formedF at hf0
    have har : arity m.op = 0 := by rcases ho with h | h <;> rw [h] <;> decide
    simp only [kidsOK, kidOK, har, Bool.and_eq_true] at hf0
    obtain ⟨⟨z1, z2, z3, -⟩, -⟩ := hf0
    simp at z1 z2 z3
    obtain ⟨op, sort, a, b, c, p, q, vw, vl, vh, name⟩ := m
    simp only at z1 z2 z3 ⊢
    subst z1; subst z2; subst z3
    rw [h.zero 0 (by omega)]
  refine ⟨?_, ?_, hnd, fun ho => by rw [hnk] at ho ⊢; exact hlow ho, fun look hA => ?_⟩
  · rw [hnk]
    unfold formedF at hf0 ⊢
    simp only [kidsOK, Bool.and_eq_true] at hf0 ⊢
    obtain ⟨⟨z1, z2, z3, -⟩, z4⟩ := hf0
    exact ⟨⟨kok _ _ _ (.inl rfl) z1, kok _ _ _ (.inr (.inl rfl)) z2, kok _ _ _ (.inr (.inr rfl)) z3, trivial⟩, z4⟩
  · rw [hnk]
    by_cases o12 : m.op = 1 ∨ m.op = 2
    · rw [hlow o12]
      exact h.gok.srt m (by rw [ht]; exact List.mem_append_left _ hmem0)
    · unfold sortedF at hs0 ⊢
      rw [if_neg (by omega), if_neg (by omega)] at hs0
      simp only
      rw [if_neg (by omega), if_neg (by omega), ks _ (.inl rfl), ks _ (.inr (.inl rfl)), ks _ (.inr (.inr rfl))]
      have q1 := congrArg Prod.snd hs0
      have q2 := congrArg (fun x => x.1.sort) hs0
      simp only at q1 q2
      rw [q1, q2]
  · have hv0 : V look ns0 k = nodeV look (valsV look ns0) m := by
      have := V_node (look := look) g0.kok hn
      rw [← hi, ← hm] at this
      exact this
    rw [hv0, hnk]
    have pk : ∀ y, (y = m.a ∨ y = m.b ∨ y = m.c) → pick (valsV look ns) (d y) = pick (valsV look ns0) y := fun y hy => by
      rcases kid y hy with ⟨e1, e2⟩ | ⟨e1, e2, e3, e4, e5, e6⟩
      · rw [e2, e1]; rfl
      · exact e6 look hA
    unfold nodeV kidsV
    simp only
    rw [pk _ (.inl rfl), pk _ (.inr (.inl rfl)), pk _ (.inr (.inr rfl))]
    rfl
theorem norm_low {most : Int} {f : Nat} {ns : List Nd} {n : Nd} (h : n.op = 1 ∨ n.op = 2) : normF most (f + 1) ns n = makT most ns n := by
  unfold normF pathF
  have har : arity n.op = 0 := by rcases h with h | h <;> rw [h] <;> decide
  rw [if_pos har]
theorem mak_there {most : Int} {ns : List Nd} {n : Nd} (g : Gok ns) (hn : n ∈ ns) : ∃ i : Nat, makT most ns n = (ns, (i : Int) + 1, 0) ∧ ns[i]? = some n := by
  unfold makT
  have hs := g.srt n hn
  rw [if_neg (by rw [g.form n hn]; simp), if_neg (by rw [hs]; simp), hs]
  simp only
  cases hi : idx ns n with
  | none => exact absurd hn (idx_none hi)
  | some i =>
    unfold idx at hi
    obtain ⟨h1, h2, -⟩ := List.findIdx?_eq_some_iff_getElem.1 hi
    have h2 := of_decide_eq_true h2
    exact ⟨i, rfl, by rw [List.getElem?_eq_getElem h1, h2]⟩
theorem norm_next {most : Int} {f : Nat} {ns0 ns : List Nd} {d : Int → Int} {P : Int → Prop} (_g0 : Gok ns0) (h : Did ns0 ns d P) {k : Int} (h1 : 1 ≤ k) (h2 : k ≤ ns0.length) (N : Next ns0 ns d k) {n : Nd} (hn : n = { ndF ns k with a := d (ndF ns k).a, b := d (ndF ns k).b, c := d (ndF ns k).c }) (hf : (ns.length : Int) + 2 ≤ f) :
    ((normF most f ns n).2.2 = 0 ∨ (normF most f ns n).2.2 = 33) ∧ ((normF most f ns n).2.2 = 0 → Did ns0 (normF most f ns n).1 (fun x => if x = k then (normF most f ns n).2.1 else d x) (fun x => P x ∨ x = k)) := by
  obtain ⟨t, ht, hno⟩ := h.more
  have g := h.gok
  have nf := N.form
  have nsr := N.srt
  have nv := N.val
  rw [← hn] at nf nsr nv
  have hle : ns0.length ≤ ns.length := by rw [ht]; simp
  obtain ⟨f, rfl⟩ : ∃ f', f = f' + 1 := ⟨f - 1, by omega⟩
  have fin : ∀ x : List Nd × Int × Int, NV ns n (ndF ns0 k).sort x → Did ns0 x.1 (fun y => if y = k then x.2.1 else d y) (fun y => P y ∨ y = k) := fun x X => by
    obtain ⟨t2, ht2, hno2⟩ := X.more
    have hl2 : ns.length ≤ x.1.length := by rw [ht2]; simp
    refine ⟨⟨t ++ t2, by rw [ht2, ht, List.append_assoc], fun m hm => ?_⟩, X.gok, fun y hy => ?_, fun y hy y1 y2 => ?_⟩
    · rcases List.mem_append.1 hm with h | h
      · exact hno m h
      · exact hno2 m h
    · rw [if_neg (by omega)]; exact h.zero y hy
    · by_cases c : y = k
      · subst c
        simp only [if_true]
        exact ⟨X.lo, X.hi, X.srt, fun look hA => by rw [X.val look (h.fit hA), nv look hA]⟩
      · simp only [if_neg c]
        rcases hy with hy | hy
        · obtain ⟨d1, d2, d3, d4⟩ := h.did y hy y1 y2
          refine ⟨d1, by omega, ?_, fun look hA => ?_⟩
          · rw [ht2, ndF_more d1 d2]; exact d3
          · rw [ht2, V_more d2]; exact d4 look hA
        · exact absurd hy c
  have hsort : n.sort = (ndF ns0 k).sort := by rw [hn, ← N.nd]
  by_cases o12 : n.op = 1 ∨ n.op = 2
  · have hno2 : n = ndF ns k := by rw [hn]; exact N.low (by rw [hn] at o12; exact o12)
    obtain ⟨i, hi, hni⟩ := nd_at (ns := ns) h1 (by omega)
    have hmem : n ∈ ns := by rw [hno2]; exact List.mem_of_getElem? hni
    obtain ⟨j, hj, hnj⟩ := mak_there (most := most) g hmem
    rw [norm_low o12, hj]
    refine ⟨.inl rfl, fun _ => fin (ns, (j : Int) + 1, 0) ⟨⟨[], by simp, by simp⟩, g, by show (1 : Int) ≤ (j : Int) + 1; omega, ?_, ?_, fun look hA => V_node g.kok hnj⟩⟩
    · have := (List.getElem?_eq_some_iff.1 hnj).1
      show (j : Int) + 1 ≤ ns.length
      omega
    · show (ndF ns ((j : Int) + 1)).sort = _
      obtain ⟨j', hj', hnj'⟩ := nd_at (ns := ns) (k := (j : Int) + 1) (by omega) (by have := (List.getElem?_eq_some_iff.1 hnj).1; omega)
      have : j' = j := by omega
      subst this
      rw [hnj] at hnj'
      cases hnj'
      rw [← hsort]
  · have hr : rankF n ≤ f + 1 := by
      obtain ⟨k1, -, -⟩ := formed_kids nf
      unfold rankF
      split
      · omega
      · split <;> omega
    have hne := norm_fuel (most := most) (f + 1) g nf (by rw [nsr]) (by omega) (by omega) hr
    obtain ⟨r1, r2⟩ := norm_val (f + 1) g nf (by rw [nsr]) (by omega) (by omega) hne
    rw [nsr] at r1
    refine ⟨r2, fun h0 => fin _ ?_⟩
    rw [← hsort]
    exact r1 h0
end Go.Proofs.Ytiobohfiaapgeaa
end
section
namespace Go.Proofs.Ytiobohfiaapgeaa
set_option maxRecDepth 100000
set_option maxHeartbeats 2000000
theorem mak_len {most L : Int} {ns : List Nd} {n : Nd} (h1 : (ns.length : Int) ≤ L) (h2 : most ≤ L) : (((makT most ns n).1).length : Int) ≤ L := by
  unfold makT
  split
  · exact h1
  · split
    · exact h1
    · split
      · exact h1
      · split
        · exact h1
        · simp; omega
theorem norm_len {most L : Int} (h2 : most ≤ L) : ∀ (f : Nat) {ns : List Nd} {n : Nd}, (ns.length : Int) ≤ L → (((normF most f ns n).1).length : Int) ≤ L
  | 0, _, _, h => h
  | f + 1, ns, n, h => by
    unfold normF
    split
    · exact h
    · exact mak_len h h2
    · exact mak_len h h2
    · exact norm_len h2 f h
    · split
      · exact norm_len h2 f (mak_len h h2)
      · exact mak_len h h2
theorem mem_pre {l pre : List Int} {k y : Int} (hp : (pre ++ k :: l).Pairwise (· < ·)) (hy : y ∈ pre ++ k :: l) (hk : y < k) : y ∈ pre := by
  rcases List.mem_append.1 hy with h | h
  · exact h
  · rcases List.mem_cons.1 h with rfl | h
    · omega
    · have := (List.pairwise_cons.1 (List.pairwise_append.1 hp).2.1).1 y h
      omega
theorem sim_ok {most L : Int} {f : Nat} {ns0 : List Nd} {id : Int} (g0 : Gok ns0) (h1 : 1 ≤ id) (h2 : id ≤ ns0.length) (hL : most ≤ L) (hf : L + 2 ≤ f) : ∀ (l pre : List Int) (ns : List Nd) (d : Int → Int), coneT ns0 id = pre ++ l → Did ns0 ns d (fun x => x ∈ pre) → (ns.length : Int) ≤ L →
    ((simF most f l ns d).2.2 = 0 ∨ (simF most f l ns d).2.2 = 33) ∧ ((simF most f l ns d).2.2 = 0 → Did ns0 (simF most f l ns d).1 (simF most f l ns d).2.1 (fun x => x ∈ coneT ns0 id))
  | [], pre, ns, d, hc, hd, _ => by
    unfold simF
    refine ⟨.inl rfl, fun _ => ?_⟩
    rw [hc, List.append_nil]
    exact hd
  | k :: l, pre, ns, d, hc, hd, hl => by
    have hk : k ∈ coneT ns0 id := by rw [hc]; simp
    obtain ⟨j, rfl, j1, j2⟩ := cone_mem hk
    have hrise := cone_rises ns0 id
    rw [hc] at hrise
    have k1 : (1 : Int) ≤ (j : Int) := by omega
    have k2 : (j : Int) ≤ ns0.length := by omega
    obtain ⟨i, hi, hni⟩ := nd_at k1 k2
    have N := next_ok g0 hd k1 k2 fun y hy h0 => by
      have := cone_kid g0.kok h1 h2 (j := i) (n := ndF ns0 j) (by rw [← hi]; exact hk) hni hy h0
      rw [← hi] at this
      refine mem_pre hrise ?_ this.2
      rw [← hc]; exact this.1
    obtain ⟨n, hn⟩ : ∃ n, n = ({ ndF ns j with a := d (ndF ns j).a, b := d (ndF ns j).b, c := d (ndF ns j).c } : Nd) := ⟨_, rfl⟩
    obtain ⟨r1, r2⟩ := norm_next (most := most) (f := f) g0 hd k1 k2 N hn (by omega)
    have hlen := norm_len hL f (n := n) hl
    unfold simF
    rw [← hn]
    by_cases h0 : (normF most f ns n).2.2 = 0
    · rw [if_pos h0]
      refine sim_ok g0 h1 h2 hL hf l (pre ++ [(j : Int)]) _ _ (by rw [hc]; simp) ?_ hlen
      have D := r2 h0
      exact ⟨D.more, D.gok, D.zero, fun x hx => D.did x (by simpa using hx)⟩
    · rw [if_neg h0]
      exact ⟨r1, fun h => absurd h h0⟩
def simT (most : Int) (f : Nat) (ns : List Nd) (id : Int) : List Nd × Int × Int :=
  if id < 1 ∨ (ns.length : Int) < id then (ns, 0, 70)
  else if (simF most f (coneT ns id) ns fun _ => 0).2.2 = 0 then ((simF most f (coneT ns id) ns fun _ => 0).1, (simF most f (coneT ns id) ns fun _ => 0).2.1 id, 0)
  else ((simF most f (coneT ns id) ns fun _ => 0).1, 0, (simF most f (coneT ns id) ns fun _ => 0).2.2)
theorem cone_self {ns : List Nd} (kok : Kok ns) {id : Int} (h1 : 1 ≤ id) (h2 : id ≤ ns.length) : id ∈ coneT ns id := by
  obtain ⟨j, rfl⟩ : ∃ j : Nat, id = j := ⟨id.toNat, by omega⟩
  refine (mem_cone kok (by omega) h2 (by omega)).2 ?_
  exact cP_self kok _ (by omega)
structure Simp (ns : List Nd) (id : Int) (x : List Nd × Int × Int) : Prop where
  more : ∃ t, x.1 = ns ++ t ∧ ∀ m, m ∈ t → ¬ m.op = 2
  gok : Gok x.1
  lo : 1 ≤ x.2.1
  hi : x.2.1 ≤ x.1.length
  srt : (ndF x.1 x.2.1).sort = (ndF ns id).sort
  val : ∀ look, AllFit look ns → V look x.1 x.2.1 = V look ns id
theorem simT_ok {most L : Int} {f : Nat} {ns : List Nd} {id : Int} (g : Gok ns) (h1 : 1 ≤ id) (h2 : id ≤ ns.length) (hL : most ≤ L) (hl : (ns.length : Int) ≤ L) (hf : L + 2 ≤ f) : ((simT most f ns id).2.2 = 0 ∧ Simp ns id (simT most f ns id)) ∨ (simT most f ns id).2.2 = 33 := by
  have D0 : Did ns ns (fun _ => 0) (fun x => x ∈ ([] : List Int)) := ⟨⟨[], by simp, by simp⟩, g, fun _ _ => rfl, fun x hx => by cases hx⟩
  obtain ⟨r1, r2⟩ := sim_ok (most := most) g h1 h2 hL hf (coneT ns id) [] ns (fun _ => 0) (by simp) D0 hl
  unfold simT
  rw [if_neg (by omega)]
  by_cases h0 : (simF most f (coneT ns id) ns fun _ => 0).2.2 = 0
  · rw [if_pos h0]
    have D := r2 h0
    obtain ⟨d1, d2, d3, d4⟩ := D.did id (cone_self g.kok h1 h2) h1 h2
    exact .inl ⟨rfl, D.more, D.gok, d1, d2, d3, d4⟩
  · rw [if_neg h0]
    exact .inr (r1.resolve_left h0)
end Go.Proofs.Ytiobohfiaapgeaa
end
section
namespace Go.Proofs.Ytiobohfiaapgeaa
set_option maxRecDepth 100000
set_option maxHeartbeats 2000000
theorem Fr.cutF {F : List Nat} {H H' : AHeap} (k : Fr F H H') : Fr F H (H.cut H') :=
  ⟨Nat.le_refl _, fun p hp hF => by simp only [AHeap.cut]; rw [if_pos hp]; exact k.obj p hp hF, fun p hp hF => by simp only [AHeap.cut]; rw [if_pos hp]; exact k.wr p hp hF⟩
theorem TG.move {A B : AHeap} {g : Nat} {most : Int} {ns : List Nd} {o1 o2 o3 : Nat} (h : TG A g most ns o1 o2 o3) (hm : ∀ p, p ∈ g :: o2 :: o3 :: objs (slv o1 ns) → p < B.size ∧ B.obj p = A.obj p) : TG B g most ns o1 o2 o3 := by
  have m1 := hm g (by simp)
  have m2 := hm o2 (by simp)
  have m3 := hm o3 (by simp)
  have m4 : ns ≠ [] → o1 < B.size ∧ B.obj o1 = A.obj o1 := fun e => hm o1 (by simp [slv, e])
  exact ⟨m1.1, fun e => (m4 e).1, m2.1, m3.1, by rw [m1.2]; exact h.og, fun e => by rw [(m4 e).2]; exact h.b1 e, by rw [m2.2]; exact h.b2, by rw [m3.2]; exact h.b3, h.n1, h.n2, h.n3, h.n12, h.n13, h.n23, h.lim, h.lim2⟩
theorem GT.move {A B : AHeap} {g : Nat} {most : Int} {ns : List Nd} {F : List Nat} (h : GT A g most ns F) (hm : ∀ p, p ∈ F → p < B.size ∧ B.obj p = A.obj p) : GT B g most ns F := by
  obtain ⟨o1, o2, o3, t, v, kk, rfl⟩ := h
  exact ⟨o1, o2, o3, t.move hm, v, kk, rfl⟩
theorem GT.ltF {H : AHeap} {g : Nat} {most : Int} {ns : List Nd} {F : List Nat} (h : GT H g most ns F) {p : Nat} (hp : p ∈ F) : p < H.size := by
  obtain ⟨o1, o2, o3, t, v, kk, rfl⟩ := h
  simp only [List.mem_cons] at hp
  rcases hp with rfl | rfl | rfl | hp
  · exact t.lg
  · exact t.l2
  · exact t.l3
  · unfold slv at hp
    split at hp
    · simp at hp
    · rename_i hne
      simp at hp
      subst hp
      exact t.l1 hne
theorem GT.frame {A B : AHeap} {g : Nat} {most : Int} {ns : List Nd} {F X : List Nat} (h : GT A g most ns F) (k : Fr X A B) (hx : ∀ p, p ∈ F → p ∉ X) : GT B g most ns F :=
  h.move fun p hp => ⟨k.lt (h.ltF hp), k.obj p (h.ltF hp) (hx p hp)⟩
theorem GT.lim {H : AHeap} {g : Nat} {most : Int} {ns : List Nd} {F : List Nat} (h : GT H g most ns F) : (ns.length : Int) ≤ most ∧ most ≤ 4096 := by
  obtain ⟨o1, o2, o3, t, v, kk, rfl⟩ := h
  exact ⟨t.lim, t.lim2⟩
theorem GT.mem {H : AHeap} {g : Nat} {most : Int} {ns : List Nd} {F : List Nat} (h : GT H g most ns F) : g ∈ F := by
  obtain ⟨o1, o2, o3, t, v, kk, rfl⟩ := h
  simp
theorem GT.cut {H H' : AHeap} {g : Nat} {most : Int} {ns js : List Nd} {F F' : List Nat} (g0 : GT H g most ns F) (g1 : GT H' g most js F') (hs : Shut H H') : GT (H.cut H') g most js F' ∧ ∀ p, p ∈ F' → p < H.size := by
  have hlt : ∀ p, p ∈ F' → p < H.size := by
    obtain ⟨o1, o2, o3, t0, v0, kk0, rfl⟩ := g0
    obtain ⟨p1, p2, p3, t, v, kk, rfl⟩ := g1
    intro p hp
    simp only [List.mem_cons] at hp
    rcases hs.obj g t0.lg with e | e
    · rw [t.og, t0.og] at e
      simp only [AObj.cells.injEq, List.cons.injEq, AV.map.injEq, and_true, true_and] at e
      obtain ⟨e1, rfl, rfl⟩ := e
      rcases hp with rfl | rfl | rfl | hp
      · exact t0.lg
      · exact t0.l2
      · exact t0.l3
      · rw [e1] at hp
        exact (slv_reads t0.l1 t0.b1).lt hp
    · rw [t.og] at e
      simp only [closedO, closedL, closed, Bool.and_eq_true, decide_eq_true_eq, Bool.true_and, Bool.and_true] at e
      rcases hp with rfl | rfl | rfl | hp
      · exact t0.lg
      · exact e.2.1
      · exact e.2.2
      · have e1 := e.1
        unfold slv at hp e1
        split at hp
        · simp at hp
        · rename_i hne
          rw [if_neg hne] at e1
          simp at hp
          subst hp
          simpa [closed] using e1
  exact ⟨g1.move fun p hp => ⟨hlt p hp, cut_obj (hlt p hp)⟩, hlt⟩
structure WG (H : AHeap) (w dn g : Nat) (most : Int) (ns : List Nd) (F : List Nat) (e : Int) : Prop where
  self : H.obj w = .cells [.ptr g 0, .map dn, .int .i64 e]
  lo : w < H.size
  ld : dn < H.size
  G : GT H g most ns F
  off : ∀ p, p ∈ F → p ≠ w ∧ p ≠ dn
  ne : w ≠ dn
theorem WG.keeps {H H' : AHeap} {w dn g : Nat} {most : Int} {ns : List Nd} {F : List Nat} {e : Int} (h : WG H w dn g most ns F e) (k : Keeps H H') : WG H' w dn g most ns F e :=
  ⟨by rw [k.obj w h.lo]; exact h.self, k.lt h.lo, k.lt h.ld, h.G.keeps k, h.off, h.ne⟩
theorem WG.back {H H' : AHeap} {w dn g : Nat} {most : Int} {ns js : List Nd} {F F' : List Nat} {e0 e1 : Int} (h0 : WG H w dn g most ns F e0) (h1 : WG H' w dn g most js F' e1) (k : Fr (w :: F) H H') (id : Int) :
    ∃ D, back [] H (.int .i64 id) H' = (.int .i64 id, D) ∧ WG D w dn g most js F' e1 ∧ Fr (w :: F) H D := by
  by_cases hs : Shut H H'
  · rw [back_nil (by simp) hs]
    obtain ⟨g2, -⟩ := h0.G.cut h1.G hs
    exact ⟨_, rfl, ⟨by rw [cut_obj h0.lo]; exact h1.self, h0.lo, h0.ld, g2, h1.off, h1.ne⟩, k.cutF⟩
  · rw [back_not hs]
    exact ⟨_, rfl, h1, k⟩
def Wv (H : AHeap) (w dn g : Nat) (most : Int) (F : List Nat) (x : List Nd × Int × Int) (r : Option (AV × AHeap)) : Prop :=
  ∃ H' F' ns' id e, r = some (.int .i64 id, H') ∧ WG H' w dn g most ns' F' e ∧ Fr (w :: F) H H' ∧ (∀ p, p ∈ F' → p ∈ F ∨ H.size ≤ p) ∧ (x.2.2 = 0 → ns' = x.1 ∧ id = x.2.1 ∧ e = 0) ∧ (¬ x.2.2 = 0 → e = x.2.2)
theorem nd_v (n : Nd) : lo n.v.n = n.vl ∧ hi n.v.n = n.vh ∧ n.v.w = n.vw := ⟨lo_mk _ _, hi_mk _ _, rfl⟩
section
variable {H : AHeap} {w dn g : Nat} {most : Int} {ns : List Nd} {F : List Nat} {e : Int}
theorem WG.node (h : WG H w dn g most ns F e) (id : Int) : R Zj [.ptr g 0, .int .i64 id] H = some (.tup [.agg (ndF ns id).cs, .bool (nodeS ns id).isSome], H) := by
  obtain ⟨o1, o2, o3, t, -⟩ := h.G
  exact node_run t
theorem value_run (h : WG H w dn g most ns F e) (id : Int) : R Z2 [.ptr w 0, .int .i64 id] H = some (.tup [.agg [.int .i64 (ndF ns id).vw, u (ndF ns id).vl, u (ndF ns id).vh], .bool (decide ((ndF ns id).op = 1))], H) := by
  have hn := fun H' (k : Keeps H H') => (h.keeps k).node id
  have hn1 := hn (H.new (.cells [.int .i64 0, u 0#64, u 0#64])) (Keeps.new H _)
  rw [Zf1]
  obtain ⟨n, hnn⟩ : ∃ n, n = ndF ns id := ⟨_, rfl⟩
  rw [← hnn] at hn1 ⊢
  obtain ⟨op, sort, a, b, c, p, q, vw, vl, vh, name⟩ := n
  simp only [Nd.cs] at hn1
  have hsep : sepT [3, 5, 999, 1006] = some 6 := rfl
  have hsl : ∀ o os, sepL [3, 5, 999, 1006] o os = decide (os ≤ o) := fun o os => rfl
  have hlo := h.lo
  have hself := h.self
  simp (maxDischargeDepth := 40) [Zd9, hself, hlo, hn1, hsep, hsl, objOf_ptr]
theorem constant_run (h : WG H w dn g most ns F 0) {v : Vl} {r : Option (AV × AHeap)} (hr : R Zh [.ptr w 0, .agg [.int .i64 v.w, u (lo v.n), u (hi v.n)]] H = r)
    (hmk : ∀ H' r', Keeps H H' → R Zg [.ptr w 0, .agg (constN v).cs] H' = r' → Wv H' w dn g most F (makT most ns (constN v)) r') : Wv H w dn g most F (makT most ns (constN v)) r := by
  rw [Zfh] at hr
  simp (maxDischargeDepth := 40) [Zdq] at hr
  generalize hA : R Zg _ _ = q at hr
  obtain ⟨H1, F1, ns1, id, e1, rfl, g1, k1, n1, ok, bad⟩ := hmk _ _ (Keeps.new H (.cells [.int .i64 v.w, u (lo v.n), u (hi v.n)])) hA
  simp at hr
  have k2 : Fr (w :: F) H H1 := ((Keeps.new H _).fr _).trans k1 fun p hp => .inl hp
  obtain ⟨D, hD, g2, k3⟩ := h.back g1 k2 id
  rw [hD] at hr
  refine ⟨D, F1, ns1, id, e1, hr.symm, g2, k3, fun p hp => ?_, ok, bad⟩
  rcases n1 p hp with h | h
  · exact .inl h
  · simp at h; exact .inr (by omega)
theorem make_run (h : WG H w dn g most ns F 0) {n : Nd} {r : Option (AV × AHeap)} (hr : R Zg [.ptr w 0, .agg n.cs] H = r) : Wv H w dn g most F (makT most ns n) r := by
  rw [Zeg] at hr
  have hcs : ∃ op sort a b c p q vw vl vh name, n = ⟨op, sort, a, b, c, p, q, vw, vl, vh, name⟩ := ⟨_, _, _, _, _, _, _, _, _, _, _, rfl⟩
  obtain ⟨op, sort, a, b, c, p, q, vw, vl, vh, name, hn⟩ := hcs
  have hcs : n.cs = [.int .i64 op, .int .i64 sort, .int .i64 a, .int .i64 b, .int .i64 c, .int .i64 p, .int .i64 q, .int .i64 vw, u vl, u vh, .str name] := by rw [hn]; rfl
  rw [hcs] at hr
  simp (maxDischargeDepth := 40) [Zda, h.self, h.lo] at hr
  rw [← hcs] at hr
  generalize hA : R Zl _ _ = q at hr
  have kn := Keeps.new H (.cells n.cs)
  obtain ⟨H1, F1, rfl, G1, m1⟩ := mk_run (h.G.keeps kn) hA
  have k1 : Fr F H H1 := (kn.fr _).trans m1.fr fun p hp => .inl hp
  have hw : w ∉ F := fun hm => (h.off w hm).1 rfl
  have o1 : H1.obj w = .cells [.ptr g 0, .map dn, .int .i64 0] := by rw [k1.obj w h.lo hw]; exact h.self
  have l1 := k1.lt h.lo
  have n1 : ∀ p, p ∈ F1 → p ∈ F ∨ H.size ≤ p := fun p hp => by
    rcases m1.new p hp with h | h
    · exact .inl h
    · simp at h; exact .inr (by omega)
  simp (maxDischargeDepth := 40) [o1] at hr
  generalize hX : H1.set w (.cells [.ptr g 0, .map dn, .int .i64 (makT most ns n).2.2]) = H2 at hr
  have k2 : Fr (w :: F) H H2 := by rw [← hX]; exact (k1.weak fun p hp => .inl (by simp [hp])).set (.inl (by simp)) _
  have off1 : ∀ p, p ∈ F1 → p ≠ w ∧ p ≠ dn := fun p hp => by
    rcases n1 p hp with h1 | h1
    · exact h.off p h1
    · have := h.lo; have := h.ld; omega
  have g2 : WG H2 w dn g most (makT most ns n).1 F1 (makT most ns n).2.2 := by
    refine ⟨by rw [← hX]; simp, k2.lt h.lo, k2.lt h.ld, G1.frame (X := [w]) (by rw [← hX]; exact (Fr.refl _ H1).set (.inl (by simp)) _) fun p hp => by simpa using (off1 p hp).1, off1, h.ne⟩
  obtain ⟨D, hD, g3, k3⟩ := h.back g2 k2 (makT most ns n).2.1
  rw [hD] at hr
  exact ⟨D, F1, _, _, _, hr.symm, g3, k3, n1, fun h0 => ⟨rfl, rfl, h0⟩, fun _ => rfl⟩
end
end Go.Proofs.Ytiobohfiaapgeaa
end
section
namespace Go.Proofs.Ytiobohfiaapgeaa
set_option maxRecDepth 100000
set_option maxHeartbeats 4000000
theorem Nd.parts' (n : Nd) : n.cs = [.int .i64 n.op, .int .i64 n.sort, .int .i64 n.a, .int .i64 n.b, .int .i64 n.c, .int .i64 n.p, .int .i64 n.q, .int .i64 n.vw, u n.vl, u n.vh, .str n.name] := rfl
theorem consF_snoc (ns : List Nd) (k : Int) : ∀ l : List Int, consF ns (l ++ [k]) = (consF ns l).bind fun vs => (conF ns k).map fun v => vs ++ [v]
  | [] => by
    simp only [List.nil_append, consF]
    cases conF ns k <;> rfl
  | x :: l => by
    simp only [List.cons_append, consF]
    cases conF ns x with
    | none => rfl
    | some v =>
      simp only
      rw [consF_snoc ns k l]
      cases consF ns l with
      | none => rfl
      | some vs =>
        cases conF ns k <;> rfl
theorem consF_none (ns : List Nd) {k : Int} (h : conF ns k = none) : ∀ l m : List Int, consF ns (l ++ k :: m) = none
  | [], m => by simp [consF, h]
  | x :: l, m => by
    simp only [List.cons_append, consF]
    cases conF ns x with
    | none => rfl
    | some v => simp only; rw [consF_none ns h l m]; rfl
theorem consF_len {ns : List Nd} : ∀ {l : List Int} {vs : List Vl}, consF ns l = some vs → vs.length = l.length
  | [], vs, h => by cases h; rfl
  | x :: l, vs, h => by
    simp only [consF] at h
    cases hx : conF ns x with
    | none => rw [hx] at h; cases h
    | some v =>
      rw [hx] at h
      simp only at h
      cases hl : consF ns l with
      | none => rw [hl] at h; cases h
      | some ws =>
        rw [hl] at h
        cases h
        simp [consF_len hl]
theorem conF_cs {ns : List Nd} {k : Int} {v : Vl} (h : conF ns k = some v) : (ndF ns k).op = 1 ∧ v = (ndF ns k).v := by
  unfold conF at h
  split at h
  · rename_i ho; cases h; exact ⟨ho, rfl⟩
  · cases h
theorem conF_no {ns : List Nd} {k : Int} (h : conF ns k = none) : ¬ (ndF ns k).op = 1 := by
  unfold conF at h
  split at h
  · cases h
  · assumption
theorem flatV_snoc (l : List Vl) (v : Vl) : flatV (l ++ [v]) = flatV l ++ v.cs := by simp [flatV]
section
variable {H : AHeap} {w dn g : Nat} {most : Int} {ns : List Nd} {F : List Nat} {e : Int}
theorem Wv.up (h : WG H w dn g most ns F 0) {H1 : AHeap} (k : Keeps H H1) {x : List Nd × Int × Int} {r1 : Option (AV × AHeap)} (hw : Wv H1 w dn g most F x r1) : ∃ id H2, r1 = some (.int .i64 id, H2) ∧ Wv H w dn g most F x (some (back [] H (.int .i64 id) H2)) := by
  obtain ⟨H2, F2, ns2, id, e2, rfl, g2, k2, n2, ok, bad⟩ := hw
  have k3 : Fr (w :: F) H H2 := (k.fr _).trans k2 fun p hp => .inl hp
  obtain ⟨D, hD, g4, k4⟩ := h.back g2 k3 id
  refine ⟨id, H2, rfl, D, F2, ns2, id, e2, by rw [hD], g4, k4, fun p hp => ?_, ok, bad⟩
  have := k.size
  rcases n2 p hp with h | h
  · exact .inl h
  · exact .inr (by omega)
theorem folded_loop (h : WG H w dn g most ns F 0) {o m : Nat} {f : Bool} {ks all : List Int} (hm : m ≤ 3) (ho : o < H.size) (hob : H.obj o = .cells (all.map (.int .i64))) (hks : ks = all.take m) (hl : all.length = 3) {ev : Env} {r : Rn}
    (hL : loopL Try.prog KT R Zbq ev H = r) (e0 : ev 0 = some (.ptr w 0)) (e5 : ev 5 = some .nils) (e22 : ev 22 = some (.row o 0 1 m f)) (e23 : ev 23 = some (.int .i64 m)) (e24 : ev 24 = some (.int .i64 0)) :
    ∃ x ev' H', r = some (x, ev', H') ∧ (Keeps H H' ∧ ((x = .ret ∧ ev' 4 = some (.int .i64 0) ∧ consF ns ks = none) ∨ (x = .exit 0 ∧ ∃ v vs, consF ns ks = some vs ∧ ev' 5 = some v ∧ RV H' v vs))) ∧ ∀ t, t ∉ defs Zbq → ev' t = ev t := by
  have hkl : ks.length = m := by rw [hks]; simp; omega
  refine loop_count Zbq.eq_1 hL m (fun i e1 H1 => e1 24 = some (.int .i64 i) ∧ Keeps H H1 ∧ ∃ v vs, consF ns (ks.take i) = some vs ∧ vs.length = i ∧ e1 5 = some v ∧ Reads H1 v 3 vs.length (flatV vs) ∧ grows v ∧ ∀ p, p ∈ objs v → H.size ≤ p) _ 0 (Nat.zero_le _) ⟨e24, Keeps.refl _, .nils, [], by simp [consF], rfl, e5, by simp [flatV], by simp, by simp⟩ ?_ ?_
  · rintro i e1 H1 hf - hi ⟨f24, k1, v, vs, hc, hvl, f5, rv, gv, nv⟩
    have w1 : IntKind.i64.wrap ((i : Int) + 1) = (i : Int) + 1 := i64w (by omega) (by omega)
    have c1 : (i : Int) < m := by omega
    have hob1 : H1.obj o = .cells (all.map (.int .i64)) := by rw [k1.obj o ho]; exact hob
    have hia : i < all.length := by omega
    have hik : i < ks.length := by omega
    have hget : (all.map (AV.int .i64))[i]? = some (.int .i64 (ks.getD i 0)) := by
      rw [List.getElem?_map, List.getElem?_eq_getElem hia]
      rw [hks, List.getD_eq_getElem?_getD, List.getElem?_take_of_lt hi, List.getElem?_eq_getElem hia]
      rfl
    have ta : ks.take (i + 1) = ks.take i ++ [ks.getD i 0] := by rw [List.take_add_one]; simp [List.getD_eq_getElem?_getD, hik]
    have td : ks = ks.take i ++ ks.getD i 0 :: ks.drop (i + 1) := by
      have : ks.getD i 0 = ks[i] := by simp [List.getD_eq_getElem?_getD, hik]
      rw [this, ← List.drop_eq_getElem_cons hik, List.take_append_drop]
    have hval := value_run (h.keeps k1) (ks.getD i 0)
    obtain ⟨k, hk⟩ : ∃ k, k = ks.getD i 0 := ⟨_, rfl⟩
    rw [← hk] at hget ta td hval
    obtain ⟨L, hL'⟩ : ∃ L, L = all.map (AV.int .i64) := ⟨_, rfl⟩
    rw [← hL'] at hob1 hget
    rw [ta, consF_snoc, hc]
    cases hco : conF ns k with
    | none =>
      have hno := conF_no hco
      have hcn : consF ns ks = none := by rw [td]; exact consF_none ns hco _ _
      simp (maxDischargeDepth := 40) [hf, f24, e0, e22, e23, c1, hob1, hget, hval, hno, hcn, k1]
      exact k1.trans ((Keeps.new H1 _).set (Nat.le_refl _) _)
    | some u' =>
      obtain ⟨hop, hu⟩ := conF_cs hco
      simp (maxDischargeDepth := 40) [hf, f24, f5, e0, e22, e23, c1, hob1, hget, hval, hop]
      generalize hA : appU _ _ _ _ = q
      obtain ⟨nu1, nu2, nu3⟩ := nd_v (ndF ns k)
      have hcs : u'.cs = [.int .i64 (ndF ns k).vw, u (ndF ns k).vl, u (ndF ns k).vh] := by rw [hu]; unfold Vl.cs; rw [nu1, nu2, nu3]
      have kn := (((Keeps.new H1 (.cells [.int .i64 0, u 0#64, u 0#64])).set (Nat.le_refl _) (.cells [.int .i64 (ndF ns k).vw, u (ndF ns k).vl, u (ndF ns k).vh])).new' (.cells [.int .i64 (ndF ns k).vw, u (ndF ns k).vl, u (ndF ns k).vh]))
      obtain ⟨H2, rfl, F2, s2, o2, rd2⟩ := app_of hA (rv.keep kn) gv (Reads.row' (all := [.int .i64 (ndF ns k).vw, u (ndF ns k).vl, u (ndF ns k).vh]) (by simp) (by simp) (by simp)) (by omega) rfl (by omega) (by omega) (by omega) (by simp)
      simp [f24, w1]
      refine ⟨F2.keeps (k1.trans kn) nv, hvl, ?_, ?_⟩
      · rw [flatV_snoc, hcs]
        simpa using rd2
      · have := k1.size
        omega
  · rintro e1 H1 hf ⟨f24, k1, v, vs, hc, hvl, f5, rv, gv, nv⟩
    rw [List.take_of_length_le (by omega)] at hc
    simp [hf, f24, e23, f5]
    exact ⟨k1, v, vs, hc, rfl, rv⟩
theorem folded_run (h : WG H w dn g most ns F 0) {n : Nd} (har : 0 ≤ arity n.op) {r : Option (AV × AHeap)} (hr : R Zy [.ptr w 0, .agg n.cs] H = r) :
    match foldF ns n with
    | none => r = some (.int .i64 0, H)
    | some v => Wv H w dn g most F (makT most ns (constN v)) r := by
  rw [Zfw] at hr
  have h3 := arity_le n.op
  obtain ⟨m, hm⟩ : ∃ m : Nat, arity n.op = m := ⟨(arity n.op).toNat, by omega⟩
  have har' := fun H => arity_run (op := n.op) (H := H)
  rw [hm] at har'
  have hsl : ∀ (H : AHeap) o, aslice Try.prog H Z0 (.row o 0 1 3 true) none (some (.int .i64 (m : Int))) none = some (.row o 0 1 m (true && decide ((m : Int) = (3 : Nat)))) := fun H o => aslice_to (by simp) (by omega)
  have hlo := h.lo
  have hself := h.self
  simp only [Nd.parts'] at hr
  simp (maxDischargeDepth := 40) [Zdy, har', hsl] at hr
  generalize hL : loopL _ _ _ _ _ _ = q at hr
  have kn : Keeps H ((H.new (.cells n.cs)).new (.cells [.int .i64 n.a, .int .i64 n.b, .int .i64 n.c])) := ((Keeps.refl H).new' _).new' _
  obtain ⟨x, ev, H1, rfl, ⟨k1, hx⟩, fr⟩ := folded_loop (h.keeps kn) (all := [n.a, n.b, n.c]) (o := H.size + 1) (m := m) (f := decide ((m : Int) = 3)) (by omega) (by simp) (by simp [Nd.parts']) rfl rfl hL (by simp) (by simp) (by simp) (by simp) (by simp)
  have k2 := kn.trans k1
  have hfo : foldF ns n = match consF ns ([n.a, n.b, n.c].take m) with
      | none => none
      | some l => if (applyS n.op n.p n.q l).2 = 0 then some (applyS n.op n.p n.q l).1 else none := by
    unfold foldF
    rw [hm]
    rfl
  rw [hfo]
  rcases hx with ⟨rfl, f4, hc⟩ | ⟨rfl, v, vs, hc, f5, rv⟩
  · rw [hc]
    simp [f4] at hr
    rw [back_k (by simp) k2] at hr
    exact hr.symm
  · rw [hc]
    simp only
    have hlen : vs.length ≤ 1000 := by
      have h1 := consF_len hc
      have h2 : ([n.a, n.b, n.c].take m).length ≤ 3 := by simp; omega
      omega
    have hap := apply_run (op := n.op) (p := n.p) (q := n.q) rv hlen
    have hob : H1.obj H.size = .cells n.cs := by rw [k1.obj _ (by simp)]; simp
    have hl1 : H.size < H1.size := by have := k1.size; simp at this; omega
    rw [Nd.parts'] at hob
    have kk := k2.trans ((Keeps.new H1 (.cells [.int .i64 0, u 0#64, u 0#64])).set (Nat.le_refl _) (.cells [.int .i64 (applyS n.op n.p n.q vs).1.w, u (lo (applyS n.op n.p n.q vs).1.n), u (hi (applyS n.op n.p n.q vs).1.n)]))
    by_cases c : (applyS n.op n.p n.q vs).2 = 0
    · rw [if_pos c]
      rw [c] at hap
      simp (maxDischargeDepth := 40) [fr, f5, hob, hap] at hr
      generalize hA : R Zh _ _ = q at hr
      have hW := constant_run (h.keeps kk) hA fun H' r' k' hr' => make_run ((h.keeps kk).keeps k') hr'
      obtain ⟨id, H2, rfl, hW2⟩ := Wv.up h kk hW
      simp at hr
      rw [← hr]
      exact hW2
    · rw [if_neg c]
      simp (maxDischargeDepth := 40) [fr, f5, hob, hap, c] at hr
      rw [back_k (by simp) kk] at hr
      exact hr.symm
end
end Go.Proofs.Ytiobohfiaapgeaa
end
section
namespace Go.Proofs.Ytiobohfiaapgeaa
set_option maxRecDepth 100000
set_option maxHeartbeats 4000000
def exF (most : Int) (f : Nat) (ns : List Nd) (n : Nd) : Ch → List Nd × Int × Int
  | .at k => (ns, k, 0)
  | .con v => makT most ns (constN v)
  | .mk => makT most ns n
  | .again m => normF most f ns m
  | .shl x v => if (makT most ns (constN v)).2.2 = 0 then normF most f (makT most ns (constN v)).1 (nodeO 26 x (makT most ns (constN v)).2.1 0 0 0) else ((makT most ns (constN v)).1, 0, (makT most ns (constN v)).2.2)
theorem normF_ex {most : Int} {f : Nat} {ns : List Nd} {n : Nd} : normF most (f + 1) ns n = exF most f ns n (pathF ns n) := by
  unfold normF exF
  cases pathF ns n <;> rfl
def NormC (f : Nat) : Prop := ∀ {H : AHeap} {w dn g : Nat} {most : Int} {ns : List Nd} {F : List Nat} {n : Nd} {r : Option (AV × AHeap)}, WG H w dn g most ns F 0 → Gok ns → formedF ns.length n = true → (sortedF ns n).2 = 0 → (normF most f ns n).2.2 ≠ -1 →
  R Zn [.ptr w 0, .agg n.cs] H = r → Wv H w dn g most F (normF most f ns n) r
theorem ok_w {v : Vl} (h : v.ok = true) : 0 ≤ v.w ∧ v.w ≤ 128 := by
  unfold Vl.ok rightF at h
  by_cases c : v.w = 0
  · omega
  · rw [if_neg c] at h
    simp at h
    omega
section
variable {H : AHeap} {w dn g : Nat} {most : Int} {ns : List Nd} {F : List Nat} {e : Int}
theorem Wv.stay (h : WG H w dn g most ns F 0) (k : Int) : Wv H w dn g most F (ns, k, 0) (some (.int .i64 k, H)) :=
  ⟨H, F, ns, k, 0, rfl, h, Fr.refl _ _, fun _ hp => .inl hp, fun _ => ⟨rfl, rfl, rfl⟩, fun h => absurd rfl h⟩
theorem kid_sort (g : Gok ns) {k : Int} (h1 : 1 ≤ k) (h2 : k ≤ ns.length) : 0 ≤ (ndF ns k).sort ∧ (ndF ns k).sort ≤ 128 := by
  obtain ⟨look, hA⟩ := look_any g
  have K := kid_ok g hA h1 h2
  rw [← K.w]
  exact ok_w K.ok
theorem ext_bounds (g : Gok ns) {n : Nd} (hf : formedF ns.length n = true) (hs : (sortedF ns n).2 = 0) (h39 : n.op = 39) : 0 ≤ n.q ∧ n.q ≤ n.p ∧ n.p < 128 := by
  obtain ⟨look, hA⟩ := look_any g
  have F := node_fit g hA hf hs (by omega) (by omega)
  rw [h39] at F
  obtain ⟨l, hl⟩ : ∃ l, l = kidsV (valsV look ns) n := ⟨_, rfl⟩
  obtain ⟨s, hs⟩ : ∃ s, s = (sortedF ns n).1.sort := ⟨_, rfl⟩
  obtain ⟨p, hp⟩ : ∃ p, p = n.p := ⟨_, rfl⟩
  obtain ⟨q, hq⟩ : ∃ q, q = n.q := ⟨_, rfl⟩
  rw [← hl, ← hs, ← hp, ← hq] at F
  rw [← hp, ← hq]
  cases F with
  | extract N i j x g1 g2 _ g4 g5 g6 g7 => omega
  | _ => omega
theorem again_up {f : Nat} (hC : NormC f) (h : WG H w dn g most ns F 0) (gk : Gok ns) {n m : Nd} (hne : (exF most f ns n (.again m)).2.2 ≠ -1) {look : ByteArray → Option Vl} (P : PV look ns n (.again m)) {H1 : AHeap} (k : Keeps H H1) {r : Option (AV × AHeap)} (hr : R Zn [.ptr w 0, .agg m.cs] H1 = r) :
    ∃ id H2, r = some (.int .i64 id, H2) ∧ Wv H w dn g most F (exF most f ns n (.again m)) (some (back [] H (.int .i64 id) H2)) := by
  obtain ⟨-, -, m3, m4, -⟩ := P
  exact Wv.up h k (hC (h.keeps k) gk m3 (by rw [m4]) hne hr)
theorem mk_up {f : Nat} (h : WG H w dn g most ns F 0) {n : Nd} {H1 : AHeap} (k : Keeps H H1) {r : Option (AV × AHeap)} (hr : R Zg [.ptr w 0, .agg n.cs] H1 = r) :
    ∃ id H2, r = some (.int .i64 id, H2) ∧ Wv H w dn g most F (exF most f ns n .mk) (some (back [] H (.int .i64 id) H2)) :=
  Wv.up h k (make_run (h.keeps k) hr)
theorem con_up {f : Nat} (h : WG H w dn g most ns F 0) {n : Nd} {v : Vl} {H1 : AHeap} (k : Keeps H H1) {r : Option (AV × AHeap)} (hr : R Zh [.ptr w 0, .agg [.int .i64 v.w, u (lo v.n), u (hi v.n)]] H1 = r) :
    ∃ id H2, r = some (.int .i64 id, H2) ∧ Wv H w dn g most F (exF most f ns n (.con v)) (some (back [] H (.int .i64 id) H2)) :=
  Wv.up h k (constant_run (h.keeps k) hr fun _ _ k' hr' => make_run ((h.keeps k).keeps k') hr')
theorem at_up {f : Nat} (h : WG H w dn g most ns F 0) {n : Nd} {k : Int} {H1 : AHeap} (kk : Keeps H H1) : Wv H w dn g most F (exF most f ns n (.at k)) (some (back [] H (.int .i64 k) H1)) := by
  rw [back_k (by simp) kk]
  exact Wv.stay h k
theorem slice_run {f : Nat} (hC : NormC f) (h : WG H w dn g most ns F 0) (gk : Gok ns) {n : Nd} (hf : formedF ns.length n = true) (hs : (sortedF ns n).2 = 0) (h39 : n.op = 39) (hne : (exF most f ns n (sliceF ns n (ndF ns n.a))).2.2 ≠ -1) {r : Option (AV × AHeap)}
    (hr : R Zbb [.ptr w 0, .agg n.cs, .agg (ndF ns n.a).cs] H = r) : Wv H w dn g most F (exF most f ns n (sliceF ns n (ndF ns n.a))) r := by
  rw [Zf0] at hr
  have har : arity n.op = 1 := by rw [h39]; decide
  obtain ⟨f1, f2, f3, f4⟩ := formed1 hf har
  have B := ext_bounds gk hf hs h39
  obtain ⟨look, hA⟩ := look_any gk
  have PVs := slice_val gk hA hf hs h39
  have K := kid_ok gk hA f1 f2
  have hnode := fun H' (k : Keeps H H') id => (h.keeps k).node id
  have k0 : Keeps H ((H.new (.cells n.cs)).new (.cells (ndF ns n.a).cs)) := ((Keeps.refl H).new' _).new' _
  have kf := K.form
  have hself := h.self
  have hlo := h.lo
  have kB : (ndF ns n.a).op = 39 → 0 ≤ (ndF ns n.a).q ∧ (ndF ns n.a).q ≤ (ndF ns n.a).p ∧ (ndF ns n.a).p < 128 := fun ho => by
    obtain ⟨i, hi, hni⟩ := nd_at f1 f2
    have := gk.srt _ (List.mem_of_getElem? hni)
    exact ext_bounds gk kf (by rw [this]) ho
  have kC : (ndF ns n.a).op = 38 → 0 ≤ (ndF ns (ndF ns n.a).b).sort ∧ (ndF ns (ndF ns n.a).b).sort ≤ 128 := fun ho => by
    obtain ⟨-, -, g3, g4, -⟩ := formed2 kf (by rw [ho]; decide)
    exact kid_sort gk g3 g4
  obtain ⟨k, hk⟩ : ∃ k, k = ndF ns n.a := ⟨_, rfl⟩
  rw [← hk] at hr hne PVs kf kB kC k0 ⊢
  have hn0 := fun id => hnode _ k0 id
  have again : ∀ m : Nd, sliceF ns n k = .again m → ∀ (H1 : AHeap) (_ : Keeps H H1) (r : Option (AV × AHeap)), R Zn [.ptr w 0, .agg m.cs] H1 = r → ∃ id H2, r = some (.int .i64 id, H2) ∧ Wv H w dn g most F (exF most f ns n (.again m)) (some (back [] H (.int .i64 id) H2)) := fun m hm H1 k r hr => by
    rw [hm] at PVs hne
    exact again_up hC h gk hne PVs k hr
  have mk := fun (H1 : AHeap) (k : Keeps H H1) (r : Option (AV × AHeap)) (hr : R Zg [.ptr w 0, .agg n.cs] H1 = r) => mk_up (f := f) h k hr
  unfold sliceF at again ⊢
  clear hne PVs hk K hC
  simp only [Nd.parts'] at hr mk hn0
  by_cases c1 : k.op = 39
  · rw [if_pos c1] at again ⊢
    have kb := kB c1
    have w1 : IntKind.i64.wrap (n.p + k.q) = n.p + k.q := i64w (by omega) (by omega)
    have w2 : IntKind.i64.wrap (n.q + k.q) = n.q + k.q := i64w (by omega) (by omega)
    have ag := again _ rfl
    simp only [Nd.parts', nodeO] at ag
    simp (maxDischargeDepth := 40) [Zbc, c1, w1, w2] at hr
    generalize hA : R Zn _ _ = q at hr
    obtain ⟨id, H2, rfl, hW⟩ := ag _ (by ((repeat (first | exact Keeps.refl _ | assumption | refine Keeps.new' ?_ _ | refine Keeps.set ?_ ?_ _)) <;> (first | assumption | (simp; done) | (simp; omega)))) _ hA
    simp at hr
    rw [← hr]
    exact hW
  rw [if_neg c1] at again ⊢
  by_cases c2 : k.op = 38
  · rw [if_pos c2] at again ⊢
    have kb := kC c2
    have hnb := hn0 k.b
    rw [c2] at hnb
    obtain ⟨l, hl⟩ : ∃ l, l = ndF ns k.b := ⟨_, rfl⟩
    rw [← hl] at again hnb kb ⊢
    have w1 : IntKind.i64.wrap (n.p - l.sort) = n.p - l.sort := i64w (by omega) (by omega)
    have w2 : IntKind.i64.wrap (n.q - l.sort) = n.q - l.sort := i64w (by omega) (by omega)
    by_cases c3 : l.sort ≤ n.q
    · rw [if_pos c3] at again ⊢
      have ag := again _ rfl
      simp only [Nd.parts', nodeO] at ag
      simp (maxDischargeDepth := 40) [Zbc, hself, hlo, c2, hnb, w1, w2, c3] at hr
      generalize hA : R Zn _ _ = q at hr
      obtain ⟨id, H2, rfl, hW⟩ := ag _ (by ((repeat (first | exact Keeps.refl _ | assumption | refine Keeps.new' ?_ _ | refine Keeps.set ?_ ?_ _)) <;> (first | assumption | (simp; done) | (simp; omega)))) _ hA
      simp at hr
      rw [← hr]
      exact hW
    rw [if_neg c3] at again ⊢
    by_cases c4 : n.p < l.sort
    · rw [if_pos c4] at again ⊢
      have ag := again _ rfl
      simp only [Nd.parts', nodeO] at ag
      simp (maxDischargeDepth := 40) [Zbc, hself, hlo, c2, hnb, c3, c4] at hr
      generalize hA : R Zn _ _ = q at hr
      obtain ⟨id, H2, rfl, hW⟩ := ag _ (by ((repeat (first | exact Keeps.refl _ | assumption | refine Keeps.new' ?_ _ | refine Keeps.set ?_ ?_ _)) <;> (first | assumption | (simp; done) | (simp; omega)))) _ hA
      simp at hr
      rw [← hr]
      exact hW
    · rw [if_neg c4] at again ⊢
      simp (maxDischargeDepth := 40) [Zbc, hself, hlo, c2, hnb, c3, c4] at hr
      generalize hA : R Zg _ _ = q at hr
      obtain ⟨id, H2, rfl, hW⟩ := mk _ (by ((repeat (first | exact Keeps.refl _ | assumption | refine Keeps.new' ?_ _ | refine Keeps.set ?_ ?_ _)) <;> (first | assumption | (simp; done) | (simp; omega)))) _ hA
      simp at hr
      rw [← hr]
      exact hW
  rw [if_neg c2] at again ⊢
  by_cases c5 : k.op = 40 ∨ k.op = 41
  · rw [if_pos c5] at again ⊢
    have hnb := hn0 k.a
    obtain ⟨l, hl⟩ : ∃ l, l = ndF ns k.a := ⟨_, rfl⟩
    rw [← hl] at again hnb ⊢
    by_cases c4 : n.p < l.sort
    · rw [if_pos c4] at again ⊢
      have ag := again _ rfl
      simp only [Nd.parts', nodeO] at ag
      rcases c5 with c5 | c5 <;>
      · rw [c5] at hnb
        simp (maxDischargeDepth := 40) [Zbc, hself, hlo, hnb, c5, c4] at hr
        generalize hA : R Zn _ _ = q at hr
        obtain ⟨id, H2, rfl, hW⟩ := ag _ (by ((repeat (first | exact Keeps.refl _ | assumption | refine Keeps.new' ?_ _ | refine Keeps.set ?_ ?_ _)) <;> (first | assumption | (simp; done) | (simp; omega)))) _ hA
        simp at hr
        rw [← hr]
        exact hW
    · rw [if_neg c4] at again ⊢
      rcases c5 with c5 | c5 <;>
      · rw [c5] at hnb
        simp (maxDischargeDepth := 40) [Zbc, hself, hlo, hnb, c5, c4] at hr
        generalize hA : R Zg _ _ = q at hr
        obtain ⟨id, H2, rfl, hW⟩ := mk _ (by ((repeat (first | exact Keeps.refl _ | assumption | refine Keeps.new' ?_ _ | refine Keeps.set ?_ ?_ _)) <;> (first | assumption | (simp; done) | (simp; omega)))) _ hA
        simp at hr
        rw [← hr]
        exact hW
  · rw [if_neg c5] at again ⊢
    have c6 : ¬ k.op = 40 := fun h => c5 (.inl h)
    have c7 : ¬ k.op = 41 := fun h => c5 (.inr h)
    simp (maxDischargeDepth := 40) [Zbc, c1, c2, c6, c7] at hr
    generalize hA : R Zg _ _ = q at hr
    obtain ⟨id, H2, rfl, hW⟩ := mk _ (by ((repeat (first | exact Keeps.refl _ | assumption | refine Keeps.new' ?_ _ | refine Keeps.set ?_ ?_ _)) <;> (first | assumption | (simp; done) | (simp; omega)))) _ hA
    simp at hr
    rw [← hr]
    exact hW
end
end Go.Proofs.Ytiobohfiaapgeaa
end
section
namespace Go.Proofs.Ytiobohfiaapgeaa
set_option maxRecDepth 100000
set_option maxHeartbeats 4000000
def tagsF (op : Int) : Int :=
  if op = 3 then 128 else
  if op = 4 then 1 else
  if op = 5 then 1 else
  if op = 6 then 2 else
  if op = 7 then 4 else
  if op = 8 then 4 else
  if op = 10 then 128 else
  if op = 11 then 128 else
  if op = 12 then 9 else
  if op = 13 then 17 else
  if op = 14 then 18 else
  if op = 18 then 16 else
  if op = 19 then 34 else
  if op = 20 then 264 else
  if op = 21 then 256 else
  if op = 26 then 96 else
  if op = 27 then 96 else
  if op = 28 then 96 else
  if op = 29 then 2 else
  if op = 30 then 4 else
  if op = 31 then 2 else
  if op = 32 then 4 else
  if op = 33 then 2 else
  if op = 34 then 4 else
  if op = 35 then 2 else
  if op = 36 then 4 else
  0
theorem tags_run {op : Int} {H : AHeap} : R Zeq [.int .i64 op] H = some (.int .i64 (tagsF op), H) := by
  rw [Zi5]
  by_cases c3 : op = 3
  · subst c3; simp (maxDischargeDepth := 40) [Zx, tagsF]
  by_cases c4 : op = 4
  · subst c4; simp (maxDischargeDepth := 40) [Zx, tagsF]
  by_cases c5 : op = 5
  · subst c5; simp (maxDischargeDepth := 40) [Zx, tagsF]
  by_cases c6 : op = 6
  · subst c6; simp (maxDischargeDepth := 40) [Zx, tagsF]
  by_cases c7 : op = 7
  · subst c7; simp (maxDischargeDepth := 40) [Zx, tagsF]
  by_cases c8 : op = 8
  · subst c8; simp (maxDischargeDepth := 40) [Zx, tagsF]
  by_cases c10 : op = 10
  · subst c10; simp (maxDischargeDepth := 40) [Zx, tagsF]
  by_cases c11 : op = 11
  · subst c11; simp (maxDischargeDepth := 40) [Zx, tagsF]
  by_cases c12 : op = 12
  · subst c12; simp (maxDischargeDepth := 40) [Zx, tagsF]
  by_cases c13 : op = 13
  · subst c13; simp (maxDischargeDepth := 40) [Zx, tagsF]
  by_cases c14 : op = 14
  · subst c14; simp (maxDischargeDepth := 40) [Zx, tagsF]
  by_cases c18 : op = 18
  · subst c18; simp (maxDischargeDepth := 40) [Zx, tagsF]
  by_cases c19 : op = 19
  · subst c19; simp (maxDischargeDepth := 40) [Zx, tagsF]
  by_cases c20 : op = 20
  · subst c20; simp (maxDischargeDepth := 40) [Zx, tagsF]
  by_cases c21 : op = 21
  · subst c21; simp (maxDischargeDepth := 40) [Zx, tagsF]
  by_cases c26 : op = 26
  · subst c26; simp (maxDischargeDepth := 40) [Zx, tagsF]
  by_cases c27 : op = 27
  · subst c27; simp (maxDischargeDepth := 40) [Zx, tagsF]
  by_cases c28 : op = 28
  · subst c28; simp (maxDischargeDepth := 40) [Zx, tagsF]
  by_cases c29 : op = 29
  · subst c29; simp (maxDischargeDepth := 40) [Zx, tagsF]
  by_cases c30 : op = 30
  · subst c30; simp (maxDischargeDepth := 40) [Zx, tagsF]
  by_cases c31 : op = 31
  · subst c31; simp (maxDischargeDepth := 40) [Zx, tagsF]
  by_cases c32 : op = 32
  · subst c32; simp (maxDischargeDepth := 40) [Zx, tagsF]
  by_cases c33 : op = 33
  · subst c33; simp (maxDischargeDepth := 40) [Zx, tagsF]
  by_cases c34 : op = 34
  · subst c34; simp (maxDischargeDepth := 40) [Zx, tagsF]
  by_cases c35 : op = 35
  · subst c35; simp (maxDischargeDepth := 40) [Zx, tagsF]
  by_cases c36 : op = 36
  · subst c36; simp (maxDischargeDepth := 40) [Zx, tagsF]
  simp (maxDischargeDepth := 40) [Zx, tagsF, c3, c4, c5, c6, c7, c8, c10, c11, c12, c13, c14, c18, c19, c20, c21, c26, c27, c28, c29, c30, c31, c32, c33, c34, c35, c36]
def tbit (op k : Int) : Int := IntKind.i64.wrap (BitVec.ofInt IntKind.i64.bits (tagsF op) &&& BitVec.ofInt IntKind.i64.bits k).toNat
@[simp high] theorem tag_and {P : Program} {K : TypeId → Option (List Sc)} {t : TypeId} {op k : Int} : abin P K .and t (.int .i64 (tagsF op)) (.int .i64 k) = some (.int .i64 (tbit op k)) := by
  unfold tbit
  rw [bin_and]
theorem tbit_fin {k : Int} {p : Int → Prop} [DecidablePred p] (h : ∀ i : Fin 45, (tbit (i : Nat) k = 0 ↔ ¬ p ((i : Nat) : Int))) {op : Int} (h1 : 0 ≤ op) (h2 : op ≤ 44) : tbit op k = 0 ↔ ¬ p op := by
  have := h ⟨op.toNat, by omega⟩
  simp only [Int.toNat_of_nonneg h1] at this
  exact this
theorem tb128 {op : Int} (h1 : 0 ≤ op) (h2 : op ≤ 44) : tbit op 128 = 0 ↔ ¬ (op = 3 ∨ op = 10 ∨ op = 11) := tbit_fin (p := fun op => op = 3 ∨ op = 10 ∨ op = 11) (by decide) h1 h2
theorem arity_bound {op : Int} (h : 0 ≤ arity op) : 1 ≤ op ∧ op ≤ 44 := by
  unfold arity at h
  split at h
  · omega
  · omega
section
variable {H : AHeap} {w dn g : Nat} {most : Int} {ns : List Nd} {F : List Nat} {e : Int}
theorem makT_pos {most : Int} {ns : List Nd} {n : Nd} (h : (makT most ns n).2.2 = 0) : 0 < (makT most ns n).2.1 := by
  unfold makT at h ⊢
  split at h
  · cases h
  · split at h
    · rename_i h2; exact absurd h h2
    · rename_i h1 h2
      rw [if_neg h1, if_neg h2]
      split at h
      · simp only; omega
      · split at h
        · cases h
        · rename_i h3; rw [if_neg h3]; simp only; omega
theorem fold_up {f : Nat} (h : WG H w dn g most ns F 0) {n : Nd} (har : 0 ≤ arity n.op) {v : Vl} (hv : foldF ns n = some v) {H1 : AHeap} (k : Keeps H H1) {r : Option (AV × AHeap)} (hr : R Zy [.ptr w 0, .agg n.cs] H1 = r) :
    ∃ id H2 e, r = some (.int .i64 id, H2) ∧ H2.obj w = .cells [.ptr g 0, .map dn, .int .i64 e] ∧ w < H2.size ∧ (¬ 0 < id → ¬ e = 0) ∧ Wv H w dn g most F (exF most f ns n (.con v)) (some (back [] H (.int .i64 id) H2)) := by
  have hW := folded_run (h.keeps k) har hr
  rw [hv] at hW
  simp only at hW
  obtain ⟨id', H2', e1, hW2⟩ := Wv.up h k hW
  obtain ⟨H2, F2, ns2, id, e2, rfl, g2, k2, n2, ok, bad⟩ := hW
  cases e1
  refine ⟨_, _, e2, rfl, g2.self, g2.lo, fun hid he => ?_, hW2⟩
  by_cases c : (makT most ns (constN v)).2.2 = 0
  · obtain ⟨-, rfl, -⟩ := ok c
    exact hid (makT_pos c)
  · have := bad c
    omega
theorem fold_no (h : WG H w dn g most ns F 0) {n : Nd} (har : 0 ≤ arity n.op) (hv : foldF ns n = none) {H1 : AHeap} (k : Keeps H H1) : R Zy [.ptr w 0, .agg n.cs] H1 = some (.int .i64 0, H1) := by
  have hW := folded_run (h.keeps k) har rfl
  rw [hv] at hW
  exact hW
theorem rot_sort (g : Gok ns) {n : Nd} (hf : formedF ns.length n = true) (hs : (sortedF ns n).2 = 0) (har : arity n.op = 1) (ho : n.op = 42 ∨ n.op = 43) : ¬ (ndF ns n.a).sort = 0 := by
  obtain ⟨look, hA⟩ := look_any g
  obtain ⟨f1, f2, f3, f4⟩ := formed1 hf har
  have K := kid_ok g hA f1 f2
  have F := node_fit g hA hf hs (by omega) (by omega)
  rw [kidsV_1 har] at F
  have kw := K.w
  obtain ⟨v, hv⟩ : ∃ v, v = V look ns n.a := ⟨_, rfl⟩
  obtain ⟨l, hl⟩ : ∃ l, l = [V look ns n.a] := ⟨_, rfl⟩
  obtain ⟨s, hs⟩ : ∃ s, s = (sortedF ns n).1.sort := ⟨_, rfl⟩
  rw [← hl, ← hs] at F
  rw [← hv] at kw hl
  cases F with
  | rot N k x r1 r2 r3 r4 r5 r6 =>
    have : Vl.of x = v := by injection hl
    rw [← this] at kw
    rw [← kw]
    show ¬ (N : Int) = 0
    omega
  | _ => omega
theorem wone_run {f : Nat} (hC : NormC f) (h : WG H w dn g most ns F 0) (gk : Gok ns) {n : Nd} (hf : formedF ns.length n = true) (hs : (sortedF ns n).2 = 0) (_h1 : ¬ n.op = 1) (_h2 : ¬ n.op = 2) (har : arity n.op = 1) (hne : (exF most f ns n (unC ns n)).2.2 ≠ -1) {r : Option (AV × AHeap)}
    (hr : R Zbi [.ptr w 0, .agg n.cs] H = r) : Wv H w dn g most F (exF most f ns n (unC ns n)) r := by
  rw [Zf9] at hr
  have hself := h.self
  have hlo := h.lo
  have k1 : Keeps H (H.new (.cells n.cs)) := (Keeps.refl H).new' _
  cases hfo : foldF ns n with
  | some v =>
    rw [show unC ns n = .con v by unfold unC; rw [hfo]]
    have hX := fun (r' : Option (AV × AHeap)) => fold_up (f := f) h (by omega) hfo k1 (r := r')
    simp only [Nd.parts'] at hr hX
    simp (maxDischargeDepth := 40) [Zr] at hr
    generalize hA : R Zy _ _ = q at hr
    obtain ⟨id, H2, e, rfl, o2, l2, hid, hW⟩ := hX _ hA
    by_cases c : 0 < id
    · simp (maxDischargeDepth := 40) [c] at hr
      rw [← hr]; exact hW
    · have := hid c
      simp (maxDischargeDepth := 40) [c, o2, this] at hr
      rw [← hr]; exact hW
  | none =>
    have hX := fold_no h (by omega) hfo k1
    have hnode := (h.keeps k1).node n.a
    obtain ⟨f1, f2, f3, f4⟩ := formed1 hf har
    have hks := kid_sort gk f1 f2
    have ob := arity_bound (op := n.op) (by omega)
    have t8 := tb128 (op := n.op) (by omega) (by omega)
    have w1 : IntKind.i64.wrap ((ndF ns n.a).sort - 1) = (ndF ns n.a).sort - 1 := i64w (by omega) (by omega)
    have mk := fun (H1 : AHeap) (k : Keeps H H1) (r : Option (AV × AHeap)) (hr : R Zg [.ptr w 0, .agg n.cs] H1 = r) => mk_up (f := f) h k hr
    have hsl := fun (h39 : n.op = 39) (hne : (exF most f ns n (sliceF ns n (ndF ns n.a))).2.2 ≠ -1) (H1 : AHeap) (k : Keeps H H1) (r : Option (AV × AHeap)) (hr : R Zbb [.ptr w 0, .agg n.cs, .agg (ndF ns n.a).cs] H1 = r) => Wv.up h k (slice_run hC (h.keeps k) gk hf hs h39 hne hr)
    have at' := fun (j : Int) (H1 : AHeap) (k : Keeps H H1) => at_up (f := f) (n := n) (k := j) h k
    have hrot := rot_sort gk hf hs har
    unfold unC at hne ⊢
    rw [hfo] at hne ⊢
    simp only at hne ⊢
    obtain ⟨k, hk⟩ : ∃ k, k = ndF ns n.a := ⟨_, rfl⟩
    rw [← hk] at hne hks w1 hnode hsl hrot ⊢
    simp only [Nd.parts'] at hr mk hX hnode hsl
    by_cases c1 : (n.op = 3 ∨ n.op = 10 ∨ n.op = 11) ∧ k.op = n.op
    · rw [if_pos c1] at hne ⊢
      have c2 : ¬ tbit n.op 128 = 0 := fun hh => t8.1 hh c1.1
      simp (maxDischargeDepth := 40) [Zr, hself, hlo, hX, hnode, tags_run, c2, c1.2] at hr
      rw [← hr]
      exact Wv.stay h _
    rw [if_neg c1] at hne ⊢
    by_cases o3 : n.op = 3 ∨ n.op = 10 ∨ n.op = 11
    · have c2 : ¬ tbit n.op 128 = 0 := fun hh => t8.1 hh o3
      have kk : ¬ k.op = n.op := fun hh => c1 ⟨o3, hh⟩
      have n39 : ¬ n.op = 39 := by omega
      have n40 : ¬ n.op = 40 := by omega
      have n41 : ¬ n.op = 41 := by omega
      have n42 : ¬ n.op = 42 := by omega
      have n43 : ¬ n.op = 43 := by omega
      have n44 : ¬ n.op = 44 := by omega
      simp only [n39, n40, n41, n42, n43, n44, false_and, or_self, if_false]
      simp (maxDischargeDepth := 40) [Zr, hself, hlo, hX, hnode, tags_run, c2, kk, n39, n40, n41, n42, n43, n44] at hr
      generalize hA : R Zg _ _ = q at hr
      obtain ⟨id, H2, rfl, hW⟩ := mk _ (by ((repeat (first | exact Keeps.refl _ | assumption | refine Keeps.new' ?_ _ | refine Keeps.set ?_ ?_ _)) <;> (first | assumption | (simp; done) | (simp; omega)))) _ hA
      simp at hr
      rw [← hr]
      exact hW
    have c2 : tbit n.op 128 = 0 := t8.2 o3
    by_cases o39 : n.op = 39
    · have e39 := eq_true o39
      have n40 : ¬ n.op = 40 := by omega
      have n41 : ¬ n.op = 41 := by omega
      have n42 : ¬ n.op = 42 := by omega
      have n43 : ¬ n.op = 43 := by omega
      have n44 : ¬ n.op = 44 := by omega
      by_cases q0 : n.q = 0
      · have eq0 := eq_true q0
        by_cases p1 : n.p = k.sort - 1
        · have ep1 := eq_true p1
          simp only [e39, eq0, ep1, true_and, if_true]
          simp (maxDischargeDepth := 40) [Zr, hself, hlo, hX, hnode, tags_run, c2, w1, e39, eq0, ep1] at hr
          rw [← hr]
          exact Wv.stay h _
        · simp only [e39, eq0, p1, n40, n41, n42, n43, n44, false_and, or_self, if_true, if_false, and_false] at hne ⊢
          simp (maxDischargeDepth := 40) [Zr, hself, hlo, hX, hnode, tags_run, c2, w1, e39, eq0, p1, n40, n41, n42, n43, n44] at hr
          generalize hA : R Zbb _ _ = q at hr
          obtain ⟨id, H2, rfl, hW⟩ := hsl o39 hne _ (by ((repeat (first | exact Keeps.refl _ | assumption | refine Keeps.new' ?_ _ | refine Keeps.set ?_ ?_ _)) <;> (first | assumption | (simp; done) | (simp; omega)))) _ hA
          simp at hr
          rw [← hr]
          exact hW
      · simp only [e39, q0, n40, n41, n42, n43, n44, false_and, or_self, if_true, if_false, and_false] at hne ⊢
        simp (maxDischargeDepth := 40) [Zr, hself, hlo, hX, hnode, tags_run, c2, e39, q0, n40, n41, n42, n43, n44] at hr
        generalize hA : R Zbb _ _ = q at hr
        obtain ⟨id, H2, rfl, hW⟩ := hsl o39 hne _ (by ((repeat (first | exact Keeps.refl _ | assumption | refine Keeps.new' ?_ _ | refine Keeps.set ?_ ?_ _)) <;> (first | assumption | (simp; done) | (simp; omega)))) _ hA
        simp at hr
        rw [← hr]
        exact hW
    by_cases o40 : n.op = 40 ∨ n.op = 41
    · have n42 : ¬ n.op = 42 := by omega
      have n43 : ¬ n.op = 43 := by omega
      have n44 : ¬ n.op = 44 := by omega
      have e40 := eq_true o40
      by_cases p0 : n.p = 0
      · have ep0 := eq_true p0
        simp only [e40, ep0, o39, true_and, false_and, if_true, if_false]
        rcases o40 with o40 | o40
        · have e40 := eq_true o40
          simp (maxDischargeDepth := 40) [Zr, hself, hlo, hX, hnode, tags_run, c2, e40, ep0, o39] at hr
          rw [← hr]
          exact Wv.stay h _
        · have e41 := eq_true o40
          have n40 : ¬ n.op = 40 := by omega
          simp (maxDischargeDepth := 40) [Zr, hself, hlo, hX, hnode, tags_run, c2, n40, e41, ep0, o39] at hr
          rw [← hr]
          exact Wv.stay h _
      · simp only [e40, p0, o39, n42, n43, n44, or_self, and_false, false_and, if_false]
        rcases o40 with o40 | o40
        · have e40 := eq_true o40
          simp (maxDischargeDepth := 40) [Zr, hself, hlo, hX, hnode, tags_run, c2, e40, p0, o39, n42, n43, n44] at hr
          generalize hA : R Zg _ _ = q at hr
          obtain ⟨id, H2, rfl, hW⟩ := mk _ (by ((repeat (first | exact Keeps.refl _ | assumption | refine Keeps.new' ?_ _ | refine Keeps.set ?_ ?_ _)) <;> (first | assumption | (simp; done) | (simp; omega)))) _ hA
          simp at hr
          rw [← hr]
          exact hW
        · have e41 := eq_true o40
          have n40 : ¬ n.op = 40 := by omega
          simp (maxDischargeDepth := 40) [Zr, hself, hlo, hX, hnode, tags_run, c2, n40, e41, p0, o39, n42, n43, n44] at hr
          generalize hA : R Zg _ _ = q at hr
          obtain ⟨id, H2, rfl, hW⟩ := mk _ (by ((repeat (first | exact Keeps.refl _ | assumption | refine Keeps.new' ?_ _ | refine Keeps.set ?_ ?_ _)) <;> (first | assumption | (simp; done) | (simp; omega)))) _ hA
          simp at hr
          rw [← hr]
          exact hW
    have n40 : ¬ n.op = 40 := fun hh => o40 (.inl hh)
    have n41 : ¬ n.op = 41 := fun hh => o40 (.inr hh)
    by_cases o42 : n.op = 42 ∨ n.op = 43
    · have n44 : ¬ n.op = 44 := by omega
      have e42 := eq_true o42
      have ks := hrot o42
      by_cases p0 : n.p.tmod k.sort = 0
      · have ep0 := eq_true p0
        simp only [e42, ep0, o39, n40, n41, or_self, true_and, false_and, if_true, if_false]
        rcases o42 with o42 | o42
        · have e42 := eq_true o42
          simp (maxDischargeDepth := 40) [Zr, hself, hlo, hX, hnode, tags_run, c2, e42, ep0, o39, n40, n41, ks] at hr
          rw [← hr]
          exact Wv.stay h _
        · have e43 := eq_true o42
          have n42 : ¬ n.op = 42 := by omega
          simp (maxDischargeDepth := 40) [Zr, hself, hlo, hX, hnode, tags_run, c2, n42, e43, ep0, o39, n40, n41, ks] at hr
          rw [← hr]
          exact Wv.stay h _
      · simp only [e42, p0, o39, n40, n41, n44, or_self, and_false, false_and, if_false]
        rcases o42 with o42 | o42
        · have e42 := eq_true o42
          simp (maxDischargeDepth := 40) [Zr, hself, hlo, hX, hnode, tags_run, c2, e42, p0, o39, n40, n41, n44, ks] at hr
          generalize hA : R Zg _ _ = q at hr
          obtain ⟨id, H2, rfl, hW⟩ := mk _ (by ((repeat (first | exact Keeps.refl _ | assumption | refine Keeps.new' ?_ _ | refine Keeps.set ?_ ?_ _)) <;> (first | assumption | (simp; done) | (simp; omega)))) _ hA
          simp at hr
          rw [← hr]
          exact hW
        · have e43 := eq_true o42
          have n42 : ¬ n.op = 42 := by omega
          simp (maxDischargeDepth := 40) [Zr, hself, hlo, hX, hnode, tags_run, c2, n42, e43, p0, o39, n40, n41, n44, ks] at hr
          generalize hA : R Zg _ _ = q at hr
          obtain ⟨id, H2, rfl, hW⟩ := mk _ (by ((repeat (first | exact Keeps.refl _ | assumption | refine Keeps.new' ?_ _ | refine Keeps.set ?_ ?_ _)) <;> (first | assumption | (simp; done) | (simp; omega)))) _ hA
          simp at hr
          rw [← hr]
          exact hW
    have n42 : ¬ n.op = 42 := fun hh => o42 (.inl hh)
    have n43 : ¬ n.op = 43 := fun hh => o42 (.inr hh)
    by_cases o44 : n.op = 44
    · have e44 := eq_true o44
      by_cases p1 : n.p = 1
      · have ep1 := eq_true p1
        simp only [e44, ep1, o39, n40, n41, n42, n43, or_self, true_and, false_and, if_true, if_false]
        simp (maxDischargeDepth := 40) [Zr, hself, hlo, hX, hnode, tags_run, c2, e44, ep1, o39, n40, n41, n42, n43] at hr
        rw [← hr]
        exact Wv.stay h _
      · simp only [e44, p1, o39, n40, n41, n42, n43, or_self, and_false, false_and, if_false]
        simp (maxDischargeDepth := 40) [Zr, hself, hlo, hX, hnode, tags_run, c2, e44, p1, o39, n40, n41, n42, n43] at hr
        generalize hA : R Zg _ _ = q at hr
        obtain ⟨id, H2, rfl, hW⟩ := mk _ (by ((repeat (first | exact Keeps.refl _ | assumption | refine Keeps.new' ?_ _ | refine Keeps.set ?_ ?_ _)) <;> (first | assumption | (simp; done) | (simp; omega)))) _ hA
        simp at hr
        rw [← hr]
        exact hW
    · simp only [o44, o39, n40, n41, n42, n43, or_self, false_and, if_false]
      simp (maxDischargeDepth := 40) [Zr, hself, hlo, hX, hnode, tags_run, c2, o44, o39, n40, n41, n42, n43] at hr
      generalize hA : R Zg _ _ = q at hr
      obtain ⟨id, H2, rfl, hW⟩ := mk _ (by ((repeat (first | exact Keeps.refl _ | assumption | refine Keeps.new' ?_ _ | refine Keeps.set ?_ ?_ _)) <;> (first | assumption | (simp; done) | (simp; omega)))) _ hA
      simp at hr
      rw [← hr]
      exact hW
theorem choice_run {f : Nat} (h : WG H w dn g most ns F 0) {n : Nd} {r : Option (AV × AHeap)}
    (hr : R Zbk [.ptr w 0, .agg n.cs] H = r) : Wv H w dn g most F (exF most f ns n (iteC ns n)) r := by
  rw [Zfv] at hr
  have hself := h.self
  have hlo := h.lo
  have k1 : Keeps H (H.new (.cells n.cs)) := (Keeps.refl H).new' _
  have hval := value_run (h.keeps k1) n.a
  have mk := fun (H1 : AHeap) (k : Keeps H H1) (r : Option (AV × AHeap)) (hr : R Zg [.ptr w 0, .agg n.cs] H1 = r) => mk_up (f := f) h k hr
  unfold iteC conF
  obtain ⟨k, hk⟩ : ∃ k, k = ndF ns n.a := ⟨_, rfl⟩
  rw [← hk] at hval ⊢
  obtain ⟨nu1, nu2, nu3⟩ := nd_v k
  simp only [Nd.parts'] at hr mk hval
  by_cases c1 : n.b = n.c
  · have e1 := eq_true c1
    rw [if_pos c1]
    simp (maxDischargeDepth := 40) [Zbs, hval, e1] at hr
    rw [← hr]
    exact Wv.stay h _
  rw [if_neg c1]
  by_cases c2 : k.op = 1
  · have e2 := eq_true c2
    rw [if_pos c2]
    simp only [nu1]
    by_cases c3 : k.vl = 1#64
    · have e3 := eq_true c3
      rw [if_pos c3]
      simp (maxDischargeDepth := 40) [Zbs, hval, c1, e2, e3] at hr
      rw [← hr]
      exact Wv.stay h _
    · rw [if_neg c3]
      simp (maxDischargeDepth := 40) [Zbs, hval, c1, e2, c3] at hr
      rw [← hr]
      exact Wv.stay h _
  · rw [if_neg c2]
    simp only
    simp (maxDischargeDepth := 40) [Zbs, hval, c1, c2] at hr
    generalize hA : R Zg _ _ = q at hr
    obtain ⟨id, H2, rfl, hW⟩ := mk _ (by ((repeat (first | exact Keeps.refl _ | assumption | refine Keeps.new' ?_ _ | refine Keeps.set ?_ ?_ _)) <;> (first | assumption | (simp; done) | (simp; omega)))) _ hA
    simp at hr
    rw [← hr]
    exact hW
end
end Go.Proofs.Ytiobohfiaapgeaa
end
section
namespace Go.Proofs.Ytiobohfiaapgeaa
set_option maxRecDepth 100000
set_option maxHeartbeats 4000000
section
variable {H : AHeap} {w dn g : Nat} {most : Int} {ns : List Nd} {F : List Nat} {e : Int}
theorem zero_run (h : WG H w dn g most ns F e) {n : Nd} : R Zby [.ptr w 0, .agg n.cs] H = some (.agg [.int .i64 (if n.op = 14 ∨ n.op = 19 then (ndF ns n.a).sort else 0), u 0#64, u 0#64], H) := by
  rw [Zf8]
  have hself := h.self
  have hlo := h.lo
  have kn := ((Keeps.refl H).new' (.cells n.cs)).new' (.cells [.int .i64 0, u 0#64, u 0#64])
  have hnode := (h.keeps kn).node n.a
  obtain ⟨k, hk⟩ : ∃ k, k = ndF ns n.a := ⟨_, rfl⟩
  rw [← hk] at hnode ⊢
  simp only [Nd.parts'] at hnode ⊢
  by_cases c1 : n.op = 14
  · have e1 := eq_true c1
    simp (maxDischargeDepth := 40) [Zci, hself, hlo, hnode, e1]
  by_cases c2 : n.op = 19
  · have e2 := eq_true c2
    simp (maxDischargeDepth := 40) [Zci, hself, hlo, hnode, c1, e2]
  · simp (maxDischargeDepth := 40) [Zci, c1, c2]
theorem is_run (h : WG H w dn g most ns F e) {id : Int} {c : BitVec 64} : R Z6 [.ptr w 0, .int .i64 id, u c] H = some (.bool (isF ns id c), H) := by
  rw [Zgh]
  have hval := value_run h id
  unfold isF conF
  obtain ⟨k, hk⟩ : ∃ k, k = ndF ns id := ⟨_, rfl⟩
  rw [← hk] at hval ⊢
  obtain ⟨nu1, nu2, nu3⟩ := nd_v k
  by_cases c1 : k.op = 1
  · have e1 := eq_true c1
    rw [if_pos c1]
    simp only [nu1, nu2, nu3]
    by_cases c2 : 0 < k.vw
    · by_cases c3 : k.vl = c
      · have e3 := eq_true c3
        simp (maxDischargeDepth := 40) [Zca, hval, e1, c2, e3]
      · simp (maxDischargeDepth := 40) [Zca, hval, e1, c2, c3]
    · simp (maxDischargeDepth := 40) [Zca, hval, e1, c2]
  · rw [if_neg c1]
    simp (maxDischargeDepth := 40) [Zca, hval, c1]
theorem wlogic_run {f : Nat} (hC : NormC f) (h : WG H w dn g most ns F 0) (gk : Gok ns) {n : Nd} {look : ByteArray → Option Vl} (P : ∀ c, logicF ns n = some c → PV look ns n c ∧ (exF most f ns n c).2.2 ≠ -1) {r : Option (AV × AHeap)}
    (hr : R Zbm [.ptr w 0, .agg n.cs] H = r) : match logicF ns n with | none => r = some (.int .i64 0, H) | some c => Wv H w dn g most F (exF most f ns n c) r := by
  rw [Zf2] at hr
  have hself := h.self
  have hlo := h.lo
  have k1 := (Keeps.refl H).new' (.cells n.cs)
  have va := value_run (h.keeps k1) n.a
  have vb := value_run (h.keeps ((k1.new' (.cells [.int .i64 0, u 0#64, u 0#64])).set (o := H.size + 1) (by simp) (.cells [.int .i64 (ndF ns n.a).vw, u (ndF ns n.a).vl, u (ndF ns n.a).vh]))) n.b
  have ag := fun (m : Nd) (hm : logicF ns n = some (.again m)) (H1 : AHeap) (k : Keeps H H1) (r : Option (AV × AHeap)) (hr : R Zn [.ptr w 0, .agg m.cs] H1 = r) => again_up hC h gk (P _ hm).2 (P _ hm).1 k hr
  have co := fun (v : Vl) (H1 : AHeap) (k : Keeps H H1) (r : Option (AV × AHeap)) (hr : R Zh [.ptr w 0, .agg [.int .i64 v.w, u (lo v.n), u (hi v.n)]] H1 = r) => con_up (f := f) (n := n) h k hr
  have hb := fun H => bool_run (b := true) (H := H)
  clear P
  obtain ⟨ka, hka⟩ : ∃ k, k = ndF ns n.a := ⟨_, rfl⟩
  obtain ⟨kb, hkb⟩ : ∃ k, k = ndF ns n.b := ⟨_, rfl⟩
  rw [← hka] at va vb
  rw [← hkb] at vb
  obtain ⟨na1, na2, na3⟩ := nd_v ka
  obtain ⟨nb1, nb2, nb3⟩ := nd_v kb
  simp only [Nd.parts'] at hr va vb
  by_cases o1 : n.op < 4
  · rw [show logicF ns n = none by simp [logicF, o1]]
    simp (maxDischargeDepth := 40) [Zk, o1] at hr
    exact hr.symm
  by_cases o2 : 8 < n.op
  · rw [show logicF ns n = none by simp [logicF, o2]]
    simp (maxDischargeDepth := 40) [Zk, o1, o2] at hr
    exact hr.symm
  by_cases a1 : ka.op = 1
  · have ea := eq_true a1
    by_cases vw : 0 < ka.vw
    · rw [show logicF ns n = none by simp [logicF, conF, logicC, o1, o2, ← hka, na3, ea, vw]]
      simp (maxDischargeDepth := 40) [Zk, o1, o2, va, ea, vw] at hr
      exact hr.symm
    by_cases p4 : n.op = 4
    · have q4 := eq_true p4
      have m5 : ¬ n.op = 5 := by omega
      have m6 : ¬ n.op = 6 := by omega
      have m7 : ¬ n.op = 7 := by omega
      have m8 : ¬ n.op = 8 := by omega
      by_cases y : ka.vl = 1#64
      · have y := eq_true y
        have hl : logicF ns n = some (.at n.b) := by simp [logicF, conF, logicC, Vl.yes, o1, o2, ← hka, na1, na3, ea, vw, q4, y]
        rw [hl]
        simp (maxDischargeDepth := 40) [Zk, o1, o2, va, ea, vw, q4, y] at hr
        rw [← hr]
        exact Wv.stay h _
      · skip
        have hl : logicF ns n = some (.at n.a) := by simp [logicF, conF, logicC, Vl.yes, o1, o2, ← hka, na1, na3, ea, vw, q4, y]
        rw [hl]
        simp (maxDischargeDepth := 40) [Zk, o1, o2, va, ea, vw, q4, y] at hr
        rw [← hr]
        exact Wv.stay h _
    by_cases p5 : n.op = 5
    · have q5 := eq_true p5
      have m4 : ¬ n.op = 4 := by omega
      have m6 : ¬ n.op = 6 := by omega
      have m7 : ¬ n.op = 7 := by omega
      have m8 : ¬ n.op = 8 := by omega
      by_cases y : ka.vl = 1#64
      · have y := eq_true y
        have hl : logicF ns n = some (.at n.a) := by simp [logicF, conF, logicC, Vl.yes, o1, o2, ← hka, na1, na3, ea, vw, m4, q5, y]
        rw [hl]
        simp (maxDischargeDepth := 40) [Zk, o1, o2, va, ea, vw, m4, q5, y] at hr
        rw [← hr]
        exact Wv.stay h _
      · skip
        have hl : logicF ns n = some (.at n.b) := by simp [logicF, conF, logicC, Vl.yes, o1, o2, ← hka, na1, na3, ea, vw, m4, q5, y]
        rw [hl]
        simp (maxDischargeDepth := 40) [Zk, o1, o2, va, ea, vw, m4, q5, y] at hr
        rw [← hr]
        exact Wv.stay h _
    by_cases p6 : n.op = 6
    · have q6 := eq_true p6
      have m4 : ¬ n.op = 4 := by omega
      have m5 : ¬ n.op = 5 := by omega
      have m7 : ¬ n.op = 7 := by omega
      have m8 : ¬ n.op = 8 := by omega
      by_cases y : ka.vl = 1#64
      · have y := eq_true y
        have hl : logicF ns n = some (.again (nodeO 3 n.b 0 0 0 0)) := by simp [logicF, conF, logicC, Vl.yes, o1, o2, ← hka, na1, na3, ea, vw, m4, m5, m7, q6, y]
        have ag := ag _ hl
        simp only [Nd.parts', nodeO] at ag
        rw [hl]
        simp (maxDischargeDepth := 40) [Zk, o1, o2, va, ea, vw, m4, m5, m7, q6, y] at hr
        generalize hA : R Zn _ _ = q at hr
        obtain ⟨id, H2, rfl, hW⟩ := ag _ (by ((repeat (first | exact Keeps.refl _ | assumption | refine Keeps.new' ?_ _ | refine Keeps.set ?_ ?_ _)) <;> (first | assumption | (simp; done) | (simp; omega)))) _ hA
        simp at hr
        rw [← hr]
        exact hW
      · skip
        have hl : logicF ns n = some (.at n.b) := by simp [logicF, conF, logicC, Vl.yes, o1, o2, ← hka, na1, na3, ea, vw, m4, m5, m7, q6, y]
        rw [hl]
        simp (maxDischargeDepth := 40) [Zk, o1, o2, va, ea, vw, m4, m5, m7, q6, y] at hr
        rw [← hr]
        exact Wv.stay h _
    by_cases p7 : n.op = 7
    · have q7 := eq_true p7
      have m4 : ¬ n.op = 4 := by omega
      have m5 : ¬ n.op = 5 := by omega
      have m6 : ¬ n.op = 6 := by omega
      have m8 : ¬ n.op = 8 := by omega
      by_cases y : ka.vl = 1#64
      · have y := eq_true y
        have hl : logicF ns n = some (.at n.b) := by simp [logicF, conF, logicC, Vl.yes, o1, o2, ← hka, na1, na3, ea, vw, m4, m5, q7, y]
        rw [hl]
        simp (maxDischargeDepth := 40) [Zk, o1, o2, va, ea, vw, m4, m5, q7, y] at hr
        rw [← hr]
        exact Wv.stay h _
      · skip
        have hl : logicF ns n = some (.con (Vl.bool true)) := by simp [logicF, conF, logicC, Vl.yes, o1, o2, ← hka, na1, na3, ea, vw, m4, m5, q7, y]
        rw [hl]
        simp (maxDischargeDepth := 40) [Zk, o1, o2, va, ea, vw, m4, m5, q7, y, hb] at hr
        generalize hA : R Zh _ _ = q at hr
        obtain ⟨id, H2, rfl, hW⟩ := co (Vl.bool true) _ (by ((repeat (first | exact Keeps.refl _ | assumption | refine Keeps.new' ?_ _ | refine Keeps.set ?_ ?_ _)) <;> (first | assumption | (simp; done) | (simp; omega)))) _ hA
        simp at hr
        rw [← hr]
        exact hW
    have p8 : n.op = 8 := by omega
    have q8 := eq_true p8
    have m4 : ¬ n.op = 4 := by omega
    have m5 : ¬ n.op = 5 := by omega
    have m6 : ¬ n.op = 6 := by omega
    have m7 : ¬ n.op = 7 := by omega
    by_cases y : ka.vl = 1#64
    · have y := eq_true y
      have hl : logicF ns n = some (.at n.b) := by simp [logicF, conF, logicC, Vl.yes, o1, o2, ← hka, na1, na3, ea, vw, m4, m5, m6, m7, y]
      rw [hl]
      simp (maxDischargeDepth := 40) [Zk, o1, o2, va, ea, vw, m4, m5, m6, m7, y] at hr
      rw [← hr]
      exact Wv.stay h _
    · skip
      have hl : logicF ns n = some (.again (nodeO 3 n.b 0 0 0 0)) := by simp [logicF, conF, logicC, Vl.yes, o1, o2, ← hka, na1, na3, ea, vw, m4, m5, m6, m7, y]
      have ag := ag _ hl
      simp only [Nd.parts', nodeO] at ag
      rw [hl]
      simp (maxDischargeDepth := 40) [Zk, o1, o2, va, ea, vw, m4, m5, m6, m7, y] at hr
      generalize hA : R Zn _ _ = q at hr
      obtain ⟨id, H2, rfl, hW⟩ := ag _ (by ((repeat (first | exact Keeps.refl _ | assumption | refine Keeps.new' ?_ _ | refine Keeps.set ?_ ?_ _)) <;> (first | assumption | (simp; done) | (simp; omega)))) _ hA
      simp at hr
      rw [← hr]
      exact hW
  by_cases p7 : n.op = 7
  · have q7 := eq_true p7
    rw [show logicF ns n = none by simp [logicF, conF, ← hka, a1, q7]]
    simp (maxDischargeDepth := 40) [Zk, o1, o2, va, a1, q7] at hr
    exact hr.symm
  by_cases b1 : kb.op = 1
  · have eb := eq_true b1
    by_cases vw : 0 < kb.vw
    · rw [show logicF ns n = none by simp [logicF, conF, logicC, o1, o2, ← hka, ← hkb, nb3, a1, p7, eb, vw]]
      simp (maxDischargeDepth := 40) [Zk, o1, o2, va, vb, a1, p7, eb, vw] at hr
      exact hr.symm
    by_cases p4 : n.op = 4
    · have q4 := eq_true p4
      have m5 : ¬ n.op = 5 := by omega
      have m6 : ¬ n.op = 6 := by omega
      have m7 : ¬ n.op = 7 := by omega
      have m8 : ¬ n.op = 8 := by omega
      by_cases y : kb.vl = 1#64
      · have y := eq_true y
        have hl : logicF ns n = some (.at n.a) := by simp [logicF, conF, logicC, Vl.yes, o1, o2, ← hka, ← hkb, nb1, nb3, a1, p7, eb, vw, q4, y]
        rw [hl]
        simp (maxDischargeDepth := 40) [Zk, o1, o2, va, vb, a1, p7, eb, vw, q4, y] at hr
        rw [← hr]
        exact Wv.stay h _
      · skip
        have hl : logicF ns n = some (.at n.b) := by simp [logicF, conF, logicC, Vl.yes, o1, o2, ← hka, ← hkb, nb1, nb3, a1, p7, eb, vw, q4, y]
        rw [hl]
        simp (maxDischargeDepth := 40) [Zk, o1, o2, va, vb, a1, p7, eb, vw, q4, y] at hr
        rw [← hr]
        exact Wv.stay h _
    by_cases p5 : n.op = 5
    · have q5 := eq_true p5
      have m4 : ¬ n.op = 4 := by omega
      have m6 : ¬ n.op = 6 := by omega
      have m7 : ¬ n.op = 7 := by omega
      have m8 : ¬ n.op = 8 := by omega
      by_cases y : kb.vl = 1#64
      · have y := eq_true y
        have hl : logicF ns n = some (.at n.b) := by simp [logicF, conF, logicC, Vl.yes, o1, o2, ← hka, ← hkb, nb1, nb3, a1, p7, eb, vw, m4, q5, y]
        rw [hl]
        simp (maxDischargeDepth := 40) [Zk, o1, o2, va, vb, a1, p7, eb, vw, m4, q5, y] at hr
        rw [← hr]
        exact Wv.stay h _
      · skip
        have hl : logicF ns n = some (.at n.a) := by simp [logicF, conF, logicC, Vl.yes, o1, o2, ← hka, ← hkb, nb1, nb3, a1, p7, eb, vw, m4, q5, y]
        rw [hl]
        simp (maxDischargeDepth := 40) [Zk, o1, o2, va, vb, a1, p7, eb, vw, m4, q5, y] at hr
        rw [← hr]
        exact Wv.stay h _
    by_cases p6 : n.op = 6
    · have q6 := eq_true p6
      have m4 : ¬ n.op = 4 := by omega
      have m5 : ¬ n.op = 5 := by omega
      have m7 : ¬ n.op = 7 := by omega
      have m8 : ¬ n.op = 8 := by omega
      by_cases y : kb.vl = 1#64
      · have y := eq_true y
        have hl : logicF ns n = some (.again (nodeO 3 n.a 0 0 0 0)) := by simp [logicF, conF, logicC, Vl.yes, o1, o2, ← hka, ← hkb, nb1, nb3, a1, p7, eb, vw, m4, m5, q6, y]
        have ag := ag _ hl
        simp only [Nd.parts', nodeO] at ag
        rw [hl]
        simp (maxDischargeDepth := 40) [Zk, o1, o2, va, vb, a1, p7, eb, vw, m4, m5, q6, y] at hr
        generalize hA : R Zn _ _ = q at hr
        obtain ⟨id, H2, rfl, hW⟩ := ag _ (by ((repeat (first | exact Keeps.refl _ | assumption | refine Keeps.new' ?_ _ | refine Keeps.set ?_ ?_ _)) <;> (first | assumption | (simp; done) | (simp; omega)))) _ hA
        simp at hr
        rw [← hr]
        exact hW
      · skip
        have hl : logicF ns n = some (.at n.a) := by simp [logicF, conF, logicC, Vl.yes, o1, o2, ← hka, ← hkb, nb1, nb3, a1, p7, eb, vw, m4, m5, q6, y]
        rw [hl]
        simp (maxDischargeDepth := 40) [Zk, o1, o2, va, vb, a1, p7, eb, vw, m4, m5, q6, y] at hr
        rw [← hr]
        exact Wv.stay h _
    have p8 : n.op = 8 := by omega
    have q8 := eq_true p8
    have m4 : ¬ n.op = 4 := by omega
    have m5 : ¬ n.op = 5 := by omega
    have m6 : ¬ n.op = 6 := by omega
    have m7 : ¬ n.op = 7 := by omega
    by_cases y : kb.vl = 1#64
    · have y := eq_true y
      have hl : logicF ns n = some (.at n.a) := by simp [logicF, conF, logicC, Vl.yes, o1, o2, ← hka, ← hkb, nb1, nb3, a1, p7, eb, vw, m4, m5, m6, y]
      rw [hl]
      simp (maxDischargeDepth := 40) [Zk, o1, o2, va, vb, a1, p7, eb, vw, m4, m5, m6, y] at hr
      rw [← hr]
      exact Wv.stay h _
    · skip
      have hl : logicF ns n = some (.again (nodeO 3 n.a 0 0 0 0)) := by simp [logicF, conF, logicC, Vl.yes, o1, o2, ← hka, ← hkb, nb1, nb3, a1, p7, eb, vw, m4, m5, m6, y]
      have ag := ag _ hl
      simp only [Nd.parts', nodeO] at ag
      rw [hl]
      simp (maxDischargeDepth := 40) [Zk, o1, o2, va, vb, a1, p7, eb, vw, m4, m5, m6, y] at hr
      generalize hA : R Zn _ _ = q at hr
      obtain ⟨id, H2, rfl, hW⟩ := ag _ (by ((repeat (first | exact Keeps.refl _ | assumption | refine Keeps.new' ?_ _ | refine Keeps.set ?_ ?_ _)) <;> (first | assumption | (simp; done) | (simp; omega)))) _ hA
      simp at hr
      rw [← hr]
      exact hW
  · rw [show logicF ns n = none by simp [logicF, conF, ← hka, ← hkb, a1, b1, p7]]
    simp (maxDischargeDepth := 40) [Zk, o1, o2, va, vb, a1, b1, p7] at hr
    exact hr.symm
end
end Go.Proofs.Ytiobohfiaapgeaa
end
section
namespace Go.Proofs.Ytiobohfiaapgeaa
set_option maxRecDepth 100000
set_option maxHeartbeats 1000000 in
theorem bvnew_run {w : Nat} (h1 : 1 ≤ w) (hw : w ≤ 128) {x : W128} {H : AHeap} : Pure R Zhd [.int .i64 w, u (lo x), u (hi x)] H (.tup [B (x.setWidth w), .int .i64 0]) := by
  unfold Pure
  rw [Zk5]
  have c1 : ¬ (w : Int) < 1 := by omega
  have c2 : ¬ 128 < (w : Int) := by omega
  have c3 : ¬ 128 < w := by omega
  have c4 : ¬ w < 1 := by omega
  have c5 : ¬ w = 0 := by omega
  simp (maxDischargeDepth := 40) [Zkm, B, Bt, hw, c1, c2]
end Go.Proofs.Ytiobohfiaapgeaa
end
section
namespace Go.Proofs.Ytiobohfiaapgeaa
set_option maxRecDepth 100000
set_option maxHeartbeats 4000000
section
variable {H : AHeap} {w dn g : Nat} {most : Int} {ns : List Nd} {F : List Nat} {e : Int}
theorem norm_err (h : WG H w dn g most ns F e) (he : ¬ e = 0) {n : Nd} : R Zn [.ptr w 0, .agg n.cs] H = some (.int .i64 0, H) := by
  rw [Zef]
  have hself := h.self
  have hlo := h.lo
  simp only [Nd.parts']
  simp (maxDischargeDepth := 40) [Zbp, hself, hlo, he]
theorem make_err (h : WG H w dn g most ns F e) (he : ¬ e = 0) {n : Nd} {r : Option (AV × AHeap)} (hr : R Zg [.ptr w 0, .agg n.cs] H = r) :
    ∃ H' F' ns' id, r = some (.int .i64 id, H') ∧ WG H' w dn g most ns' F' e ∧ Fr (w :: F) H H' ∧ ∀ p, p ∈ F' → p ∈ F ∨ H.size ≤ p := by
  rw [Zeg] at hr
  have hcs : ∃ op sort a b c p q vw vl vh name, n = ⟨op, sort, a, b, c, p, q, vw, vl, vh, name⟩ := ⟨_, _, _, _, _, _, _, _, _, _, _, rfl⟩
  obtain ⟨op, sort, a, b, c, p, q, vw, vl, vh, name, hn⟩ := hcs
  have hcs : n.cs = [.int .i64 op, .int .i64 sort, .int .i64 a, .int .i64 b, .int .i64 c, .int .i64 p, .int .i64 q, .int .i64 vw, u vl, u vh, .str name] := by rw [hn]; rfl
  rw [hcs] at hr
  simp (maxDischargeDepth := 40) [Zda, h.self, h.lo] at hr
  rw [← hcs] at hr
  generalize hA : R Zl _ _ = q at hr
  have kn := Keeps.new H (.cells n.cs)
  obtain ⟨H1, F1, rfl, G1, m1⟩ := mk_run (h.G.keeps kn) hA
  have k1 : Fr F H H1 := (kn.fr _).trans m1.fr fun p hp => .inl hp
  have hw : w ∉ F := fun hm => (h.off w hm).1 rfl
  have o1 : H1.obj w = .cells [.ptr g 0, .map dn, .int .i64 e] := by rw [k1.obj w h.lo hw]; exact h.self
  have l1 := k1.lt h.lo
  have n1 : ∀ p, p ∈ F1 → p ∈ F ∨ H.size ≤ p := fun p hp => by
    rcases m1.new p hp with h | h
    · exact .inl h
    · simp at h; exact .inr (by omega)
  simp (maxDischargeDepth := 40) [o1, he] at hr
  have k2 : Fr (w :: F) H H1 := k1.weak fun p hp => .inl (by simp [hp])
  have off1 : ∀ p, p ∈ F1 → p ≠ w ∧ p ≠ dn := fun p hp => by
    rcases n1 p hp with h1 | h1
    · exact h.off p h1
    · have := h.lo; have := h.ld; omega
  have g2 : WG H1 w dn g most (makT most ns n).1 F1 e := ⟨o1, l1, k2.lt h.ld, G1, off1, h.ne⟩
  obtain ⟨D, hD, g3, k3⟩ := h.back g2 k2 (makT most ns n).2.1
  rw [hD] at hr
  exact ⟨D, F1, _, _, hr.symm, g3, k3, n1⟩
theorem shl_up {f : Nat} (hC : NormC f) (h : WG H w dn g most ns F 0) (gk : Gok ns) {n : Nd} {x : Int} {v : Vl} {look : ByteArray → Option Vl} (P : PV look ns n (.shl x v)) (hne : (exF most f ns n (.shl x v)).2.2 ≠ -1) {H1 : AHeap} (k : Keeps H H1) {r1 : Option (AV × AHeap)} (hr1 : R Zh [.ptr w 0, .agg [.int .i64 v.w, u (lo v.n), u (hi v.n)]] H1 = r1) :
    ∃ id1 H2, r1 = some (.int .i64 id1, H2) ∧ (∀ p, H.size ≤ p → p < H1.size → H2.obj p = H1.obj p) ∧ ∀ r, R Zn [.ptr w 0, .agg (nodeO 26 x id1 0 0 0).cs] H2 = r → ∃ id H3, r = some (.int .i64 id, H3) ∧ Wv H w dn g most F (exF most f ns n (.shl x v)) (some (back [] H (.int .i64 id) H3)) := by
  obtain ⟨H2, F2, ns2, id1, e2, rfl, g2, k2, n2, ok, bad⟩ := constant_run (h.keeps k) hr1 fun _ _ k' hr' => make_run ((h.keeps k).keeps k') hr'
  refine ⟨id1, H2, rfl, fun p h1 h2 => k2.obj p h2 fun hp => ?_, fun r hr => ?_⟩
  · rcases List.mem_cons.1 hp with rfl | hp
    · have := h.lo; omega
    · have := h.G.ltF hp; omega
  have hsz := k.size
  have k12 : Fr (w :: F) H H2 := (k.fr _).trans k2 fun p hp => .inl hp
  obtain ⟨v1, v2, v3, x1, x2, x3, -⟩ := P
  obtain ⟨c1, c2⟩ := con_formed (ns := ns) v1
  unfold exF at hne ⊢
  simp only at hne ⊢
  by_cases h0 : (makT most ns (constN v)).2.2 = 0
  · rw [if_pos h0] at hne ⊢
    obtain ⟨rfl, rfl, rfl⟩ := ok h0
    have M := NV.made (n := constN v) gk c1 (by rw [c2]) (by simp [constN]) h0
    rw [c2] at M
    obtain ⟨X, hX⟩ : ∃ X, X = makT most ns (constN v) := ⟨_, rfl⟩
    rw [← hX] at M hne g2 hr ⊢
    obtain ⟨t, ht, hno⟩ := M.more
    have hle : ns.length ≤ X.1.length := by rw [ht]; simp
    have hxs : (ndF X.1 x).sort = v.w := by rw [ht, ndF_more x1 x2]; exact x3
    have hw128 := (ok_w v1).2
    obtain ⟨s1, s2⟩ := sorted_shl (x := x) (c := X.2.1) x1 (by omega) M.lo M.hi hxs (by rw [M.srt]; rfl) v3 hw128
    obtain ⟨H3, F3, ns3, id, e3, rfl, g3, k3, n3, ok3, bad3⟩ := hC g2 M.gok s1 (by rw [s2]) hne hr
    have k13 : Fr (w :: F) H H3 := k12.trans k3 fun p hp => by
      rcases List.mem_cons.1 hp with rfl | hp
      · exact .inl (by simp)
      · rcases n2 p hp with h | h
        · exact .inl (by simp [h])
        · exact .inr (by omega)
    obtain ⟨D, hD, g4, k4⟩ := h.back g3 k13 id
    have hs2 := k2.size
    refine ⟨id, H3, rfl, D, F3, ns3, id, e3, by rw [hD], g4, k4, fun p hp => ?_, ok3, bad3⟩
    rcases n3 p hp with h | h
    · rcases n2 p h with h | h
      · exact .inl h
      · exact .inr (by omega)
    · exact .inr (by omega)
  · rw [if_neg h0] at hne ⊢
    have hb := bad h0
    have he : ¬ e2 = 0 := by rw [hb]; exact h0
    rw [norm_err g2 he] at hr
    obtain ⟨D, hD, g4, k4⟩ := h.back g2 k12 0
    refine ⟨0, H2, hr.symm, D, F2, ns2, 0, e2, by rw [hD], g4, k4, fun p hp => ?_, fun hh => absurd hh h0, fun _ => hb⟩
    rcases n2 p hp with h | h
    · exact .inl h
    · exact .inr (by omega)
theorem rshl_run {N : Nat} (h1 : 1 ≤ N) (hN : N ≤ 128) {i : Nat} (hi' : i < N) {x : BitVec N} {H : AHeap} : R Zfz [B x, .int .i64 i] H = some (B ((shiftF 26 x (BitVec.ofNat N i)).setWidth N), H) := by
  rw [Zjm]
  have hl : lo (BitVec.ofNat 128 i : W128) = BitVec.ofNat 64 i := by
    apply BitVec.eq_of_toNat_eq
    simp [lo]
  have hh : hi (BitVec.ofNat 128 i : W128) = 0#64 := by
    apply BitVec.eq_of_toNat_eq
    simp [hi, Nat.shiftRight_eq_div_pow]
    omega
  have hnew := fun H => (bvnew_run h1 hN (x := BitVec.ofNat 128 i) (H := H)).run
  have htwo := fun H => (two_run h1 hN (n := 26) (a := x) (b := (BitVec.ofNat 128 i).setWidth N) (H := H)).run
  have e1 : (BitVec.ofNat 128 i).setWidth N = BitVec.ofNat N i := by
    apply BitVec.eq_of_toNat_eq
    simp
    rw [Nat.mod_eq_of_lt (show i < 2 ^ 128 by omega)]
  rw [hl, hh] at hnew
  rw [e1] at hnew htwo
  simp only [twoF, twoE] at htwo
  simp only [B, Bt] at hnew htwo ⊢
  simp (maxDischargeDepth := 40) at htwo
  simp (maxDischargeDepth := 40) [Zhv, hnew, htwo]
end
end Go.Proofs.Ytiobohfiaapgeaa
end
section
namespace Go.Proofs.Ytiobohfiaapgeaa
set_option maxRecDepth 100000
set_option maxHeartbeats 4000000
theorem shl_E {N i : Nat} (hN : N ≤ 128) (hi' : i < N) : E ((shiftF 26 (1#N) (BitVec.ofNat N i)).setWidth N) = 1#128 <<< i := by
  have hlt : i < 2 ^ N := Nat.lt_trans hi' (Nat.lt_two_pow_self)
  have hs : shN (BitVec.ofNat N i) = i := by
    unfold shN
    rw [BitVec.toNat_ofNat, Nat.mod_eq_of_lt hlt, if_pos hi']
  unfold shiftF
  rw [if_pos rfl, hs]
  unfold E
  apply BitVec.eq_of_getLsbD_eq
  intro t ht
  simp only [BitVec.getLsbD_setWidth, BitVec.getLsbD_shiftLeft, ht, decide_true, Bool.true_and, BitVec.getLsbD_one]
  by_cases c : t = i
  · subst c
    simp [hi', show 0 < N by omega, show (0 : Nat) < 128 by omega]
  · have : ¬ (t - i = 0 ∧ i ≤ t) := by omega
    by_cases c2 : t < i
    · simp [c2]
    · have : ¬ t - i = 0 := by omega
      simp [this]
theorem powF_of {N : Nat} (y : BitVec N) : powF (Vl.of y) = (List.range N).find? fun i => decide (E y = 1#128 <<< i) := rfl
section
variable {H0 : AHeap} {w dn g : Nat} {most : Int} {ns : List Nd} {F : List Nat} {e : Int}
theorem pow_loop {f : Nat} (hC : NormC f) (h : WG H0 w dn g most ns F 0) (gk : Gok ns) {n : Nd} {N : Nat} (h1N : 1 ≤ N) (hN : N ≤ 128) {y : BitVec N} {x0 x1 : Int} {look : ByteArray → Option Vl}
    (P : ∀ i, powF (Vl.of y) = some i → PV look ns n (.shl x0 ⟨N, BitVec.ofNat 128 i⟩) ∧ (exF most f ns n (.shl x0 ⟨N, BitVec.ofNat 128 i⟩)).2.2 ≠ -1)
    {H : AHeap} (k : Keeps H0 H) {o6 o7 : Nat} (n6 : H0.size ≤ o6) (l6 : o6 < H.size) (l7 : o7 < H.size) (ob6 : H.obj o6 = .cells [.int .i64 x0, .int .i64 x1]) (ob7 : H.obj o7 = .cells [.int .i64 N, u (lo (E y)), u (hi (E y))]) {ev : Env} {r : Rn}
    (hL : loopL Try.prog KT R Zbn ev H = r) (e0 : ev 0 = some (.ptr w 0)) (e6 : ev 6 = some (.ptr o6 0)) (e7 : ev 7 = some (.ptr o7 0)) (e38 : ev 38 = some (.int .i64 N)) (e39 : ev 39 = some (.int .i64 0)) :
    ∃ x ev' H', r = some (x, ev', H') ∧ ((x = .exit 2 ∧ powF (Vl.of y) = none ∧ Keeps H H') ∨ (x = .ret ∧ ∃ i id, powF (Vl.of y) = some i ∧ ev' 4 = some (.int .i64 id) ∧ Wv H0 w dn g most F (exF most f ns n (.shl x0 ⟨N, BitVec.ofNat 128 i⟩)) (some (back [] H0 (.int .i64 id) H')))) ∧ ∀ t, t ∉ defs Zbn → ev' t = ev t := by
  refine loop_count Zbn.eq_1 hL N (fun i e1 H1 => e1 39 = some (.int .i64 i) ∧ Keeps H H1 ∧ ∀ j, j < i → ¬ E y = 1#128 <<< j) _ 0 (Nat.zero_le _) ⟨e39, Keeps.refl _, by simp⟩ ?_ ?_
  · rintro i e1 H1 hf - hi' ⟨f39, k1, hj⟩
    have w1 : IntKind.i64.wrap ((i : Int) + 1) = (i : Int) + 1 := i64w (by omega) (by omega)
    have c1 : (i : Int) < N := by omega
    have p6 : H1.obj o6 = .cells [.int .i64 x0, .int .i64 x1] := by rw [k1.obj o6 l6]; exact ob6
    have p7 : H1.obj o7 = .cells [.int .i64 N, u (lo (E y)), u (hi (E y))] := by rw [k1.obj o7 l7]; exact ob7
    have m6 := k1.lt l6
    have m7 := k1.lt l7
    have hl : lo (BitVec.ofNat 128 i : W128) = BitVec.ofNat 64 i := by
      apply BitVec.eq_of_toNat_eq
      simp [lo]
    have hh : hi (BitVec.ofNat 128 i : W128) = 0#64 := by
      apply BitVec.eq_of_toNat_eq
      simp [hi, Nat.shiftRight_eq_div_pow]
      omega
    have hone := fun H => (bvnew_run h1N hN (x := 1#128) (H := H)).run
    have hby := fun H => (bvnew_run h1N hN (x := BitVec.ofNat 128 i) (H := H)).run
    rw [hl, hh] at hby
    rw [show (1#128 : W128).setWidth N = 1#N by apply BitVec.eq_of_toNat_eq; simp] at hone
    have e2 : E ((BitVec.ofNat 128 i : W128).setWidth N) = BitVec.ofNat 128 i := by
      unfold E
      apply BitVec.eq_of_toNat_eq
      have hlt : i < 2 ^ N := Nat.lt_trans hi' (Nat.lt_two_pow_self)
      simp
      rw [Nat.mod_eq_of_lt (show i < 2 ^ 128 by omega), Nat.mod_eq_of_lt hlt, Nat.mod_eq_of_lt (show i < 2 ^ 128 by omega)]
    have hsh := fun H => rshl_run h1N hN hi' (x := 1#N) (H := H)
    simp only [B, Bt] at hone hby hsh
    rw [shl_E hN hi'] at hsh
    rw [e2] at hby
    rw [show lo (1#128 : W128) = 1#64 from rfl, show hi (1#128 : W128) = 0#64 from rfl] at hone
    by_cases c : E y = 1#128 <<< i
    · have hp : powF (Vl.of y) = some i := by
        rw [powF_of, List.find?_range_eq_some]
        refine ⟨decide_eq_true c, List.mem_range.2 hi', fun j hji => by simp [hj j hji]⟩
      obtain ⟨P1, P2⟩ := P i hp
      have hsu := fun (H1 : AHeap) (k : Keeps H0 H1) (r : Option (AV × AHeap)) => shl_up hC h gk P1 P2 k (r1 := r)
      rw [← c] at hsh
      rw [hl, hh] at hby
      simp only [Nd.parts', nodeO, hl, hh] at hsu
      have k0 := k.trans k1
      have hld : ∀ ev : Env, ev 6 = some (.ptr o6 0) → ev 62 = some (.ptr o6 0) → markLd [2, 5, 997, 1006] ev (.tmp 62) (.int .i64 x0) = true := fun ev h1 h2 => markLd_one (s := 6) (d := 0) (o := o6) (off := 0) (by rfl) (by rfl) h1 h2 (by rfl)
      have r12 : ((((H1.new (.cells [.int .i64 0, u 0#64, u 0#64])).set H1.size (.cells [.int .i64 N, u (lo (E 1#N)), u (hi (E 1#N))])).new (.cells [.int .i64 0, u 0#64, u 0#64])).set (H1.size + 1) (.cells [.int .i64 N, u (BitVec.ofNat 64 i), u 0#64])).obj (H1.size + 1) = .cells [.int .i64 N, u (BitVec.ofNat 64 i), u 0#64] := by simp
      have m12 : H1.size + 1 < ((((H1.new (.cells [.int .i64 0, u 0#64, u 0#64])).set H1.size (.cells [.int .i64 N, u (lo (E 1#N)), u (hi (E 1#N))])).new (.cells [.int .i64 0, u 0#64, u 0#64])).set (H1.size + 1) (.cells [.int .i64 N, u (BitVec.ofNat 64 i), u 0#64])).size := by simp
      generalize hX : (((H1.new (.cells [.int .i64 0, u 0#64, u 0#64])).set H1.size (.cells [.int .i64 N, u (lo (E 1#N)), u (hi (E 1#N))])).new (.cells [.int .i64 0, u 0#64, u 0#64])).set (H1.size + 1) (.cells [.int .i64 N, u (BitVec.ofNat 64 i), u 0#64]) = HX at r12 m12
      have kX1 : Keeps H1 HX := by rw [← hX]; ((repeat (first | exact Keeps.refl _ | assumption | refine Keeps.new' ?_ _ | refine Keeps.set ?_ ?_ _)) <;> (first | assumption | (simp; done) | (simp; omega)))
      have kX : Keeps H0 HX := k0.trans kX1
      have q6 : HX.obj o6 = .cells [.int .i64 x0, .int .i64 x1] := by rw [kX1.obj o6 m6]; exact p6
      have l6X := kX1.lt m6
      generalize hA : R Zh [.ptr w 0, .agg [.int .i64 N, u (BitVec.ofNat 64 i), u 0#64]] HX = q
      obtain ⟨id1, H2, rfl, hsame, hn2⟩ := hsu _ kX _ hA
      have s6 : H2.obj o6 = HX.obj o6 := hsame o6 n6 (kX1.lt m6)
      have hcl : ∀ ev : Env, ev 6 = some (.ptr o6 0) → markCl [2, 5, 997, 1006] ev HX H2 = true := fun ev h1 => markCl_one (s := 6) (d := 0) (o := o6) (off := 0) (by rfl) (by rfl) h1 (by rw [s6])
      obtain ⟨id, H3, hB, hW⟩ := hn2 _ rfl
      clear hn2 hsu
      simp (maxDischargeDepth := 40) [hf, f39, e0, e6, e7, e38, c1, p7, m7, hone, hby, hsh, hX, hA, hB, hld, hcl, q6, r12]
      exact ⟨i, hp, hW⟩
    · have hn : ¬ (lo (E y) = lo (1#128 <<< i) ∧ hi (E y) = hi (1#128 <<< i)) := fun hx => c (pair_ext hx.1 hx.2)
      simp (maxDischargeDepth := 40) [hf, f39, e7, e38, c1, p7, m7, hone, hsh, eq_false hn]
      simp (maxDischargeDepth := 40) [w1]
      refine ⟨k1.trans (by ((repeat (first | exact Keeps.refl _ | assumption | refine Keeps.new' ?_ _ | refine Keeps.set ?_ ?_ _)) <;> (first | assumption | (simp; done) | (simp; omega)))), fun j hj' => ?_⟩
      rcases Nat.lt_succ_iff_lt_or_eq.1 hj' with h | rfl
      · exact hj j h
      · exact c
  · rintro e1 H1 hf ⟨f39, k1, hj⟩
    simp [hf, f39, e38]
    refine ⟨?_, k1⟩
    rw [powF_of, List.find?_range_eq_none]
    intro j hji
    simp [hj j hji]
end
end Go.Proofs.Ytiobohfiaapgeaa
end
section
namespace Go.Proofs.Ytiobohfiaapgeaa
set_option maxRecDepth 100000
set_option maxHeartbeats 4000000
section
variable {H : AHeap} {w dn g : Nat} {most : Int} {ns : List Nd} {F : List Nat} {e : Int}
theorem con_parts {ns : List Nd} {k : Int} {N : Nat} {y : BitVec N} (h : conF ns k = some (Vl.of y)) : (ndF ns k).op = 1 ∧ (ndF ns k).vw = N ∧ (ndF ns k).vl = lo (E y) ∧ (ndF ns k).vh = hi (E y) := by
  obtain ⟨h1, h2⟩ := conF_cs h
  obtain ⟨n1, n2, n3⟩ := nd_v (ndF ns k)
  rw [← h2] at n1 n2 n3
  exact ⟨h1, n3.symm, n1.symm, n2.symm⟩
theorem double_loop {f : Nat} (hC : NormC f) (h : WG H w dn g most ns F 0) (gk : Gok ns) {n : Nd} {N : Nat} (h1N : 1 ≤ N) (hN : N ≤ 128) {x y : BitVec N} {look : ByteArray → Option Vl} (hA : AllFit look ns) (ha : V look ns n.a = Vl.of x) (hb : V look ns n.b = Vl.of y)
    (P : PV look ns n (doubleF ns n)) (hne : (exF most f ns n (doubleF ns n)).2.2 ≠ -1) {H1 : AHeap} (k : Keeps H H1) {ev : Env} {r : Rn}
    (hL : loopL Try.prog KT R Zbo ev H1 = r) (e0 : ev 0 = some (.ptr w 0)) (e24 : ev 24 = some (.agg [.int .i64 n.a, .int .i64 n.b, .int .i64 n.b, .int .i64 n.a])) (e25 : ev 25 = some (.int .i64 0)) :
    ∃ x ev' H', r = some (x, ev', H') ∧ ((x = .exit 0 ∧ doubleF ns n = .mk ∧ Keeps H1 H') ∨ (x = .ret ∧ ∃ id, ev' 4 = some (.int .i64 id) ∧ Wv H w dn g most F (exF most f ns n (doubleF ns n)) (some (back [] H (.int .i64 id) H')))) ∧ ∀ t, t ∉ defs Zbo → ev' t = ev t := by
  obtain ⟨B1, hB1⟩ : ∃ B1 : Prop, B1 = ((conF ns n.b).bind powF = none) := ⟨_, rfl⟩
  obtain ⟨B2, hB2⟩ : ∃ B2 : Prop, B2 = ((conF ns n.a).bind powF = none) := ⟨_, rfl⟩
  refine loop_count Zbo.eq_1 hL 2 (fun i e1 H2 => e1 25 = some (.int .i64 i) ∧ Keeps H1 H2 ∧ (0 < i → B1) ∧ (1 < i → B2)) _ 0 (Nat.zero_le _) ⟨e25, Keeps.refl _, by simp, by simp⟩ ?_ ?_
  · rintro i e1 H2 hf - hi' ⟨f25, k01, hp1, hp2⟩
    have k1 := k.trans k01
    have w1 : IntKind.i64.wrap ((i : Int) + 1) = (i : Int) + 1 := i64w (by omega) (by omega)
    have c1 : (i : Int) < 2 := by omega
    rcases (by omega : i = 0 ∨ i = 1) with rfl | rfl
    · have hval := value_run (h.keeps ((k1.new' (.cells [.int .i64 0, .int .i64 0])).set (o := H2.size) (Keeps.size k1) (.cells [.int .i64 n.a, .int .i64 n.b]))) n.b
      cases hc : conF ns n.b with
      | none =>
        have hno := conF_no hc
        obtain ⟨kd, hkd⟩ : ∃ k, k = ndF ns n.b := ⟨_, rfl⟩
        rw [← hkd] at hno hval
        simp (maxDischargeDepth := 40) [hf, f25, e0, e24, hval, hno]
        refine ⟨k01.trans (by ((repeat (first | exact Keeps.refl _ | assumption | refine Keeps.new' ?_ _ | refine Keeps.set ?_ ?_ _)) <;> (first | assumption | (simp; done) | (simp; omega)))), by rw [hB1, hc]; rfl⟩
      | some v =>
        have hvv := con_all gk hA hc
        rw [hb] at hvv
        subst hvv
        obtain ⟨q1, q2, q3, q4⟩ := con_parts hc
        rw [q2, q3, q4] at hval
        obtain ⟨kd, hkd⟩ : ∃ k, k = ndF ns n.b := ⟨_, rfl⟩
        rw [← hkd] at q1 hval
        simp (maxDischargeDepth := 40) [hf, f25, e0, e24, hval, q1]
        generalize hL2 : loopL _ _ _ _ _ _ = q
        have kk : Keeps H2 ((((H2.new (.cells [.int .i64 0, .int .i64 0])).set H2.size (.cells [.int .i64 n.a, .int .i64 n.b])).new (.cells [.int .i64 0, u 0#64, u 0#64])).set (H2.size + 1) (.cells [.int .i64 N, u (lo (E y)), u (hi (E y))])) := by ((repeat (first | exact Keeps.refl _ | assumption | refine Keeps.new' ?_ _ | refine Keeps.set ?_ ?_ _)) <;> (first | assumption | (simp; done) | (simp; omega)))
        have hdb : ∀ i, powF (Vl.of y) = some i → doubleF ns n = .shl n.a ⟨N, BitVec.ofNat 128 i⟩ := fun i hpi => by
          unfold doubleF
          
          rw [hc, Option.bind_some, hpi]
          rfl
        obtain ⟨xx, ev2, H3, rfl, hx, fr⟩ := pow_loop hC h gk (n := n) (x0 := n.a) (x1 := n.b) h1N hN (y := y) (fun i hpi => by rw [hdb i hpi] at P hne; exact ⟨P, hne⟩) (k1.trans kk) (o6 := H2.size) (o7 := H2.size + 1) (Keeps.size k1) (by simp) (by simp) (by simp) (by simp) hL2 (by simp [hf, e0]) (by simp) (by simp) (by simp) (by simp)
        rcases hx with ⟨rfl, hp, k3⟩ | ⟨rfl, i, id, hpi, f4, hW⟩
        · simp (maxDischargeDepth := 40) [fr, f25]
          refine ⟨k01.trans (kk.trans k3), by rw [hB1, hc]; exact hp⟩
        · simp (maxDischargeDepth := 40) [f4]
          rw [hdb i hpi]
          exact hW
    · have hval := value_run (h.keeps ((k1.new' (.cells [.int .i64 0, .int .i64 0])).set (o := H2.size) (Keeps.size k1) (.cells [.int .i64 n.b, .int .i64 n.a]))) n.a
      cases hc : conF ns n.a with
      | none =>
        have hno := conF_no hc
        obtain ⟨kd, hkd⟩ : ∃ k, k = ndF ns n.a := ⟨_, rfl⟩
        rw [← hkd] at hno hval
        simp (maxDischargeDepth := 40) [hf, f25, e0, e24, hval, hno]
        refine ⟨k01.trans (by ((repeat (first | exact Keeps.refl _ | assumption | refine Keeps.new' ?_ _ | refine Keeps.set ?_ ?_ _)) <;> (first | assumption | (simp; done) | (simp; omega)))), hp1 (by omega), by rw [hB2, hc]; rfl⟩
      | some v =>
        have hvv := con_all gk hA hc
        rw [ha] at hvv
        subst hvv
        obtain ⟨q1, q2, q3, q4⟩ := con_parts hc
        rw [q2, q3, q4] at hval
        obtain ⟨kd, hkd⟩ : ∃ k, k = ndF ns n.a := ⟨_, rfl⟩
        rw [← hkd] at q1 hval
        simp (maxDischargeDepth := 40) [hf, f25, e0, e24, hval, q1]
        generalize hL2 : loopL _ _ _ _ _ _ = q
        have kk : Keeps H2 ((((H2.new (.cells [.int .i64 0, .int .i64 0])).set H2.size (.cells [.int .i64 n.b, .int .i64 n.a])).new (.cells [.int .i64 0, u 0#64, u 0#64])).set (H2.size + 1) (.cells [.int .i64 N, u (lo (E x)), u (hi (E x))])) := by ((repeat (first | exact Keeps.refl _ | assumption | refine Keeps.new' ?_ _ | refine Keeps.set ?_ ?_ _)) <;> (first | assumption | (simp; done) | (simp; omega)))
        have hdb : ∀ i, powF (Vl.of x) = some i → doubleF ns n = .shl n.b ⟨N, BitVec.ofNat 128 i⟩ := fun i hpi => by
          unfold doubleF
          rw [hB1] at hp1; rw [hp1 (by omega)]; simp only
          rw [hc, Option.bind_some, hpi]
          rfl
        obtain ⟨xx, ev2, H3, rfl, hx, fr⟩ := pow_loop hC h gk (n := n) (x0 := n.b) (x1 := n.a) h1N hN (y := x) (fun i hpi => by rw [hdb i hpi] at P hne; exact ⟨P, hne⟩) (k1.trans kk) (o6 := H2.size) (o7 := H2.size + 1) (Keeps.size k1) (by simp) (by simp) (by simp) (by simp) hL2 (by simp [hf, e0]) (by simp) (by simp) (by simp) (by simp)
        rcases hx with ⟨rfl, hp, k3⟩ | ⟨rfl, i, id, hpi, f4, hW⟩
        · simp (maxDischargeDepth := 40) [fr, f25]
          refine ⟨k01.trans (kk.trans k3), hp1 (by omega), by rw [hB2, hc]; exact hp⟩
        · simp (maxDischargeDepth := 40) [f4]
          rw [hdb i hpi]
          exact hW
  · rintro e1 H2 hf ⟨f25, k1, hp1, hp2⟩
    simp [f25]
    refine ⟨?_, k1⟩
    unfold doubleF
    rw [hB1] at hp1
    rw [hB2] at hp2
    rw [hp1 (by omega), hp2 (by omega)]
theorem doubled_run {f : Nat} (hC : NormC f) (h : WG H w dn g most ns F 0) (gk : Gok ns) {n : Nd} {N : Nat} (h1N : 1 ≤ N) (hN : N ≤ 128) {x y : BitVec N} {look : ByteArray → Option Vl} (hA : AllFit look ns) (ha : V look ns n.a = Vl.of x) (hb : V look ns n.b = Vl.of y)
    (P : PV look ns n (doubleF ns n)) (hne : (exF most f ns n (doubleF ns n)).2.2 ≠ -1) {r : Option (AV × AHeap)} (hr : R Z5 [.ptr w 0, .agg n.cs] H = r) : Wv H w dn g most F (exF most f ns n (doubleF ns n)) r := by
  rw [Zfm] at hr
  have k1 : Keeps H (H.new (.cells n.cs)) := (Keeps.refl H).new' _
  have mk := fun (H1 : AHeap) (k : Keeps H H1) (r : Option (AV × AHeap)) (hr : R Zg [.ptr w 0, .agg n.cs] H1 = r) => mk_up (f := f) h k hr
  simp only [Nd.parts'] at hr mk k1
  simp (maxDischargeDepth := 40) [Zds] at hr
  generalize hL : loopL _ _ _ _ _ _ = q at hr
  obtain ⟨xx, ev2, H3, rfl, hx, fr⟩ := double_loop hC h gk h1N hN hA ha hb P hne k1 hL (by simp) (by simp) (by simp)
  rcases hx with ⟨rfl, hp, k3⟩ | ⟨rfl, id, f4, hW⟩
  · rw [hp]
    have hob : H3.obj H.size = .cells [.int .i64 n.op, .int .i64 n.sort, .int .i64 n.a, .int .i64 n.b, .int .i64 n.c, .int .i64 n.p, .int .i64 n.q, .int .i64 n.vw, u n.vl, u n.vh, .str n.name] := by rw [k3.obj _ (by simp)]; simp
    have hl1 : H.size < H3.size := by have := k3.size; simp at this; omega
    simp (maxDischargeDepth := 40) [fr, hob] at hr
    generalize hA : R Zg _ _ = q at hr
    obtain ⟨id, H4, rfl, hW⟩ := mk _ (k1.trans k3) _ hA
    simp at hr
    rw [← hr]
    exact hW
  · simp [f4] at hr
    rw [← hr]
    exact hW
end
end Go.Proofs.Ytiobohfiaapgeaa
end
section
namespace Go.Proofs.Ytiobohfiaapgeaa
set_option maxRecDepth 100000
set_option maxHeartbeats 4000000
theorem tb8 {op : Int} (h1 : 0 ≤ op) (h2 : op ≤ 44) : tbit op 8 = 0 ↔ ¬ (op = 12 ∨ op = 20) := tbit_fin (p := fun op => op = 12 ∨ op = 20) (by decide) h1 h2
theorem tb64 {op : Int} (h1 : 0 ≤ op) (h2 : op ≤ 44) : tbit op 64 = 0 ↔ ¬ (op = 26 ∨ op = 27 ∨ op = 28) := tbit_fin (p := fun op => op = 26 ∨ op = 27 ∨ op = 28) (by decide) h1 h2
theorem tb48 {op : Int} (h1 : 0 ≤ op) (h2 : op ≤ 44) : tbit op 48 = 0 ↔ ¬ (op = 13 ∨ op = 14 ∨ op = 18 ∨ op = 19 ∨ op = 26 ∨ op = 27 ∨ op = 28) := tbit_fin (p := fun op => op = 13 ∨ op = 14 ∨ op = 18 ∨ op = 19 ∨ op = 26 ∨ op = 27 ∨ op = 28) (by decide) h1 h2
theorem tb256 {op : Int} (h1 : 0 ≤ op) (h2 : op ≤ 44) : tbit op 256 = 0 ↔ ¬ (op = 20 ∨ op = 21) := tbit_fin (p := fun op => op = 20 ∨ op = 21) (by decide) h1 h2
theorem tb16 {op : Int} (h1 : 0 ≤ op) (h2 : op ≤ 44) : tbit op 16 = 0 ↔ ¬ (op = 13 ∨ op = 14 ∨ op = 18) := tbit_fin (p := fun op => op = 13 ∨ op = 14 ∨ op = 18) (by decide) h1 h2
theorem tb1 {op : Int} (h1 : 0 ≤ op) (h2 : op ≤ 44) : tbit op 1 = 0 ↔ ¬ (op = 4 ∨ op = 5 ∨ op = 12 ∨ op = 13) := tbit_fin (p := fun op => op = 4 ∨ op = 5 ∨ op = 12 ∨ op = 13) (by decide) h1 h2
theorem tb2 {op : Int} (h1 : 0 ≤ op) (h2 : op ≤ 44) : tbit op 2 = 0 ↔ ¬ (op = 6 ∨ op = 29 ∨ op = 31 ∨ op = 33 ∨ op = 35 ∨ op = 14 ∨ op = 19) := tbit_fin (p := fun op => op = 6 ∨ op = 29 ∨ op = 31 ∨ op = 33 ∨ op = 35 ∨ op = 14 ∨ op = 19) (by decide) h1 h2
theorem tb4 {op : Int} (h1 : 0 ≤ op) (h2 : op ≤ 44) : tbit op 4 = 0 ↔ ¬ (op = 8 ∨ op = 30 ∨ op = 32 ∨ op = 34 ∨ op = 36 ∨ op = 7) := tbit_fin (p := fun op => op = 8 ∨ op = 30 ∨ op = 32 ∨ op = 34 ∨ op = 36 ∨ op = 7) (by decide) h1 h2
section
variable {H : AHeap} {w dn g : Nat} {most : Int} {ns : List Nd} {F : List Nat} {e : Int}
theorem beside_err (h : WG H w dn g most ns F e) (he : ¬ e = 0) {n : Nd} (h4 : 4 ≤ n.op) (h8 : n.op ≤ 8) {r : Option (AV × AHeap)} (hr : R Zz [.ptr w 0, .agg n.cs, .int .i64 (tagsF n.op)] H = r) :
    ∃ id H', r = some (.int .i64 id, H') ∧ ∃ F' ns', WG H' w dn g most ns' F' e ∧ Fr (w :: F) H H' ∧ ∀ p, p ∈ F' → p ∈ F ∨ H.size ≤ p := by
  rw [Zdz] at hr
  have k1 : Keeps H (H.new (.cells n.cs)) := (Keeps.refl H).new' _
  have z8 := (tb8 (op := n.op) (by omega) (by omega)).2 (by omega)
  have z64 := (tb64 (op := n.op) (by omega) (by omega)).2 (by omega)
  have z48 := (tb48 (op := n.op) (by omega) (by omega)).2 (by omega)
  have z256 := (tb256 (op := n.op) (by omega) (by omega)).2 (by omega)
  have z16 := (tb16 (op := n.op) (by omega) (by omega)).2 (by omega)
  have n20 : ¬ n.op = 20 := by omega
  have mk := fun (r : Option (AV × AHeap)) => make_err (h.keeps k1) he (n := n) (r := r)
  simp only [Nd.parts'] at hr mk k1
  simp (maxDischargeDepth := 40) [Zo, z8, z64, z48, z256, z16, n20] at hr
  generalize hA : R Zg _ _ = q at hr
  obtain ⟨H2, F2, ns2, id, rfl, g2, k2, n2⟩ := mk _ hA
  simp at hr
  have k3 : Fr (w :: F) H H2 := (k1.fr _).trans k2 fun p hp => .inl hp
  obtain ⟨D, hD, g4, k4⟩ := h.back g2 k3 id
  rw [hD] at hr
  refine ⟨id, D, hr.symm, F2, ns2, g4, k4, fun p hp => ?_⟩
  have := k1.size
  rcases n2 p hp with h | h
  · exact .inl h
  · exact .inr (by omega)
theorem beside_run {f : Nat} (h : WG H w dn g most ns F 0) {n : Nd} (o0 : 0 ≤ n.op) (o44 : n.op ≤ 44)
    (hd : n.op = 20 → besideF ns n = doubleF ns n → ∀ H1, Keeps H H1 → ∀ r, R Z5 [.ptr w 0, .agg n.cs] H1 = r → ∃ id H2, r = some (.int .i64 id, H2) ∧ Wv H w dn g most F (exF most f ns n (doubleF ns n)) (some (back [] H (.int .i64 id) H2)))
    {r : Option (AV × AHeap)} (hr : R Zz [.ptr w 0, .agg n.cs, .int .i64 (tagsF n.op)] H = r) : Wv H w dn g most F (exF most f ns n (besideF ns n)) r := by
  rw [Zdz] at hr
  have hself := h.self
  have hlo := h.lo
  have k1 : Keeps H (H.new (.cells n.cs)) := (Keeps.refl H).new' _
  have t8 := tb8 o0 o44
  have t64 := tb64 o0 o44
  have t48 := tb48 o0 o44
  have t256 := tb256 o0 o44
  have t16 := tb16 o0 o44
  have ia := fun c => is_run (h.keeps k1) (id := n.a) (c := c)
  have ib := fun c => is_run (h.keeps k1) (id := n.b) (c := c)
  have hnode := (h.keeps k1).node n.a
  have mk := fun (H1 : AHeap) (k : Keeps H H1) (r : Option (AV × AHeap)) (hr : R Zg [.ptr w 0, .agg n.cs] H1 = r) => mk_up (f := f) h k hr
  have co := fun (H1 : AHeap) (k : Keeps H H1) (r : Option (AV × AHeap)) (hr : R Zh [.ptr w 0, .agg [.int .i64 (ndF ns n.a).sort, u (lo (0#128 : W128)), u (hi (0#128 : W128))]] H1 = r) => con_up (f := f) (n := n) (v := ⟨(ndF ns n.a).sort, 0#128⟩) h k hr
  simp only [show lo (0#128 : W128) = 0#64 from rfl, show hi (0#128 : W128) = 0#64 from rfl] at co
  obtain ⟨k, hk⟩ : ∃ k, k = ndF ns n.a := ⟨_, rfl⟩
  simp only [Nd.parts'] at hr mk k1 hnode hd ia ib
  rw [← hk] at hnode co
  by_cases grp : n.op = 12
  · have z8 : ¬ tbit n.op 8 = 0 := fun hh => t8.1 hh (by omega)
    have z64 : tbit n.op 64 = 0 := t64.2 (by omega)
    have z48 : tbit n.op 48 = 0 := t48.2 (by omega)
    have z256 : tbit n.op 256 = 0 := t256.2 (by omega)
    have z16 : tbit n.op 16 = 0 := t16.2 (by omega)
    have n20 : ¬ n.op = 20 := by omega
    cases a0 : isF ns n.a 0#64 with
    | true =>
      have hB : besideF ns n = .con ⟨k.sort, 0#128⟩ := by
        simp [besideF, grp, ← hk, a0]
      rw [hB]
      simp (maxDischargeDepth := 40) [Zo, hself, hlo, z8, ia 0#64, a0, hnode] at hr
      generalize hA : R Zh _ _ = q at hr
      obtain ⟨id, H2, rfl, hW⟩ := co _ (by ((repeat (first | exact Keeps.refl _ | assumption | refine Keeps.new' ?_ _ | refine Keeps.set ?_ ?_ _)) <;> (first | assumption | (simp; done) | (simp; omega)))) _ hA
      simp at hr
      rw [← hr]
      simpa only [hk] using hW
    | false =>
      cases b0 : isF ns n.b 0#64 with
      | true =>
        have hB : besideF ns n = .con ⟨k.sort, 0#128⟩ := by
          simp [besideF, grp, ← hk, a0, b0]
        rw [hB]
        simp (maxDischargeDepth := 40) [Zo, hself, hlo, z8, ia 0#64, ib 0#64, a0, b0, hnode] at hr
        generalize hA : R Zh _ _ = q at hr
        obtain ⟨id, H2, rfl, hW⟩ := co _ (by ((repeat (first | exact Keeps.refl _ | assumption | refine Keeps.new' ?_ _ | refine Keeps.set ?_ ?_ _)) <;> (first | assumption | (simp; done) | (simp; omega)))) _ hA
        simp at hr
        rw [← hr]
        simpa only [hk] using hW
      | false =>
        have hB : besideF ns n = .mk := by
          simp [besideF, grp, a0, b0]
        rw [hB]
        simp (maxDischargeDepth := 40) [Zo, z8, z64, z48, z256, z16, n20, ia 0#64, ib 0#64, a0, b0] at hr
        generalize hA : R Zg _ _ = q at hr
        obtain ⟨id, H2, rfl, hW⟩ := mk _ (by ((repeat (first | exact Keeps.refl _ | assumption | refine Keeps.new' ?_ _ | refine Keeps.set ?_ ?_ _)) <;> (first | assumption | (simp; done) | (simp; omega)))) _ hA
        simp at hr
        rw [← hr]
        exact hW
  have g12 := grp
  clear grp
  by_cases grp : n.op = 20
  · have z8 : ¬ tbit n.op 8 = 0 := fun hh => t8.1 hh (by omega)
    have z64 : tbit n.op 64 = 0 := t64.2 (by omega)
    have z48 : tbit n.op 48 = 0 := t48.2 (by omega)
    have z256 : ¬ tbit n.op 256 = 0 := fun hh => t256.1 hh (by omega)
    have z16 : tbit n.op 16 = 0 := t16.2 (by omega)
    have e20 := eq_true grp
    cases a0 : isF ns n.a 0#64 with
    | true =>
      have hB : besideF ns n = .con ⟨k.sort, 0#128⟩ := by
        simp [besideF, grp, ← hk, a0]
      rw [hB]
      simp (maxDischargeDepth := 40) [Zo, hself, hlo, z8, ia 0#64, a0, hnode] at hr
      generalize hA : R Zh _ _ = q at hr
      obtain ⟨id, H2, rfl, hW⟩ := co _ (by ((repeat (first | exact Keeps.refl _ | assumption | refine Keeps.new' ?_ _ | refine Keeps.set ?_ ?_ _)) <;> (first | assumption | (simp; done) | (simp; omega)))) _ hA
      simp at hr
      rw [← hr]
      simpa only [hk] using hW
    | false =>
      cases b0 : isF ns n.b 0#64 with
      | true =>
        have hB : besideF ns n = .con ⟨k.sort, 0#128⟩ := by
          simp [besideF, grp, ← hk, a0, b0]
        rw [hB]
        simp (maxDischargeDepth := 40) [Zo, hself, hlo, z8, ia 0#64, ib 0#64, a0, b0, hnode] at hr
        generalize hA : R Zh _ _ = q at hr
        obtain ⟨id, H2, rfl, hW⟩ := co _ (by ((repeat (first | exact Keeps.refl _ | assumption | refine Keeps.new' ?_ _ | refine Keeps.set ?_ ?_ _)) <;> (first | assumption | (simp; done) | (simp; omega)))) _ hA
        simp at hr
        rw [← hr]
        simpa only [hk] using hW
      | false =>
        cases b1 : isF ns n.b 1#64 with
        | true =>
          have hB : besideF ns n = .at n.a := by
            simp [besideF, grp, a0, b0, b1]
          rw [hB]
          simp (maxDischargeDepth := 40) [Zo, z8, z64, z48, z256, ia 0#64, ib 0#64, ib 1#64, a0, b0, b1] at hr
          rw [← hr]
          exact Wv.stay h _
        | false =>
          cases a1 : isF ns n.a 1#64 with
          | true =>
            have hB : besideF ns n = .at n.b := by
              simp [besideF, grp, a0, b0, b1, a1]
            rw [hB]
            simp (maxDischargeDepth := 40) [Zo, z8, z64, z48, z256, z16, e20, ia 0#64, ib 0#64, ib 1#64, ia 1#64, a0, b0, b1, a1] at hr
            rw [← hr]
            exact Wv.stay h _
          | false =>
            have hB : besideF ns n = doubleF ns n := by
              simp [besideF, grp, a0, b0, b1, a1]
            have hd := hd grp hB
            rw [hB]
            simp (maxDischargeDepth := 40) [Zo, z8, z64, z48, z256, z16, e20, ia 0#64, ib 0#64, ib 1#64, ia 1#64, a0, b0, b1, a1] at hr
            generalize hA : R Z5 _ _ = q at hr
            obtain ⟨id, H2, rfl, hW⟩ := hd _ (by ((repeat (first | exact Keeps.refl _ | assumption | refine Keeps.new' ?_ _ | refine Keeps.set ?_ ?_ _)) <;> (first | assumption | (simp; done) | (simp; omega)))) _ hA
            simp at hr
            rw [← hr]
            exact hW
  have g20 := grp
  clear grp
  by_cases grp : n.op = 26 ∨ n.op = 27 ∨ n.op = 28
  · have z8 : tbit n.op 8 = 0 := t8.2 (by omega)
    have z64 : ¬ tbit n.op 64 = 0 := fun hh => t64.1 hh (by omega)
    have z48 : ¬ tbit n.op 48 = 0 := fun hh => t48.1 hh (by omega)
    have z256 : tbit n.op 256 = 0 := t256.2 (by omega)
    have z16 : tbit n.op 16 = 0 := t16.2 (by omega)
    have n20 : ¬ n.op = 20 := by omega
    cases a0 : isF ns n.a 0#64 with
    | true =>
      have hB : besideF ns n = .con ⟨k.sort, 0#128⟩ := by
        rcases grp with h | h | h <;> simp [besideF, h, ← hk, a0]
      rw [hB]
      simp (maxDischargeDepth := 40) [Zo, hself, hlo, z8, z64, ia 0#64, a0, hnode] at hr
      generalize hA : R Zh _ _ = q at hr
      obtain ⟨id, H2, rfl, hW⟩ := co _ (by ((repeat (first | exact Keeps.refl _ | assumption | refine Keeps.new' ?_ _ | refine Keeps.set ?_ ?_ _)) <;> (first | assumption | (simp; done) | (simp; omega)))) _ hA
      simp at hr
      rw [← hr]
      simpa only [hk] using hW
    | false =>
      cases b0 : isF ns n.b 0#64 with
      | true =>
        have hB : besideF ns n = .at n.a := by
          rcases grp with h | h | h <;> simp [besideF, h, a0, b0]
        rw [hB]
        simp (maxDischargeDepth := 40) [Zo, z8, z64, z48, ia 0#64, ib 0#64, a0, b0] at hr
        rw [← hr]
        exact Wv.stay h _
      | false =>
        have hB : besideF ns n = .mk := by
          rcases grp with h | h | h <;> simp [besideF, h, a0, b0]
        rw [hB]
        simp (maxDischargeDepth := 40) [Zo, z8, z64, z48, z256, z16, n20, ia 0#64, ib 0#64, a0, b0] at hr
        generalize hA : R Zg _ _ = q at hr
        obtain ⟨id, H2, rfl, hW⟩ := mk _ (by ((repeat (first | exact Keeps.refl _ | assumption | refine Keeps.new' ?_ _ | refine Keeps.set ?_ ?_ _)) <;> (first | assumption | (simp; done) | (simp; omega)))) _ hA
        simp at hr
        rw [← hr]
        exact hW
  have g26 := grp
  clear grp
  by_cases grp : n.op = 13 ∨ n.op = 14 ∨ n.op = 18
  · have z8 : tbit n.op 8 = 0 := t8.2 (by omega)
    have z64 : tbit n.op 64 = 0 := t64.2 (by omega)
    have z48 : ¬ tbit n.op 48 = 0 := fun hh => t48.1 hh (by omega)
    have z256 : tbit n.op 256 = 0 := t256.2 (by omega)
    have z16 : ¬ tbit n.op 16 = 0 := fun hh => t16.1 hh (by omega)
    have n20 : ¬ n.op = 20 := by omega
    cases b0 : isF ns n.b 0#64 with
    | true =>
      have hB : besideF ns n = .at n.a := by
        rcases grp with h | h | h <;> simp [besideF, h, b0]
      rw [hB]
      simp (maxDischargeDepth := 40) [Zo, z8, z64, z48, ib 0#64, b0] at hr
      rw [← hr]
      exact Wv.stay h _
    | false =>
      cases a0 : isF ns n.a 0#64 with
      | true =>
        have hB : besideF ns n = .at n.b := by
          rcases grp with h | h | h <;> simp [besideF, h, b0, a0]
        rw [hB]
        simp (maxDischargeDepth := 40) [Zo, z8, z64, z48, z256, z16, ib 0#64, ia 0#64, b0, a0] at hr
        rw [← hr]
        exact Wv.stay h _
      | false =>
        have hB : besideF ns n = .mk := by
          rcases grp with h | h | h <;> simp [besideF, h, b0, a0]
        rw [hB]
        simp (maxDischargeDepth := 40) [Zo, z8, z64, z48, z256, z16, n20, ib 0#64, ia 0#64, b0, a0] at hr
        generalize hA : R Zg _ _ = q at hr
        obtain ⟨id, H2, rfl, hW⟩ := mk _ (by ((repeat (first | exact Keeps.refl _ | assumption | refine Keeps.new' ?_ _ | refine Keeps.set ?_ ?_ _)) <;> (first | assumption | (simp; done) | (simp; omega)))) _ hA
        simp at hr
        rw [← hr]
        exact hW
  have g13 := grp
  clear grp
  by_cases grp : n.op = 19
  · have z8 : tbit n.op 8 = 0 := t8.2 (by omega)
    have z64 : tbit n.op 64 = 0 := t64.2 (by omega)
    have z48 : ¬ tbit n.op 48 = 0 := fun hh => t48.1 hh (by omega)
    have z256 : tbit n.op 256 = 0 := t256.2 (by omega)
    have z16 : tbit n.op 16 = 0 := t16.2 (by omega)
    have n20 : ¬ n.op = 20 := by omega
    cases b0 : isF ns n.b 0#64 with
    | true =>
      have hB : besideF ns n = .at n.a := by
        simp [besideF, grp, b0]
      rw [hB]
      simp (maxDischargeDepth := 40) [Zo, z8, z64, z48, ib 0#64, b0] at hr
      rw [← hr]
      exact Wv.stay h _
    | false =>
      have hB : besideF ns n = .mk := by
        simp [besideF, grp, b0]
      rw [hB]
      simp (maxDischargeDepth := 40) [Zo, z8, z64, z48, z256, z16, n20, ib 0#64, b0] at hr
      generalize hA : R Zg _ _ = q at hr
      obtain ⟨id, H2, rfl, hW⟩ := mk _ (by ((repeat (first | exact Keeps.refl _ | assumption | refine Keeps.new' ?_ _ | refine Keeps.set ?_ ?_ _)) <;> (first | assumption | (simp; done) | (simp; omega)))) _ hA
      simp at hr
      rw [← hr]
      exact hW
  have g19 := grp
  clear grp
  by_cases grp : n.op = 21
  · have z8 : tbit n.op 8 = 0 := t8.2 (by omega)
    have z64 : tbit n.op 64 = 0 := t64.2 (by omega)
    have z48 : tbit n.op 48 = 0 := t48.2 (by omega)
    have z256 : ¬ tbit n.op 256 = 0 := fun hh => t256.1 hh (by omega)
    have z16 : tbit n.op 16 = 0 := t16.2 (by omega)
    have n20 : ¬ n.op = 20 := by omega
    cases b1 : isF ns n.b 1#64 with
    | true =>
      have hB : besideF ns n = .at n.a := by
        simp [besideF, grp, b1]
      rw [hB]
      simp (maxDischargeDepth := 40) [Zo, z8, z64, z48, z256, ib 1#64, b1] at hr
      rw [← hr]
      exact Wv.stay h _
    | false =>
      have hB : besideF ns n = .mk := by
        simp [besideF, grp, b1]
      rw [hB]
      simp (maxDischargeDepth := 40) [Zo, z8, z64, z48, z256, z16, n20, ib 1#64, b1] at hr
      generalize hA : R Zg _ _ = q at hr
      obtain ⟨id, H2, rfl, hW⟩ := mk _ (by ((repeat (first | exact Keeps.refl _ | assumption | refine Keeps.new' ?_ _ | refine Keeps.set ?_ ?_ _)) <;> (first | assumption | (simp; done) | (simp; omega)))) _ hA
      simp at hr
      rw [← hr]
      exact hW
  have g21 := grp
  clear grp
  have z8 : tbit n.op 8 = 0 := t8.2 (by omega)
  have z64 : tbit n.op 64 = 0 := t64.2 (by omega)
  have z48 : tbit n.op 48 = 0 := t48.2 (by omega)
  have z256 : tbit n.op 256 = 0 := t256.2 (by omega)
  have z16 : tbit n.op 16 = 0 := t16.2 (by omega)
  have n20 : ¬ n.op = 20 := by omega
  have hB : besideF ns n = .mk := by
    unfold besideF
    rw [if_neg (by omega), if_neg (by omega), if_neg (by omega), if_neg (by omega)]
  rw [hB]
  simp (maxDischargeDepth := 40) [Zo, z8, z64, z48, z256, z16, n20] at hr
  generalize hA : R Zg _ _ = q at hr
  obtain ⟨id, H2, rfl, hW⟩ := mk _ (by ((repeat (first | exact Keeps.refl _ | assumption | refine Keeps.new' ?_ _ | refine Keeps.set ?_ ?_ _)) <;> (first | assumption | (simp; done) | (simp; omega)))) _ hA
  simp at hr
  rw [← hr]
  exact hW
end
end Go.Proofs.Ytiobohfiaapgeaa
end
