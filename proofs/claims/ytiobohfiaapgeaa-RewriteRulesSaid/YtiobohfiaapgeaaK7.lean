/- Texts SJ SK RFA RFB RFC RRA RRB RRC SL SM SN SO SP BVN SQ SR SRB SS ST SU of this claim, one behind the other. -/
import Derived.Test.YtiobohfiaapgeaaK6
section
namespace Go.Proofs.Ytiobohfiaapgeaa
set_option maxRecDepth 100000
set_option maxHeartbeats 2000000
def simF (most : Int) (f : Nat) : List Int → List Nd → (Int → Int) → List Nd × (Int → Int) × Int
  | [], ns, d => (ns, d, 0)
  | k :: l, ns, d =>
    if (normF most f ns { ndF ns k with a := d (ndF ns k).a, b := d (ndF ns k).b, c := d (ndF ns k).c }).2.2 = 0 then simF most f l (normF most f ns { ndF ns k with a := d (ndF ns k).a, b := d (ndF ns k).b, c := d (ndF ns k).c }).1 (fun x => if x = k then (normF most f ns { ndF ns k with a := d (ndF ns k).a, b := d (ndF ns k).b, c := d (ndF ns k).c }).2.1 else d x)
    else ((normF most f ns { ndF ns k with a := d (ndF ns k).a, b := d (ndF ns k).b, c := d (ndF ns k).c }).1, d, (normF most f ns { ndF ns k with a := d (ndF ns k).a, b := d (ndF ns k).b, c := d (ndF ns k).c }).2.2)
structure Did (ns0 ns : List Nd) (d : Int → Int) (P : Int → Prop) : Prop where
  more : ∃ t, ns = ns0 ++ t ∧ ∀ m, m ∈ t → ¬ m.op = 2
  gok : Gok ns
  zero : ∀ x, x ≤ 0 → d x = 0
  did : ∀ x, P x → 1 ≤ x → x ≤ ns0.length → 1 ≤ d x ∧ d x ≤ ns.length ∧ (ndF ns (d x)).sort = (ndF ns0 x).sort ∧ ∀ look, AllFit look ns0 → V look ns (d x) = V look ns0 x
theorem Did.fit {ns0 ns : List Nd} {d : Int → Int} {P : Int → Prop} (h : Did ns0 ns d P) {look : ByteArray → Option Vl} (hA : AllFit look ns0) : AllFit look ns := by
  obtain ⟨t, ht, hno⟩ := h.more
  rw [ht]; exact hA.appends hno
theorem ksort_at {ns : List Nd} {k : Int} (h1 : 1 ≤ k) (h2 : k ≤ ns.length) : ksort ns k = [(ndF ns k).sort] := by
  obtain ⟨i, rfl, hi⟩ := nd_at h1 h2
  exact ksort_pos (by omega) (by rw [show ((i : Int) + 1 - 1).toNat = i by omega]; exact hi)
structure Next (ns0 ns : List Nd) (d : Int → Int) (k : Int) : Prop where
  form : formedF ns.length { ndF ns k with a := d (ndF ns k).a, b := d (ndF ns k).b, c := d (ndF ns k).c } = true
  srt : sortedF ns { ndF ns k with a := d (ndF ns k).a, b := d (ndF ns k).b, c := d (ndF ns k).c } = ({ ndF ns k with a := d (ndF ns k).a, b := d (ndF ns k).b, c := d (ndF ns k).c }, 0)
  nd : ndF ns k = ndF ns0 k
  low : (ndF ns k).op = 1 ∨ (ndF ns k).op = 2 → ({ ndF ns k with a := d (ndF ns k).a, b := d (ndF ns k).b, c := d (ndF ns k).c } : Nd) = ndF ns k
  val : ∀ look, AllFit look ns0 → nodeV look (valsV look ns) { ndF ns k with a := d (ndF ns k).a, b := d (ndF ns k).b, c := d (ndF ns k).c } = V look ns0 k
theorem next_ok {ns0 ns : List Nd} {d : Int → Int} {P : Int → Prop} (g0 : Gok ns0) (h : Did ns0 ns d P) {k : Int} (h1 : 1 ≤ k) (h2 : k ≤ ns0.length) (hP : ∀ y, (y = (ndF ns0 k).a ∨ y = (ndF ns0 k).b ∨ y = (ndF ns0 k).c) → 0 < y → P y) : Next ns0 ns d k := by
  obtain ⟨t, ht, hno⟩ := h.more
  have hnd : ndF ns k = ndF ns0 k := by rw [ht, ndF_more h1 h2]
  obtain ⟨i, hi, hn⟩ := nd_at h1 h2
  have hmem0 : ndF ns0 k ∈ ns0 := List.mem_of_getElem? hn
  have hf0 := g0.form _ hmem0
  have hs0 := g0.srt _ hmem0
  obtain ⟨⟨a0, a1⟩, ⟨b0, b1⟩, ⟨c0, c1⟩⟩ := g0.kok i _ hn
  obtain ⟨m, hm⟩ : ∃ m, m = ndF ns0 k := ⟨_, rfl⟩
  have hnk : ndF ns k = m := hnd.trans hm.symm
  rw [← hm] at hf0 hs0 hmem0 hP a0 a1 b0 b1 c0 c1
  have hlen : i < ns0.length := (List.getElem?_eq_some_iff.1 hn).1
  have kid : ∀ y, (y = m.a ∨ y = m.b ∨ y = m.c) → (y = 0 ∧ d y = 0) ∨ (1 ≤ y ∧ y ≤ ns0.length ∧ 1 ≤ d y ∧ d y ≤ ns.length ∧ (ndF ns (d y)).sort = (ndF ns0 y).sort ∧ ∀ look, AllFit look ns0 → V look ns (d y) = V look ns0 y) := fun y hy => by
    have hy1 : 0 ≤ y ∧ y ≤ i := by rcases hy with rfl | rfl | rfl <;> omega
    by_cases c : y = 0
    · exact .inl ⟨c, h.zero y (by omega)⟩
    · have := h.did y (hP y hy (by omega)) (by omega) (by omega)
      exact .inr ⟨by omega, by omega, this.1, this.2.1, this.2.2.1, this.2.2.2⟩
  have kok : ∀ (ar : Int) (j : Nat) (y : Int), (y = m.a ∨ y = m.b ∨ y = m.c) → kidOK ns0.length ar j y = true → kidOK ns.length ar j (d y) = true := fun ar j y hy hk => by
    unfold kidOK at hk ⊢
    rcases kid y hy with ⟨e1, e2⟩ | ⟨e1, e2, e3, e4, -⟩
    · rw [e2]; rw [e1] at hk
      split
      · rename_i c; rw [if_pos c] at hk; simp at hk
      · simp
    · split
      · simp [e3, e4]
      · rename_i c; rw [if_neg c] at hk
        simp at hk; omega
  have ks : ∀ y, (y = m.a ∨ y = m.b ∨ y = m.c) → ksort ns (d y) = ksort ns0 y := fun y hy => by
    rcases kid y hy with ⟨e1, e2⟩ | ⟨e1, e2, e3, e4, e5, -⟩
    · rw [e2, e1, ksort_none rfl, ksort_none rfl]
    · rw [ksort_at e3 e4, ksort_at e1 e2, e5]
  have ha := kid m.a (.inl rfl)
  have hb := kid m.b (.inr (.inl rfl))
  have hc := kid m.c (.inr (.inr rfl))
  have hlow : m.op = 1 ∨ m.op = 2 → ({ m with a := d m.a, b := d m.b, c := d m.c } : Nd) = m := fun ho => by
    unfold formedF at hf0
    have har : arity m.op = 0 := by rcases ho with h | h <;> rw [h] <;> decide
    simp only [kidsOK, kidOK, har, Bool.and_eq_true] at hf0
    obtain ⟨⟨z1, z2, z3, -⟩, -⟩ := hf0
    simp at z1 z2 z3
    obtain ⟨op, sort, a, b, c, p, q, vw, vl, vh, name⟩ := m
    simp only at z1 z2 z3 ⊢
    subst z1; subst z2; subst z3
    rw [h.zero 0 (by omega)]
  refine ⟨?_, ?_, hnd, fun ho => by rw [hnk] at ho ⊢; exact hlow ho, fun look hA => ?_⟩
  · rw [hnk]
    unfold formedF at hf0 ⊢
    simp only [kidsOK, Bool.and_eq_true] at hf0 ⊢
    obtain ⟨⟨z1, z2, z3, -⟩, z4⟩ := hf0
    exact ⟨⟨kok _ _ _ (.inl rfl) z1, kok _ _ _ (.inr (.inl rfl)) z2, kok _ _ _ (.inr (.inr rfl)) z3, trivial⟩, z4⟩
  · rw [hnk]
    by_cases o12 : m.op = 1 ∨ m.op = 2
    · rw [hlow o12]
      exact h.gok.srt m (by rw [ht]; exact List.mem_append_left _ hmem0)
    · unfold sortedF at hs0 ⊢
      rw [if_neg (by omega), if_neg (by omega)] at hs0
      simp only
      rw [if_neg (by omega), if_neg (by omega), ks _ (.inl rfl), ks _ (.inr (.inl rfl)), ks _ (.inr (.inr rfl))]
      have q1 := congrArg Prod.snd hs0
      have q2 := congrArg (fun x => x.1.sort) hs0
      simp only at q1 q2
      rw [q1, q2]
  · have hv0 : V look ns0 k = nodeV look (valsV look ns0) m := by
      have := V_node (look := look) g0.kok hn
      rw [← hi, ← hm] at this
      exact this
    rw [hv0, hnk]
    have pk : ∀ y, (y = m.a ∨ y = m.b ∨ y = m.c) → pick (valsV look ns) (d y) = pick (valsV look ns0) y := fun y hy => by
      rcases kid y hy with ⟨e1, e2⟩ | ⟨e1, e2, e3, e4, e5, e6⟩
      · rw [e2, e1]; rfl
      · exact e6 look hA
    unfold nodeV kidsV
    simp only
    rw [pk _ (.inl rfl), pk _ (.inr (.inl rfl)), pk _ (.inr (.inr rfl))]
    rfl
theorem norm_low {most : Int} {f : Nat} {ns : List Nd} {n : Nd} (h : n.op = 1 ∨ n.op = 2) : normF most (f + 1) ns n = makT most ns n := by
  unfold normF pathF
  have har : arity n.op = 0 := by rcases h with h | h <;> rw [h] <;> decide
  rw [if_pos har]
theorem mak_there {most : Int} {ns : List Nd} {n : Nd} (g : Gok ns) (hn : n ∈ ns) : ∃ i : Nat, makT most ns n = (ns, (i : Int) + 1, 0) ∧ ns[i]? = some n := by
  unfold makT
  have hs := g.srt n hn
  rw [if_neg (by rw [g.form n hn]; simp), if_neg (by rw [hs]; simp), hs]
  simp only
  cases hi : idx ns n with
  | none => exact absurd hn (idx_none hi)
  | some i =>
    unfold idx at hi
    obtain ⟨h1, h2, -⟩ := List.findIdx?_eq_some_iff_getElem.1 hi
    have h2 := of_decide_eq_true h2
    exact ⟨i, rfl, by rw [List.getElem?_eq_getElem h1, h2]⟩
theorem norm_next {most : Int} {f : Nat} {ns0 ns : List Nd} {d : Int → Int} {P : Int → Prop} (_g0 : Gok ns0) (h : Did ns0 ns d P) {k : Int} (h1 : 1 ≤ k) (h2 : k ≤ ns0.length) (N : Next ns0 ns d k) {n : Nd} (hn : n = { ndF ns k with a := d (ndF ns k).a, b := d (ndF ns k).b, c := d (ndF ns k).c }) (hf : (ns.length : Int) + 2 ≤ f) :
    ((normF most f ns n).2.2 = 0 ∨ (normF most f ns n).2.2 = 33) ∧ ((normF most f ns n).2.2 = 0 → Did ns0 (normF most f ns n).1 (fun x => if x = k then (normF most f ns n).2.1 else d x) (fun x => P x ∨ x = k)) := by
  obtain ⟨t, ht, hno⟩ := h.more
  have g := h.gok
  have nf := N.form
  have nsr := N.srt
  have nv := N.val
  rw [← hn] at nf nsr nv
  have hle : ns0.length ≤ ns.length := by rw [ht]; simp
  obtain ⟨f, rfl⟩ : ∃ f', f = f' + 1 := ⟨f - 1, by omega⟩
  have fin : ∀ x : List Nd × Int × Int, NV ns n (ndF ns0 k).sort x → Did ns0 x.1 (fun y => if y = k then x.2.1 else d y) (fun y => P y ∨ y = k) := fun x X => by
    obtain ⟨t2, ht2, hno2⟩ := X.more
    have hl2 : ns.length ≤ x.1.length := by rw [ht2]; simp
    refine ⟨⟨t ++ t2, by rw [ht2, ht, List.append_assoc], fun m hm => ?_⟩, X.gok, fun y hy => ?_, fun y hy y1 y2 => ?_⟩
    · rcases List.mem_append.1 hm with h | h
      · exact hno m h
      · exact hno2 m h
    · rw [if_neg (by omega)]; exact h.zero y hy
    · by_cases c : y = k
      · subst c
        simp only [if_true]
        exact ⟨X.lo, X.hi, X.srt, fun look hA => by rw [X.val look (h.fit hA), nv look hA]⟩
      · simp only [if_neg c]
        rcases hy with hy | hy
        · obtain ⟨d1, d2, d3, d4⟩ := h.did y hy y1 y2
          refine ⟨d1, by omega, ?_, fun look hA => ?_⟩
          · rw [ht2, ndF_more d1 d2]; exact d3
          · rw [ht2, V_more d2]; exact d4 look hA
        · exact absurd hy c
  have hsort : n.sort = (ndF ns0 k).sort := by rw [hn, ← N.nd]
  by_cases o12 : n.op = 1 ∨ n.op = 2
  · have hno2 : n = ndF ns k := by rw [hn]; exact N.low (by rw [hn] at o12; exact o12)
    obtain ⟨i, hi, hni⟩ := nd_at (ns := ns) h1 (by omega)
    have hmem : n ∈ ns := by rw [hno2]; exact List.mem_of_getElem? hni
    obtain ⟨j, hj, hnj⟩ := mak_there (most := most) g hmem
    rw [norm_low o12, hj]
    refine ⟨.inl rfl, fun _ => fin (ns, (j : Int) + 1, 0) ⟨⟨[], by simp, by simp⟩, g, by show (1 : Int) ≤ (j : Int) + 1; omega, ?_, ?_, fun look hA => V_node g.kok hnj⟩⟩
    · have := (List.getElem?_eq_some_iff.1 hnj).1
      show (j : Int) + 1 ≤ ns.length
      omega
    · show (ndF ns ((j : Int) + 1)).sort = _
      obtain ⟨j', hj', hnj'⟩ := nd_at (ns := ns) (k := (j : Int) + 1) (by omega) (by have := (List.getElem?_eq_some_iff.1 hnj).1; omega)
      have : j' = j := by omega
      subst this
      rw [hnj] at hnj'
      cases hnj'
      rw [← hsort]
  · have hr : rankF n ≤ f + 1 := by
      obtain ⟨k1, -, -⟩ := formed_kids nf
      unfold rankF
      split
      · omega
      · split <;> omega
    have hne := norm_fuel (most := most) (f + 1) g nf (by rw [nsr]) (by omega) (by omega) hr
    obtain ⟨r1, r2⟩ := norm_val (f + 1) g nf (by rw [nsr]) (by omega) (by omega) hne
    rw [nsr] at r1
    refine ⟨r2, fun h0 => fin _ ?_⟩
    rw [← hsort]
    exact r1 h0
end Go.Proofs.Ytiobohfiaapgeaa
end
section
namespace Go.Proofs.Ytiobohfiaapgeaa
set_option maxRecDepth 100000
set_option maxHeartbeats 2000000
theorem mak_len {most L : Int} {ns : List Nd} {n : Nd} (h1 : (ns.length : Int) ≤ L) (h2 : most ≤ L) : (((makT most ns n).1).length : Int) ≤ L := by
  unfold makT
  split
  · exact h1
  · split
    · exact h1
    · split
      · exact h1
      · split
        · exact h1
        · simp; omega
theorem norm_len {most L : Int} (h2 : most ≤ L) : ∀ (f : Nat) {ns : List Nd} {n : Nd}, (ns.length : Int) ≤ L → (((normF most f ns n).1).length : Int) ≤ L
  | 0, _, _, h => h
  | f + 1, ns, n, h => by
    unfold normF
    split
    · exact h
    · exact mak_len h h2
    · exact mak_len h h2
    · exact norm_len h2 f h
    · split
      · exact norm_len h2 f (mak_len h h2)
      · exact mak_len h h2
theorem mem_pre {l pre : List Int} {k y : Int} (hp : (pre ++ k :: l).Pairwise (· < ·)) (hy : y ∈ pre ++ k :: l) (hk : y < k) : y ∈ pre := by
  rcases List.mem_append.1 hy with h | h
  · exact h
  · rcases List.mem_cons.1 h with rfl | h
    · omega
    · have := (List.pairwise_cons.1 (List.pairwise_append.1 hp).2.1).1 y h
      omega
theorem sim_ok {most L : Int} {f : Nat} {ns0 : List Nd} {id : Int} (g0 : Gok ns0) (h1 : 1 ≤ id) (h2 : id ≤ ns0.length) (hL : most ≤ L) (hf : L + 2 ≤ f) : ∀ (l pre : List Int) (ns : List Nd) (d : Int → Int), coneT ns0 id = pre ++ l → Did ns0 ns d (fun x => x ∈ pre) → (ns.length : Int) ≤ L →
    ((simF most f l ns d).2.2 = 0 ∨ (simF most f l ns d).2.2 = 33) ∧ ((simF most f l ns d).2.2 = 0 → Did ns0 (simF most f l ns d).1 (simF most f l ns d).2.1 (fun x => x ∈ coneT ns0 id))
  | [], pre, ns, d, hc, hd, _ => by
    unfold simF
    refine ⟨.inl rfl, fun _ => ?_⟩
    rw [hc, List.append_nil]
    exact hd
  | k :: l, pre, ns, d, hc, hd, hl => by
    have hk : k ∈ coneT ns0 id := by rw [hc]; simp
    obtain ⟨j, rfl, j1, j2⟩ := cone_mem hk
    have hrise := cone_rises ns0 id
    rw [hc] at hrise
    have k1 : (1 : Int) ≤ (j : Int) := by omega
    have k2 : (j : Int) ≤ ns0.length := by omega
    obtain ⟨i, hi, hni⟩ := nd_at k1 k2
    have N := next_ok g0 hd k1 k2 fun y hy h0 => by
      have := cone_kid g0.kok h1 h2 (j := i) (n := ndF ns0 j) (by rw [← hi]; exact hk) hni hy h0
      rw [← hi] at this
      refine mem_pre hrise ?_ this.2
      rw [← hc]; exact this.1
    obtain ⟨n, hn⟩ : ∃ n, n = ({ ndF ns j with a := d (ndF ns j).a, b := d (ndF ns j).b, c := d (ndF ns j).c } : Nd) := ⟨_, rfl⟩
    obtain ⟨r1, r2⟩ := norm_next (most := most) (f := f) g0 hd k1 k2 N hn (by omega)
    have hlen := norm_len hL f (n := n) hl
    unfold simF
    rw [← hn]
    by_cases h0 : (normF most f ns n).2.2 = 0
    · rw [if_pos h0]
      refine sim_ok g0 h1 h2 hL hf l (pre ++ [(j : Int)]) _ _ (by rw [hc]; simp) ?_ hlen
      have D := r2 h0
      exact ⟨D.more, D.gok, D.zero, fun x hx => D.did x (by simpa using hx)⟩
    · rw [if_neg h0]
      exact ⟨r1, fun h => absurd h h0⟩
def simT (most : Int) (f : Nat) (ns : List Nd) (id : Int) : List Nd × Int × Int :=
  if id < 1 ∨ (ns.length : Int) < id then (ns, 0, 70)
  else if (simF most f (coneT ns id) ns fun _ => 0).2.2 = 0 then ((simF most f (coneT ns id) ns fun _ => 0).1, (simF most f (coneT ns id) ns fun _ => 0).2.1 id, 0)
  else ((simF most f (coneT ns id) ns fun _ => 0).1, 0, (simF most f (coneT ns id) ns fun _ => 0).2.2)
theorem cone_self {ns : List Nd} (kok : Kok ns) {id : Int} (h1 : 1 ≤ id) (h2 : id ≤ ns.length) : id ∈ coneT ns id := by
  obtain ⟨j, rfl⟩ : ∃ j : Nat, id = j := ⟨id.toNat, by omega⟩
  refine (mem_cone kok (by omega) h2 (by omega)).2 ?_
  exact cP_self kok _ (by omega)
structure Simp (ns : List Nd) (id : Int) (x : List Nd × Int × Int) : Prop where
  more : ∃ t, x.1 = ns ++ t ∧ ∀ m, m ∈ t → ¬ m.op = 2
  gok : Gok x.1
  lo : 1 ≤ x.2.1
  hi : x.2.1 ≤ x.1.length
  srt : (ndF x.1 x.2.1).sort = (ndF ns id).sort
  val : ∀ look, AllFit look ns → V look x.1 x.2.1 = V look ns id
theorem simT_ok {most L : Int} {f : Nat} {ns : List Nd} {id : Int} (g : Gok ns) (h1 : 1 ≤ id) (h2 : id ≤ ns.length) (hL : most ≤ L) (hl : (ns.length : Int) ≤ L) (hf : L + 2 ≤ f) : ((simT most f ns id).2.2 = 0 ∧ Simp ns id (simT most f ns id)) ∨ (simT most f ns id).2.2 = 33 := by
  have D0 : Did ns ns (fun _ => 0) (fun x => x ∈ ([] : List Int)) := ⟨⟨[], by simp, by simp⟩, g, fun _ _ => rfl, fun x hx => by cases hx⟩
  obtain ⟨r1, r2⟩ := sim_ok (most := most) g h1 h2 hL hf (coneT ns id) [] ns (fun _ => 0) (by simp) D0 hl
  unfold simT
  rw [if_neg (by omega)]
  by_cases h0 : (simF most f (coneT ns id) ns fun _ => 0).2.2 = 0
  · rw [if_pos h0]
    have D := r2 h0
    obtain ⟨d1, d2, d3, d4⟩ := D.did id (cone_self g.kok h1 h2) h1 h2
    exact .inl ⟨rfl, D.more, D.gok, d1, d2, d3, d4⟩
  · rw [if_neg h0]
    exact .inr (r1.resolve_left h0)
end Go.Proofs.Ytiobohfiaapgeaa
end
section
namespace Go.Proofs.Ytiobohfiaapgeaa
set_option maxRecDepth 100000
set_option maxHeartbeats 2000000
theorem ndF_out {ns : List Nd} {k : Int} (h : k < 1) : ndF ns k = Nd.zero := by
  unfold ndF nodeS
  rw [if_pos (by omega)]
  rfl
theorem ndF_le {ns t : List Nd} {k : Int} (h2 : k ≤ ns.length) : ndF (ns ++ t) k = ndF ns k := by
  by_cases c : 1 ≤ k
  · exact ndF_more c h2
  · rw [ndF_out (by omega), ndF_out (by omega)]
section
variable {ns t : List Nd}
theorem conF_le {k : Int} (h2 : k ≤ ns.length) : conF (ns ++ t) k = conF ns k := by unfold conF; rw [ndF_le h2]
theorem isF_le {k : Int} {b : BitVec 64} (h2 : k ≤ ns.length) : isF (ns ++ t) k b = isF ns k b := by unfold isF; rw [conF_le h2]
theorem consF_le : ∀ {l : List Int}, (∀ k, k ∈ l → k ≤ ns.length) → consF (ns ++ t) l = consF ns l
  | [], _ => rfl
  | k :: l, h => by
    unfold consF
    rw [conF_le (h k (by simp)), consF_le fun x hx => h x (by simp [hx])]
theorem foldF_le {n : Nd} (h1 : n.a ≤ ns.length) (h2 : n.b ≤ ns.length) (h3 : n.c ≤ ns.length) : foldF (ns ++ t) n = foldF ns n := by
  unfold foldF
  rw [consF_le fun k hk => by
    have := List.mem_of_mem_take hk
    simp at this
    rcases this with rfl | rfl | rfl <;> assumption]
theorem kid_le (kok : Kok ns) {k : Int} (h2 : k ≤ ns.length) : (ndF ns k).a ≤ ns.length ∧ (ndF ns k).b ≤ ns.length ∧ (ndF ns k).c ≤ ns.length := by
  by_cases c : 1 ≤ k
  · obtain ⟨i, hi, hn⟩ := nd_at c h2
    obtain ⟨⟨-, a1⟩, ⟨-, b1⟩, ⟨-, c1⟩⟩ := kok i _ hn
    omega
  · rw [ndF_out (by omega)]
    simp [Nd.zero]
theorem sliceF_le (kok : Kok ns) {n : Nd} (h1 : n.a ≤ ns.length) : sliceF (ns ++ t) n (ndF ns n.a) = sliceF ns n (ndF ns n.a) := by
  obtain ⟨k1, k2, -⟩ := kid_le kok h1
  unfold sliceF
  rw [ndF_le k1, ndF_le k2]
theorem pathF_le (kok : Kok ns) {n : Nd} (h1 : n.a ≤ ns.length) (h2 : n.b ≤ ns.length) (h3 : n.c ≤ ns.length) : pathF (ns ++ t) n = pathF ns n := by
  unfold pathF unC iteC binC logicF besideF doubleF
  simp only [foldF_le h1 h2 h3, ndF_le h1, conF_le h1, conF_le h2, isF_le h1, isF_le h2, sliceF_le kok h1]
end
theorem pathF_sort {ns : List Nd} {n : Nd} {s : Int} : pathF ns { n with sort := s } = pathF ns n := rfl
theorem pathF_low {ns : List Nd} {n : Nd} (h : n.op = 1 ∨ n.op = 2) : pathF ns n = .mk := by
  unfold pathF
  have har : arity n.op = 0 := by rcases h with h | h <;> rw [h] <;> decide
  rw [if_pos har]
structure Nrm (ns : List Nd) (S : List Int) : Prop where
  lo : ∀ y, y ∈ S → 1 ≤ y
  hi : ∀ y, y ∈ S → y ≤ ns.length
  at' : ∀ y, y ∈ S → idx ns (ndF ns y) = some (y - 1).toNat
  stay : ∀ y, y ∈ S → pathF ns (ndF ns y) = .mk
  kid : ∀ y, y ∈ S → ∀ k, (k = (ndF ns y).a ∨ k = (ndF ns y).b ∨ k = (ndF ns y).c) → 0 < k → k ∈ S
theorem Nrm.nil (ns : List Nd) : Nrm ns [] := ⟨by simp, by simp, by simp, by simp, by simp⟩
theorem Nrm.more {ns : List Nd} {S : List Int} (h : Nrm ns S) (g : Gok ns) {ns' t : List Nd} (ht : ns' = ns ++ t) : Nrm ns' S := by
  subst ht
  have e : ∀ y, y ∈ S → ndF (ns ++ t) y = ndF ns y := fun y hy => ndF_le (h.hi y hy)
  refine ⟨h.lo, fun y hy => ?_, fun y hy => ?_, fun y hy => ?_, fun y hy => ?_⟩
  · have := h.hi y hy
    simp; omega
  · rw [e y hy]; exact idx_more (h.at' y hy)
  · rw [e y hy]
    obtain ⟨k1, k2, k3⟩ := kid_le g.kok (h.hi y hy)
    rw [pathF_le g.kok k1 k2 k3]
    exact h.stay y hy
  · rw [e y hy]; exact h.kid y hy
theorem mak_nrm {most : Int} {ns : List Nd} {n : Nd} (g : Gok ns) (hf : formedF ns.length n = true) (hs : (sortedF ns n).2 = 0) (h2 : ¬ n.op = 2) {S : List Int} (h : Nrm ns S) (hk : ∀ k, (k = n.a ∨ k = n.b ∨ k = n.c) → 0 < k → k ∈ S) (hp : pathF ns n = .mk) (h0 : (makT most ns n).2.2 = 0) :
    Nrm (makT most ns n).1 (S ++ [(makT most ns n).2.1]) ∧ (ndF (makT most ns n).1 (makT most ns n).2.1).op = n.op := by
  obtain ⟨-, hm⟩ := mak_ok (most := most) g hf hs
  rcases hm with ⟨-, ⟨t, ht, -⟩, l1, l2, hn⟩ | ⟨he, -⟩
  rotate_left
  · rw [he] at h0; cases h0
  have hmm := make_made (most := most) (n := n) g.vok (js := (makT most ns n).1) (l := (makT most ns n).2.1) (e := (makT most ns n).2.2) rfl
  rcases hmm with ⟨-, M, i, hM, hi, -⟩ | ⟨he, -⟩
  rotate_left
  · exact absurd h0 he
  obtain ⟨X, hX⟩ : ∃ X, X = makT most ns n := ⟨_, rfl⟩
  rw [← hX] at ht l1 l2 hn hi hM ⊢
  obtain ⟨p1, p2, p3, p4, p5, p6, -, -⟩ := sorted_parts (ns := ns) h2
  have hs' : (sortedF ns n).1 = { n with sort := (sortedF ns n).1.sort } := by
    unfold sortedF
    by_cases c : n.op = 1
    · rw [if_pos c]
    · rw [if_neg c, if_neg h2]
  have hN := h.more g ht
  have hid : idx X.1 (ndF X.1 X.2.1) = some (X.2.1 - 1).toNat := by
    have h1 := hM.at'
    obtain ⟨j, hj, hnj⟩ := nd_at l1 l2
    have hji : j = i := by omega
    subst hji
    obtain ⟨q1, q2, -⟩ := List.findIdx?_eq_some_iff_getElem.1 h1
    have q2 := of_decide_eq_true q2
    have q3 : X.1[j]? = some M := by rw [List.getElem?_eq_getElem q1, ← q2]
    rw [hnj] at q3
    cases q3
    rw [hi, show ((j : Int) + 1 - 1).toNat = j by omega]
    rw [hi] at h1
    exact h1
  obtain ⟨f1, f2, f3⟩ := formed_kids hf
  refine ⟨⟨fun y hy => ?_, fun y hy => ?_, fun y hy => ?_, fun y hy => ?_, fun y hy k hk' h0 => ?_⟩, by rw [hn]; exact p1⟩
  · rcases List.mem_append.1 hy with hy | hy
    · exact h.lo y hy
    · simp at hy; subst hy; exact l1
  · rcases List.mem_append.1 hy with hy | hy
    · exact hN.hi y hy
    · simp at hy; subst hy; exact l2
  · rcases List.mem_append.1 hy with hy | hy
    · exact hN.at' y hy
    · simp at hy; subst hy; exact hid
  · rcases List.mem_append.1 hy with hy | hy
    · exact hN.stay y hy
    · simp at hy; subst hy
      rw [hn, hs', pathF_sort, ht, pathF_le g.kok f1 f2 f3]
      exact hp
  · rcases List.mem_append.1 hy with hy | hy
    · exact List.mem_append_left _ (hN.kid y hy k hk' h0)
    · simp at hy; subst hy
      rw [hn, p4, p5, p6] at hk'
      exact List.mem_append_left _ (hk k hk' h0)
def srcF (ns : List Nd) (n : Nd) : Ch → Prop
  | .at k => k = n.a ∨ k = n.b ∨ k = n.c ∨ k = (ndF ns n.a).a
  | .again m => (m.op = 39 ∨ m.op = 3) ∧ (m.a = n.a ∨ m.a = n.b ∨ m.a = (ndF ns n.a).a ∨ m.a = (ndF ns n.a).b) ∧ m.b = 0 ∧ m.c = 0
  | .shl x _ => n.op = 20 ∧ (x = n.a ∨ x = n.b)
  | _ => True
theorem logicC_src {ns : List Nd} {n : Nd} {op : Int} {v : Vl} {a b : Int} {c : Ch} (ha : a = n.a ∨ a = n.b) (hb : b = n.a ∨ b = n.b) (h : logicC op v a b = some c) : srcF ns n c := by
  unfold logicC at h
  have h1 : srcF ns n (.at a) := by rcases ha with h | h <;> simp [srcF, h]
  have h2 : srcF ns n (.at b) := by rcases hb with h | h <;> simp [srcF, h]
  have h3 : srcF ns n (.again (nodeO 3 b 0 0 0 0)) := by rcases hb with h | h <;> simp [srcF, h, nodeO]
  have h4 : ∀ v, srcF ns n (.con v) := fun v => trivial
  repeat' split at h
  all_goals first | (cases h; first | exact h1 | exact h2 | exact h3 | exact h4 _) | cases h
theorem logicF_src {ns : List Nd} {n : Nd} {c : Ch} (h : logicF ns n = some c) : srcF ns n c := by
  unfold logicF at h
  split at h
  · cases h
  split at h
  · exact logicC_src (.inl rfl) (.inr rfl) h
  split at h
  · cases h
  split at h
  · exact logicC_src (.inr rfl) (.inl rfl) h
  · cases h
theorem slice_src {ns : List Nd} {n : Nd} : srcF ns n (sliceF ns n (ndF ns n.a)) := by
  unfold sliceF
  repeat' split
  all_goals simp [srcF, nodeO]
theorem beside_src {ns : List Nd} {n : Nd} : srcF ns n (besideF ns n) := by
  unfold besideF doubleF
  repeat' split
  all_goals first | trivial | (simp [srcF]; done) | (simp [srcF]; assumption)
theorem path_src {ns : List Nd} {n : Nd} : srcF ns n (pathF ns n) := by
  unfold pathF
  split
  · trivial
  split
  · unfold unC
    split
    · trivial
    · simp only
      repeat' split
      all_goals first | trivial | exact slice_src | (simp [srcF]; done)
  split
  · unfold iteC
    repeat' split
    all_goals first | trivial | (simp [srcF]; done)
  · unfold binC
    split
    · trivial
    repeat' split
    all_goals first | trivial | (simp [srcF]; done) | (exact logicF_src ‹_›) | exact beside_src
end Go.Proofs.Ytiobohfiaapgeaa
end
section
namespace Go.Proofs.Ytiobohfiaapgeaa
set_option maxRecDepth 100000
set_option maxHeartbeats 2000000
structure Grown (ns : List Nd) (S : List Int) (b : Nat) (x : List Nd × Int × Int) : Prop where
  ex : ∃ T : List Int, T.length ≤ b ∧ Nrm x.1 (S ++ T) ∧ x.2.1 ∈ S ++ T ∧ ∀ y, y ∈ T → ¬ (ndF x.1 y).op = 2
  more : ∃ t, x.1 = ns ++ t
theorem Grown.wide {ns : List Nd} {S : List Int} {b c : Nat} {x : List Nd × Int × Int} (h : Grown ns S b x) (hb : b ≤ c) : Grown ns S c x := by
  obtain ⟨⟨T, h1, h2⟩, h3⟩ := h
  exact ⟨⟨T, Nat.le_trans h1 hb, h2⟩, h3⟩
theorem Grown.made {most : Int} {ns : List Nd} {n : Nd} (g : Gok ns) (hf : formedF ns.length n = true) (hs : (sortedF ns n).2 = 0) (h2 : ¬ n.op = 2) {S : List Int} (h : Nrm ns S) (hk : ∀ k, (k = n.a ∨ k = n.b ∨ k = n.c) → 0 < k → k ∈ S) (hp : pathF ns n = .mk) (h0 : (makT most ns n).2.2 = 0) : Grown ns S 1 (makT most ns n) := by
  obtain ⟨h1, ho⟩ := mak_nrm g hf hs h2 h hk hp h0
  obtain ⟨t, ht, -⟩ := (NV.made g hf hs h2 h0).more
  refine ⟨⟨[(makT most ns n).2.1], by simp, h1, by simp, fun y hy => ?_⟩, t, ht⟩
  simp at hy; subst hy
  rw [ho]; exact h2
theorem norm_nrm {most : Int} : ∀ (f : Nat) {ns : List Nd} {n : Nd} {S : List Int}, Gok ns → formedF ns.length n = true → (sortedF ns n).2 = 0 → ¬ n.op = 2 → Nrm ns S → (∀ k, (k = n.a ∨ k = n.b ∨ k = n.c) → 0 < k → k ∈ S) → (normF most f ns n).2.2 = 0 → Grown ns S (if n.op = 20 then 2 else 1) (normF most f ns n)
  | 0, _, _, _, _, _, _, _, _, _, h => absurd h (by simp [normF])
  | f + 1, ns, n, S, g, hf, hs, h2, hN, hk, h0 => by
    have hb : 1 ≤ (if n.op = 20 then 2 else 1) := by split <;> omega
    by_cases h1 : n.op = 1
    · rw [norm_low (.inl h1)] at h0 ⊢
      exact (Grown.made g hf hs h2 hN hk (pathF_low (.inl h1)) h0).wide hb
    obtain ⟨look0, hA0⟩ := look_any g
    have hfit0 := node_fit g hA0 hf hs h1 h2
    have hgood0 := hfit0.good
    have hpv := path_val g hA0 hf hs h1 h2
    have hsrc := path_src (ns := ns) (n := n)
    have ha : ∀ k, k = n.a ∨ k = n.b ∨ k = n.c ∨ k = (ndF ns n.a).a ∨ k = (ndF ns n.a).b → 0 < k → k ∈ S := fun k h hk0 => by
      have in2 : ∀ k, (k = (ndF ns n.a).a ∨ k = (ndF ns n.a).b) → 0 < k → k ∈ S := fun k h hk0 => by
        by_cases c : 0 < n.a
        · exact hN.kid n.a (hk n.a (.inl rfl) c) k (by rcases h with h | h <;> simp [h]) hk0
        · rw [ndF_out (by omega)] at h
          simp [Nd.zero] at h
          omega
      rcases h with h | h | h | h | h
      · exact hk k (.inl h) hk0
      · exact hk k (.inr (.inl h)) hk0
      · exact hk k (.inr (.inr h)) hk0
      · exact in2 k (.inl h) hk0
      · exact in2 k (.inr h) hk0
    unfold normF at h0 ⊢
    cases hp : pathF ns n with
    | «at» k =>
      simp only [hp] at hpv hsrc ⊢
      have hk1 : 1 ≤ k := hpv.1
      refine ⟨⟨[], by simp, by simpa using hN, ?_, by simp⟩, [], by simp⟩
      rw [List.append_nil]
      refine ha k ?_ hk1
      rcases hsrc with h | h | h | h <;> simp [h]
    | con v =>
      simp only [hp] at h0 hpv ⊢
      change nodeV look0 (valsV look0 ns) n = v at hpv
      rw [nodeV_op h1 h2] at hpv
      have hvo : v.ok = true := by rw [← hpv]; exact hgood0.1
      obtain ⟨c1, c2⟩ := con_formed (ns := ns) hvo
      refine (Grown.made g c1 (by rw [c2]) (by simp [constN]) hN (fun k hk hk0 => ?_) (pathF_low (.inl rfl)) h0).wide hb
      simp [constN] at hk
      omega
    | mk =>
      simp only [hp] at h0 ⊢
      exact (Grown.made g hf hs h2 hN hk hp h0).wide hb
    | again m =>
      simp only [hp] at h0 hpv hsrc ⊢
      obtain ⟨m1, m2, m3, m4, -⟩ := hpv
      obtain ⟨s1, s2, s3, s4⟩ := hsrc
      have G := norm_nrm f g m3 (by rw [m4]) m2 hN (fun k hk hk0 => by
        rcases hk with h | h | h
        · refine ha k ?_ hk0
          rw [h]
          rcases s2 with h | h | h | h <;> simp [h]
        · omega
        · omega) h0
      rw [if_neg (by omega)] at G
      exact G.wide hb
    | shl x v =>
      simp only [hp] at h0 hpv hsrc ⊢
      obtain ⟨v1, v2, v3, x1, x2, x3, -⟩ := hpv
      obtain ⟨s1, s2⟩ := hsrc
      obtain ⟨c1, c2⟩ := con_formed (ns := ns) v1
      by_cases hm0 : (makT most ns (constN v)).2.2 = 0
      · rw [if_pos hm0] at h0 ⊢
        rw [if_pos s1]
        have M := NV.made (n := constN v) g c1 (by rw [c2]) (by simp [constN]) hm0
        rw [c2] at M
        obtain ⟨⟨T1, t1, t2, t3, t4⟩, -⟩ := Grown.made (n := constN v) g c1 (by rw [c2]) (by simp [constN]) hN (fun k hk hk0 => by simp [constN] at hk; omega) (pathF_low (.inl rfl)) hm0
        obtain ⟨X, hX⟩ : ∃ X, X = makT most ns (constN v) := ⟨_, rfl⟩
        rw [← hX] at M h0 t2 t3 t4 ⊢
        obtain ⟨t, ht, hno⟩ := M.more
        have hle : ns.length ≤ X.1.length := by rw [ht]; simp
        have hxs : (ndF X.1 x).sort = v.w := by rw [ht, ndF_more x1 x2]; exact x3
        have hw128 : v.w ≤ 128 := by
          unfold Vl.ok rightF at v1
          rw [if_neg (by omega)] at v1
          simp at v1
          omega
        obtain ⟨u1, u2⟩ := sorted_shl (x := x) (c := X.2.1) x1 (by omega) M.lo M.hi hxs (by rw [M.srt]; rfl) v3 hw128
        have G := norm_nrm f M.gok u1 (by rw [u2]) (by simp [nodeO]) t2 (fun k hk hk0 => by
          simp only [nodeO] at hk
          rcases hk with h | h | h
          · refine List.mem_append_left _ (ha k ?_ hk0)
            rw [h]
            rcases s2 with h | h <;> simp [h]
          · rw [h]; exact t3
          · omega) h0
        rw [if_neg (by simp [nodeO])] at G
        obtain ⟨⟨T2, w1, w2, w3, w4⟩, t', ht'⟩ := G
        refine ⟨⟨T1 ++ T2, by simp; omega, by rw [← List.append_assoc]; exact w2, by rw [← List.append_assoc]; exact w3, fun y hy => ?_⟩, t ++ t', by rw [ht', ht, List.append_assoc]⟩
        rcases List.mem_append.1 hy with h | h
        · have := t4 y h
          rw [ht', ndF_le (t2.hi y (by simp [h]))]
          exact this
        · exact w4 y h
      · rw [if_neg hm0] at h0
        exact absurd h0 hm0
theorem consF_some {ns : List Nd} : ∀ {l : List Int}, (∀ k, k ∈ l → (ndF ns k).op = 1) → ∃ vs, consF ns l = some vs
  | [], _ => ⟨[], rfl⟩
  | k :: l, h => by
    obtain ⟨vs, hv⟩ := consF_some (l := l) fun x hx => h x (by simp [hx])
    unfold consF conF
    rw [if_pos (h k (by simp)), hv]
    exact ⟨_, rfl⟩
theorem fold_some {ns : List Nd} (g : Gok ns) {n : Nd} (hf : formedF ns.length n = true) (hs : (sortedF ns n).2 = 0) (h1 : ¬ n.op = 1) (h2 : ¬ n.op = 2) (hk : ∀ k, k ∈ [n.a, n.b, n.c].take (arity n.op).toNat → (ndF ns k).op = 1) : ∃ v, foldF ns n = some v := by
  obtain ⟨look, hA⟩ := look_any g
  obtain ⟨l, hl⟩ := consF_some hk
  have hv := consF_val (look := look) (fun k v h => con_all g hA h) hl
  have hkl : kidsV (valsV look ns) n = l := by
    rw [hv]
    unfold kidsV
    rw [List.map_take]
    rfl
  have hkk := kids_list hf h1 h2 (valsV look ns) fun k hk h0 => by
    have hkl : k ≤ ns.length := by
      obtain ⟨k1, k2, k3⟩ := formed_kids hf
      rcases hk with rfl | rfl | rfl <;> assumption
    obtain ⟨i, rfl, hi⟩ := nd_at (by omega) hkl
    have K := kid_ok g hA (k := (i : Int) + 1) (by omega) hkl
    exact ⟨_, by rw [show ((i : Int) + 1 - 1).toNat = i by omega]; exact hi, K.ok, K.w⟩
  rw [hkl] at hkk
  have hz : (applyS n.op n.p n.q l).2 = 0 := by
    unfold sortedF at hs
    rw [if_neg h1, if_neg h2] at hs
    simp only at hs
    unfold applyS
    rw [sorts_ok hkk.2, hkk.1, if_pos hs]
  unfold foldF
  rw [hl]
  simp only [hz, if_true]
  exact ⟨_, rfl⟩
theorem norm_con {most : Int} {f : Nat} {ns : List Nd} {n : Nd} (g : Gok ns) (hf : formedF ns.length n = true) (hs : (sortedF ns n).2 = 0) (h2 : ¬ n.op = 2) (hk : ∀ k, (k = n.a ∨ k = n.b ∨ k = n.c) → 0 < k → (ndF ns k).op = 1) (h0 : (normF most f ns n).2.2 = 0) : (ndF (normF most f ns n).1 (normF most f ns n).2.1).op = 1 := by
  cases f with
  | zero => exact absurd h0 (by simp [normF])
  | succ f =>
    have mkc : ∀ v : Vl, v.ok = true → (makT most ns (constN v)).2.2 = 0 → (ndF (makT most ns (constN v)).1 (makT most ns (constN v)).2.1).op = 1 := fun v hv h => by
      obtain ⟨c1, c2⟩ := con_formed (ns := ns) hv
      exact (mak_nrm g c1 (by rw [c2]) (by simp [constN]) (Nrm.nil ns) (fun k hk hk0 => by simp [constN] at hk; omega) (pathF_low (.inl rfl)) h).2
    by_cases h1 : n.op = 1
    · rw [norm_low (.inl h1)] at h0 ⊢
      obtain ⟨-, hm⟩ := mak_ok (most := most) g hf hs
      rcases hm with ⟨-, -, l1, l2, hn⟩ | ⟨he, -⟩
      · rw [hn, (sorted_parts (ns := ns) h2).1]; exact h1
      · rw [he] at h0; cases h0
    obtain ⟨look0, hA0⟩ := look_any g
    have hfit0 := node_fit g hA0 hf hs h1 h2
    have hgood0 := hfit0.good
    have h3 := hfit0.op
    have hpv := path_val g hA0 hf hs h1 h2
    have hkt : ∀ k, k ∈ [n.a, n.b, n.c].take (arity n.op).toNat → k = n.a ∨ k = n.b ∨ k = n.c := fun k hk => by
      have := List.mem_of_mem_take hk
      simpa using this
    have har : arity n.op = 1 ∨ arity n.op = 2 ∨ arity n.op = 3 := by
      have hd : 0 ≤ arity n.op := by
        unfold formedF at hf
        simp at hf
        exact hf.2.1.1
      unfold arity at hd ⊢
      split at hd
      · omega
      · rename_i c
        rw [if_neg c, if_neg (by omega)]
        split
        · simp
        · split <;> simp
    have fold : arity n.op ≤ 2 → ∃ v, foldF ns n = some v := fun h => fold_some g hf hs h1 h2 fun k hk' => by
      refine hk k (hkt k hk') ?_
      rcases har with c | c | c
      · obtain ⟨q1, -⟩ := formed1 hf c
        rw [c] at hk'
        simp at hk'
        omega
      · obtain ⟨q1, -, q3, -⟩ := formed2 hf c
        rw [c] at hk'
        simp at hk'
        rcases hk' with rfl | rfl <;> omega
      · omega
    unfold normF at h0 ⊢
    have hcon : (∃ v, pathF ns n = .con v) ∨ ∃ k, pathF ns n = .at k ∧ (k = n.b ∨ k = n.c) := by
      unfold pathF
      rcases har with c | c | c
      · obtain ⟨v, hv⟩ := fold (by omega)
        rw [if_neg (by omega), if_pos c]
        unfold unC
        rw [hv]
        exact .inl ⟨v, rfl⟩
      · obtain ⟨v, hv⟩ := fold (by omega)
        rw [if_neg (by omega), if_neg (by omega), if_neg (by omega)]
        unfold binC
        rw [hv]
        exact .inl ⟨v, rfl⟩
      · rw [if_neg (by omega), if_neg (by omega), if_pos c]
        obtain ⟨q1, -⟩ := formed3 hf c
        unfold iteC conF
        right
        split
        · exact ⟨_, rfl, .inl rfl⟩
        · rw [if_pos (hk n.a (.inl rfl) (by omega))]
          simp only
          split
          · exact ⟨_, rfl, .inl rfl⟩
          · exact ⟨_, rfl, .inr rfl⟩
    rcases hcon with ⟨v, hv⟩ | ⟨k, hv, hkk⟩
    · simp only [hv] at h0 hpv ⊢
      change nodeV look0 (valsV look0 ns) n = v at hpv
      rw [nodeV_op h1 h2] at hpv
      exact mkc v (by rw [← hpv]; exact hgood0.1) h0
    · simp only [hv] at hpv ⊢
      exact hk k (.inr hkk) (by have := hpv.1; omega)
end Go.Proofs.Ytiobohfiaapgeaa
end
section
namespace Go.Proofs.Ytiobohfiaapgeaa
set_option maxRecDepth 100000
set_option maxHeartbeats 2000000
structure Didn (ns0 ns : List Nd) (d : Int → Int) (pre : List Int) (S : List Int) : Prop where
  nrm : Nrm ns S
  did : ∀ x, x ∈ pre → d x ∈ S
  len : S.length ≤ 2 * pre.length
  vars : ∀ y, y ∈ S → (ndF ns y).op = 2 → y ∈ pre
  cons : (∀ x, x ∈ pre → ¬ (ndF ns0 x).op = 2) → ∀ x, x ∈ pre → (ndF ns (d x)).op = 1
theorem idx_of {ns : List Nd} {n : Nd} (g : Gok ns) {k : Int} (h1 : 1 ≤ k) (h2 : k ≤ ns.length) (hn : n = ndF ns k) (ho : n.op = 2) : idx ns n = some (k - 1).toNat := by
  obtain ⟨i, hi, hni⟩ := nd_at h1 h2
  rw [← hn] at hni
  have hmem : n ∈ ns := List.mem_of_getElem? hni
  cases hx : idx ns n with
  | none => exact absurd hmem (idx_none hx)
  | some j =>
    obtain ⟨q1, q2, -⟩ := List.findIdx?_eq_some_iff_getElem.1 hx
    have q2 := of_decide_eq_true q2
    have q3 : ns[j]? = some n := by rw [List.getElem?_eq_getElem q1, ← q2]
    have e1 := g.uniq i n hni ho
    have e2 := g.uniq j n q3 ho
    rw [e1] at e2
    cases e2
    rw [hi]
    simp
theorem sim_nrm {most L : Int} {f : Nat} {ns0 : List Nd} {id : Int} (g0 : Gok ns0) (h1 : 1 ≤ id) (h2 : id ≤ ns0.length) (hL : most ≤ L) (hf : L + 2 ≤ f) : ∀ (l pre : List Int) (ns : List Nd) (d : Int → Int) (S : List Int), coneT ns0 id = pre ++ l → Did ns0 ns d (fun x => x ∈ pre) → Didn ns0 ns d pre S → (ns.length : Int) ≤ L →
    (simF most f l ns d).2.2 = 0 → ∃ S', Didn ns0 (simF most f l ns d).1 (simF most f l ns d).2.1 (coneT ns0 id) S'
  | [], pre, ns, d, S, hc, _, hn, _, _ => by
    unfold simF
    rw [hc, List.append_nil]
    exact ⟨S, hn⟩
  | k :: l, pre, ns, d, S, hc, hd, hS, hl, hz => by
    have hk : k ∈ coneT ns0 id := by rw [hc]; simp
    obtain ⟨j, rfl, j1, j2⟩ := cone_mem hk
    have hrise := cone_rises ns0 id
    rw [hc] at hrise
    have k1 : (1 : Int) ≤ (j : Int) := by omega
    have k2 : (j : Int) ≤ ns0.length := by omega
    obtain ⟨i, hi, hni⟩ := nd_at k1 k2
    have hpre : ∀ y, (y = (ndF ns0 j).a ∨ y = (ndF ns0 j).b ∨ y = (ndF ns0 j).c) → 0 < y → y ∈ pre := fun y hy h0 => by
      have := cone_kid g0.kok h1 h2 (j := i) (n := ndF ns0 j) (by rw [← hi]; exact hk) hni hy h0
      rw [← hi] at this
      refine mem_pre hrise ?_ this.2
      rw [← hc]; exact this.1
    have N := next_ok g0 hd k1 k2 hpre
    obtain ⟨a0, b0, c0⟩ : 0 ≤ (ndF ns0 j).a ∧ 0 ≤ (ndF ns0 j).b ∧ 0 ≤ (ndF ns0 j).c := by
      obtain ⟨⟨a, -⟩, ⟨b, -⟩, ⟨c, -⟩⟩ := g0.kok i _ hni
      exact ⟨a, b, c⟩
    obtain ⟨n, hn⟩ : ∃ n, n = ({ ndF ns j with a := d (ndF ns j).a, b := d (ndF ns j).b, c := d (ndF ns j).c } : Nd) := ⟨_, rfl⟩
    obtain ⟨r1, r2⟩ := norm_next (most := most) (f := f) g0 hd k1 k2 N hn (by omega)
    have hlen := norm_len hL f (n := n) hl
    have nf := N.form
    have nsr := N.srt
    rw [← hn] at nf nsr
    have hop : n.op = (ndF ns0 j).op := by rw [hn, ← N.nd]
    -- its kids
    have hkid : ∀ z, (z = n.a ∨ z = n.b ∨ z = n.c) → 0 < z → ∃ y, y ∈ pre ∧ z = d y := fun z hz hz0 => by
      have h3 : ∃ y, (y = (ndF ns0 j).a ∨ y = (ndF ns0 j).b ∨ y = (ndF ns0 j).c) ∧ z = d y := by
        rw [hn, N.nd] at hz
        rcases hz with h | h | h
        · exact ⟨_, .inl rfl, h⟩
        · exact ⟨_, .inr (.inl rfl), h⟩
        · exact ⟨_, .inr (.inr rfl), h⟩
      obtain ⟨y, hy, hzy⟩ := h3
      refine ⟨y, hpre y hy ?_, hzy⟩
      by_cases c : 0 < y
      · exact c
      · rw [hd.zero y (by omega)] at hzy
        omega
    unfold simF at hz ⊢
    rw [← hn] at hz ⊢
    by_cases h0 : (normF most f ns n).2.2 = 0
    rotate_left
    · rw [if_neg h0] at hz; exact absurd hz h0
    rw [if_pos h0] at hz ⊢
    have D := r2 h0
    refine sim_nrm g0 h1 h2 hL hf l (pre ++ [(j : Int)]) _ _ ?_ (by rw [hc]; simp) ⟨D.more, D.gok, D.zero, fun x hx => D.did x (by simpa using hx)⟩ ?_ hlen hz
    · exact if n.op = 2 then S ++ [(j : Int)] else S ++ Classical.choose (show ∃ T : List Int, (n.op = 2 ∨ (T.length ≤ 2 ∧ Nrm (normF most f ns n).1 (S ++ T) ∧ (normF most f ns n).2.1 ∈ S ++ T ∧ ∀ y, y ∈ T → ¬ (ndF (normF most f ns n).1 y).op = 2)) from by
        by_cases c2 : n.op = 2
        · exact ⟨[], .inl c2⟩
        · obtain ⟨⟨T, t1, t2, t3, t4⟩, -⟩ := norm_nrm f hd.gok nf (by rw [nsr]) c2 hS.nrm (fun z hz hz0 => by
            obtain ⟨y, hy, rfl⟩ := hkid z hz hz0
            exact hS.did y hy) h0
          exact ⟨T, .inr ⟨by split at t1 <;> omega, t2, t3, t4⟩⟩)
    · by_cases c2 : n.op = 2
      · rw [if_pos c2]
        have hnn : n = ndF ns j := by rw [hn]; exact N.low (.inr (by rw [hn] at c2; exact c2))
        have hjl : (j : Int) ≤ ns.length := by
          obtain ⟨t, ht, -⟩ := hd.more
          rw [ht]; simp; omega
        have hix := idx_of hd.gok k1 hjl hnn c2
        obtain ⟨f', rfl⟩ : ∃ f', f = f' + 1 := ⟨f - 1, by omega⟩
        have hmake : normF most (f' + 1) ns n = (ns, (j : Int), 0) := by
          rw [norm_low (.inr c2)]
          unfold makT
          rw [if_neg (by rw [nf]; simp), if_neg (by rw [nsr]; simp), nsr, hix]
          simp only
          rw [show (((j : Int) - 1).toNat : Int) + 1 = j by omega]
        rw [hmake]
        simp only
        refine ⟨⟨fun y hy => ?_, fun y hy => ?_, fun y hy => ?_, fun y hy => ?_, fun y hy z hz hz0 => ?_⟩, fun x hx => ?_, by have := hS.len; simp; omega, fun y hy hy2 => ?_, fun hv => absurd (hop ▸ c2) (hv j (by simp))⟩
        · rcases List.mem_append.1 hy with h | h
          · exact hS.nrm.lo y h
          · simp at h; subst h; exact k1
        · rcases List.mem_append.1 hy with h | h
          · exact hS.nrm.hi y h
          · simp at h; subst h; exact hjl
        · rcases List.mem_append.1 hy with h | h
          · exact hS.nrm.at' y h
          · simp at h; subst h; rw [← hnn]; exact hix
        · rcases List.mem_append.1 hy with h | h
          · exact hS.nrm.stay y h
          · simp at h; subst h; rw [← hnn]; exact pathF_low (.inr c2)
        · rcases List.mem_append.1 hy with h | h
          · exact List.mem_append_left _ (hS.nrm.kid y h z hz hz0)
          · simp at h; subst h; rw [← hnn] at hz
            obtain ⟨x, hx, rfl⟩ := hkid z hz hz0
            exact List.mem_append_left _ (hS.did x hx)
        · by_cases c : x = (j : Int)
          · simp [c]
          · rw [if_neg c]
            rcases List.mem_append.1 hx with h | h
            · exact List.mem_append_left _ (hS.did x h)
            · simp at h; exact absurd h c
        · rcases List.mem_append.1 hy with h | h
          · exact List.mem_append_left _ (hS.vars y h hy2)
          · exact List.mem_append_right _ h
      · rw [if_neg c2]
        generalize hT : Classical.choose _ = T
        have hsp := Classical.choose_spec (show ∃ T : List Int, (n.op = 2 ∨ (T.length ≤ 2 ∧ Nrm (normF most f ns n).1 (S ++ T) ∧ (normF most f ns n).2.1 ∈ S ++ T ∧ ∀ y, y ∈ T → ¬ (ndF (normF most f ns n).1 y).op = 2)) from by
          by_cases c2 : n.op = 2
          · exact ⟨[], .inl c2⟩
          · obtain ⟨⟨T, t1, t2, t3, t4⟩, -⟩ := norm_nrm f hd.gok nf (by rw [nsr]) c2 hS.nrm (fun z hz hz0 => by
              obtain ⟨y, hy, rfl⟩ := hkid z hz hz0
              exact hS.did y hy) h0
            exact ⟨T, .inr ⟨by split at t1 <;> omega, t2, t3, t4⟩⟩)
        rw [hT] at hsp
        obtain ⟨t1, t2, t3, t4⟩ := hsp.resolve_left c2
        obtain ⟨-, t, ht⟩ := norm_nrm f hd.gok nf (by rw [nsr]) c2 hS.nrm (fun z hz hz0 => by
              obtain ⟨y, hy, rfl⟩ := hkid z hz hz0
              exact hS.did y hy) h0
        refine ⟨t2, fun x hx => ?_, by have := hS.len; simp; omega, fun y hy hy2 => ?_, fun hv x hx => ?_⟩
        · by_cases c : x = (j : Int)
          · rw [if_pos c]; exact t3
          · rw [if_neg c]
            rcases List.mem_append.1 hx with h | h
            · exact List.mem_append_left _ (hS.did x h)
            · simp at h; exact absurd h c
        · rcases List.mem_append.1 hy with h | h
          · rw [ht, ndF_le (hS.nrm.hi y h)] at hy2
            exact List.mem_append_left _ (hS.vars y h hy2)
          · exact absurd hy2 (t4 y h)
        · have hpc := hS.cons fun x hx => hv x (by simp [hx])
          by_cases c : x = (j : Int)
          · rw [if_pos c]
            refine norm_con hd.gok nf (by rw [nsr]) c2 (fun z hz hz0 => ?_) h0
            obtain ⟨y, hy, rfl⟩ := hkid z hz hz0
            exact hpc y hy
          · rw [if_neg c]
            rcases List.mem_append.1 hx with h | h
            · rw [ht, ndF_le (hS.nrm.hi _ (hS.did x h))]
              exact hpc x h
            · simp at h; exact absurd h c
structure Few (ns : List Nd) (id : Int) (x : List Nd × Int × Int) (S : List Int) : Prop where
  nrm : Nrm x.1 S
  did : x.2.1 ∈ S
  len : S.length ≤ 2 * (coneT ns id).length
  vars : ∀ y, y ∈ S → (ndF x.1 y).op = 2 → y ∈ coneT ns id
  cons : (∀ y, y ∈ coneT ns id → ¬ (ndF ns y).op = 2) → (ndF x.1 x.2.1).op = 1
theorem simT_few {most L : Int} {f : Nat} {ns : List Nd} {id : Int} (g : Gok ns) (h1 : 1 ≤ id) (h2 : id ≤ ns.length) (hL : most ≤ L) (hl : (ns.length : Int) ≤ L) (hf : L + 2 ≤ f) (h0 : (simT most f ns id).2.2 = 0) : ∃ S, Few ns id (simT most f ns id) S := by
  have D0 : Did ns ns (fun _ => 0) (fun x => x ∈ ([] : List Int)) := ⟨⟨[], by simp, by simp⟩, g, fun _ _ => rfl, fun x hx => by cases hx⟩
  have N0 : Didn ns ns (fun _ => 0) [] [] := ⟨Nrm.nil ns, by simp, by simp, by simp, by simp⟩
  have hs := sim_nrm (most := most) g h1 h2 hL hf (coneT ns id) [] ns (fun _ => 0) [] (by simp) D0 N0 hl
  unfold simT at h0 ⊢
  rw [if_neg (by omega)] at h0 ⊢
  by_cases hz : (simF most f (coneT ns id) ns fun _ => 0).2.2 = 0
  · rw [if_pos hz]
    obtain ⟨S, hS⟩ := hs hz
    have hse := cone_self g.kok h1 h2
    exact ⟨S, hS.nrm, hS.did id hse, hS.len, hS.vars, fun hv => hS.cons hv id hse⟩
  · rw [if_neg hz] at h0
    exact absurd h0 hz
theorem cone_in_nrm {ns : List Nd} {S : List Int} (kok : Kok ns) (h : Nrm ns S) {s : Int} (hs : s ∈ S) {x : Int} (hx : x ∈ coneT ns s) : x ∈ S := by
  have hlo := h.lo s hs
  have hhi := h.hi s hs
  have key : ∀ N : Nat, ∀ n : Nat, n ≤ N → ((n : Int) ∈ S) → ∀ j : Nat, 1 ≤ j → cP ns n j = true → (j : Int) ∈ S := by
    intro N
    induction N with
    | zero =>
      intro n hn hnS
      have := h.lo _ hnS
      omega
    | succ N ih =>
      intro n hn hnS j hj hc
      have h1 := h.lo _ hnS
      have h2 := h.hi _ hnS
      obtain ⟨i, hi, hni⟩ := nd_at (ns := ns) (k := (n : Int)) h1 h2
      obtain ⟨⟨a0, a1⟩, ⟨b0, b1⟩, ⟨c0, c1⟩⟩ := kok i _ hni
      obtain rfl : n = i + 1 := by omega
      rw [cP_succ hni (by omega) (by omega) (by omega)] at hc
      simp only [Bool.or_eq_true, decide_eq_true_eq] at hc
      have go : ∀ k : Int, (k = (ndF ns ((i + 1 : Nat) : Int)).a ∨ k = (ndF ns ((i + 1 : Nat) : Int)).b ∨ k = (ndF ns ((i + 1 : Nat) : Int)).c) → 0 ≤ k → k ≤ i → cP ns k.toNat j = true → (j : Int) ∈ S := fun k hk hk0 hki hcc => by
        by_cases c : 0 < k
        · have hkS := h.kid _ hnS k hk c
          exact ih k.toNat (by omega) (by rw [show (k.toNat : Int) = k by omega]; exact hkS) j hj hcc
        · rw [show k.toNat = 0 by omega, cP_zero] at hcc
          simp at hcc
          omega
      rcases hc with hc | hc | hc | hc
      · rw [hc]; exact hnS
      · exact go _ (.inl rfl) a0 a1 hc
      · exact go _ (.inr (.inl rfl)) b0 b1 hc
      · exact go _ (.inr (.inr rfl)) c0 c1 hc
  obtain ⟨j, rfl, j1, j2⟩ := cone_mem hx
  have := (mem_cone kok (by omega) hhi j1).1 hx
  exact key s.toNat s.toNat (Nat.le_refl _) (by rw [show (s.toNat : Int) = s by omega]; exact hs) j j1 this
theorem sub_len : ∀ {l S : List Int}, l.Pairwise (· < ·) → (∀ x, x ∈ l → x ∈ S) → l.length ≤ S.length
  | [], _, _, _ => by simp
  | x :: l, S, hp, hs => by
    obtain ⟨h1, h2⟩ := List.pairwise_cons.1 hp
    have hx := hs x (by simp)
    have := sub_len (l := l) (S := S.erase x) h2 fun y hy => (List.mem_erase_of_ne (by have := h1 y hy; omega)).2 (hs y (by simp [hy]))
    have hle := List.length_erase_of_mem hx
    have : 0 < S.length := List.length_pos_of_mem hx
    simp
    omega
end Go.Proofs.Ytiobohfiaapgeaa
end
section
namespace Go.Proofs.Ytiobohfiaapgeaa
set_option maxRecDepth 100000
set_option maxHeartbeats 2000000
theorem coneT_le {ns : List Nd} {a x : Int} (h : x ∈ coneT ns a) : x ≤ a := by
  unfold coneT at h
  split at h
  · cases h
  · unfold outT at h
    simp only [List.mem_map, List.mem_filter, List.mem_range] at h
    obtain ⟨n, ⟨hn, -⟩, rfl⟩ := h
    omega
theorem Nrm.union {ns : List Nd} {S T : List Int} (h : Nrm ns S) (k : Nrm ns T) : Nrm ns (S ++ T) := by
  refine ⟨fun y hy => ?_, fun y hy => ?_, fun y hy => ?_, fun y hy => ?_, fun y hy z hz h0 => ?_⟩
  · rcases List.mem_append.1 hy with q | q
    · exact h.lo y q
    · exact k.lo y q
  · rcases List.mem_append.1 hy with q | q
    · exact h.hi y q
    · exact k.hi y q
  · rcases List.mem_append.1 hy with q | q
    · exact h.at' y q
    · exact k.at' y q
  · rcases List.mem_append.1 hy with q | q
    · exact h.stay y q
    · exact k.stay y q
  · rcases List.mem_append.1 hy with q | q
    · exact List.mem_append_left _ (h.kid y q z hz h0)
    · exact List.mem_append_right _ (k.kid y q z hz h0)
theorem const_node {ns : List Nd} (g : Gok ns) {k : Int} (h1 : 1 ≤ k) (h2 : k ≤ ns.length) (ho : (ndF ns k).op = 1) : ndF ns k = constN (ndF ns k).v := by
  obtain ⟨i, hi, hn⟩ := nd_at h1 h2
  have hmem := List.mem_of_getElem? hn
  have hf := g.form _ hmem
  have hs := g.srt _ hmem
  obtain ⟨m, hm⟩ : ∃ m, m = ndF ns k := ⟨_, rfl⟩
  rw [← hm] at hf hs ho ⊢
  obtain ⟨op, sort, a, b, c, p, q, vw, vl, vh, name⟩ := m
  simp only at ho
  subst ho
  have har : arity 1 = 0 := by decide
  unfold formedF at hf
  simp [kidsOK, kidOK, har] at hf
  obtain ⟨⟨rfl, rfl, rfl⟩, rfl⟩ := hf
  unfold sortedF at hs
  rw [if_pos rfl] at hs
  have h3 := congrArg Prod.snd hs
  simp only at h3
  split at h3
  rotate_left
  · cases h3
  rename_i c
  obtain ⟨-, rfl, rfl, rfl⟩ := c
  unfold constN Nd.v
  simp only [lo_mk, hi_mk]
section
variable {ns : List Nd} {S : List Int}
theorem top_pre {most : Int} {f : Nat} (g : Gok ns) (h : Nrm ns S) {k : Int} (h1 : 1 ≤ k) (h2 : k ≤ ns.length) (hk : ∀ x, (x = (ndF ns k).a ∨ x = (ndF ns k).b ∨ x = (ndF ns k).c) → 0 < x → x ∈ S) : ∀ (l pre : List Int) (d : Int → Int), coneT ns k = pre ++ (l ++ [k]) → (∀ x, x ∈ pre → d x = x) → (∀ x, x ≤ 0 → d x = 0) →
    ∃ d', simF most (f + 1) (l ++ [k]) ns d = simF most (f + 1) [k] ns d' ∧ (∀ x, x ∈ pre ++ l → d' x = x) ∧ ∀ x, x ≤ 0 → d' x = 0
  | [], pre, d, hc, hd, hz => ⟨d, rfl, by simpa using hd, hz⟩
  | x :: l, pre, d, hc, hd, hz => by
    have hx : x ∈ coneT ns k := by rw [hc]; simp
    have hrise := cone_rises ns k
    have hxk : x < k := by
      rw [hc] at hrise
      have := (List.pairwise_append.1 hrise).2.1
      simp only [List.cons_append] at this
      exact (List.pairwise_cons.1 this).1 k (by simp)
    have hxS : x ∈ S := by
      obtain ⟨i, hi, hni⟩ := nd_at h1 h2
      obtain ⟨⟨a0, a1⟩, ⟨b0, b1⟩, ⟨c0, c1⟩⟩ := g.kok i _ hni
      obtain ⟨j, rfl, j1, j2⟩ := cone_mem hx
      have hP := (mem_cone g.kok (by omega) h2 j1).1 hx
      rw [show k.toNat = i + 1 by omega, cP_succ hni (by omega) (by omega) (by omega)] at hP
      simp only [Bool.or_eq_true, decide_eq_true_eq] at hP
      have go : ∀ z : Int, (z = (ndF ns k).a ∨ z = (ndF ns k).b ∨ z = (ndF ns k).c) → 0 ≤ z → z ≤ i → cP ns z.toNat j = true → (j : Int) ∈ S := fun z hz hz0 hzi hcc => by
        by_cases c : 0 < z
        · exact cone_in_nrm g.kok h (hk z hz c) ((mem_cone g.kok hz0 (by omega) j1).2 hcc)
        · rw [show z.toNat = 0 by omega, cP_zero] at hcc
          simp at hcc
          omega
      rcases hP with q | q | q | q
      · omega
      · exact go _ (.inl rfl) a0 a1 q
      · exact go _ (.inr (.inl rfl)) b0 b1 q
      · exact go _ (.inr (.inr rfl)) c0 c1 q
    have hlo := h.lo x hxS
    have hhi := h.hi x hxS
    obtain ⟨i, hi, hni⟩ := nd_at hlo hhi
    obtain ⟨⟨a0, a1⟩, ⟨b0, b1⟩, ⟨c0, c1⟩⟩ := g.kok i _ hni
    rw [hc] at hrise
    have hdk : ∀ y, (y = (ndF ns x).a ∨ y = (ndF ns x).b ∨ y = (ndF ns x).c) → 0 ≤ y → d y = y := fun y hy h0 => by
      by_cases c : 0 < y
      · have := cone_kid g.kok h1 h2 (j := i) (n := ndF ns x) (by rw [← hi]; exact hx) hni hy c
        rw [← hi] at this
        exact hd y (mem_pre (l := l ++ [k]) (k := x) (by simpa using hrise) (by have := this.1; rw [hc] at this; simpa using this) this.2)
      · rw [hz y (by omega)]; omega
    have hn : ({ ndF ns x with a := d (ndF ns x).a, b := d (ndF ns x).b, c := d (ndF ns x).c } : Nd) = ndF ns x := by
      rw [hdk _ (.inl rfl) a0, hdk _ (.inr (.inl rfl)) b0, hdk _ (.inr (.inr rfl)) c0]
    have hmem : ndF ns x ∈ ns := List.mem_of_getElem? hni
    have hnorm : normF most (f + 1) ns (ndF ns x) = (ns, x, 0) := by
      unfold normF
      rw [h.stay x hxS]
      simp only
      unfold makT
      rw [if_neg (by rw [g.form _ hmem]; simp), if_neg (by rw [g.srt _ hmem]; simp), g.srt _ hmem, h.at' x hxS]
      simp only
      rw [show ((x - 1).toNat : Int) + 1 = x by omega]
    rw [List.cons_append, simF, hn, hnorm]
    simp only [if_true]
    obtain ⟨d', e1, e2, e3⟩ := top_pre (most := most) (f := f) g h h1 h2 hk l (pre ++ [x]) (fun y => if y = x then x else d y) (by rw [hc]; simp) (fun y hy => by
      by_cases c : y = x
      · rw [if_pos c]; exact c.symm
      · rw [if_neg c]
        rcases List.mem_append.1 hy with h | h
        · exact hd y h
        · simp at h; exact absurd h c) (fun y hy => by
      rw [if_neg (by omega)]
      exact hz y hy)
    exact ⟨d', e1, by simpa using e2, e3⟩
theorem top_fix {most : Int} {f : Nat} (g : Gok ns) (h : Nrm ns S) {k : Int} (h1 : 1 ≤ k) (h2 : k ≤ ns.length) (hk : ∀ x, (x = (ndF ns k).a ∨ x = (ndF ns k).b ∨ x = (ndF ns k).c) → 0 < x → x ∈ S) :
    simT most (f + 1) ns k = if (normF most (f + 1) ns (ndF ns k)).2.2 = 0 then normF most (f + 1) ns (ndF ns k) else ((normF most (f + 1) ns (ndF ns k)).1, 0, (normF most (f + 1) ns (ndF ns k)).2.2) := by
  have hself := cone_self g.kok h1 h2
  have hrise := cone_rises ns k
  obtain ⟨pre, post, hc⟩ := List.append_of_mem hself
  have hpost : post = [] := by
    cases post with
    | nil => rfl
    | cons y post =>
      have hy : y ∈ coneT ns k := by rw [hc]; simp
      have := coneT_le hy
      rw [hc] at hrise
      have := (List.pairwise_cons.1 (List.pairwise_append.1 hrise).2.1).1 y (by simp)
      omega
  subst hpost
  obtain ⟨d', e1, e2, e3⟩ := top_pre (most := most) (f := f) g h h1 h2 hk pre [] (fun _ => 0) (by simpa using hc) (by simp) (fun _ _ => rfl)
  obtain ⟨i, hi, hni⟩ := nd_at h1 h2
  obtain ⟨⟨a0, a1⟩, ⟨b0, b1⟩, ⟨c0, c1⟩⟩ := g.kok i _ hni
  have hdk : ∀ y, (y = (ndF ns k).a ∨ y = (ndF ns k).b ∨ y = (ndF ns k).c) → 0 ≤ y → d' y = y := fun y hy h0 => by
    by_cases c : 0 < y
    · have := cone_kid g.kok h1 h2 (j := i) (n := ndF ns k) (by rw [← hi]; exact hself) hni hy c
      rw [← hi] at this
      refine e2 y ?_
      have h3 := this.1
      rw [hc] at h3
      rcases List.mem_append.1 h3 with q | q
      · simpa using q
      · simp at q; omega
    · rw [e3 y (by omega)]; omega
  have hn : ({ ndF ns k with a := d' (ndF ns k).a, b := d' (ndF ns k).b, c := d' (ndF ns k).c } : Nd) = ndF ns k := by
    rw [hdk _ (.inl rfl) a0, hdk _ (.inr (.inl rfl)) b0, hdk _ (.inr (.inr rfl)) c0]
  unfold simT
  rw [if_neg (by omega), hc, e1]
  unfold simF
  rw [hn]
  by_cases c : (normF most (f + 1) ns (ndF ns k)).2.2 = 0
  · rw [if_pos c, if_pos c]
    simp only [simF, if_true]
    rw [← c]
  · rw [if_neg c, if_neg c]
    simp only
    rw [if_neg c]
theorem mak_room {most : Int} {n : Nd} (hr : (ns.length : Int) < most) : ¬ (makT most ns n).2.2 = 33 ∨ (sortedF ns n).2 = 33 := by
  unfold makT
  split
  · exact .inl (by simp)
  · split
    · by_cases c : (sortedF ns n).2 = 33
      · exact .inr c
      · exact .inl c
    · split
      · exact .inl (by simp)
      · rw [if_neg (by omega)]
        exact .inl (by simp)
structure Rule (ns : List Nd) (S : List Int) (n : Nd) (w : Int) : Prop where
  form : formedF ns.length n = true
  srt : (sortedF ns n).2 = 0
  n1 : ¬ n.op = 1
  n2 : ¬ n.op = 2
  kid : ∀ x, (x = n.a ∨ x = n.b ∨ x = n.c) → 0 < x → x ∈ S
  want : w ∈ S
  path : pathF ns n = .at w ∨ ∃ v, pathF ns n = .con v ∧ ndF ns w = constN v
theorem rule_ok {most : Int} {f : Nat} (g : Gok ns) (h : Nrm ns S) {n : Nd} {w : Int} (R : Rule ns S n w) (hr : (ns.length : Int) < most) :
    ∃ k t, makT most ns n = (ns ++ t, k, 0) ∧ t.length ≤ 1 ∧ Gok (ns ++ t) ∧ Nrm (ns ++ t) S ∧ simT most (f + 1) (ns ++ t) k = (ns ++ t, w, 0) := by
  obtain ⟨gm, hm⟩ := mak_ok (most := most) g R.form R.srt
  rcases hm with ⟨e0, ⟨t, ht, -⟩, l1, l2, hn⟩ | ⟨he, -⟩
  rotate_left
  · rcases mak_room (ns := ns) (n := n) hr with q | q
    · exact absurd he q
    · rw [R.srt] at q; cases q
  have hl1 := makT_len (most := most) (ns := ns) (n := n)
  obtain ⟨X, hX⟩ : ∃ X, X = makT most ns n := ⟨_, rfl⟩
  rw [← hX] at gm e0 ht l1 l2 hn hl1
  obtain ⟨X1, X2, X3⟩ := X
  simp only at gm e0 ht l1 l2 hn hl1
  subst ht; subst e0
  have hN := h.more g rfl (t := t)
  obtain ⟨p1, p2, p3, p4, p5, p6, -, -⟩ := sorted_parts (ns := ns) R.n2
  have hs' : (sortedF ns n).1 = { n with sort := (sortedF ns n).1.sort } := by
    unfold sortedF
    rw [if_neg R.n1, if_neg R.n2]
  obtain ⟨f1, f2, f3⟩ := formed_kids R.form
  have hp : pathF (ns ++ t) (ndF (ns ++ t) X2) = pathF ns n := by
    rw [hn, hs', pathF_sort, pathF_le g.kok f1 f2 f3]
  refine ⟨X2, t, hX.symm, by simp at hl1; omega, gm, hN, ?_⟩
  have hw1 := h.lo w R.want
  have hw2 := h.hi w R.want
  rw [top_fix gm hN l1 l2 (fun x hx h0 => by rw [hn, p4, p5, p6] at hx; exact R.kid x hx h0)]
  have hno : normF most (f + 1) (ns ++ t) (ndF (ns ++ t) X2) = (ns ++ t, w, 0) := by
    unfold normF
    rw [hp]
    rcases R.path with q | ⟨v, q, qc⟩
    · rw [q]
    · rw [q]
      simp only
      have hw3 : w ≤ (ns ++ t).length := by simp; omega
      have hid := hN.at' w R.want
      obtain ⟨i, hi, hni⟩ := nd_at hw1 hw3
      have hmem := List.mem_of_getElem? hni
      have e : ndF (ns ++ t) w = constN v := by rw [ndF_le hw2]; exact qc
      rw [e] at hid hmem
      unfold makT
      rw [if_neg (by rw [gm.form _ hmem]; simp), if_neg (by rw [gm.srt _ hmem]; simp), gm.srt _ hmem, hid]
      simp only
      rw [show ((w - 1).toNat : Int) + 1 = w by omega]
  rw [hno]
  simp
end
end Go.Proofs.Ytiobohfiaapgeaa
end
section
namespace Go.Proofs.Ytiobohfiaapgeaa
set_option maxRecDepth 100000
set_option maxHeartbeats 2000000
section
variable {ns : List Nd} {S : List Int}
theorem sorted_bin {op a b s : Int} (h12 : 12 ≤ op) (h36 : op ≤ 36) (h1 : 1 ≤ a) (h2 : a ≤ ns.length) (h3 : 1 ≤ b) (h4 : b ≤ ns.length) (hx : (ndF ns a).sort = s) (hc : (ndF ns b).sort = s) (hs : 0 < s) (hs2 : s ≤ 128) : formedF ns.length (nodeO op a b 0 0 0) = true ∧ (sortedF ns (nodeO op a b 0 0 0)).2 = 0 := by
  have hk0 : ksort ns 0 = [] := ksort_none rfl
  have har : arity op = 2 := by unfold arity; rw [if_neg (by omega), if_neg (by omega), if_neg (by omega), if_neg (by omega)]
  refine ⟨?_, ?_⟩
  · unfold formedF nodeO
    simp [kidsOK, kidOK, har]
    omega
  · have h6 : isSort s = true := by unfold isSort; simp; omega
    unfold sortedF nodeO
    simp only [ksort_at h1 h2, ksort_at h3 h4, hx, hc, hk0, List.append_nil, List.singleton_append]
    rw [if_neg (by omega), if_neg (by omega)]
    unfold sortS toldB toldV
    simp only [har, List.length_cons, List.length_nil, List.all_cons, List.all_nil, h6]
    have e1 : ¬ op ≤ 7 := by omega
    have e2 : ¬ op = 8 := by omega
    have e3 : ¬ op = 9 := by omega
    have e4 : ¬ op = 38 := by omega
    have e5 : ¬ 39 ≤ op := by omega
    have e6 : ¬ op = 37 := by omega
    simp [e1, e2, e3, e4, e5, e6, hs]
    repeat' split
    all_goals first | rfl | omega
theorem sorted_un {op a s : Int} (h : op = 10 ∨ op = 11) (h1 : 1 ≤ a) (h2 : a ≤ ns.length) (hx : (ndF ns a).sort = s) (hs : 0 < s) (hs2 : s ≤ 128) : formedF ns.length (nodeO op a 0 0 0 0) = true ∧ (sortedF ns (nodeO op a 0 0 0 0)).2 = 0 ∧ (sortedF ns (nodeO op a 0 0 0 0)).1.sort = s := by
  have hk0 : ksort ns 0 = [] := ksort_none rfl
  have har : arity op = 1 := by rcases h with rfl | rfl <;> decide
  refine ⟨?_, ?_⟩
  · unfold formedF nodeO
    simp [kidsOK, kidOK, har]
    omega
  · have h6 : isSort s = true := by unfold isSort; simp; omega
    unfold sortedF nodeO
    simp only [ksort_at h1 h2, hx, hk0, List.append_nil]
    rw [if_neg (by omega), if_neg (by omega)]
    unfold sortS toldB toldV
    simp only [har, List.length_cons, List.length_nil, List.all_cons, List.all_nil, h6]
    have hs3 : ¬ 128 < s := by omega
    rcases h with rfl | rfl
    all_goals simp [hs, hs3]
theorem sorted_ite {c a b s : Int} (h0 : 1 ≤ c) (h0' : c ≤ ns.length) (h1 : 1 ≤ a) (h2 : a ≤ ns.length) (h3 : 1 ≤ b) (h4 : b ≤ ns.length) (hz : (ndF ns c).sort = 0) (hx : (ndF ns a).sort = s) (hc : (ndF ns b).sort = s) (hs : 0 ≤ s) (hs2 : s ≤ 128) : formedF ns.length (nodeO 9 c a b 0 0) = true ∧ (sortedF ns (nodeO 9 c a b 0 0)).2 = 0 := by
  have har : arity 9 = 3 := by decide
  refine ⟨?_, ?_⟩
  · unfold formedF nodeO
    simp [kidsOK, kidOK, har]
    omega
  · have h6 : isSort s = true := by unfold isSort; simp; omega
    have h7 : isSort 0 = true := by decide
    unfold sortedF nodeO
    simp only [ksort_at h0 h0', ksort_at h1 h2, ksort_at h3 h4, hz, hx, hc]
    unfold sortS toldB toldV
    simp [har, h6, h7]
    rw [if_neg (by omega)]
theorem sorted_logic {op a b : Int} (h : op = 4 ∨ op = 5 ∨ op = 6) (h1 : 1 ≤ a) (h2 : a ≤ ns.length) (h3 : 1 ≤ b) (h4 : b ≤ ns.length) (hx : (ndF ns a).sort = 0) (hc : (ndF ns b).sort = 0) : formedF ns.length (nodeO op a b 0 0 0) = true ∧ (sortedF ns (nodeO op a b 0 0 0)).2 = 0 := by
  have hk0 : ksort ns 0 = [] := ksort_none rfl
  have har : arity op = 2 := by rcases h with rfl | rfl | rfl <;> decide
  refine ⟨?_, ?_⟩
  · unfold formedF nodeO
    simp [kidsOK, kidOK, har]
    omega
  · have h6 : isSort 0 = true := by decide
    unfold sortedF nodeO
    simp only [ksort_at h1 h2, ksort_at h3 h4, hx, hc, hk0, List.append_nil, List.singleton_append]
    rw [if_neg (by omega), if_neg (by omega)]
    unfold sortS toldB toldV
    simp only [har, List.length_cons, List.length_nil, List.all_cons, List.all_nil, h6]
    rcases h with rfl | rfl | rfl <;> simp
theorem sorted_eq {a b s : Int} (h1 : 1 ≤ a) (h2 : a ≤ ns.length) (h3 : 1 ≤ b) (h4 : b ≤ ns.length) (hx : (ndF ns a).sort = s) (hc : (ndF ns b).sort = s) (hs : 0 ≤ s) (hs2 : s ≤ 128) : formedF ns.length (nodeO 8 a b 0 0 0) = true ∧ (sortedF ns (nodeO 8 a b 0 0 0)).2 = 0 := by
  have hk0 : ksort ns 0 = [] := ksort_none rfl
  have har : arity 8 = 2 := by decide
  refine ⟨?_, ?_⟩
  · unfold formedF nodeO
    simp [kidsOK, kidOK, har]
    omega
  · have h6 : isSort s = true := by unfold isSort; simp; omega
    unfold sortedF nodeO
    simp only [ksort_at h1 h2, ksort_at h3 h4, hx, hc, hk0, List.append_nil, List.singleton_append]
    unfold sortS toldB toldV
    simp [har, h6]
theorem sorted_num {op a s p : Int} (h1 : 1 ≤ a) (h2 : a ≤ ns.length) (hx : (ndF ns a).sort = s) (hs : 0 < s) (hs2 : s ≤ 128) (hp : op = 39 ∧ p = s - 1 ∨ (40 ≤ op ∧ op ≤ 43) ∧ p = 0 ∨ op = 44 ∧ p = 1) : formedF ns.length (nodeO op a 0 0 p 0) = true ∧ (sortedF ns (nodeO op a 0 0 p 0)).2 = 0 := by
  have hk0 : ksort ns 0 = [] := ksort_none rfl
  have har : arity op = 1 := by unfold arity; rw [if_neg (by omega), if_neg (by omega), if_pos (by omega)]
  refine ⟨?_, ?_⟩
  · unfold formedF nodeO
    simp [kidsOK, kidOK, har]
    omega
  · have h6 : isSort s = true := by unfold isSort; simp; omega
    unfold sortedF nodeO
    simp only [ksort_at h1 h2, hx, hk0, List.append_nil]
    rw [if_neg (by omega), if_neg (by omega)]
    unfold sortS toldB toldV
    simp only [har, List.length_cons, List.length_nil, List.all_cons, List.all_nil, h6]
    rcases hp with ⟨rfl, rfl⟩ | ⟨⟨q1, q2⟩, rfl⟩ | ⟨rfl, rfl⟩
    · simp [numB, numV, hs]
      repeat' split
      all_goals first | rfl | omega
    · rcases (by omega : op = 40 ∨ op = 41 ∨ op = 42 ∨ op = 43) with rfl | rfl | rfl | rfl
      all_goals simp [numB, numV, hs]
      all_goals (repeat' split)
      all_goals first | rfl | omega
    · have hm : min (1 : Int) 129 = 1 := by decide
      simp [numB, numV, hs, hm]
      repeat' split
      all_goals first | rfl | omega
end
theorem con_want {ns : List Nd} (g : Gok ns) {n : Nd} (hf : formedF ns.length n = true) (hs : (sortedF ns n).2 = 0) (h1 : ¬ n.op = 1) (h2 : ¬ n.op = 2) {w : Int} (w1 : 1 ≤ w) (w2 : w ≤ ns.length) (hv : ∀ look, AllFit look ns → nodeV look (valsV look ns) n = V look ns w) {v : Vl} (hp : pathF ns n = .con v) (ho : (ndF ns w).op = 1) : ndF ns w = constN v := by
  obtain ⟨look, hA⟩ := look_any g
  have hpv := path_val g hA hf hs h1 h2
  rw [hp] at hpv
  change nodeV look (valsV look ns) n = v at hpv
  rw [hv look hA] at hpv
  have K := kid_ok g hA w1 w2
  have hc : conF ns w = some (ndF ns w).v := by unfold conF; rw [if_pos ho]
  rw [K.con _ hc] at hpv
  rw [const_node g w1 w2 ho, hpv]
theorem consF_all {ns : List Nd} : ∀ {l : List Int} {vs : List Vl}, consF ns l = some vs → ∀ k, k ∈ l → (ndF ns k).op = 1
  | [], _, _, k, hk => by cases hk
  | x :: l, vs, h, k, hk => by
    unfold consF at h
    cases hc : conF ns x with
    | none => rw [hc] at h; cases h
    | some v =>
      rw [hc] at h
      simp only [Option.map_eq_some_iff] at h
      obtain ⟨us, hu, -⟩ := h
      rcases List.mem_cons.1 hk with rfl | hk
      · unfold conF at hc
        split at hc
        · assumption
        · cases hc
      · exact consF_all hu k hk
structure Cx (ns : List Nd) (S : List Int) (x zero one yes no N : Int) : Prop where
  g : Gok ns
  nrm : Nrm ns S
  sx : x ∈ S
  s0 : zero ∈ S
  s1 : one ∈ S
  sy : yes ∈ S
  sn : no ∈ S
  xs : (ndF ns x).sort = N
  z0 : ndF ns zero = constN ⟨N, 0#128⟩
  z1 : ndF ns one = constN ⟨N, 1#128⟩
  zy : ndF ns yes = constN (Vl.bool true)
  zn : ndF ns no = constN (Vl.bool false)
  h1 : 1 ≤ N
  h2 : N ≤ 128
theorem Cx.more {ns t : List Nd} {S : List Int} {x zero one yes no N : Int} (h : Cx ns S x zero one yes no N) (g : Gok (ns ++ t)) : Cx (ns ++ t) S x zero one yes no N := by
  have e : ∀ y, y ∈ S → ndF (ns ++ t) y = ndF ns y := fun y hy => ndF_le (h.nrm.hi y hy)
  exact ⟨g, h.nrm.more h.g rfl, h.sx, h.s0, h.s1, h.sy, h.sn, by rw [e _ h.sx]; exact h.xs, by rw [e _ h.s0]; exact h.z0, by rw [e _ h.s1]; exact h.z1, by rw [e _ h.sy]; exact h.zy, by rw [e _ h.sn]; exact h.zn, h.h1, h.h2⟩
section
variable {ns : List Nd} {S : List Int} {x zero one yes no N : Int}
theorem con_v {ns : List Nd} {k : Int} {v : Vl} (h : ndF ns k = constN v) : conF ns k = some v := by
  unfold conF
  rw [h]
  have : (constN v).v = v := by
    unfold constN Nd.v
    simp only
    have : mkN (lo v.n) (hi v.n) = v.n := pair_ext (by rw [lo_mk]) (by rw [hi_mk])
    rw [this]
  rw [this]
  rfl
theorem Cx.vx (C : Cx ns S x zero one yes no N) {look : ByteArray → Option Vl} (hA : AllFit look ns) : ∃ (n : Nat) (X : BitVec n), 1 ≤ n ∧ n ≤ 128 ∧ N = n ∧ V look ns x = Vl.of X ∧ V look ns zero = Vl.of (0#n) ∧ V look ns one = Vl.of (1#n) ∧ V look ns yes = Vl.bool true ∧ V look ns no = Vl.bool false := by
  have K := kid_ok C.g hA (C.nrm.lo x C.sx) (C.nrm.hi x C.sx)
  obtain ⟨n, X, n1, n2, e⟩ := isWd_of K.ok (by rw [K.w, C.xs]; have := C.h1; omega)
  have hN : N = n := by rw [← C.xs, ← K.w, e]; rfl
  refine ⟨n, X, n1, n2, hN, e, ?_, ?_, con_all C.g hA (con_v C.zy), con_all C.g hA (con_v C.zn)⟩
  · rw [con_all C.g hA (con_v C.z0), of_zero, hN]
  · rw [con_all C.g hA (con_v C.z1), hN]
    unfold Vl.of
    have : E (1#n) = 1#128 := by
      unfold E
      apply BitVec.eq_of_toNat_eq
      have h1 : 1 % 2 ^ n = 1 := Nat.mod_eq_of_lt (Nat.one_lt_two_pow (by omega))
      simp [h1]
    rw [this]
theorem bin_path {op a b : Int} (h12 : 12 ≤ op) (h36 : op ≤ 36) (hab : ¬ a = b) (hfo : foldF ns (nodeO op a b 0 0 0) = none) : pathF ns (nodeO op a b 0 0 0) = besideF ns (nodeO op a b 0 0 0) := by
  have har : arity op = 2 := by unfold arity; rw [if_neg (by omega), if_neg (by omega), if_neg (by omega), if_neg (by omega)]
  have e1 : (nodeO op a b 0 0 0).op = op := rfl
  have e2 : (nodeO op a b 0 0 0).a = a := rfl
  have e3 : (nodeO op a b 0 0 0).b = b := rfl
  unfold pathF
  rw [e1, har, if_neg (by omega), if_neg (by omega), if_neg (by omega)]
  unfold binC
  rw [hfo]
  simp only [e2, e3, hab, false_and, if_false]
  unfold logicF
  rw [e1, if_pos (by omega)]
theorem fold_con {n : Nd} {v : Vl} (h : foldF ns n = some v) (h3 : ¬ arity n.op = 3) (hc : arity n.op = 2 ∨ arity n.op = 1) : pathF ns n = .con v := by
  unfold pathF
  rcases hc with c | c
  · rw [if_neg (by omega), if_neg (by omega), if_neg h3]
    unfold binC
    rw [h]
  · rw [if_neg (by omega), if_pos c]
    unfold unC
    rw [h]
theorem fold_kids {n : Nd} {v : Vl} (h : foldF ns n = some v) : ∀ k, k ∈ [n.a, n.b, n.c].take (arity n.op).toNat → (ndF ns k).op = 1 := by
  unfold foldF at h
  cases hc : consF ns ([n.a, n.b, n.c].take (arity n.op).toNat) with
  | none => rw [hc] at h; cases h
  | some l => exact consF_all hc
theorem Cx.bin (C : Cx ns S x zero one yes no N) {op a b w : Int} (h12 : 12 ≤ op) (h36 : op ≤ 36) (ha : a ∈ S) (hb : b ∈ S) (hw : w ∈ S) (sa : (ndF ns a).sort = N) (sb : (ndF ns b).sort = N)
    (hv : ∀ look, AllFit look ns → meanV op 0 0 [V look ns a, V look ns b] = V look ns w)
    (hc : (ndF ns a).op = 1 → (ndF ns b).op = 1 → (ndF ns w).op = 1)
    (hp : foldF ns (nodeO op a b 0 0 0) = none → (¬ ((ndF ns a).op = 1 ∧ (ndF ns b).op = 1)) → pathF ns (nodeO op a b 0 0 0) = .at w ∨ (∃ v, pathF ns (nodeO op a b 0 0 0) = .con v) ∧ (ndF ns w).op = 1) : Rule ns S (nodeO op a b 0 0 0) w := by
  have a1 := C.nrm.lo a ha
  have a2 := C.nrm.hi a ha
  have b1 := C.nrm.lo b hb
  have b2 := C.nrm.hi b hb
  have w1 := C.nrm.lo w hw
  have w2 := C.nrm.hi w hw
  have hN1 := C.h1
  obtain ⟨f1, f2⟩ := sorted_bin h12 h36 a1 a2 b1 b2 sa sb (by omega) C.h2
  have har : arity op = 2 := by unfold arity; rw [if_neg (by omega), if_neg (by omega), if_neg (by omega), if_neg (by omega)]
  have n1 : ¬ (nodeO op a b 0 0 0).op = 1 := by show ¬ op = 1; omega
  have n2 : ¬ (nodeO op a b 0 0 0).op = 2 := by show ¬ op = 2; omega
  have hval : ∀ look, AllFit look ns → nodeV look (valsV look ns) (nodeO op a b 0 0 0) = V look ns w := fun look hA => by
    rw [nodeV_op n1 n2, kidsV_2 (show arity (nodeO op a b 0 0 0).op = 2 from har)]
    exact hv look hA
  refine ⟨f1, f2, n1, n2, fun z hz h0 => ?_, hw, ?_⟩
  · simp only [nodeO] at hz
    rcases hz with rfl | rfl | rfl
    · exact ha
    · exact hb
    · omega
  · cases hfo : foldF ns (nodeO op a b 0 0 0) with
    | some v =>
      have hk := fold_kids hfo
      have ho := hc (hk a (by simp [nodeO, har])) (hk b (by simp [nodeO, har]))
      have hpc := fold_con hfo (by show ¬ arity op = 3; omega) (.inl har)
      exact .inr ⟨v, hpc, con_want C.g f1 f2 n1 n2 w1 w2 hval hpc ho⟩
    | none =>
      rcases hp hfo (fun ⟨q1, q2⟩ => by
        obtain ⟨v, hv⟩ := fold_some C.g f1 f2 n1 n2 (fun k hk => by
          rw [show (nodeO op a b 0 0 0).op = op from rfl, har] at hk
          simp [nodeO] at hk
          rcases hk with rfl | rfl
          · exact q1
          · exact q2)
        rw [hfo] at hv
        cases hv) with q | ⟨⟨v, q⟩, ho⟩
      · exact .inl q
      · exact .inr ⟨v, q, con_want C.g f1 f2 n1 n2 w1 w2 hval q ho⟩
theorem Cx.i0 (C : Cx ns S x zero one yes no N) : isF ns zero 0#64 = true ∧ isF ns zero 1#64 = false ∧ isF ns one 0#64 = false ∧ isF ns one 1#64 = true := by
  have hN := C.h1
  have hp : 0 < N := by omega
  unfold isF
  rw [con_v C.z0, con_v C.z1]
  refine ⟨?_, ?_, ?_, ?_⟩
  · simp [hp]
  · simp [hp]
  · simp [hp]
  · simp [hp]
theorem isF_no {k : Int} {c : BitVec 64} (h : ¬ (ndF ns k).op = 1) : isF ns k c = false := by
  unfold isF conF
  rw [if_neg h]
theorem Cx.o0 (C : Cx ns S x zero one yes no N) : (ndF ns zero).op = 1 ∧ (ndF ns one).op = 1 ∧ (ndF ns yes).op = 1 ∧ (ndF ns no).op = 1 ∧ (ndF ns zero).sort = N ∧ (ndF ns one).sort = N ∧ (ndF ns yes).sort = 0 ∧ (ndF ns no).sort = 0 := by
  rw [C.z0, C.z1, C.zy, C.zn]
  exact ⟨rfl, rfl, rfl, rfl, rfl, rfl, rfl, rfl⟩
theorem Cx.ne (C : Cx ns S x zero one yes no N) (h : ¬ (ndF ns x).op = 1) : ¬ x = zero ∧ ¬ zero = x ∧ ¬ x = one ∧ ¬ one = x := by
  obtain ⟨o1, o2, -⟩ := C.o0
  refine ⟨fun e => ?_, fun e => ?_, fun e => ?_, fun e => ?_⟩
  · rw [e] at h; exact h o1
  · rw [← e] at h; exact h o1
  · rw [e] at h; exact h o2
  · rw [← e] at h; exact h o2
theorem Cx.r_zero_r (C : Cx ns S x zero one yes no N) {op : Int} (h : op = 12 ∨ op = 20) : Rule ns S (nodeO op x zero 0 0 0) zero := by
  obtain ⟨o1, o2, o3, o4, t1, t2, t3, t4⟩ := C.o0
  obtain ⟨i1, i2, i3, i4⟩ := C.i0
  refine C.bin (by omega) (by omega) C.sx C.s0 C.s0 C.xs t1 (fun look hA => ?_) (fun _ _ => o1) fun hfo hn => ?_
  · obtain ⟨n, X, n1, n2, -, e1, e2, e3, -⟩ := C.vx hA
    rw [e1, e2, two_word (by omega) (by omega) n2, (w_zero h X).1]
  · have hx : ¬ (ndF ns x).op = 1 := fun q => hn ⟨q, o1⟩
    obtain ⟨d1, d2, d3, d4⟩ := C.ne hx
    refine .inr ⟨⟨⟨(ndF ns x).sort, 0#128⟩, ?_⟩, o1⟩
    rw [bin_path (by omega) (by omega) d1 hfo]
    unfold besideF
    rcases h with rfl | rfl <;> simp [nodeO, i1]
theorem Cx.r_zero_l (C : Cx ns S x zero one yes no N) {op : Int} (h : op = 12 ∨ op = 20 ∨ op = 26 ∨ op = 27 ∨ op = 28) : Rule ns S (nodeO op zero x 0 0 0) zero := by
  obtain ⟨o1, o2, o3, o4, t1, t2, t3, t4⟩ := C.o0
  obtain ⟨i1, i2, i3, i4⟩ := C.i0
  refine C.bin (by omega) (by omega) C.s0 C.sx C.s0 t1 C.xs (fun look hA => ?_) (fun _ _ => o1) fun hfo hn => ?_
  · obtain ⟨n, X, n1, n2, -, e1, e2, e3, -⟩ := C.vx hA
    rw [e1, e2, two_word (by omega) (by omega) n2]
    by_cases c : op = 12 ∨ op = 20
    · rw [(w_zero c X).2]
    · rw [w_shift0 (by omega)]
  · have hx : ¬ (ndF ns x).op = 1 := fun q => hn ⟨o1, q⟩
    obtain ⟨d1, d2, d3, d4⟩ := C.ne hx
    refine .inr ⟨⟨⟨(ndF ns zero).sort, 0#128⟩, ?_⟩, o1⟩
    rw [bin_path (by omega) (by omega) d2 hfo]
    unfold besideF
    rcases h with rfl | rfl | rfl | rfl | rfl <;> simp [nodeO, i1]
theorem Cx.r_keep_r (C : Cx ns S x zero one yes no N) {op : Int} (h : op = 13 ∨ op = 14 ∨ op = 18 ∨ op = 19 ∨ op = 26 ∨ op = 27 ∨ op = 28) : Rule ns S (nodeO op x zero 0 0 0) x := by
  obtain ⟨o1, o2, o3, o4, t1, t2, t3, t4⟩ := C.o0
  obtain ⟨i1, i2, i3, i4⟩ := C.i0
  refine C.bin (by omega) (by omega) C.sx C.s0 C.sx C.xs t1 (fun look hA => ?_) (fun q _ => q) fun hfo hn => ?_
  · obtain ⟨n, X, n1, n2, -, e1, e2, e3, -⟩ := C.vx hA
    rw [e1, e2, two_word (by omega) (by omega) n2, w_right n1 h]
  · have hx : ¬ (ndF ns x).op = 1 := fun q => hn ⟨q, o1⟩
    obtain ⟨d1, d2, d3, d4⟩ := C.ne hx
    have j := fun c => isF_no (c := c) hx
    refine .inl ?_
    rw [bin_path (by omega) (by omega) d1 hfo]
    unfold besideF
    rcases h with rfl | rfl | rfl | rfl | rfl | rfl | rfl <;> simp [nodeO, i1, j]
theorem Cx.r_keep_l (C : Cx ns S x zero one yes no N) : Rule ns S (nodeO 14 zero x 0 0 0) x := by
  obtain ⟨o1, o2, o3, o4, t1, t2, t3, t4⟩ := C.o0
  obtain ⟨i1, i2, i3, i4⟩ := C.i0
  refine C.bin (by omega) (by omega) C.s0 C.sx C.sx t1 C.xs (fun look hA => ?_) (fun _ q => q) fun hfo hn => ?_
  · obtain ⟨n, X, n1, n2, -, e1, e2, e3, -⟩ := C.vx hA
    rw [e1, e2, two_word (by omega) (by omega) n2, w_left (by omega)]
  · have hx : ¬ (ndF ns x).op = 1 := fun q => hn ⟨o1, q⟩
    obtain ⟨d1, d2, d3, d4⟩ := C.ne hx
    have j := fun c => isF_no (c := c) hx
    refine .inl ?_
    rw [bin_path (by omega) (by omega) d2 hfo]
    unfold besideF
    simp [nodeO, i1, j]
theorem Cx.r_one_l (C : Cx ns S x zero one yes no N) : Rule ns S (nodeO 20 one x 0 0 0) x := by
  obtain ⟨o1, o2, o3, o4, t1, t2, t3, t4⟩ := C.o0
  obtain ⟨i1, i2, i3, i4⟩ := C.i0
  refine C.bin (by omega) (by omega) C.s1 C.sx C.sx t2 C.xs (fun look hA => ?_) (fun _ q => q) fun hfo hn => ?_
  · obtain ⟨n, X, n1, n2, -, e1, e2, e3, -⟩ := C.vx hA
    rw [e1, e3, two_word (by omega) (by omega) n2]
    have := w_one n1 (.inl rfl : (20 : Int) = 20 ∨ (20 : Int) = 21) X
    have hcm : wordV 20 (1#n) X = wordV 20 X (1#n) := by simp [wordV, BitVec.mul_comm]
    rw [hcm, this]
  · have hx : ¬ (ndF ns x).op = 1 := fun q => hn ⟨o2, q⟩
    obtain ⟨d1, d2, d3, d4⟩ := C.ne hx
    have j := fun c => isF_no (c := c) hx
    refine .inl ?_
    rw [bin_path (by omega) (by omega) d4 hfo]
    unfold besideF
    simp [nodeO, i3, i4, j]
theorem Cx.r_one_r (C : Cx ns S x zero one yes no N) : Rule ns S (nodeO 21 x one 0 0 0) x := by
  obtain ⟨o1, o2, o3, o4, t1, t2, t3, t4⟩ := C.o0
  obtain ⟨i1, i2, i3, i4⟩ := C.i0
  refine C.bin (by omega) (by omega) C.sx C.s1 C.sx C.xs t2 (fun look hA => ?_) (fun q _ => q) fun hfo hn => ?_
  · obtain ⟨n, X, n1, n2, -, e1, e2, e3, -⟩ := C.vx hA
    rw [e1, e3, two_word (by omega) (by omega) n2, w_one n1 (.inr rfl)]
  · have hx : ¬ (ndF ns x).op = 1 := fun q => hn ⟨q, o2⟩
    obtain ⟨d1, d2, d3, d4⟩ := C.ne hx
    have j := fun c => isF_no (c := c) hx
    refine .inl ?_
    rw [bin_path (by omega) (by omega) d3 hfo]
    unfold besideF
    simp [nodeO, i4, j]
theorem self_path {op a : Int} (hfo : foldF ns (nodeO op a a 0 0 0) = none) (har : arity op = 2) : pathF ns (nodeO op a a 0 0 0) = if op = 4 ∨ op = 5 ∨ op = 12 ∨ op = 13 then .at a else if op = 6 ∨ op = 29 ∨ op = 31 ∨ op = 33 ∨ op = 35 ∨ op = 14 ∨ op = 19 then .con (if op = 14 ∨ op = 19 then ⟨(ndF ns a).sort, 0#128⟩ else Vl.bool false) else if op = 8 ∨ op = 30 ∨ op = 32 ∨ op = 34 ∨ op = 36 ∨ op = 7 then .con (Vl.bool true) else (match logicF ns (nodeO op a a 0 0 0) with
      | some c => c
      | none => besideF ns (nodeO op a a 0 0 0)) := by
  have e1 : (nodeO op a a 0 0 0).op = op := rfl
  have e2 : (nodeO op a a 0 0 0).a = a := rfl
  have e3 : (nodeO op a a 0 0 0).b = a := rfl
  unfold pathF
  rw [e1, har, if_neg (by omega), if_neg (by omega), if_neg (by omega)]
  unfold binC
  rw [hfo]
  simp only [e1, e2, e3, true_and]
  rfl
theorem Cx.r_self (C : Cx ns S x zero one yes no N) {op : Int} (h : op = 12 ∨ op = 13) : Rule ns S (nodeO op x x 0 0 0) x := by
  refine C.bin (by omega) (by omega) C.sx C.sx C.sx C.xs C.xs (fun look hA => ?_) (fun q _ => q) fun hfo hn => .inl ?_
  · obtain ⟨n, X, n1, n2, -, e1, e2, e3, -⟩ := C.vx hA
    rw [e1, two_word (by omega) (by omega) n2, w_same h]
  · rw [self_path hfo (by rcases h with rfl | rfl <;> decide), if_pos (by omega)]
theorem Cx.r_none (C : Cx ns S x zero one yes no N) {op : Int} (h : op = 14 ∨ op = 19) : Rule ns S (nodeO op x x 0 0 0) zero := by
  obtain ⟨o1, -⟩ := C.o0
  refine C.bin (by omega) (by omega) C.sx C.sx C.s0 C.xs C.xs (fun look hA => ?_) (fun _ _ => o1) fun hfo hn => .inr ⟨⟨⟨(ndF ns x).sort, 0#128⟩, ?_⟩, o1⟩
  · obtain ⟨n, X, n1, n2, -, e1, e2, e3, -⟩ := C.vx hA
    rw [e1, e2, two_word (by omega) (by omega) n2, w_none h]
  · rw [self_path hfo (by rcases h with rfl | rfl <;> decide), if_neg (by omega), if_pos (by omega), if_pos h]
theorem Cx.r_cmp (C : Cx ns S x zero one yes no N) {op : Int} (h1 : 29 ≤ op) (h2 : op ≤ 36) : Rule ns S (nodeO op x x 0 0 0) (if op = 30 ∨ op = 32 ∨ op = 34 ∨ op = 36 then yes else no) := by
  obtain ⟨o1, o2, o3, o4, -⟩ := C.o0
  have har : arity op = 2 := by unfold arity; rw [if_neg (by omega), if_neg (by omega), if_neg (by omega), if_neg (by omega)]
  refine C.bin (by omega) (by omega) C.sx C.sx (by split; exact C.sy; exact C.sn) C.xs C.xs (fun look hA => ?_) (fun _ _ => by split; exact o3; exact o4) fun hfo hn => .inr ⟨?_, by split; exact o3; exact o4⟩
  · obtain ⟨n, X, n1, n2, -, e1, e2, e3, e4, e5⟩ := C.vx hA
    rw [e1, two_cmp h1 h2 n2, c_same op h1 h2]
    by_cases c : op = 30 ∨ op = 32 ∨ op = 34 ∨ op = 36
    · rw [if_pos c, e4, decide_eq_true c]
    · rw [if_neg c, e5, decide_eq_false c]
  · rw [self_path hfo har, if_neg (by omega)]
    split
    · exact ⟨_, rfl⟩
    · rw [if_pos (by omega)]
      exact ⟨_, rfl⟩
end
end Go.Proofs.Ytiobohfiaapgeaa
end
section
namespace Go.Proofs.Ytiobohfiaapgeaa
set_option maxRecDepth 100000
set_option maxHeartbeats 2000000
section
variable {ns : List Nd} {S : List Int}
theorem two_rule (g : Gok ns) (nrm : Nrm ns S) {op a b w : Int} (har : arity op = 2) (n1' : ¬ op = 1) (n2' : ¬ op = 2) (ha : a ∈ S) (hb : b ∈ S) (hw : w ∈ S)
    (ff : formedF ns.length (nodeO op a b 0 0 0) = true ∧ (sortedF ns (nodeO op a b 0 0 0)).2 = 0)
    (hv : ∀ look, AllFit look ns → meanV op 0 0 [V look ns a, V look ns b] = V look ns w)
    (hc : (ndF ns a).op = 1 → (ndF ns b).op = 1 → (ndF ns w).op = 1)
    (hp : foldF ns (nodeO op a b 0 0 0) = none → (¬ ((ndF ns a).op = 1 ∧ (ndF ns b).op = 1)) → pathF ns (nodeO op a b 0 0 0) = .at w ∨ (∃ v, pathF ns (nodeO op a b 0 0 0) = .con v) ∧ (ndF ns w).op = 1) : Rule ns S (nodeO op a b 0 0 0) w := by
  have w1 := nrm.lo w hw
  have w2 := nrm.hi w hw
  obtain ⟨f1, f2⟩ := ff
  have n1 : ¬ (nodeO op a b 0 0 0).op = 1 := n1'
  have n2 : ¬ (nodeO op a b 0 0 0).op = 2 := n2'
  have hval : ∀ look, AllFit look ns → nodeV look (valsV look ns) (nodeO op a b 0 0 0) = V look ns w := fun look hA => by
    rw [nodeV_op n1 n2, kidsV_2 (show arity (nodeO op a b 0 0 0).op = 2 from har)]
    exact hv look hA
  refine ⟨f1, f2, n1, n2, fun z hz h0 => ?_, hw, ?_⟩
  · simp only [nodeO] at hz
    rcases hz with rfl | rfl | rfl
    · exact ha
    · exact hb
    · omega
  · cases hfo : foldF ns (nodeO op a b 0 0 0) with
    | some v =>
      have hk := fold_kids hfo
      have ho := hc (hk a (by simp [nodeO, har])) (hk b (by simp [nodeO, har]))
      have hpc := fold_con hfo (by show ¬ arity op = 3; omega) (.inl har)
      exact .inr ⟨v, hpc, con_want g f1 f2 n1 n2 w1 w2 hval hpc ho⟩
    | none =>
      rcases hp hfo (fun ⟨q1, q2⟩ => by
        obtain ⟨v, hv⟩ := fold_some g f1 f2 n1 n2 (fun k hk => by
          rw [show (nodeO op a b 0 0 0).op = op from rfl, har] at hk
          simp [nodeO] at hk
          rcases hk with rfl | rfl
          · exact q1
          · exact q2)
        rw [hfo] at hv
        cases hv) with q | ⟨⟨v, q⟩, ho⟩
      · exact .inl q
      · exact .inr ⟨v, q, con_want g f1 f2 n1 n2 w1 w2 hval q ho⟩
theorem one_rule (g : Gok ns) (nrm : Nrm ns S) {op a w p : Int} (har : arity op = 1) (n1' : ¬ op = 1) (n2' : ¬ op = 2) (ha : a ∈ S) (hw : w ∈ S)
    (ff : formedF ns.length (nodeO op a 0 0 p 0) = true ∧ (sortedF ns (nodeO op a 0 0 p 0)).2 = 0)
    (hv : (ndF ns a).op = 1 → ∀ look, AllFit look ns → meanV op p 0 [V look ns a] = V look ns w)
    (hc : (ndF ns a).op = 1 → (ndF ns w).op = 1)
    (hp : foldF ns (nodeO op a 0 0 p 0) = none → ¬ (ndF ns a).op = 1 → pathF ns (nodeO op a 0 0 p 0) = .at w) : Rule ns S (nodeO op a 0 0 p 0) w := by
  have w1 := nrm.lo w hw
  have w2 := nrm.hi w hw
  obtain ⟨f1, f2⟩ := ff
  have n1 : ¬ (nodeO op a 0 0 p 0).op = 1 := n1'
  have n2 : ¬ (nodeO op a 0 0 p 0).op = 2 := n2'
  refine ⟨f1, f2, n1, n2, fun z hz h0 => ?_, hw, ?_⟩
  · simp only [nodeO] at hz
    rcases hz with rfl | rfl | rfl
    · exact ha
    · omega
    · omega
  · cases hfo : foldF ns (nodeO op a 0 0 p 0) with
    | some v =>
      have hk := fold_kids hfo
      have hka := hk a (by simp [nodeO, har])
      have hpc := fold_con hfo (by show ¬ arity op = 3; omega) (.inr har)
      refine .inr ⟨v, hpc, con_want g f1 f2 n1 n2 w1 w2 (fun look hA => ?_) hpc (hc hka)⟩
      rw [nodeV_op n1 n2, kidsV_1 (show arity (nodeO op a 0 0 p 0).op = 1 from har)]
      exact hv hka look hA
    | none =>
      refine .inl (hp hfo fun q => ?_)
      obtain ⟨v, hv⟩ := fold_some g f1 f2 n1 n2 (fun k hk => by
        rw [show (nodeO op a 0 0 p 0).op = op from rfl, har] at hk
        simp [nodeO] at hk
        rw [hk]
        exact q)
      rw [hfo] at hv
      cases hv
theorem un_path {op a p : Int} (har : arity op = 1) (_hfo : foldF ns (nodeO op a 0 0 p 0) = none) : pathF ns (nodeO op a 0 0 p 0) = unC ns (nodeO op a 0 0 p 0) := by
  unfold pathF
  rw [show (nodeO op a 0 0 p 0).op = op from rfl, har, if_neg (by omega), if_pos rfl]
theorem ite_rule (_g : Gok ns) (nrm : Nrm ns S) {c a b w s : Int} (hc : c ∈ S) (ha : a ∈ S) (hb : b ∈ S) (hw : w ∈ S) (sc : (ndF ns c).sort = 0) (sa : (ndF ns a).sort = s) (sb : (ndF ns b).sort = s) (hs : 0 ≤ s) (hs2 : s ≤ 128)
    (hp : iteC ns (nodeO 9 c a b 0 0) = .at w) : Rule ns S (nodeO 9 c a b 0 0) w := by
  obtain ⟨f1, f2⟩ := sorted_ite (nrm.lo c hc) (nrm.hi c hc) (nrm.lo a ha) (nrm.hi a ha) (nrm.lo b hb) (nrm.hi b hb) sc sa sb hs hs2
  refine ⟨f1, f2, by simp [nodeO], by simp [nodeO], fun z hz h0 => ?_, hw, .inl ?_⟩
  · simp only [nodeO] at hz
    rcases hz with rfl | rfl | rfl
    · exact hc
    · exact ha
    · exact hb
  · have har : arity (nodeO 9 c a b 0 0).op = 3 := by show arity 9 = 3; decide
    unfold pathF
    rw [har, if_neg (by omega), if_neg (by omega), if_pos rfl]
    exact hp
theorem ite_same {c a : Int} : iteC ns (nodeO 9 c a a 0 0) = .at a := by
  unfold iteC
  simp [nodeO]
theorem ite_yes {c a b : Int} (hc : ndF ns c = constN (Vl.bool true)) : iteC ns (nodeO 9 c a b 0 0) = .at a := by
  unfold iteC
  rw [show (nodeO 9 c a b 0 0).a = c from rfl, con_v hc]
  split
  · rfl
  · rfl
theorem ite_no {c a b : Int} (hc : ndF ns c = constN (Vl.bool false)) : iteC ns (nodeO 9 c a b 0 0) = .at b := by
  unfold iteC
  rw [show (nodeO 9 c a b 0 0).a = c from rfl, con_v hc]
  split
  · rename_i h
    rw [h]
    rfl
  · rfl
structure NotAt (ns : List Nd) (op x s k : Int) : Prop where
  lo : 1 ≤ k
  hi : k ≤ ns.length
  o : (ndF ns k).op = op
  a : (ndF ns k).a = x
  b : (ndF ns k).b = 0
  c : (ndF ns k).c = 0
  srt : (ndF ns k).sort = s
theorem NotAt.more {op x s k : Int} (h : NotAt ns op x s k) (t : List Nd) : NotAt (ns ++ t) op x s k := by
  have e : ndF (ns ++ t) k = ndF ns k := ndF_le h.hi
  have := h.hi
  exact ⟨h.lo, by simp; omega, by rw [e]; exact h.o, by rw [e]; exact h.a, by rw [e]; exact h.b, by rw [e]; exact h.c, by rw [e]; exact h.srt⟩
theorem not_made {most : Int} (g : Gok ns) {op x s : Int} (ho : op = 3 ∨ op = 10 ∨ op = 11) (ff : formedF ns.length (nodeO op x 0 0 0 0) = true ∧ (sortedF ns (nodeO op x 0 0 0 0)).2 = 0 ∧ (sortedF ns (nodeO op x 0 0 0 0)).1.sort = s) (hr : (ns.length : Int) < most) :
    ∃ t k, makT most ns (nodeO op x 0 0 0 0) = (ns ++ t, k, 0) ∧ t.length ≤ 1 ∧ Gok (ns ++ t) ∧ NotAt (ns ++ t) op x s k := by
  obtain ⟨f1, f2, f3⟩ := ff
  obtain ⟨gm, hm⟩ := mak_ok (most := most) g f1 f2
  rcases hm with ⟨e0, ⟨t, ht, -⟩, l1, l2, hn⟩ | ⟨he, -⟩
  rotate_left
  · rcases mak_room (ns := ns) (n := nodeO op x 0 0 0 0) hr with q | q
    · exact absurd he q
    · rw [f2] at q; cases q
  have hl1 := makT_len (most := most) (ns := ns) (n := nodeO op x 0 0 0 0)
  obtain ⟨X, hX⟩ : ∃ X, X = makT most ns (nodeO op x 0 0 0 0) := ⟨_, rfl⟩
  rw [← hX] at gm e0 ht l1 l2 hn hl1
  obtain ⟨X1, X2, X3⟩ := X
  simp only at gm e0 ht l1 l2 hn hl1
  subst ht; subst e0
  have h2 : ¬ (nodeO op x 0 0 0 0).op = 2 := by show ¬ op = 2; omega
  obtain ⟨p1, p2, p3, p4, p5, p6, -, -⟩ := sorted_parts (ns := ns) h2
  exact ⟨t, X2, hX.symm, by simp at hl1; omega, gm, l1, l2, by rw [hn]; exact p1, by rw [hn]; exact p4, by rw [hn]; exact p5, by rw [hn]; exact p6, by rw [hn]; exact f3⟩
theorem not_simple {most : Int} {f : Nat} (g : Gok ns) (nrm : Nrm ns S) {op x s k : Int} (ho : op = 3 ∨ op = 10 ∨ op = 11) (h : NotAt ns op x s k) (hx : x ∈ S) (hr : (ns.length : Int) < most) :
    ∃ t z, simT most (f + 1) ns k = (ns ++ t, z, 0) ∧ t.length ≤ 1 ∧ Gok (ns ++ t) ∧ (z = k → Nrm (ns ++ t) (S ++ [k])) := by
  obtain ⟨i, hi, hni⟩ := nd_at h.lo h.hi
  have hmem := List.mem_of_getElem? hni
  have hf := g.form _ hmem
  have hs := g.srt _ hmem
  have hlo := h.lo
  have hhi := h.hi
  have h1 : ¬ (ndF ns k).op = 1 := by rw [h.o]; omega
  have h2 : ¬ (ndF ns k).op = 2 := by rw [h.o]; omega
  have har : arity (ndF ns k).op = 1 := by rw [h.o]; rcases ho with rfl | rfl | rfl <;> decide
  have hx1 := nrm.lo x hx
  have hx2 := nrm.hi x hx
  have hxk : x < k := by
    obtain ⟨⟨-, a1⟩, -⟩ := g.kok i _ hni
    rw [h.a] at a1
    omega
  have hkid : ∀ y, (y = (ndF ns k).a ∨ y = (ndF ns k).b ∨ y = (ndF ns k).c) → 0 < y → y ∈ S := fun y hy h0 => by
    rw [h.a, h.b, h.c] at hy
    rcases hy with rfl | rfl | rfl
    · exact hx
    · omega
    · omega
  rw [top_fix g nrm hlo hhi hkid]
  have hpath : (∃ v, pathF ns (ndF ns k) = .con v) ∨ (pathF ns (ndF ns k) = .at (ndF ns x).a ∧ (ndF ns x).op = op) ∨ pathF ns (ndF ns k) = .mk := by
    unfold pathF
    rw [har, if_neg (by omega), if_pos rfl]
    unfold unC
    cases foldF ns (ndF ns k) with
    | some v => exact .inl ⟨v, rfl⟩
    | none =>
      right
      simp only [h.o, h.a]
      by_cases c : (op = 3 ∨ op = 10 ∨ op = 11) ∧ (ndF ns x).op = op
      · rw [if_pos c]
        exact .inl ⟨rfl, c.2⟩
      · rw [if_neg c, if_neg (by omega), if_neg (by omega), if_neg (by omega), if_neg (by omega), if_neg (by omega)]
        exact .inr rfl
  rcases hpath with ⟨v, hp⟩ | ⟨hp, hxo⟩ | hp
  · obtain ⟨look0, hA0⟩ := look_any g
    have hfit0 := node_fit g hA0 hf (by rw [hs]) h1 h2
    have hpv := path_val g hA0 hf (by rw [hs]) h1 h2
    rw [hp] at hpv
    change nodeV look0 (valsV look0 ns) (ndF ns k) = v at hpv
    rw [nodeV_op h1 h2] at hpv
    have hvo : v.ok = true := by rw [← hpv]; exact hfit0.good.1
    obtain ⟨c1, c2⟩ := con_formed (ns := ns) hvo
    obtain ⟨gm, hm⟩ := mak_ok (most := most) g c1 (by rw [c2])
    rcases hm with ⟨e0, ⟨t, ht, -⟩, l1, l2, hn⟩ | ⟨he, -⟩
    rotate_left
    · rcases mak_room (ns := ns) (n := constN v) hr with q | q
      · exact absurd he q
      · rw [c2] at q; cases q
    have hl1 := makT_len (most := most) (ns := ns) (n := constN v)
    have hno : normF most (f + 1) ns (ndF ns k) = makT most ns (constN v) := by
      unfold normF
      rw [hp]
    rw [hno, if_pos e0]
    obtain ⟨X, hX⟩ : ∃ X, X = makT most ns (constN v) := ⟨_, rfl⟩
    rw [← hX] at gm e0 ht l1 l2 hn hl1 ⊢
    obtain ⟨X1, X2, X3⟩ := X
    simp only at gm e0 ht l1 l2 hn hl1
    subst ht; subst e0
    refine ⟨t, X2, rfl, by simp at hl1; omega, gm, fun e => ?_⟩
    rw [e, ndF_le hhi, c2] at hn
    rw [hn] at h1
    exact absurd rfl h1
  · have hno : normF most (f + 1) ns (ndF ns k) = (ns, (ndF ns x).a, 0) := by
      unfold normF
      rw [hp]
    rw [hno]
    refine ⟨[], (ndF ns x).a, by simp, by simp, by simpa using g, fun e => ?_⟩
    obtain ⟨j, hj, hnj⟩ := nd_at hx1 hx2
    obtain ⟨⟨-, a1⟩, -⟩ := g.kok j _ hnj
    omega
  · obtain ⟨j, hj, hnj⟩ := mak_there (most := most) g hmem
    have hno : normF most (f + 1) ns (ndF ns k) = (ns, (j : Int) + 1, 0) := by
      unfold normF
      rw [hp]
      exact hj
    rw [hno]
    refine ⟨[], (j : Int) + 1, by simp, by simp, by simpa using g, fun e => ?_⟩
    rw [List.append_nil]
    have hid : idx ns (ndF ns k) = some (k - 1).toNat := by
      unfold makT at hj
      rw [if_neg (by rw [hf]; simp), if_neg (by rw [hs]; simp), hs] at hj
      simp only at hj
      cases hx : idx ns (ndF ns k) with
      | none => exact absurd hmem (idx_none hx)
      | some j2 =>
        rw [hx] at hj
        simp at hj
        congr 1
        omega
    refine ⟨fun y hy => ?_, fun y hy => ?_, fun y hy => ?_, fun y hy => ?_, fun y hy z hz h0 => ?_⟩
    · rcases List.mem_append.1 hy with q | q
      · exact nrm.lo y q
      · simp at q; subst q; exact hlo
    · rcases List.mem_append.1 hy with q | q
      · exact nrm.hi y q
      · simp at q; subst q; exact hhi
    · rcases List.mem_append.1 hy with q | q
      · exact nrm.at' y q
      · simp at q; subst q; exact hid
    · rcases List.mem_append.1 hy with q | q
      · exact nrm.stay y q
      · simp at q; subst q; exact hp
    · rcases List.mem_append.1 hy with q | q
      · exact List.mem_append_left _ (nrm.kid y q z hz h0)
      · simp at q; subst q; exact List.mem_append_left _ (hkid z hz h0)
theorem not_rule (g : Gok ns) {op x s k : Int} (nrm : Nrm ns (S ++ [k])) (ho : op = 3 ∨ op = 10 ∨ op = 11) (h : NotAt ns op x s k) (hx : x ∈ S) (ff : formedF ns.length (nodeO op k 0 0 0 0) = true ∧ (sortedF ns (nodeO op k 0 0 0 0)).2 = 0) : Rule ns (S ++ [k]) (nodeO op k 0 0 0 0) x := by
  have h1 : ¬ (ndF ns k).op = 1 := by rw [h.o]; omega
  have har : arity op = 1 := by rcases ho with rfl | rfl | rfl <;> decide
  refine one_rule g nrm har (by omega) (by omega) (by simp) (List.mem_append_left _ hx) ff (fun q => absurd q h1) (fun q => absurd q h1) fun hfo _ => ?_
  rw [un_path har hfo]
  unfold unC
  rw [hfo]
  simp only [nodeO]
  rw [if_pos ⟨ho, h.o⟩, h.a]
end
section
variable {ns : List Nd} {S : List Int} {x zero one yes no N : Int}
theorem Cx.r_eq (C : Cx ns S x zero one yes no N) : Rule ns S (nodeO 8 x x 0 0 0) yes := by
  obtain ⟨o1, o2, o3, o4, -⟩ := C.o0
  have hN := C.h1
  have x1 := C.nrm.lo x C.sx
  have x2 := C.nrm.hi x C.sx
  refine two_rule C.g C.nrm (by decide) (by decide) (by decide) C.sx C.sx C.sy (sorted_eq x1 x2 x1 x2 C.xs C.xs (by omega) C.h2) (fun look hA => ?_) (fun _ _ => o3) fun hfo hn => .inr ⟨⟨Vl.bool true, ?_⟩, o3⟩
  · obtain ⟨n, X, n1, n2, -, e1, e2, e3, e4, e5⟩ := C.vx hA
    rw [e1, e4, mean_bool (by omega)]
    simp [boolV]
  · rw [self_path hfo (by decide), if_neg (by omega), if_neg (by omega), if_pos (by omega)]
theorem Cx.r_num (C : Cx ns S x zero one yes no N) {op p : Int} (hp : op = 39 ∧ p = N - 1 ∨ (40 ≤ op ∧ op ≤ 43) ∧ p = 0 ∨ op = 44 ∧ p = 1) : Rule ns S (nodeO op x 0 0 p 0) x := by
  have hN := C.h1
  have x1 := C.nrm.lo x C.sx
  have x2 := C.nrm.hi x C.sx
  have har : arity op = 1 := by unfold arity; rw [if_neg (by omega), if_neg (by omega), if_pos (by omega)]
  refine one_rule C.g C.nrm har (by omega) (by omega) C.sx C.sx (sorted_num x1 x2 C.xs (by omega) C.h2 hp) (fun _ look hA => ?_) (fun q => q) fun hfo hn => ?_
  · obtain ⟨n, X, n1, n2, en, e1, -⟩ := C.vx hA
    rw [e1]
    have h0 : (0 : Int) = ((0 : Nat) : Int) := rfl
    rcases hp with ⟨rfl, rfl⟩ | ⟨⟨q1, q2⟩, rfl⟩ | ⟨rfl, rfl⟩
    · rw [en]; exact v_extract_all n1 n2 X
    · rcases (by omega : op = 40 ∨ op = 41 ∨ op = 42 ∨ op = 43) with rfl | rfl | rfl | rfl
      · exact v_zext0 n2 X
      · exact v_sext0 n2 X
      · exact v_rotl0 (k := 0) n2 (by simp) X
      · exact v_rotr0 (k := 0) n2 (by simp) X
    · exact v_rep1 n1 n2 X
  · rw [un_path har hfo]
    unfold unC
    rw [hfo]
    simp only [nodeO, C.xs]
    rw [if_neg (by omega)]
    rcases hp with ⟨rfl, rfl⟩ | ⟨⟨q1, q2⟩, rfl⟩ | ⟨rfl, rfl⟩
    · simp
    · rcases (by omega : op = 40 ∨ op = 41 ∨ op = 42 ∨ op = 43) with rfl | rfl | rfl | rfl <;> simp
    · simp
theorem Cx.r_ite1 (C : Cx ns S x zero one yes no N) : Rule ns S (nodeO 9 yes x zero 0 0) x := by
  obtain ⟨o1, o2, o3, o4, t1, t2, t3, t4⟩ := C.o0
  have hN := C.h1
  exact ite_rule C.g C.nrm C.sy C.sx C.s0 C.sx t3 C.xs t1 (by omega) C.h2 (ite_yes C.zy)
theorem Cx.r_ite2 (C : Cx ns S x zero one yes no N) : Rule ns S (nodeO 9 no one x 0 0) x := by
  obtain ⟨o1, o2, o3, o4, t1, t2, t3, t4⟩ := C.o0
  have hN := C.h1
  exact ite_rule C.g C.nrm C.sn C.s1 C.sx C.sx t4 t2 C.xs (by omega) C.h2 (ite_no C.zn)
structure Cb (ns : List Nd) (S : List Int) (x yes no : Int) : Prop where
  g : Gok ns
  nrm : Nrm ns S
  sx : x ∈ S
  sy : yes ∈ S
  sn : no ∈ S
  xs : (ndF ns x).sort = 0
  zy : ndF ns yes = constN (Vl.bool true)
  zn : ndF ns no = constN (Vl.bool false)
theorem Cb.more {t : List Nd} (h : Cb ns S x yes no) (g : Gok (ns ++ t)) : Cb (ns ++ t) S x yes no := by
  have e : ∀ y, y ∈ S → ndF (ns ++ t) y = ndF ns y := fun y hy => ndF_le (h.nrm.hi y hy)
  exact ⟨g, h.nrm.more h.g rfl, h.sx, h.sy, h.sn, by rw [e _ h.sx]; exact h.xs, by rw [e _ h.sy]; exact h.zy, by rw [e _ h.sn]; exact h.zn⟩
theorem Cb.o0 (C : Cb ns S x yes no) : (ndF ns yes).op = 1 ∧ (ndF ns no).op = 1 ∧ (ndF ns yes).sort = 0 ∧ (ndF ns no).sort = 0 := by
  rw [C.zy, C.zn]
  exact ⟨rfl, rfl, rfl, rfl⟩
theorem Cb.vx (C : Cb ns S x yes no) {look : ByteArray → Option Vl} (hA : AllFit look ns) : ∃ b, V look ns x = Vl.bool b ∧ V look ns yes = Vl.bool true ∧ V look ns no = Vl.bool false := by
  have K := kid_ok C.g hA (C.nrm.lo x C.sx) (C.nrm.hi x C.sx)
  obtain ⟨b, e⟩ := Vl.of_bool K.ok (by rw [K.w, C.xs])
  exact ⟨b, e, con_all C.g hA (con_v C.zy), con_all C.g hA (con_v C.zn)⟩
theorem log_path {op a b : Int} (h : op = 4 ∨ op = 5) (hab : ¬ a = b) (hfo : foldF ns (nodeO op a b 0 0 0) = none) {c : Ch} (hl : logicF ns (nodeO op a b 0 0 0) = some c) : pathF ns (nodeO op a b 0 0 0) = c := by
  have e1 : (nodeO op a b 0 0 0).op = op := rfl
  have e2 : (nodeO op a b 0 0 0).a = a := rfl
  have e3 : (nodeO op a b 0 0 0).b = b := rfl
  have har : arity op = 2 := by rcases h with rfl | rfl <;> decide
  unfold pathF
  rw [e1, har, if_neg (by omega), if_neg (by omega), if_neg (by omega)]
  unfold binC
  rw [hfo]
  simp only [e2, e3, hab, false_and, if_false]
  rw [hl]
theorem Cb.r_log (C : Cb ns S x yes no) {op a b w : Int} (h : op = 4 ∧ a = x ∧ b = yes ∧ w = x ∨ op = 4 ∧ a = no ∧ b = x ∧ w = no ∨ op = 5 ∧ a = x ∧ b = no ∧ w = x ∨ op = 5 ∧ a = yes ∧ b = x ∧ w = yes) : Rule ns S (nodeO op a b 0 0 0) w := by
  obtain ⟨o1, o2, s1, s2⟩ := C.o0
  have x1 := C.nrm.lo x C.sx
  have x2 := C.nrm.hi x C.sx
  have y1 := C.nrm.lo yes C.sy
  have y2 := C.nrm.hi yes C.sy
  have n1 := C.nrm.lo no C.sn
  have n2 := C.nrm.hi no C.sn
  have nc : ¬ (ndF ns x).op = 1 → conF ns x = none ∧ ¬ x = yes ∧ ¬ no = x ∧ ¬ x = no ∧ ¬ yes = x := fun q => ⟨by unfold conF; rw [if_neg q], fun e => q (by rw [e]; exact o1), fun e => q (by rw [← e]; exact o2), fun e => q (by rw [e]; exact o2), fun e => q (by rw [← e]; exact o1)⟩
  have hyes : ∀ t, (Vl.bool t).yes = t := fun t => by cases t <;> rfl
  have hw0 : ∀ t, ¬ 0 < (Vl.bool t).w := fun t => by cases t <;> decide
  rcases h with ⟨rfl, rfl, rfl, rfl⟩ | ⟨rfl, rfl, rfl, rfl⟩ | ⟨rfl, rfl, rfl, rfl⟩ | ⟨rfl, rfl, rfl, rfl⟩
  · refine two_rule C.g C.nrm (by decide) (by decide) (by decide) C.sx C.sy C.sx (sorted_logic (by omega) x1 x2 y1 y2 C.xs s1) (fun look hA => ?_) (fun q _ => q) fun hfo hn => .inl ?_
    · obtain ⟨v, e1, e2, e3⟩ := C.vx hA
      rw [e1, e2, mean_bool (by omega)]
      cases v <;> simp [boolV, hyes]
    · obtain ⟨k1, k2, -⟩ := nc fun q => hn ⟨q, o1⟩
      refine log_path (by omega) k2 hfo ?_
      unfold logicF
      simp only [nodeO, k1, con_v C.zy]
      rw [if_neg (by omega), if_neg (by omega)]
      unfold logicC
      rw [if_neg (hw0 true), if_pos rfl, if_pos (hyes true)]
  · refine two_rule C.g C.nrm (by decide) (by decide) (by decide) C.sn C.sx C.sn (sorted_logic (by omega) n1 n2 x1 x2 s2 C.xs) (fun look hA => ?_) (fun _ _ => o2) fun hfo hn => .inl ?_
    · obtain ⟨v, e1, e2, e3⟩ := C.vx hA
      rw [e1, e3, mean_bool (by omega)]
      cases v <;> simp [boolV, hyes]
    · obtain ⟨k1, -, k2, -⟩ := nc fun q => hn ⟨o2, q⟩
      refine log_path (by omega) k2 hfo ?_
      unfold logicF
      simp only [nodeO, con_v C.zn]
      rw [if_neg (by omega)]
      unfold logicC
      rw [if_neg (hw0 false), if_pos rfl, if_neg (by rw [hyes]; simp)]
  · refine two_rule C.g C.nrm (by decide) (by decide) (by decide) C.sx C.sn C.sx (sorted_logic (by omega) x1 x2 n1 n2 C.xs s2) (fun look hA => ?_) (fun q _ => q) fun hfo hn => .inl ?_
    · obtain ⟨v, e1, e2, e3⟩ := C.vx hA
      rw [e1, e3, mean_bool (by omega)]
      cases v <;> simp [boolV, hyes]
    · obtain ⟨k1, -, -, k2, -⟩ := nc fun q => hn ⟨q, o2⟩
      refine log_path (by omega) k2 hfo ?_
      unfold logicF
      simp only [nodeO, k1, con_v C.zn]
      rw [if_neg (by omega), if_neg (by omega)]
      unfold logicC
      rw [if_neg (hw0 false), if_neg (by omega), if_pos rfl, if_neg (by rw [hyes]; simp)]
  · refine two_rule C.g C.nrm (by decide) (by decide) (by decide) C.sy C.sx C.sy (sorted_logic (by omega) y1 y2 x1 x2 s1 C.xs) (fun look hA => ?_) (fun _ _ => o1) fun hfo hn => .inl ?_
    · obtain ⟨v, e1, e2, e3⟩ := C.vx hA
      rw [e1, e2, mean_bool (by omega)]
      cases v <;> simp [boolV, hyes]
    · obtain ⟨k1, -, -, -, k2⟩ := nc fun q => hn ⟨o1, q⟩
      refine log_path (by omega) k2 hfo ?_
      unfold logicF
      simp only [nodeO, con_v C.zy]
      rw [if_neg (by omega)]
      unfold logicC
      rw [if_neg (hw0 true), if_neg (by omega), if_pos rfl, if_pos (hyes true)]
theorem Cb.r_self (C : Cb ns S x yes no) {op w : Int} (h : (op = 4 ∨ op = 5) ∧ w = x ∨ op = 6 ∧ w = no ∨ op = 8 ∧ w = yes) : Rule ns S (nodeO op x x 0 0 0) w := by
  obtain ⟨o1, o2, s1, s2⟩ := C.o0
  have x1 := C.nrm.lo x C.sx
  have x2 := C.nrm.hi x C.sx
  have hyes : ∀ t, (Vl.bool t).yes = t := fun t => by cases t <;> rfl
  rcases h with ⟨h, rfl⟩ | ⟨rfl, rfl⟩ | ⟨rfl, rfl⟩
  · have har : arity op = 2 := by rcases h with rfl | rfl <;> decide
    refine two_rule C.g C.nrm har (by omega) (by omega) C.sx C.sx C.sx (sorted_logic (by omega) x1 x2 x1 x2 C.xs C.xs) (fun look hA => ?_) (fun q _ => q) fun hfo hn => .inl ?_
    · obtain ⟨v, e1, e2, e3⟩ := C.vx hA
      rw [e1, mean_bool (by omega)]
      rcases h with rfl | rfl <;> cases v <;> simp [boolV, hyes]
    · rw [self_path hfo har, if_pos (by omega)]
  · refine two_rule C.g C.nrm (by decide) (by decide) (by decide) C.sx C.sx C.sn (sorted_logic (by omega) x1 x2 x1 x2 C.xs C.xs) (fun look hA => ?_) (fun _ _ => o2) fun hfo hn => .inr ⟨⟨Vl.bool false, ?_⟩, o2⟩
    · obtain ⟨v, e1, e2, e3⟩ := C.vx hA
      rw [e1, e3, mean_bool (by omega)]
      cases v <;> simp [boolV, hyes]
    · rw [self_path hfo (by decide), if_neg (by omega), if_pos (by omega), if_neg (by omega)]
  · refine two_rule C.g C.nrm (by decide) (by decide) (by decide) C.sx C.sx C.sy (sorted_eq x1 x2 x1 x2 C.xs C.xs (by omega) (by omega)) (fun look hA => ?_) (fun _ _ => o1) fun hfo hn => .inr ⟨⟨Vl.bool true, ?_⟩, o1⟩
    · obtain ⟨v, e1, e2, e3⟩ := C.vx hA
      rw [e1, e2, mean_bool (by omega)]
      cases v <;> simp [boolV]
    · rw [self_path hfo (by decide), if_neg (by omega), if_neg (by omega), if_pos (by omega)]
theorem Cb.r_ite (C : Cb ns S x yes no) : Rule ns S (nodeO 9 yes x no 0 0) x := by
  obtain ⟨o1, o2, s1, s2⟩ := C.o0
  exact ite_rule C.g C.nrm C.sy C.sx C.sn C.sx s1 C.xs s2 (by omega) (by omega) (ite_yes C.zy)
end
end Go.Proofs.Ytiobohfiaapgeaa
end
section
namespace Go.Proofs.Ytiobohfiaapgeaa
set_option maxRecDepth 100000
set_option maxHeartbeats 2000000
theorem Fr.cutF {F : List Nat} {H H' : AHeap} (k : Fr F H H') : Fr F H (H.cut H') :=
  ⟨Nat.le_refl _, fun p hp hF => by simp only [AHeap.cut]; rw [if_pos hp]; exact k.obj p hp hF, fun p hp hF => by simp only [AHeap.cut]; rw [if_pos hp]; exact k.wr p hp hF⟩
theorem TG.move {A B : AHeap} {g : Nat} {most : Int} {ns : List Nd} {o1 o2 o3 : Nat} (h : TG A g most ns o1 o2 o3) (hm : ∀ p, p ∈ g :: o2 :: o3 :: objs (slv o1 ns) → p < B.size ∧ B.obj p = A.obj p) : TG B g most ns o1 o2 o3 := by
  have m1 := hm g (by simp)
  have m2 := hm o2 (by simp)
  have m3 := hm o3 (by simp)
  have m4 : ns ≠ [] → o1 < B.size ∧ B.obj o1 = A.obj o1 := fun e => hm o1 (by simp [slv, e])
  exact ⟨m1.1, fun e => (m4 e).1, m2.1, m3.1, by rw [m1.2]; exact h.og, fun e => by rw [(m4 e).2]; exact h.b1 e, by rw [m2.2]; exact h.b2, by rw [m3.2]; exact h.b3, h.n1, h.n2, h.n3, h.n12, h.n13, h.n23, h.lim, h.lim2⟩
theorem GT.move {A B : AHeap} {g : Nat} {most : Int} {ns : List Nd} {F : List Nat} (h : GT A g most ns F) (hm : ∀ p, p ∈ F → p < B.size ∧ B.obj p = A.obj p) : GT B g most ns F := by
  obtain ⟨o1, o2, o3, t, v, kk, rfl⟩ := h
  exact ⟨o1, o2, o3, t.move hm, v, kk, rfl⟩
theorem GT.ltF {H : AHeap} {g : Nat} {most : Int} {ns : List Nd} {F : List Nat} (h : GT H g most ns F) {p : Nat} (hp : p ∈ F) : p < H.size := by
  obtain ⟨o1, o2, o3, t, v, kk, rfl⟩ := h
  simp only [List.mem_cons] at hp
  rcases hp with rfl | rfl | rfl | hp
  · exact t.lg
  · exact t.l2
  · exact t.l3
  · unfold slv at hp
    split at hp
    · simp at hp
    · rename_i hne
      simp at hp
      subst hp
      exact t.l1 hne
theorem GT.frame {A B : AHeap} {g : Nat} {most : Int} {ns : List Nd} {F X : List Nat} (h : GT A g most ns F) (k : Fr X A B) (hx : ∀ p, p ∈ F → p ∉ X) : GT B g most ns F :=
  h.move fun p hp => ⟨k.lt (h.ltF hp), k.obj p (h.ltF hp) (hx p hp)⟩
theorem GT.lim {H : AHeap} {g : Nat} {most : Int} {ns : List Nd} {F : List Nat} (h : GT H g most ns F) : (ns.length : Int) ≤ most ∧ most ≤ 4096 := by
  obtain ⟨o1, o2, o3, t, v, kk, rfl⟩ := h
  exact ⟨t.lim, t.lim2⟩
theorem GT.mem {H : AHeap} {g : Nat} {most : Int} {ns : List Nd} {F : List Nat} (h : GT H g most ns F) : g ∈ F := by
  obtain ⟨o1, o2, o3, t, v, kk, rfl⟩ := h
  simp
theorem GT.cut {H H' : AHeap} {g : Nat} {most : Int} {ns js : List Nd} {F F' : List Nat} (g0 : GT H g most ns F) (g1 : GT H' g most js F') (hs : Shut H H') : GT (H.cut H') g most js F' ∧ ∀ p, p ∈ F' → p < H.size := by
  have hlt : ∀ p, p ∈ F' → p < H.size := by
    obtain ⟨o1, o2, o3, t0, v0, kk0, rfl⟩ := g0
    obtain ⟨p1, p2, p3, t, v, kk, rfl⟩ := g1
    intro p hp
    simp only [List.mem_cons] at hp
    rcases hs.obj g t0.lg with e | e
    · rw [t.og, t0.og] at e
      simp only [AObj.cells.injEq, List.cons.injEq, AV.map.injEq, and_true, true_and] at e
      obtain ⟨e1, rfl, rfl⟩ := e
      rcases hp with rfl | rfl | rfl | hp
      · exact t0.lg
      · exact t0.l2
      · exact t0.l3
      · rw [e1] at hp
        exact (slv_reads t0.l1 t0.b1).lt hp
    · rw [t.og] at e
      simp only [closedO, closedL, closed, Bool.and_eq_true, decide_eq_true_eq, Bool.true_and, Bool.and_true] at e
      rcases hp with rfl | rfl | rfl | hp
      · exact t0.lg
      · exact e.2.1
      · exact e.2.2
      · have e1 := e.1
        unfold slv at hp e1
        split at hp
        · simp at hp
        · rename_i hne
          rw [if_neg hne] at e1
          simp at hp
          subst hp
          simpa [closed] using e1
  exact ⟨g1.move fun p hp => ⟨hlt p hp, cut_obj (hlt p hp)⟩, hlt⟩
structure WG (H : AHeap) (w dn g : Nat) (most : Int) (ns : List Nd) (F : List Nat) (e : Int) : Prop where
  self : H.obj w = .cells [.ptr g 0, .map dn, .int .i64 e]
  lo : w < H.size
  ld : dn < H.size
  G : GT H g most ns F
  off : ∀ p, p ∈ F → p ≠ w ∧ p ≠ dn
  ne : w ≠ dn
theorem WG.keeps {H H' : AHeap} {w dn g : Nat} {most : Int} {ns : List Nd} {F : List Nat} {e : Int} (h : WG H w dn g most ns F e) (k : Keeps H H') : WG H' w dn g most ns F e :=
  ⟨by rw [k.obj w h.lo]; exact h.self, k.lt h.lo, k.lt h.ld, h.G.keeps k, h.off, h.ne⟩
theorem WG.back {H H' : AHeap} {w dn g : Nat} {most : Int} {ns js : List Nd} {F F' : List Nat} {e0 e1 : Int} (h0 : WG H w dn g most ns F e0) (h1 : WG H' w dn g most js F' e1) (k : Fr (w :: F) H H') (id : Int) :
    ∃ D, back [] H (.int .i64 id) H' = (.int .i64 id, D) ∧ WG D w dn g most js F' e1 ∧ Fr (w :: F) H D := by
  by_cases hs : Shut H H'
  · rw [back_nil (by simp) hs]
    obtain ⟨g2, -⟩ := h0.G.cut h1.G hs
    exact ⟨_, rfl, ⟨by rw [cut_obj h0.lo]; exact h1.self, h0.lo, h0.ld, g2, h1.off, h1.ne⟩, k.cutF⟩
  · rw [back_not hs]
    exact ⟨_, rfl, h1, k⟩
def Wv (H : AHeap) (w dn g : Nat) (most : Int) (F : List Nat) (x : List Nd × Int × Int) (r : Option (AV × AHeap)) : Prop :=
  ∃ H' F' ns' id e, r = some (.int .i64 id, H') ∧ WG H' w dn g most ns' F' e ∧ Fr (w :: F) H H' ∧ (∀ p, p ∈ F' → p ∈ F ∨ H.size ≤ p) ∧ (x.2.2 = 0 → ns' = x.1 ∧ id = x.2.1 ∧ e = 0) ∧ (¬ x.2.2 = 0 → e = x.2.2)
theorem nd_v (n : Nd) : lo n.v.n = n.vl ∧ hi n.v.n = n.vh ∧ n.v.w = n.vw := ⟨lo_mk _ _, hi_mk _ _, rfl⟩
section
variable {H : AHeap} {w dn g : Nat} {most : Int} {ns : List Nd} {F : List Nat} {e : Int}
theorem WG.node (h : WG H w dn g most ns F e) (id : Int) : R Zp [.ptr g 0, .int .i64 id] H = some (.tup [.agg (ndF ns id).cs, .bool (nodeS ns id).isSome], H) := by
  obtain ⟨o1, o2, o3, t, -⟩ := h.G
  exact node_run t
theorem value_run (h : WG H w dn g most ns F e) (id : Int) : R Z0 [.ptr w 0, .int .i64 id] H = some (.tup [.agg [.int .i64 (ndF ns id).vw, u (ndF ns id).vl, u (ndF ns id).vh], .bool (decide ((ndF ns id).op = 1))], H) := by
  have hn := fun H' (k : Keeps H H') => (h.keeps k).node id
  have hn1 := hn (H.new (.cells [.int .i64 0, u 0#64, u 0#64])) (Keeps.new H _)
  rw [Ze9]
  obtain ⟨n, hnn⟩ : ∃ n, n = ndF ns id := ⟨_, rfl⟩
  rw [← hnn] at hn1 ⊢
  obtain ⟨op, sort, a, b, c, p, q, vw, vl, vh, name⟩ := n
  simp only [Nd.cs] at hn1
  have hsep : sepT [3, 5, 999, 1006] = some 6 := rfl
  have hsl : ∀ o os, sepL [3, 5, 999, 1006] o os = decide (os ≤ o) := fun o os => rfl
  have hlo := h.lo
  have hself := h.self
  simp (maxDischargeDepth := 40) [Zdq, hself, hlo, hn1, hsep, hsl, objOf_ptr]
theorem constant_run (h : WG H w dn g most ns F 0) {v : Vl} {r : Option (AV × AHeap)} (hr : R Zh [.ptr w 0, .agg [.int .i64 v.w, u (lo v.n), u (hi v.n)]] H = r)
    (hmk : ∀ H' r', Keeps H H' → R Zg [.ptr w 0, .agg (constN v).cs] H' = r' → Wv H' w dn g most F (makT most ns (constN v)) r') : Wv H w dn g most F (makT most ns (constN v)) r := by
  rw [Zer] at hr
  simp (maxDischargeDepth := 40) [Zc8] at hr
  generalize hA : R Zg _ _ = q at hr
  obtain ⟨H1, F1, ns1, id, e1, rfl, g1, k1, n1, ok, bad⟩ := hmk _ _ (Keeps.new H (.cells [.int .i64 v.w, u (lo v.n), u (hi v.n)])) hA
  simp at hr
  have k2 : Fr (w :: F) H H1 := ((Keeps.new H _).fr _).trans k1 fun p hp => .inl hp
  obtain ⟨D, hD, g2, k3⟩ := h.back g1 k2 id
  rw [hD] at hr
  refine ⟨D, F1, ns1, id, e1, hr.symm, g2, k3, fun p hp => ?_, ok, bad⟩
  rcases n1 p hp with h | h
  · exact .inl h
  · simp at h; exact .inr (by omega)
theorem make_run (h : WG H w dn g most ns F 0) {n : Nd} {r : Option (AV × AHeap)} (hr : R Zg [.ptr w 0, .agg n.cs] H = r) : Wv H w dn g most F (makT most ns n) r := by
  rw [Zdw] at hr
  have hcs : ∃ op sort a b c p q vw vl vh name, n = ⟨op, sort, a, b, c, p, q, vw, vl, vh, name⟩ := ⟨_, _, _, _, _, _, _, _, _, _, _, rfl⟩
  obtain ⟨op, sort, a, b, c, p, q, vw, vl, vh, name, hn⟩ := hcs
  have hcs : n.cs = [.int .i64 op, .int .i64 sort, .int .i64 a, .int .i64 b, .int .i64 c, .int .i64 p, .int .i64 q, .int .i64 vw, u vl, u vh, .str name] := by rw [hn]; rfl
  rw [hcs] at hr
  simp (maxDischargeDepth := 40) [Zcy, h.self, h.lo] at hr
  rw [← hcs] at hr
  generalize hA : R Zi _ _ = q at hr
  have kn := Keeps.new H (.cells n.cs)
  obtain ⟨H1, F1, rfl, G1, m1⟩ := mk_run (h.G.keeps kn) hA
  have k1 : Fr F H H1 := (kn.fr _).trans m1.fr fun p hp => .inl hp
  have hw : w ∉ F := fun hm => (h.off w hm).1 rfl
  have o1 : H1.obj w = .cells [.ptr g 0, .map dn, .int .i64 0] := by rw [k1.obj w h.lo hw]; exact h.self
  have l1 := k1.lt h.lo
  have n1 : ∀ p, p ∈ F1 → p ∈ F ∨ H.size ≤ p := fun p hp => by
    rcases m1.new p hp with h | h
    · exact .inl h
    · simp at h; exact .inr (by omega)
  simp (maxDischargeDepth := 40) [o1] at hr
  generalize hX : H1.set w (.cells [.ptr g 0, .map dn, .int .i64 (makT most ns n).2.2]) = H2 at hr
  have k2 : Fr (w :: F) H H2 := by rw [← hX]; exact (k1.weak fun p hp => .inl (by simp [hp])).set (.inl (by simp)) _
  have off1 : ∀ p, p ∈ F1 → p ≠ w ∧ p ≠ dn := fun p hp => by
    rcases n1 p hp with h1 | h1
    · exact h.off p h1
    · have := h.lo; have := h.ld; omega
  have g2 : WG H2 w dn g most (makT most ns n).1 F1 (makT most ns n).2.2 := by
    refine ⟨by rw [← hX]; simp, k2.lt h.lo, k2.lt h.ld, G1.frame (X := [w]) (by rw [← hX]; exact (Fr.refl _ H1).set (.inl (by simp)) _) fun p hp => by simpa using (off1 p hp).1, off1, h.ne⟩
  obtain ⟨D, hD, g3, k3⟩ := h.back g2 k2 (makT most ns n).2.1
  rw [hD] at hr
  exact ⟨D, F1, _, _, _, hr.symm, g3, k3, n1, fun h0 => ⟨rfl, rfl, h0⟩, fun _ => rfl⟩
end
end Go.Proofs.Ytiobohfiaapgeaa
end
section
namespace Go.Proofs.Ytiobohfiaapgeaa
set_option maxRecDepth 100000
set_option maxHeartbeats 4000000
theorem Nd.parts' (n : Nd) : n.cs = [.int .i64 n.op, .int .i64 n.sort, .int .i64 n.a, .int .i64 n.b, .int .i64 n.c, .int .i64 n.p, .int .i64 n.q, .int .i64 n.vw, u n.vl, u n.vh, .str n.name] := rfl
theorem consF_snoc (ns : List Nd) (k : Int) : ∀ l : List Int, consF ns (l ++ [k]) = (consF ns l).bind fun vs => (conF ns k).map fun v => vs ++ [v]
  | [] => by
    simp only [List.nil_append, consF]
    cases conF ns k <;> rfl
  | x :: l => by
    simp only [List.cons_append, consF]
    cases conF ns x with
    | none => rfl
    | some v =>
      simp only
      rw [consF_snoc ns k l]
      cases consF ns l with
      | none => rfl
      | some vs =>
        cases conF ns k <;> rfl
theorem consF_none (ns : List Nd) {k : Int} (h : conF ns k = none) : ∀ l m : List Int, consF ns (l ++ k :: m) = none
  | [], m => by simp [consF, h]
  | x :: l, m => by
    simp only [List.cons_append, consF]
    cases conF ns x with
    | none => rfl
    | some v => simp only; rw [consF_none ns h l m]; rfl
theorem consF_len {ns : List Nd} : ∀ {l : List Int} {vs : List Vl}, consF ns l = some vs → vs.length = l.length
  | [], vs, h => by cases h; rfl
  | x :: l, vs, h => by
    simp only [consF] at h
    cases hx : conF ns x with
    | none => rw [hx] at h; cases h
    | some v =>
      rw [hx] at h
      simp only at h
      cases hl : consF ns l with
      | none => rw [hl] at h; cases h
      | some ws =>
        rw [hl] at h
        cases h
        simp [consF_len hl]
theorem conF_cs {ns : List Nd} {k : Int} {v : Vl} (h : conF ns k = some v) : (ndF ns k).op = 1 ∧ v = (ndF ns k).v := by
  unfold conF at h
  split at h
  · rename_i ho; cases h; exact ⟨ho, rfl⟩
  · cases h
theorem conF_no {ns : List Nd} {k : Int} (h : conF ns k = none) : ¬ (ndF ns k).op = 1 := by
  unfold conF at h
  split at h
  · cases h
  · assumption
theorem flatV_snoc (l : List Vl) (v : Vl) : flatV (l ++ [v]) = flatV l ++ v.cs := by simp [flatV]
section
variable {H : AHeap} {w dn g : Nat} {most : Int} {ns : List Nd} {F : List Nat} {e : Int}
theorem Wv.up (h : WG H w dn g most ns F 0) {H1 : AHeap} (k : Keeps H H1) {x : List Nd × Int × Int} {r1 : Option (AV × AHeap)} (hw : Wv H1 w dn g most F x r1) : ∃ id H2, r1 = some (.int .i64 id, H2) ∧ Wv H w dn g most F x (some (back [] H (.int .i64 id) H2)) := by
  obtain ⟨H2, F2, ns2, id, e2, rfl, g2, k2, n2, ok, bad⟩ := hw
  have k3 : Fr (w :: F) H H2 := (k.fr _).trans k2 fun p hp => .inl hp
  obtain ⟨D, hD, g4, k4⟩ := h.back g2 k3 id
  refine ⟨id, H2, rfl, D, F2, ns2, id, e2, by rw [hD], g4, k4, fun p hp => ?_, ok, bad⟩
  have := k.size
  rcases n2 p hp with h | h
  · exact .inl h
  · exact .inr (by omega)
theorem folded_loop (h : WG H w dn g most ns F 0) {o m : Nat} {f : Bool} {ks all : List Int} (hm : m ≤ 3) (ho : o < H.size) (hob : H.obj o = .cells (all.map (.int .i64))) (hks : ks = all.take m) (hl : all.length = 3) {ev : Env} {r : Rn}
    (hL : loopL Try.prog KT R Zbp ev H = r) (e0 : ev 0 = some (.ptr w 0)) (e5 : ev 5 = some .nils) (e22 : ev 22 = some (.row o 0 1 m f)) (e23 : ev 23 = some (.int .i64 m)) (e24 : ev 24 = some (.int .i64 0)) :
    ∃ x ev' H', r = some (x, ev', H') ∧ (Keeps H H' ∧ ((x = .ret ∧ ev' 4 = some (.int .i64 0) ∧ consF ns ks = none) ∨ (x = .exit 0 ∧ ∃ v vs, consF ns ks = some vs ∧ ev' 5 = some v ∧ RV H' v vs))) ∧ ∀ t, t ∉ defs Zbp → ev' t = ev t := by
  have hkl : ks.length = m := by rw [hks]; simp; omega
  refine loop_count Zbp.eq_1 hL m (fun i e1 H1 => e1 24 = some (.int .i64 i) ∧ Keeps H H1 ∧ ∃ v vs, consF ns (ks.take i) = some vs ∧ vs.length = i ∧ e1 5 = some v ∧ Reads H1 v 3 vs.length (flatV vs) ∧ grows v ∧ ∀ p, p ∈ objs v → H.size ≤ p) _ 0 (Nat.zero_le _) ⟨e24, Keeps.refl _, .nils, [], by simp [consF], rfl, e5, by simp [flatV], by simp, by simp⟩ ?_ ?_
  · rintro i e1 H1 hf - hi ⟨f24, k1, v, vs, hc, hvl, f5, rv, gv, nv⟩
    have w1 : IntKind.i64.wrap ((i : Int) + 1) = (i : Int) + 1 := i64w (by omega) (by omega)
    have c1 : (i : Int) < m := by omega
    have hob1 : H1.obj o = .cells (all.map (.int .i64)) := by rw [k1.obj o ho]; exact hob
    have hia : i < all.length := by omega
    have hik : i < ks.length := by omega
    have hget : (all.map (AV.int .i64))[i]? = some (.int .i64 (ks.getD i 0)) := by
      rw [List.getElem?_map, List.getElem?_eq_getElem hia]
      rw [hks, List.getD_eq_getElem?_getD, List.getElem?_take_of_lt hi, List.getElem?_eq_getElem hia]
      rfl
    have ta : ks.take (i + 1) = ks.take i ++ [ks.getD i 0] := by rw [List.take_add_one]; simp [List.getD_eq_getElem?_getD, hik]
    have td : ks = ks.take i ++ ks.getD i 0 :: ks.drop (i + 1) := by
      have : ks.getD i 0 = ks[i] := by simp [List.getD_eq_getElem?_getD, hik]
      rw [this, ← List.drop_eq_getElem_cons hik, List.take_append_drop]
    have hval := value_run (h.keeps k1) (ks.getD i 0)
    obtain ⟨k, hk⟩ : ∃ k, k = ks.getD i 0 := ⟨_, rfl⟩
    rw [← hk] at hget ta td hval
    obtain ⟨L, hL'⟩ : ∃ L, L = all.map (AV.int .i64) := ⟨_, rfl⟩
    rw [← hL'] at hob1 hget
    rw [ta, consF_snoc, hc]
    cases hco : conF ns k with
    | none =>
      have hno := conF_no hco
      have hcn : consF ns ks = none := by rw [td]; exact consF_none ns hco _ _
      simp (maxDischargeDepth := 40) [hf, f24, e0, e22, e23, c1, hob1, hget, hval, hno, hcn, k1]
      exact k1.trans ((Keeps.new H1 _).set (Nat.le_refl _) _)
    | some u' =>
      obtain ⟨hop, hu⟩ := conF_cs hco
      simp (maxDischargeDepth := 40) [hf, f24, f5, e0, e22, e23, c1, hob1, hget, hval, hop]
      generalize hA : appU _ _ _ _ = q
      obtain ⟨nu1, nu2, nu3⟩ := nd_v (ndF ns k)
      have hcs : u'.cs = [.int .i64 (ndF ns k).vw, u (ndF ns k).vl, u (ndF ns k).vh] := by rw [hu]; unfold Vl.cs; rw [nu1, nu2, nu3]
      have kn := (((Keeps.new H1 (.cells [.int .i64 0, u 0#64, u 0#64])).set (Nat.le_refl _) (.cells [.int .i64 (ndF ns k).vw, u (ndF ns k).vl, u (ndF ns k).vh])).new' (.cells [.int .i64 (ndF ns k).vw, u (ndF ns k).vl, u (ndF ns k).vh]))
      obtain ⟨H2, rfl, F2, s2, o2, rd2⟩ := app_of hA (rv.keep kn) gv (Reads.row' (all := [.int .i64 (ndF ns k).vw, u (ndF ns k).vl, u (ndF ns k).vh]) (by simp) (by simp) (by simp)) (by omega) rfl (by omega) (by omega) (by omega) (by simp)
      simp [f24, w1]
      refine ⟨F2.keeps (k1.trans kn) nv, hvl, ?_, ?_⟩
      · rw [flatV_snoc, hcs]
        simpa using rd2
      · have := k1.size
        omega
  · rintro e1 H1 hf ⟨f24, k1, v, vs, hc, hvl, f5, rv, gv, nv⟩
    rw [List.take_of_length_le (by omega)] at hc
    simp [hf, f24, e23, f5]
    exact ⟨k1, v, vs, hc, rfl, rv⟩
theorem folded_run (h : WG H w dn g most ns F 0) {n : Nd} (har : 0 ≤ arity n.op) {r : Option (AV × AHeap)} (hr : R Zy [.ptr w 0, .agg n.cs] H = r) :
    match foldF ns n with
    | none => r = some (.int .i64 0, H)
    | some v => Wv H w dn g most F (makT most ns (constN v)) r := by
  rw [Ze4] at hr
  have h3 := arity_le n.op
  obtain ⟨m, hm⟩ : ∃ m : Nat, arity n.op = m := ⟨(arity n.op).toNat, by omega⟩
  have har' := fun H => arity_run (op := n.op) (H := H)
  rw [hm] at har'
  have hsl : ∀ (H : AHeap) o, aslice Try.prog H Zbm (.row o 0 1 3 true) none (some (.int .i64 (m : Int))) none = some (.row o 0 1 m (true && decide ((m : Int) = (3 : Nat)))) := fun H o => aslice_to (by simp) (by omega)
  have hlo := h.lo
  have hself := h.self
  simp only [Nd.parts'] at hr
  simp (maxDischargeDepth := 40) [Zdg, har', hsl] at hr
  generalize hL : loopL _ _ _ _ _ _ = q at hr
  have kn : Keeps H ((H.new (.cells n.cs)).new (.cells [.int .i64 n.a, .int .i64 n.b, .int .i64 n.c])) := ((Keeps.refl H).new' _).new' _
  obtain ⟨x, ev, H1, rfl, ⟨k1, hx⟩, fr⟩ := folded_loop (h.keeps kn) (all := [n.a, n.b, n.c]) (o := H.size + 1) (m := m) (f := decide ((m : Int) = 3)) (by omega) (by simp) (by simp [Nd.parts']) rfl rfl hL (by simp) (by simp) (by simp) (by simp) (by simp)
  have k2 := kn.trans k1
  have hfo : foldF ns n = match consF ns ([n.a, n.b, n.c].take m) with
      | none => none
      | some l => if (applyS n.op n.p n.q l).2 = 0 then some (applyS n.op n.p n.q l).1 else none := by
    unfold foldF
    rw [hm]
    rfl
  rw [hfo]
  rcases hx with ⟨rfl, f4, hc⟩ | ⟨rfl, v, vs, hc, f5, rv⟩
  · rw [hc]
    simp [f4] at hr
    rw [back_k (by simp) k2] at hr
    exact hr.symm
  · rw [hc]
    simp only
    have hlen : vs.length ≤ 1000 := by
      have h1 := consF_len hc
      have h2 : ([n.a, n.b, n.c].take m).length ≤ 3 := by simp; omega
      omega
    have hap := apply_run (op := n.op) (p := n.p) (q := n.q) rv hlen
    have hob : H1.obj H.size = .cells n.cs := by rw [k1.obj _ (by simp)]; simp
    have hl1 : H.size < H1.size := by have := k1.size; simp at this; omega
    rw [Nd.parts'] at hob
    have kk := k2.trans ((Keeps.new H1 (.cells [.int .i64 0, u 0#64, u 0#64])).set (Nat.le_refl _) (.cells [.int .i64 (applyS n.op n.p n.q vs).1.w, u (lo (applyS n.op n.p n.q vs).1.n), u (hi (applyS n.op n.p n.q vs).1.n)]))
    by_cases c : (applyS n.op n.p n.q vs).2 = 0
    · rw [if_pos c]
      rw [c] at hap
      simp (maxDischargeDepth := 40) [fr, f5, hob, hap] at hr
      generalize hA : R Zh _ _ = q at hr
      have hW := constant_run (h.keeps kk) hA fun H' r' k' hr' => make_run ((h.keeps kk).keeps k') hr'
      obtain ⟨id, H2, rfl, hW2⟩ := Wv.up h kk hW
      simp at hr
      rw [← hr]
      exact hW2
    · rw [if_neg c]
      simp (maxDischargeDepth := 40) [fr, f5, hob, hap, c] at hr
      rw [back_k (by simp) kk] at hr
      exact hr.symm
end
end Go.Proofs.Ytiobohfiaapgeaa
end
section
namespace Go.Proofs.Ytiobohfiaapgeaa
set_option maxRecDepth 100000
set_option maxHeartbeats 4000000
def exF (most : Int) (f : Nat) (ns : List Nd) (n : Nd) : Ch → List Nd × Int × Int
  | .at k => (ns, k, 0)
  | .con v => makT most ns (constN v)
  | .mk => makT most ns n
  | .again m => normF most f ns m
  | .shl x v => if (makT most ns (constN v)).2.2 = 0 then normF most f (makT most ns (constN v)).1 (nodeO 26 x (makT most ns (constN v)).2.1 0 0 0) else ((makT most ns (constN v)).1, 0, (makT most ns (constN v)).2.2)
theorem normF_ex {most : Int} {f : Nat} {ns : List Nd} {n : Nd} : normF most (f + 1) ns n = exF most f ns n (pathF ns n) := by
  unfold normF exF
  cases pathF ns n <;> rfl
def NormC (f : Nat) : Prop := ∀ {H : AHeap} {w dn g : Nat} {most : Int} {ns : List Nd} {F : List Nat} {n : Nd} {r : Option (AV × AHeap)}, WG H w dn g most ns F 0 → Gok ns → formedF ns.length n = true → (sortedF ns n).2 = 0 → (normF most f ns n).2.2 ≠ -1 →
  R Zl [.ptr w 0, .agg n.cs] H = r → Wv H w dn g most F (normF most f ns n) r
theorem ok_w {v : Vl} (h : v.ok = true) : 0 ≤ v.w ∧ v.w ≤ 128 := by
  unfold Vl.ok rightF at h
  by_cases c : v.w = 0
  · omega
  · rw [if_neg c] at h
    simp at h
    omega
section
variable {H : AHeap} {w dn g : Nat} {most : Int} {ns : List Nd} {F : List Nat} {e : Int}
theorem Wv.stay (h : WG H w dn g most ns F 0) (k : Int) : Wv H w dn g most F (ns, k, 0) (some (.int .i64 k, H)) :=
  ⟨H, F, ns, k, 0, rfl, h, Fr.refl _ _, fun _ hp => .inl hp, fun _ => ⟨rfl, rfl, rfl⟩, fun h => absurd rfl h⟩
theorem kid_sort (g : Gok ns) {k : Int} (h1 : 1 ≤ k) (h2 : k ≤ ns.length) : 0 ≤ (ndF ns k).sort ∧ (ndF ns k).sort ≤ 128 := by
  obtain ⟨look, hA⟩ := look_any g
  have K := kid_ok g hA h1 h2
  rw [← K.w]
  exact ok_w K.ok
theorem ext_bounds (g : Gok ns) {n : Nd} (hf : formedF ns.length n = true) (hs : (sortedF ns n).2 = 0) (h39 : n.op = 39) : 0 ≤ n.q ∧ n.q ≤ n.p ∧ n.p < 128 := by
  obtain ⟨look, hA⟩ := look_any g
  have F := node_fit g hA hf hs (by omega) (by omega)
  rw [h39] at F
  obtain ⟨l, hl⟩ : ∃ l, l = kidsV (valsV look ns) n := ⟨_, rfl⟩
  obtain ⟨s, hs⟩ : ∃ s, s = (sortedF ns n).1.sort := ⟨_, rfl⟩
  obtain ⟨p, hp⟩ : ∃ p, p = n.p := ⟨_, rfl⟩
  obtain ⟨q, hq⟩ : ∃ q, q = n.q := ⟨_, rfl⟩
  rw [← hl, ← hs, ← hp, ← hq] at F
  rw [← hp, ← hq]
  cases F with
  | extract N i j x g1 g2 _ g4 g5 g6 g7 => omega
  | _ => omega
theorem again_up {f : Nat} (hC : NormC f) (h : WG H w dn g most ns F 0) (gk : Gok ns) {n m : Nd} (hne : (exF most f ns n (.again m)).2.2 ≠ -1) {look : ByteArray → Option Vl} (P : PV look ns n (.again m)) {H1 : AHeap} (k : Keeps H H1) {r : Option (AV × AHeap)} (hr : R Zl [.ptr w 0, .agg m.cs] H1 = r) :
    ∃ id H2, r = some (.int .i64 id, H2) ∧ Wv H w dn g most F (exF most f ns n (.again m)) (some (back [] H (.int .i64 id) H2)) := by
  obtain ⟨-, -, m3, m4, -⟩ := P
  exact Wv.up h k (hC (h.keeps k) gk m3 (by rw [m4]) hne hr)
theorem mk_up {f : Nat} (h : WG H w dn g most ns F 0) {n : Nd} {H1 : AHeap} (k : Keeps H H1) {r : Option (AV × AHeap)} (hr : R Zg [.ptr w 0, .agg n.cs] H1 = r) :
    ∃ id H2, r = some (.int .i64 id, H2) ∧ Wv H w dn g most F (exF most f ns n .mk) (some (back [] H (.int .i64 id) H2)) :=
  Wv.up h k (make_run (h.keeps k) hr)
theorem con_up {f : Nat} (h : WG H w dn g most ns F 0) {n : Nd} {v : Vl} {H1 : AHeap} (k : Keeps H H1) {r : Option (AV × AHeap)} (hr : R Zh [.ptr w 0, .agg [.int .i64 v.w, u (lo v.n), u (hi v.n)]] H1 = r) :
    ∃ id H2, r = some (.int .i64 id, H2) ∧ Wv H w dn g most F (exF most f ns n (.con v)) (some (back [] H (.int .i64 id) H2)) :=
  Wv.up h k (constant_run (h.keeps k) hr fun _ _ k' hr' => make_run ((h.keeps k).keeps k') hr')
theorem at_up {f : Nat} (h : WG H w dn g most ns F 0) {n : Nd} {k : Int} {H1 : AHeap} (kk : Keeps H H1) : Wv H w dn g most F (exF most f ns n (.at k)) (some (back [] H (.int .i64 k) H1)) := by
  rw [back_k (by simp) kk]
  exact Wv.stay h k
theorem slice_run {f : Nat} (hC : NormC f) (h : WG H w dn g most ns F 0) (gk : Gok ns) {n : Nd} (hf : formedF ns.length n = true) (hs : (sortedF ns n).2 = 0) (h39 : n.op = 39) (hne : (exF most f ns n (sliceF ns n (ndF ns n.a))).2.2 ≠ -1) {r : Option (AV × AHeap)}
    (hr : R Z6 [.ptr w 0, .agg n.cs, .agg (ndF ns n.a).cs] H = r) : Wv H w dn g most F (exF most f ns n (sliceF ns n (ndF ns n.a))) r := by
  rw [Ze8] at hr
  have har : arity n.op = 1 := by rw [h39]; decide
  obtain ⟨f1, f2, f3, f4⟩ := formed1 hf har
  have B := ext_bounds gk hf hs h39
  obtain ⟨look, hA⟩ := look_any gk
  have PVs := slice_val gk hA hf hs h39
  have K := kid_ok gk hA f1 f2
  have hnode := fun H' (k : Keeps H H') id => (h.keeps k).node id
  have k0 : Keeps H ((H.new (.cells n.cs)).new (.cells (ndF ns n.a).cs)) := ((Keeps.refl H).new' _).new' _
  have kf := K.form
  have hself := h.self
  have hlo := h.lo
  have kB : (ndF ns n.a).op = 39 → 0 ≤ (ndF ns n.a).q ∧ (ndF ns n.a).q ≤ (ndF ns n.a).p ∧ (ndF ns n.a).p < 128 := fun ho => by
    obtain ⟨i, hi, hni⟩ := nd_at f1 f2
    have := gk.srt _ (List.mem_of_getElem? hni)
    exact ext_bounds gk kf (by rw [this]) ho
  have kC : (ndF ns n.a).op = 38 → 0 ≤ (ndF ns (ndF ns n.a).b).sort ∧ (ndF ns (ndF ns n.a).b).sort ≤ 128 := fun ho => by
    obtain ⟨-, -, g3, g4, -⟩ := formed2 kf (by rw [ho]; decide)
    exact kid_sort gk g3 g4
  obtain ⟨k, hk⟩ : ∃ k, k = ndF ns n.a := ⟨_, rfl⟩
  rw [← hk] at hr hne PVs kf kB kC k0 ⊢
  have hn0 := fun id => hnode _ k0 id
  have again : ∀ m : Nd, sliceF ns n k = .again m → ∀ (H1 : AHeap) (_ : Keeps H H1) (r : Option (AV × AHeap)), R Zl [.ptr w 0, .agg m.cs] H1 = r → ∃ id H2, r = some (.int .i64 id, H2) ∧ Wv H w dn g most F (exF most f ns n (.again m)) (some (back [] H (.int .i64 id) H2)) := fun m hm H1 k r hr => by
    rw [hm] at PVs hne
    exact again_up hC h gk hne PVs k hr
  have mk := fun (H1 : AHeap) (k : Keeps H H1) (r : Option (AV × AHeap)) (hr : R Zg [.ptr w 0, .agg n.cs] H1 = r) => mk_up (f := f) h k hr
  unfold sliceF at again ⊢
  clear hne PVs hk K hC
  simp only [Nd.parts'] at hr mk hn0
  by_cases c1 : k.op = 39
  · rw [if_pos c1] at again ⊢
    have kb := kB c1
    have w1 : IntKind.i64.wrap (n.p + k.q) = n.p + k.q := i64w (by omega) (by omega)
    have w2 : IntKind.i64.wrap (n.q + k.q) = n.q + k.q := i64w (by omega) (by omega)
    have ag := again _ rfl
    simp only [Nd.parts', nodeO] at ag
    simp (maxDischargeDepth := 40) [Z7, c1, w1, w2] at hr
    generalize hA : R Zl _ _ = q at hr
    obtain ⟨id, H2, rfl, hW⟩ := ag _ (by ((repeat (first | exact Keeps.refl _ | assumption | refine Keeps.new' ?_ _ | refine Keeps.set ?_ ?_ _)) <;> (first | assumption | (simp; done) | (simp; omega)))) _ hA
    simp at hr
    rw [← hr]
    exact hW
  rw [if_neg c1] at again ⊢
  by_cases c2 : k.op = 38
  · rw [if_pos c2] at again ⊢
    have kb := kC c2
    have hnb := hn0 k.b
    rw [c2] at hnb
    obtain ⟨l, hl⟩ : ∃ l, l = ndF ns k.b := ⟨_, rfl⟩
    rw [← hl] at again hnb kb ⊢
    have w1 : IntKind.i64.wrap (n.p - l.sort) = n.p - l.sort := i64w (by omega) (by omega)
    have w2 : IntKind.i64.wrap (n.q - l.sort) = n.q - l.sort := i64w (by omega) (by omega)
    by_cases c3 : l.sort ≤ n.q
    · rw [if_pos c3] at again ⊢
      have ag := again _ rfl
      simp only [Nd.parts', nodeO] at ag
      simp (maxDischargeDepth := 40) [Z7, hself, hlo, c2, hnb, w1, w2, c3] at hr
      generalize hA : R Zl _ _ = q at hr
      obtain ⟨id, H2, rfl, hW⟩ := ag _ (by ((repeat (first | exact Keeps.refl _ | assumption | refine Keeps.new' ?_ _ | refine Keeps.set ?_ ?_ _)) <;> (first | assumption | (simp; done) | (simp; omega)))) _ hA
      simp at hr
      rw [← hr]
      exact hW
    rw [if_neg c3] at again ⊢
    by_cases c4 : n.p < l.sort
    · rw [if_pos c4] at again ⊢
      have ag := again _ rfl
      simp only [Nd.parts', nodeO] at ag
      simp (maxDischargeDepth := 40) [Z7, hself, hlo, c2, hnb, c3, c4] at hr
      generalize hA : R Zl _ _ = q at hr
      obtain ⟨id, H2, rfl, hW⟩ := ag _ (by ((repeat (first | exact Keeps.refl _ | assumption | refine Keeps.new' ?_ _ | refine Keeps.set ?_ ?_ _)) <;> (first | assumption | (simp; done) | (simp; omega)))) _ hA
      simp at hr
      rw [← hr]
      exact hW
    · rw [if_neg c4] at again ⊢
      simp (maxDischargeDepth := 40) [Z7, hself, hlo, c2, hnb, c3, c4] at hr
      generalize hA : R Zg _ _ = q at hr
      obtain ⟨id, H2, rfl, hW⟩ := mk _ (by ((repeat (first | exact Keeps.refl _ | assumption | refine Keeps.new' ?_ _ | refine Keeps.set ?_ ?_ _)) <;> (first | assumption | (simp; done) | (simp; omega)))) _ hA
      simp at hr
      rw [← hr]
      exact hW
  rw [if_neg c2] at again ⊢
  by_cases c5 : k.op = 40 ∨ k.op = 41
  · rw [if_pos c5] at again ⊢
    have hnb := hn0 k.a
    obtain ⟨l, hl⟩ : ∃ l, l = ndF ns k.a := ⟨_, rfl⟩
    rw [← hl] at again hnb ⊢
    by_cases c4 : n.p < l.sort
    · rw [if_pos c4] at again ⊢
      have ag := again _ rfl
      simp only [Nd.parts', nodeO] at ag
      rcases c5 with c5 | c5 <;>
      · rw [c5] at hnb
        simp (maxDischargeDepth := 40) [Z7, hself, hlo, hnb, c5, c4] at hr
        generalize hA : R Zl _ _ = q at hr
        obtain ⟨id, H2, rfl, hW⟩ := ag _ (by ((repeat (first | exact Keeps.refl _ | assumption | refine Keeps.new' ?_ _ | refine Keeps.set ?_ ?_ _)) <;> (first | assumption | (simp; done) | (simp; omega)))) _ hA
        simp at hr
        rw [← hr]
        exact hW
    · rw [if_neg c4] at again ⊢
      rcases c5 with c5 | c5 <;>
      · rw [c5] at hnb
        simp (maxDischargeDepth := 40) [Z7, hself, hlo, hnb, c5, c4] at hr
        generalize hA : R Zg _ _ = q at hr
        obtain ⟨id, H2, rfl, hW⟩ := mk _ (by ((repeat (first | exact Keeps.refl _ | assumption | refine Keeps.new' ?_ _ | refine Keeps.set ?_ ?_ _)) <;> (first | assumption | (simp; done) | (simp; omega)))) _ hA
        simp at hr
        rw [← hr]
        exact hW
  · rw [if_neg c5] at again ⊢
    have c6 : ¬ k.op = 40 := fun h => c5 (.inl h)
    have c7 : ¬ k.op = 41 := fun h => c5 (.inr h)
    simp (maxDischargeDepth := 40) [Z7, c1, c2, c6, c7] at hr
    generalize hA : R Zg _ _ = q at hr
    obtain ⟨id, H2, rfl, hW⟩ := mk _ (by ((repeat (first | exact Keeps.refl _ | assumption | refine Keeps.new' ?_ _ | refine Keeps.set ?_ ?_ _)) <;> (first | assumption | (simp; done) | (simp; omega)))) _ hA
    simp at hr
    rw [← hr]
    exact hW
end
end Go.Proofs.Ytiobohfiaapgeaa
end
section
namespace Go.Proofs.Ytiobohfiaapgeaa
set_option maxRecDepth 100000
set_option maxHeartbeats 4000000
def tagsF (op : Int) : Int :=
  if op = 3 then 128 else
  if op = 4 then 1 else
  if op = 5 then 1 else
  if op = 6 then 2 else
  if op = 7 then 4 else
  if op = 8 then 4 else
  if op = 10 then 128 else
  if op = 11 then 128 else
  if op = 12 then 9 else
  if op = 13 then 17 else
  if op = 14 then 18 else
  if op = 18 then 16 else
  if op = 19 then 34 else
  if op = 20 then 264 else
  if op = 21 then 256 else
  if op = 26 then 96 else
  if op = 27 then 96 else
  if op = 28 then 96 else
  if op = 29 then 2 else
  if op = 30 then 4 else
  if op = 31 then 2 else
  if op = 32 then 4 else
  if op = 33 then 2 else
  if op = 34 then 4 else
  if op = 35 then 2 else
  if op = 36 then 4 else
  0
theorem tags_run {op : Int} {H : AHeap} : R Zd5 [.int .i64 op] H = some (.int .i64 (tagsF op), H) := by
  rw [Zhq]
  by_cases c3 : op = 3
  · subst c3; simp (maxDischargeDepth := 40) [Zw, tagsF]
  by_cases c4 : op = 4
  · subst c4; simp (maxDischargeDepth := 40) [Zw, tagsF]
  by_cases c5 : op = 5
  · subst c5; simp (maxDischargeDepth := 40) [Zw, tagsF]
  by_cases c6 : op = 6
  · subst c6; simp (maxDischargeDepth := 40) [Zw, tagsF]
  by_cases c7 : op = 7
  · subst c7; simp (maxDischargeDepth := 40) [Zw, tagsF]
  by_cases c8 : op = 8
  · subst c8; simp (maxDischargeDepth := 40) [Zw, tagsF]
  by_cases c10 : op = 10
  · subst c10; simp (maxDischargeDepth := 40) [Zw, tagsF]
  by_cases c11 : op = 11
  · subst c11; simp (maxDischargeDepth := 40) [Zw, tagsF]
  by_cases c12 : op = 12
  · subst c12; simp (maxDischargeDepth := 40) [Zw, tagsF]
  by_cases c13 : op = 13
  · subst c13; simp (maxDischargeDepth := 40) [Zw, tagsF]
  by_cases c14 : op = 14
  · subst c14; simp (maxDischargeDepth := 40) [Zw, tagsF]
  by_cases c18 : op = 18
  · subst c18; simp (maxDischargeDepth := 40) [Zw, tagsF]
  by_cases c19 : op = 19
  · subst c19; simp (maxDischargeDepth := 40) [Zw, tagsF]
  by_cases c20 : op = 20
  · subst c20; simp (maxDischargeDepth := 40) [Zw, tagsF]
  by_cases c21 : op = 21
  · subst c21; simp (maxDischargeDepth := 40) [Zw, tagsF]
  by_cases c26 : op = 26
  · subst c26; simp (maxDischargeDepth := 40) [Zw, tagsF]
  by_cases c27 : op = 27
  · subst c27; simp (maxDischargeDepth := 40) [Zw, tagsF]
  by_cases c28 : op = 28
  · subst c28; simp (maxDischargeDepth := 40) [Zw, tagsF]
  by_cases c29 : op = 29
  · subst c29; simp (maxDischargeDepth := 40) [Zw, tagsF]
  by_cases c30 : op = 30
  · subst c30; simp (maxDischargeDepth := 40) [Zw, tagsF]
  by_cases c31 : op = 31
  · subst c31; simp (maxDischargeDepth := 40) [Zw, tagsF]
  by_cases c32 : op = 32
  · subst c32; simp (maxDischargeDepth := 40) [Zw, tagsF]
  by_cases c33 : op = 33
  · subst c33; simp (maxDischargeDepth := 40) [Zw, tagsF]
  by_cases c34 : op = 34
  · subst c34; simp (maxDischargeDepth := 40) [Zw, tagsF]
  by_cases c35 : op = 35
  · subst c35; simp (maxDischargeDepth := 40) [Zw, tagsF]
  by_cases c36 : op = 36
  · subst c36; simp (maxDischargeDepth := 40) [Zw, tagsF]
  simp (maxDischargeDepth := 40) [Zw, tagsF, c3, c4, c5, c6, c7, c8, c10, c11, c12, c13, c14, c18, c19, c20, c21, c26, c27, c28, c29, c30, c31, c32, c33, c34, c35, c36]
def tbit (op k : Int) : Int := IntKind.i64.wrap (BitVec.ofInt IntKind.i64.bits (tagsF op) &&& BitVec.ofInt IntKind.i64.bits k).toNat
@[simp high] theorem tag_and {P : Program} {K : TypeId → Option (List Sc)} {t : TypeId} {op k : Int} : abin P K .and t (.int .i64 (tagsF op)) (.int .i64 k) = some (.int .i64 (tbit op k)) := by
  unfold tbit
  rw [bin_and]
theorem tbit_fin {k : Int} {p : Int → Prop} [DecidablePred p] (h : ∀ i : Fin 45, (tbit (i : Nat) k = 0 ↔ ¬ p ((i : Nat) : Int))) {op : Int} (h1 : 0 ≤ op) (h2 : op ≤ 44) : tbit op k = 0 ↔ ¬ p op := by
  have := h ⟨op.toNat, by omega⟩
  simp only [Int.toNat_of_nonneg h1] at this
  exact this
theorem tb128 {op : Int} (h1 : 0 ≤ op) (h2 : op ≤ 44) : tbit op 128 = 0 ↔ ¬ (op = 3 ∨ op = 10 ∨ op = 11) := tbit_fin (p := fun op => op = 3 ∨ op = 10 ∨ op = 11) (by decide) h1 h2
theorem arity_bound {op : Int} (h : 0 ≤ arity op) : 1 ≤ op ∧ op ≤ 44 := by
  unfold arity at h
  split at h
  · omega
  · omega
section
variable {H : AHeap} {w dn g : Nat} {most : Int} {ns : List Nd} {F : List Nat} {e : Int}
theorem makT_pos {most : Int} {ns : List Nd} {n : Nd} (h : (makT most ns n).2.2 = 0) : 0 < (makT most ns n).2.1 := by
  unfold makT at h ⊢
  split at h
  · cases h
  · split at h
    · rename_i h2; exact absurd h h2
    · rename_i h1 h2
      rw [if_neg h1, if_neg h2]
      split at h
      · simp only; omega
      · split at h
        · cases h
        · rename_i h3; rw [if_neg h3]; simp only; omega
theorem fold_up {f : Nat} (h : WG H w dn g most ns F 0) {n : Nd} (har : 0 ≤ arity n.op) {v : Vl} (hv : foldF ns n = some v) {H1 : AHeap} (k : Keeps H H1) {r : Option (AV × AHeap)} (hr : R Zy [.ptr w 0, .agg n.cs] H1 = r) :
    ∃ id H2 e, r = some (.int .i64 id, H2) ∧ H2.obj w = .cells [.ptr g 0, .map dn, .int .i64 e] ∧ w < H2.size ∧ (¬ 0 < id → ¬ e = 0) ∧ Wv H w dn g most F (exF most f ns n (.con v)) (some (back [] H (.int .i64 id) H2)) := by
  have hW := folded_run (h.keeps k) har hr
  rw [hv] at hW
  simp only at hW
  obtain ⟨id', H2', e1, hW2⟩ := Wv.up h k hW
  obtain ⟨H2, F2, ns2, id, e2, rfl, g2, k2, n2, ok, bad⟩ := hW
  cases e1
  refine ⟨_, _, e2, rfl, g2.self, g2.lo, fun hid he => ?_, hW2⟩
  by_cases c : (makT most ns (constN v)).2.2 = 0
  · obtain ⟨-, rfl, -⟩ := ok c
    exact hid (makT_pos c)
  · have := bad c
    omega
theorem fold_no (h : WG H w dn g most ns F 0) {n : Nd} (har : 0 ≤ arity n.op) (hv : foldF ns n = none) {H1 : AHeap} (k : Keeps H H1) : R Zy [.ptr w 0, .agg n.cs] H1 = some (.int .i64 0, H1) := by
  have hW := folded_run (h.keeps k) har rfl
  rw [hv] at hW
  exact hW
theorem rot_sort (g : Gok ns) {n : Nd} (hf : formedF ns.length n = true) (hs : (sortedF ns n).2 = 0) (har : arity n.op = 1) (ho : n.op = 42 ∨ n.op = 43) : ¬ (ndF ns n.a).sort = 0 := by
  obtain ⟨look, hA⟩ := look_any g
  obtain ⟨f1, f2, f3, f4⟩ := formed1 hf har
  have K := kid_ok g hA f1 f2
  have F := node_fit g hA hf hs (by omega) (by omega)
  rw [kidsV_1 har] at F
  have kw := K.w
  obtain ⟨v, hv⟩ : ∃ v, v = V look ns n.a := ⟨_, rfl⟩
  obtain ⟨l, hl⟩ : ∃ l, l = [V look ns n.a] := ⟨_, rfl⟩
  obtain ⟨s, hs⟩ : ∃ s, s = (sortedF ns n).1.sort := ⟨_, rfl⟩
  rw [← hl, ← hs] at F
  rw [← hv] at kw hl
  cases F with
  | rot N k x r1 r2 r3 r4 r5 r6 =>
    have : Vl.of x = v := by injection hl
    rw [← this] at kw
    rw [← kw]
    show ¬ (N : Int) = 0
    omega
  | _ => omega
theorem wone_run {f : Nat} (hC : NormC f) (h : WG H w dn g most ns F 0) (gk : Gok ns) {n : Nd} (hf : formedF ns.length n = true) (hs : (sortedF ns n).2 = 0) (_h1 : ¬ n.op = 1) (_h2 : ¬ n.op = 2) (har : arity n.op = 1) (hne : (exF most f ns n (unC ns n)).2.2 ≠ -1) {r : Option (AV × AHeap)}
    (hr : R Zbf [.ptr w 0, .agg n.cs] H = r) : Wv H w dn g most F (exF most f ns n (unC ns n)) r := by
  rw [Zfg] at hr
  have hself := h.self
  have hlo := h.lo
  have k1 : Keeps H (H.new (.cells n.cs)) := (Keeps.refl H).new' _
  cases hfo : foldF ns n with
  | some v =>
    rw [show unC ns n = .con v by unfold unC; rw [hfo]]
    have hX := fun (r' : Option (AV × AHeap)) => fold_up (f := f) h (by omega) hfo k1 (r := r')
    simp only [Nd.parts'] at hr hX
    simp (maxDischargeDepth := 40) [Zq] at hr
    generalize hA : R Zy _ _ = q at hr
    obtain ⟨id, H2, e, rfl, o2, l2, hid, hW⟩ := hX _ hA
    by_cases c : 0 < id
    · simp (maxDischargeDepth := 40) [c] at hr
      rw [← hr]; exact hW
    · have := hid c
      simp (maxDischargeDepth := 40) [c, o2, this] at hr
      rw [← hr]; exact hW
  | none =>
    have hX := fold_no h (by omega) hfo k1
    have hnode := (h.keeps k1).node n.a
    obtain ⟨f1, f2, f3, f4⟩ := formed1 hf har
    have hks := kid_sort gk f1 f2
    have ob := arity_bound (op := n.op) (by omega)
    have t8 := tb128 (op := n.op) (by omega) (by omega)
    have w1 : IntKind.i64.wrap ((ndF ns n.a).sort - 1) = (ndF ns n.a).sort - 1 := i64w (by omega) (by omega)
    have mk := fun (H1 : AHeap) (k : Keeps H H1) (r : Option (AV × AHeap)) (hr : R Zg [.ptr w 0, .agg n.cs] H1 = r) => mk_up (f := f) h k hr
    have hsl := fun (h39 : n.op = 39) (hne : (exF most f ns n (sliceF ns n (ndF ns n.a))).2.2 ≠ -1) (H1 : AHeap) (k : Keeps H H1) (r : Option (AV × AHeap)) (hr : R Z6 [.ptr w 0, .agg n.cs, .agg (ndF ns n.a).cs] H1 = r) => Wv.up h k (slice_run hC (h.keeps k) gk hf hs h39 hne hr)
    have at' := fun (j : Int) (H1 : AHeap) (k : Keeps H H1) => at_up (f := f) (n := n) (k := j) h k
    have hrot := rot_sort gk hf hs har
    unfold unC at hne ⊢
    rw [hfo] at hne ⊢
    simp only at hne ⊢
    obtain ⟨k, hk⟩ : ∃ k, k = ndF ns n.a := ⟨_, rfl⟩
    rw [← hk] at hne hks w1 hnode hsl hrot ⊢
    simp only [Nd.parts'] at hr mk hX hnode hsl
    by_cases c1 : (n.op = 3 ∨ n.op = 10 ∨ n.op = 11) ∧ k.op = n.op
    · rw [if_pos c1] at hne ⊢
      have c2 : ¬ tbit n.op 128 = 0 := fun hh => t8.1 hh c1.1
      simp (maxDischargeDepth := 40) [Zq, hself, hlo, hX, hnode, tags_run, c2, c1.2] at hr
      rw [← hr]
      exact Wv.stay h _
    rw [if_neg c1] at hne ⊢
    by_cases o3 : n.op = 3 ∨ n.op = 10 ∨ n.op = 11
    · have c2 : ¬ tbit n.op 128 = 0 := fun hh => t8.1 hh o3
      have kk : ¬ k.op = n.op := fun hh => c1 ⟨o3, hh⟩
      have n39 : ¬ n.op = 39 := by omega
      have n40 : ¬ n.op = 40 := by omega
      have n41 : ¬ n.op = 41 := by omega
      have n42 : ¬ n.op = 42 := by omega
      have n43 : ¬ n.op = 43 := by omega
      have n44 : ¬ n.op = 44 := by omega
      simp only [n39, n40, n41, n42, n43, n44, false_and, or_self, if_false]
      simp (maxDischargeDepth := 40) [Zq, hself, hlo, hX, hnode, tags_run, c2, kk, n39, n40, n41, n42, n43, n44] at hr
      generalize hA : R Zg _ _ = q at hr
      obtain ⟨id, H2, rfl, hW⟩ := mk _ (by ((repeat (first | exact Keeps.refl _ | assumption | refine Keeps.new' ?_ _ | refine Keeps.set ?_ ?_ _)) <;> (first | assumption | (simp; done) | (simp; omega)))) _ hA
      simp at hr
      rw [← hr]
      exact hW
    have c2 : tbit n.op 128 = 0 := t8.2 o3
    by_cases o39 : n.op = 39
    · have e39 := eq_true o39
      have n40 : ¬ n.op = 40 := by omega
      have n41 : ¬ n.op = 41 := by omega
      have n42 : ¬ n.op = 42 := by omega
      have n43 : ¬ n.op = 43 := by omega
      have n44 : ¬ n.op = 44 := by omega
      by_cases q0 : n.q = 0
      · have eq0 := eq_true q0
        by_cases p1 : n.p = k.sort - 1
        · have ep1 := eq_true p1
          simp only [e39, eq0, ep1, true_and, if_true]
          simp (maxDischargeDepth := 40) [Zq, hself, hlo, hX, hnode, tags_run, c2, w1, e39, eq0, ep1] at hr
          rw [← hr]
          exact Wv.stay h _
        · simp only [e39, eq0, p1, n40, n41, n42, n43, n44, false_and, or_self, if_true, if_false, and_false] at hne ⊢
          simp (maxDischargeDepth := 40) [Zq, hself, hlo, hX, hnode, tags_run, c2, w1, e39, eq0, p1, n40, n41, n42, n43, n44] at hr
          generalize hA : R Z6 _ _ = q at hr
          obtain ⟨id, H2, rfl, hW⟩ := hsl o39 hne _ (by ((repeat (first | exact Keeps.refl _ | assumption | refine Keeps.new' ?_ _ | refine Keeps.set ?_ ?_ _)) <;> (first | assumption | (simp; done) | (simp; omega)))) _ hA
          simp at hr
          rw [← hr]
          exact hW
      · simp only [e39, q0, n40, n41, n42, n43, n44, false_and, or_self, if_true, if_false, and_false] at hne ⊢
        simp (maxDischargeDepth := 40) [Zq, hself, hlo, hX, hnode, tags_run, c2, e39, q0, n40, n41, n42, n43, n44] at hr
        generalize hA : R Z6 _ _ = q at hr
        obtain ⟨id, H2, rfl, hW⟩ := hsl o39 hne _ (by ((repeat (first | exact Keeps.refl _ | assumption | refine Keeps.new' ?_ _ | refine Keeps.set ?_ ?_ _)) <;> (first | assumption | (simp; done) | (simp; omega)))) _ hA
        simp at hr
        rw [← hr]
        exact hW
    by_cases o40 : n.op = 40 ∨ n.op = 41
    · have n42 : ¬ n.op = 42 := by omega
      have n43 : ¬ n.op = 43 := by omega
      have n44 : ¬ n.op = 44 := by omega
      have e40 := eq_true o40
      by_cases p0 : n.p = 0
      · have ep0 := eq_true p0
        simp only [e40, ep0, o39, true_and, false_and, if_true, if_false]
        rcases o40 with o40 | o40
        · have e40 := eq_true o40
          simp (maxDischargeDepth := 40) [Zq, hself, hlo, hX, hnode, tags_run, c2, e40, ep0, o39] at hr
          rw [← hr]
          exact Wv.stay h _
        · have e41 := eq_true o40
          have n40 : ¬ n.op = 40 := by omega
          simp (maxDischargeDepth := 40) [Zq, hself, hlo, hX, hnode, tags_run, c2, n40, e41, ep0, o39] at hr
          rw [← hr]
          exact Wv.stay h _
      · simp only [e40, p0, o39, n42, n43, n44, or_self, and_false, false_and, if_false]
        rcases o40 with o40 | o40
        · have e40 := eq_true o40
          simp (maxDischargeDepth := 40) [Zq, hself, hlo, hX, hnode, tags_run, c2, e40, p0, o39, n42, n43, n44] at hr
          generalize hA : R Zg _ _ = q at hr
          obtain ⟨id, H2, rfl, hW⟩ := mk _ (by ((repeat (first | exact Keeps.refl _ | assumption | refine Keeps.new' ?_ _ | refine Keeps.set ?_ ?_ _)) <;> (first | assumption | (simp; done) | (simp; omega)))) _ hA
          simp at hr
          rw [← hr]
          exact hW
        · have e41 := eq_true o40
          have n40 : ¬ n.op = 40 := by omega
          simp (maxDischargeDepth := 40) [Zq, hself, hlo, hX, hnode, tags_run, c2, n40, e41, p0, o39, n42, n43, n44] at hr
          generalize hA : R Zg _ _ = q at hr
          obtain ⟨id, H2, rfl, hW⟩ := mk _ (by ((repeat (first | exact Keeps.refl _ | assumption | refine Keeps.new' ?_ _ | refine Keeps.set ?_ ?_ _)) <;> (first | assumption | (simp; done) | (simp; omega)))) _ hA
          simp at hr
          rw [← hr]
          exact hW
    have n40 : ¬ n.op = 40 := fun hh => o40 (.inl hh)
    have n41 : ¬ n.op = 41 := fun hh => o40 (.inr hh)
    by_cases o42 : n.op = 42 ∨ n.op = 43
    · have n44 : ¬ n.op = 44 := by omega
      have e42 := eq_true o42
      have ks := hrot o42
      by_cases p0 : n.p.tmod k.sort = 0
      · have ep0 := eq_true p0
        simp only [e42, ep0, o39, n40, n41, or_self, true_and, false_and, if_true, if_false]
        rcases o42 with o42 | o42
        · have e42 := eq_true o42
          simp (maxDischargeDepth := 40) [Zq, hself, hlo, hX, hnode, tags_run, c2, e42, ep0, o39, n40, n41, ks] at hr
          rw [← hr]
          exact Wv.stay h _
        · have e43 := eq_true o42
          have n42 : ¬ n.op = 42 := by omega
          simp (maxDischargeDepth := 40) [Zq, hself, hlo, hX, hnode, tags_run, c2, n42, e43, ep0, o39, n40, n41, ks] at hr
          rw [← hr]
          exact Wv.stay h _
      · simp only [e42, p0, o39, n40, n41, n44, or_self, and_false, false_and, if_false]
        rcases o42 with o42 | o42
        · have e42 := eq_true o42
          simp (maxDischargeDepth := 40) [Zq, hself, hlo, hX, hnode, tags_run, c2, e42, p0, o39, n40, n41, n44, ks] at hr
          generalize hA : R Zg _ _ = q at hr
          obtain ⟨id, H2, rfl, hW⟩ := mk _ (by ((repeat (first | exact Keeps.refl _ | assumption | refine Keeps.new' ?_ _ | refine Keeps.set ?_ ?_ _)) <;> (first | assumption | (simp; done) | (simp; omega)))) _ hA
          simp at hr
          rw [← hr]
          exact hW
        · have e43 := eq_true o42
          have n42 : ¬ n.op = 42 := by omega
          simp (maxDischargeDepth := 40) [Zq, hself, hlo, hX, hnode, tags_run, c2, n42, e43, p0, o39, n40, n41, n44, ks] at hr
          generalize hA : R Zg _ _ = q at hr
          obtain ⟨id, H2, rfl, hW⟩ := mk _ (by ((repeat (first | exact Keeps.refl _ | assumption | refine Keeps.new' ?_ _ | refine Keeps.set ?_ ?_ _)) <;> (first | assumption | (simp; done) | (simp; omega)))) _ hA
          simp at hr
          rw [← hr]
          exact hW
    have n42 : ¬ n.op = 42 := fun hh => o42 (.inl hh)
    have n43 : ¬ n.op = 43 := fun hh => o42 (.inr hh)
    by_cases o44 : n.op = 44
    · have e44 := eq_true o44
      by_cases p1 : n.p = 1
      · have ep1 := eq_true p1
        simp only [e44, ep1, o39, n40, n41, n42, n43, or_self, true_and, false_and, if_true, if_false]
        simp (maxDischargeDepth := 40) [Zq, hself, hlo, hX, hnode, tags_run, c2, e44, ep1, o39, n40, n41, n42, n43] at hr
        rw [← hr]
        exact Wv.stay h _
      · simp only [e44, p1, o39, n40, n41, n42, n43, or_self, and_false, false_and, if_false]
        simp (maxDischargeDepth := 40) [Zq, hself, hlo, hX, hnode, tags_run, c2, e44, p1, o39, n40, n41, n42, n43] at hr
        generalize hA : R Zg _ _ = q at hr
        obtain ⟨id, H2, rfl, hW⟩ := mk _ (by ((repeat (first | exact Keeps.refl _ | assumption | refine Keeps.new' ?_ _ | refine Keeps.set ?_ ?_ _)) <;> (first | assumption | (simp; done) | (simp; omega)))) _ hA
        simp at hr
        rw [← hr]
        exact hW
    · simp only [o44, o39, n40, n41, n42, n43, or_self, false_and, if_false]
      simp (maxDischargeDepth := 40) [Zq, hself, hlo, hX, hnode, tags_run, c2, o44, o39, n40, n41, n42, n43] at hr
      generalize hA : R Zg _ _ = q at hr
      obtain ⟨id, H2, rfl, hW⟩ := mk _ (by ((repeat (first | exact Keeps.refl _ | assumption | refine Keeps.new' ?_ _ | refine Keeps.set ?_ ?_ _)) <;> (first | assumption | (simp; done) | (simp; omega)))) _ hA
      simp at hr
      rw [← hr]
      exact hW
theorem choice_run {f : Nat} (h : WG H w dn g most ns F 0) {n : Nd} {r : Option (AV × AHeap)}
    (hr : R Zbh [.ptr w 0, .agg n.cs] H = r) : Wv H w dn g most F (exF most f ns n (iteC ns n)) r := by
  rw [Ze3] at hr
  have hself := h.self
  have hlo := h.lo
  have k1 : Keeps H (H.new (.cells n.cs)) := (Keeps.refl H).new' _
  have hval := value_run (h.keeps k1) n.a
  have mk := fun (H1 : AHeap) (k : Keeps H H1) (r : Option (AV × AHeap)) (hr : R Zg [.ptr w 0, .agg n.cs] H1 = r) => mk_up (f := f) h k hr
  unfold iteC conF
  obtain ⟨k, hk⟩ : ∃ k, k = ndF ns n.a := ⟨_, rfl⟩
  rw [← hk] at hval ⊢
  obtain ⟨nu1, nu2, nu3⟩ := nd_v k
  simp only [Nd.parts'] at hr mk hval
  by_cases c1 : n.b = n.c
  · have e1 := eq_true c1
    rw [if_pos c1]
    simp (maxDischargeDepth := 40) [Zbr, hval, e1] at hr
    rw [← hr]
    exact Wv.stay h _
  rw [if_neg c1]
  by_cases c2 : k.op = 1
  · have e2 := eq_true c2
    rw [if_pos c2]
    simp only [nu1]
    by_cases c3 : k.vl = 1#64
    · have e3 := eq_true c3
      rw [if_pos c3]
      simp (maxDischargeDepth := 40) [Zbr, hval, c1, e2, e3] at hr
      rw [← hr]
      exact Wv.stay h _
    · rw [if_neg c3]
      simp (maxDischargeDepth := 40) [Zbr, hval, c1, e2, c3] at hr
      rw [← hr]
      exact Wv.stay h _
  · rw [if_neg c2]
    simp only
    simp (maxDischargeDepth := 40) [Zbr, hval, c1, c2] at hr
    generalize hA : R Zg _ _ = q at hr
    obtain ⟨id, H2, rfl, hW⟩ := mk _ (by ((repeat (first | exact Keeps.refl _ | assumption | refine Keeps.new' ?_ _ | refine Keeps.set ?_ ?_ _)) <;> (first | assumption | (simp; done) | (simp; omega)))) _ hA
    simp at hr
    rw [← hr]
    exact hW
end
end Go.Proofs.Ytiobohfiaapgeaa
end
section
namespace Go.Proofs.Ytiobohfiaapgeaa
set_option maxRecDepth 100000
set_option maxHeartbeats 4000000
section
variable {H : AHeap} {w dn g : Nat} {most : Int} {ns : List Nd} {F : List Nat} {e : Int}
theorem zero_run (h : WG H w dn g most ns F e) {n : Nd} : R Zbv [.ptr w 0, .agg n.cs] H = some (.agg [.int .i64 (if n.op = 14 ∨ n.op = 19 then (ndF ns n.a).sort else 0), u 0#64, u 0#64], H) := by
  rw [Zff]
  have hself := h.self
  have hlo := h.lo
  have kn := ((Keeps.refl H).new' (.cells n.cs)).new' (.cells [.int .i64 0, u 0#64, u 0#64])
  have hnode := (h.keeps kn).node n.a
  obtain ⟨k, hk⟩ : ∃ k, k = ndF ns n.a := ⟨_, rfl⟩
  rw [← hk] at hnode ⊢
  simp only [Nd.parts'] at hnode ⊢
  by_cases c1 : n.op = 14
  · have e1 := eq_true c1
    simp (maxDischargeDepth := 40) [Zcc, hself, hlo, hnode, e1]
  by_cases c2 : n.op = 19
  · have e2 := eq_true c2
    simp (maxDischargeDepth := 40) [Zcc, hself, hlo, hnode, c1, e2]
  · simp (maxDischargeDepth := 40) [Zcc, c1, c2]
theorem is_run (h : WG H w dn g most ns F e) {id : Int} {c : BitVec 64} : R Z3 [.ptr w 0, .int .i64 id, u c] H = some (.bool (isF ns id c), H) := by
  rw [Zfo]
  have hval := value_run h id
  unfold isF conF
  obtain ⟨k, hk⟩ : ∃ k, k = ndF ns id := ⟨_, rfl⟩
  rw [← hk] at hval ⊢
  obtain ⟨nu1, nu2, nu3⟩ := nd_v k
  by_cases c1 : k.op = 1
  · have e1 := eq_true c1
    rw [if_pos c1]
    simp only [nu1, nu2, nu3]
    by_cases c2 : 0 < k.vw
    · by_cases c3 : k.vl = c
      · have e3 := eq_true c3
        simp (maxDischargeDepth := 40) [Zb7, hval, e1, c2, e3]
      · simp (maxDischargeDepth := 40) [Zb7, hval, e1, c2, c3]
    · simp (maxDischargeDepth := 40) [Zb7, hval, e1, c2]
  · rw [if_neg c1]
    simp (maxDischargeDepth := 40) [Zb7, hval, c1]
theorem wlogic_run {f : Nat} (hC : NormC f) (h : WG H w dn g most ns F 0) (gk : Gok ns) {n : Nd} {look : ByteArray → Option Vl} (P : ∀ c, logicF ns n = some c → PV look ns n c ∧ (exF most f ns n c).2.2 ≠ -1) {r : Option (AV × AHeap)}
    (hr : R Zbj [.ptr w 0, .agg n.cs] H = r) : match logicF ns n with | none => r = some (.int .i64 0, H) | some c => Wv H w dn g most F (exF most f ns n c) r := by
  rw [Zfa] at hr
  have hself := h.self
  have hlo := h.lo
  have k1 := (Keeps.refl H).new' (.cells n.cs)
  have va := value_run (h.keeps k1) n.a
  have vb := value_run (h.keeps ((k1.new' (.cells [.int .i64 0, u 0#64, u 0#64])).set (o := H.size + 1) (by simp) (.cells [.int .i64 (ndF ns n.a).vw, u (ndF ns n.a).vl, u (ndF ns n.a).vh]))) n.b
  have ag := fun (m : Nd) (hm : logicF ns n = some (.again m)) (H1 : AHeap) (k : Keeps H H1) (r : Option (AV × AHeap)) (hr : R Zl [.ptr w 0, .agg m.cs] H1 = r) => again_up hC h gk (P _ hm).2 (P _ hm).1 k hr
  have co := fun (v : Vl) (H1 : AHeap) (k : Keeps H H1) (r : Option (AV × AHeap)) (hr : R Zh [.ptr w 0, .agg [.int .i64 v.w, u (lo v.n), u (hi v.n)]] H1 = r) => con_up (f := f) (n := n) h k hr
  have hb := fun H => bool_run (b := true) (H := H)
  clear P
  obtain ⟨ka, hka⟩ : ∃ k, k = ndF ns n.a := ⟨_, rfl⟩
  obtain ⟨kb, hkb⟩ : ∃ k, k = ndF ns n.b := ⟨_, rfl⟩
  rw [← hka] at va vb
  rw [← hkb] at vb
  obtain ⟨na1, na2, na3⟩ := nd_v ka
  obtain ⟨nb1, nb2, nb3⟩ := nd_v kb
  simp only [Nd.parts'] at hr va vb
  by_cases o1 : n.op < 4
  · rw [show logicF ns n = none by simp [logicF, o1]]
    simp (maxDischargeDepth := 40) [Zk, o1] at hr
    exact hr.symm
  by_cases o2 : 8 < n.op
  · rw [show logicF ns n = none by simp [logicF, o2]]
    simp (maxDischargeDepth := 40) [Zk, o1, o2] at hr
    exact hr.symm
  by_cases a1 : ka.op = 1
  · have ea := eq_true a1
    by_cases vw : 0 < ka.vw
    · rw [show logicF ns n = none by simp [logicF, conF, logicC, o1, o2, ← hka, na3, ea, vw]]
      simp (maxDischargeDepth := 40) [Zk, o1, o2, va, ea, vw] at hr
      exact hr.symm
    by_cases p4 : n.op = 4
    · have q4 := eq_true p4
      have m5 : ¬ n.op = 5 := by omega
      have m6 : ¬ n.op = 6 := by omega
      have m7 : ¬ n.op = 7 := by omega
      have m8 : ¬ n.op = 8 := by omega
      by_cases y : ka.vl = 1#64
      · have y := eq_true y
        have hl : logicF ns n = some (.at n.b) := by simp [logicF, conF, logicC, Vl.yes, o1, o2, ← hka, na1, na3, ea, vw, q4, y]
        rw [hl]
        simp (maxDischargeDepth := 40) [Zk, o1, o2, va, ea, vw, q4, y] at hr
        rw [← hr]
        exact Wv.stay h _
      · skip
        have hl : logicF ns n = some (.at n.a) := by simp [logicF, conF, logicC, Vl.yes, o1, o2, ← hka, na1, na3, ea, vw, q4, y]
        rw [hl]
        simp (maxDischargeDepth := 40) [Zk, o1, o2, va, ea, vw, q4, y] at hr
        rw [← hr]
        exact Wv.stay h _
    by_cases p5 : n.op = 5
    · have q5 := eq_true p5
      have m4 : ¬ n.op = 4 := by omega
      have m6 : ¬ n.op = 6 := by omega
      have m7 : ¬ n.op = 7 := by omega
      have m8 : ¬ n.op = 8 := by omega
      by_cases y : ka.vl = 1#64
      · have y := eq_true y
        have hl : logicF ns n = some (.at n.a) := by simp [logicF, conF, logicC, Vl.yes, o1, o2, ← hka, na1, na3, ea, vw, m4, q5, y]
        rw [hl]
        simp (maxDischargeDepth := 40) [Zk, o1, o2, va, ea, vw, m4, q5, y] at hr
        rw [← hr]
        exact Wv.stay h _
      · skip
        have hl : logicF ns n = some (.at n.b) := by simp [logicF, conF, logicC, Vl.yes, o1, o2, ← hka, na1, na3, ea, vw, m4, q5, y]
        rw [hl]
        simp (maxDischargeDepth := 40) [Zk, o1, o2, va, ea, vw, m4, q5, y] at hr
        rw [← hr]
        exact Wv.stay h _
    by_cases p6 : n.op = 6
    · have q6 := eq_true p6
      have m4 : ¬ n.op = 4 := by omega
      have m5 : ¬ n.op = 5 := by omega
      have m7 : ¬ n.op = 7 := by omega
      have m8 : ¬ n.op = 8 := by omega
      by_cases y : ka.vl = 1#64
      · have y := eq_true y
        have hl : logicF ns n = some (.again (nodeO 3 n.b 0 0 0 0)) := by simp [logicF, conF, logicC, Vl.yes, o1, o2, ← hka, na1, na3, ea, vw, m4, m5, m7, q6, y]
        have ag := ag _ hl
        simp only [Nd.parts', nodeO] at ag
        rw [hl]
        simp (maxDischargeDepth := 40) [Zk, o1, o2, va, ea, vw, m4, m5, m7, q6, y] at hr
        generalize hA : R Zl _ _ = q at hr
        obtain ⟨id, H2, rfl, hW⟩ := ag _ (by ((repeat (first | exact Keeps.refl _ | assumption | refine Keeps.new' ?_ _ | refine Keeps.set ?_ ?_ _)) <;> (first | assumption | (simp; done) | (simp; omega)))) _ hA
        simp at hr
        rw [← hr]
        exact hW
      · skip
        have hl : logicF ns n = some (.at n.b) := by simp [logicF, conF, logicC, Vl.yes, o1, o2, ← hka, na1, na3, ea, vw, m4, m5, m7, q6, y]
        rw [hl]
        simp (maxDischargeDepth := 40) [Zk, o1, o2, va, ea, vw, m4, m5, m7, q6, y] at hr
        rw [← hr]
        exact Wv.stay h _
    by_cases p7 : n.op = 7
    · have q7 := eq_true p7
      have m4 : ¬ n.op = 4 := by omega
      have m5 : ¬ n.op = 5 := by omega
      have m6 : ¬ n.op = 6 := by omega
      have m8 : ¬ n.op = 8 := by omega
      by_cases y : ka.vl = 1#64
      · have y := eq_true y
        have hl : logicF ns n = some (.at n.b) := by simp [logicF, conF, logicC, Vl.yes, o1, o2, ← hka, na1, na3, ea, vw, m4, m5, q7, y]
        rw [hl]
        simp (maxDischargeDepth := 40) [Zk, o1, o2, va, ea, vw, m4, m5, q7, y] at hr
        rw [← hr]
        exact Wv.stay h _
      · skip
        have hl : logicF ns n = some (.con (Vl.bool true)) := by simp [logicF, conF, logicC, Vl.yes, o1, o2, ← hka, na1, na3, ea, vw, m4, m5, q7, y]
        rw [hl]
        simp (maxDischargeDepth := 40) [Zk, o1, o2, va, ea, vw, m4, m5, q7, y, hb] at hr
        generalize hA : R Zh _ _ = q at hr
        obtain ⟨id, H2, rfl, hW⟩ := co (Vl.bool true) _ (by ((repeat (first | exact Keeps.refl _ | assumption | refine Keeps.new' ?_ _ | refine Keeps.set ?_ ?_ _)) <;> (first | assumption | (simp; done) | (simp; omega)))) _ hA
        simp at hr
        rw [← hr]
        exact hW
    have p8 : n.op = 8 := by omega
    have q8 := eq_true p8
    have m4 : ¬ n.op = 4 := by omega
    have m5 : ¬ n.op = 5 := by omega
    have m6 : ¬ n.op = 6 := by omega
    have m7 : ¬ n.op = 7 := by omega
    by_cases y : ka.vl = 1#64
    · have y := eq_true y
      have hl : logicF ns n = some (.at n.b) := by simp [logicF, conF, logicC, Vl.yes, o1, o2, ← hka, na1, na3, ea, vw, m4, m5, m6, m7, y]
      rw [hl]
      simp (maxDischargeDepth := 40) [Zk, o1, o2, va, ea, vw, m4, m5, m6, m7, y] at hr
      rw [← hr]
      exact Wv.stay h _
    · skip
      have hl : logicF ns n = some (.again (nodeO 3 n.b 0 0 0 0)) := by simp [logicF, conF, logicC, Vl.yes, o1, o2, ← hka, na1, na3, ea, vw, m4, m5, m6, m7, y]
      have ag := ag _ hl
      simp only [Nd.parts', nodeO] at ag
      rw [hl]
      simp (maxDischargeDepth := 40) [Zk, o1, o2, va, ea, vw, m4, m5, m6, m7, y] at hr
      generalize hA : R Zl _ _ = q at hr
      obtain ⟨id, H2, rfl, hW⟩ := ag _ (by ((repeat (first | exact Keeps.refl _ | assumption | refine Keeps.new' ?_ _ | refine Keeps.set ?_ ?_ _)) <;> (first | assumption | (simp; done) | (simp; omega)))) _ hA
      simp at hr
      rw [← hr]
      exact hW
  by_cases p7 : n.op = 7
  · have q7 := eq_true p7
    rw [show logicF ns n = none by simp [logicF, conF, ← hka, a1, q7]]
    simp (maxDischargeDepth := 40) [Zk, o1, o2, va, a1, q7] at hr
    exact hr.symm
  by_cases b1 : kb.op = 1
  · have eb := eq_true b1
    by_cases vw : 0 < kb.vw
    · rw [show logicF ns n = none by simp [logicF, conF, logicC, o1, o2, ← hka, ← hkb, nb3, a1, p7, eb, vw]]
      simp (maxDischargeDepth := 40) [Zk, o1, o2, va, vb, a1, p7, eb, vw] at hr
      exact hr.symm
    by_cases p4 : n.op = 4
    · have q4 := eq_true p4
      have m5 : ¬ n.op = 5 := by omega
      have m6 : ¬ n.op = 6 := by omega
      have m7 : ¬ n.op = 7 := by omega
      have m8 : ¬ n.op = 8 := by omega
      by_cases y : kb.vl = 1#64
      · have y := eq_true y
        have hl : logicF ns n = some (.at n.a) := by simp [logicF, conF, logicC, Vl.yes, o1, o2, ← hka, ← hkb, nb1, nb3, a1, p7, eb, vw, q4, y]
        rw [hl]
        simp (maxDischargeDepth := 40) [Zk, o1, o2, va, vb, a1, p7, eb, vw, q4, y] at hr
        rw [← hr]
        exact Wv.stay h _
      · skip
        have hl : logicF ns n = some (.at n.b) := by simp [logicF, conF, logicC, Vl.yes, o1, o2, ← hka, ← hkb, nb1, nb3, a1, p7, eb, vw, q4, y]
        rw [hl]
        simp (maxDischargeDepth := 40) [Zk, o1, o2, va, vb, a1, p7, eb, vw, q4, y] at hr
        rw [← hr]
        exact Wv.stay h _
    by_cases p5 : n.op = 5
    · have q5 := eq_true p5
      have m4 : ¬ n.op = 4 := by omega
      have m6 : ¬ n.op = 6 := by omega
      have m7 : ¬ n.op = 7 := by omega
      have m8 : ¬ n.op = 8 := by omega
      by_cases y : kb.vl = 1#64
      · have y := eq_true y
        have hl : logicF ns n = some (.at n.b) := by simp [logicF, conF, logicC, Vl.yes, o1, o2, ← hka, ← hkb, nb1, nb3, a1, p7, eb, vw, m4, q5, y]
        rw [hl]
        simp (maxDischargeDepth := 40) [Zk, o1, o2, va, vb, a1, p7, eb, vw, m4, q5, y] at hr
        rw [← hr]
        exact Wv.stay h _
      · skip
        have hl : logicF ns n = some (.at n.a) := by simp [logicF, conF, logicC, Vl.yes, o1, o2, ← hka, ← hkb, nb1, nb3, a1, p7, eb, vw, m4, q5, y]
        rw [hl]
        simp (maxDischargeDepth := 40) [Zk, o1, o2, va, vb, a1, p7, eb, vw, m4, q5, y] at hr
        rw [← hr]
        exact Wv.stay h _
    by_cases p6 : n.op = 6
    · have q6 := eq_true p6
      have m4 : ¬ n.op = 4 := by omega
      have m5 : ¬ n.op = 5 := by omega
      have m7 : ¬ n.op = 7 := by omega
      have m8 : ¬ n.op = 8 := by omega
      by_cases y : kb.vl = 1#64
      · have y := eq_true y
        have hl : logicF ns n = some (.again (nodeO 3 n.a 0 0 0 0)) := by simp [logicF, conF, logicC, Vl.yes, o1, o2, ← hka, ← hkb, nb1, nb3, a1, p7, eb, vw, m4, m5, q6, y]
        have ag := ag _ hl
        simp only [Nd.parts', nodeO] at ag
        rw [hl]
        simp (maxDischargeDepth := 40) [Zk, o1, o2, va, vb, a1, p7, eb, vw, m4, m5, q6, y] at hr
        generalize hA : R Zl _ _ = q at hr
        obtain ⟨id, H2, rfl, hW⟩ := ag _ (by ((repeat (first | exact Keeps.refl _ | assumption | refine Keeps.new' ?_ _ | refine Keeps.set ?_ ?_ _)) <;> (first | assumption | (simp; done) | (simp; omega)))) _ hA
        simp at hr
        rw [← hr]
        exact hW
      · skip
        have hl : logicF ns n = some (.at n.a) := by simp [logicF, conF, logicC, Vl.yes, o1, o2, ← hka, ← hkb, nb1, nb3, a1, p7, eb, vw, m4, m5, q6, y]
        rw [hl]
        simp (maxDischargeDepth := 40) [Zk, o1, o2, va, vb, a1, p7, eb, vw, m4, m5, q6, y] at hr
        rw [← hr]
        exact Wv.stay h _
    have p8 : n.op = 8 := by omega
    have q8 := eq_true p8
    have m4 : ¬ n.op = 4 := by omega
    have m5 : ¬ n.op = 5 := by omega
    have m6 : ¬ n.op = 6 := by omega
    have m7 : ¬ n.op = 7 := by omega
    by_cases y : kb.vl = 1#64
    · have y := eq_true y
      have hl : logicF ns n = some (.at n.a) := by simp [logicF, conF, logicC, Vl.yes, o1, o2, ← hka, ← hkb, nb1, nb3, a1, p7, eb, vw, m4, m5, m6, y]
      rw [hl]
      simp (maxDischargeDepth := 40) [Zk, o1, o2, va, vb, a1, p7, eb, vw, m4, m5, m6, y] at hr
      rw [← hr]
      exact Wv.stay h _
    · skip
      have hl : logicF ns n = some (.again (nodeO 3 n.a 0 0 0 0)) := by simp [logicF, conF, logicC, Vl.yes, o1, o2, ← hka, ← hkb, nb1, nb3, a1, p7, eb, vw, m4, m5, m6, y]
      have ag := ag _ hl
      simp only [Nd.parts', nodeO] at ag
      rw [hl]
      simp (maxDischargeDepth := 40) [Zk, o1, o2, va, vb, a1, p7, eb, vw, m4, m5, m6, y] at hr
      generalize hA : R Zl _ _ = q at hr
      obtain ⟨id, H2, rfl, hW⟩ := ag _ (by ((repeat (first | exact Keeps.refl _ | assumption | refine Keeps.new' ?_ _ | refine Keeps.set ?_ ?_ _)) <;> (first | assumption | (simp; done) | (simp; omega)))) _ hA
      simp at hr
      rw [← hr]
      exact hW
  · rw [show logicF ns n = none by simp [logicF, conF, ← hka, ← hkb, a1, b1, p7]]
    simp (maxDischargeDepth := 40) [Zk, o1, o2, va, vb, a1, b1, p7] at hr
    exact hr.symm
end
end Go.Proofs.Ytiobohfiaapgeaa
end
section
namespace Go.Proofs.Ytiobohfiaapgeaa
set_option maxRecDepth 100000
set_option maxHeartbeats 1000000 in
theorem bvnew_run {w : Nat} (h1 : 1 ≤ w) (hw : w ≤ 128) {x : W128} {H : AHeap} : Pure R Zgc [.int .i64 w, u (lo x), u (hi x)] H (.tup [B (x.setWidth w), .int .i64 0]) := by
  unfold Pure
  rw [Zi8]
  have c1 : ¬ (w : Int) < 1 := by omega
  have c2 : ¬ 128 < (w : Int) := by omega
  have c3 : ¬ 128 < w := by omega
  have c4 : ¬ w < 1 := by omega
  have c5 : ¬ w = 0 := by omega
  simp (maxDischargeDepth := 40) [Ziu, B, Bt, hw, c1, c2]
end Go.Proofs.Ytiobohfiaapgeaa
end
section
namespace Go.Proofs.Ytiobohfiaapgeaa
set_option maxRecDepth 100000
set_option maxHeartbeats 4000000
section
variable {H : AHeap} {w dn g : Nat} {most : Int} {ns : List Nd} {F : List Nat} {e : Int}
theorem norm_err (h : WG H w dn g most ns F e) (he : ¬ e = 0) {n : Nd} : R Zl [.ptr w 0, .agg n.cs] H = some (.int .i64 0, H) := by
  rw [Zdv]
  have hself := h.self
  have hlo := h.lo
  simp only [Nd.parts']
  simp (maxDischargeDepth := 40) [Zbo, hself, hlo, he]
theorem make_err (h : WG H w dn g most ns F e) (he : ¬ e = 0) {n : Nd} {r : Option (AV × AHeap)} (hr : R Zg [.ptr w 0, .agg n.cs] H = r) :
    ∃ H' F' ns' id, r = some (.int .i64 id, H') ∧ WG H' w dn g most ns' F' e ∧ Fr (w :: F) H H' ∧ ∀ p, p ∈ F' → p ∈ F ∨ H.size ≤ p := by
  rw [Zdw] at hr
  have hcs : ∃ op sort a b c p q vw vl vh name, n = ⟨op, sort, a, b, c, p, q, vw, vl, vh, name⟩ := ⟨_, _, _, _, _, _, _, _, _, _, _, rfl⟩
  obtain ⟨op, sort, a, b, c, p, q, vw, vl, vh, name, hn⟩ := hcs
  have hcs : n.cs = [.int .i64 op, .int .i64 sort, .int .i64 a, .int .i64 b, .int .i64 c, .int .i64 p, .int .i64 q, .int .i64 vw, u vl, u vh, .str name] := by rw [hn]; rfl
  rw [hcs] at hr
  simp (maxDischargeDepth := 40) [Zcy, h.self, h.lo] at hr
  rw [← hcs] at hr
  generalize hA : R Zi _ _ = q at hr
  have kn := Keeps.new H (.cells n.cs)
  obtain ⟨H1, F1, rfl, G1, m1⟩ := mk_run (h.G.keeps kn) hA
  have k1 : Fr F H H1 := (kn.fr _).trans m1.fr fun p hp => .inl hp
  have hw : w ∉ F := fun hm => (h.off w hm).1 rfl
  have o1 : H1.obj w = .cells [.ptr g 0, .map dn, .int .i64 e] := by rw [k1.obj w h.lo hw]; exact h.self
  have l1 := k1.lt h.lo
  have n1 : ∀ p, p ∈ F1 → p ∈ F ∨ H.size ≤ p := fun p hp => by
    rcases m1.new p hp with h | h
    · exact .inl h
    · simp at h; exact .inr (by omega)
  simp (maxDischargeDepth := 40) [o1, he] at hr
  have k2 : Fr (w :: F) H H1 := k1.weak fun p hp => .inl (by simp [hp])
  have off1 : ∀ p, p ∈ F1 → p ≠ w ∧ p ≠ dn := fun p hp => by
    rcases n1 p hp with h1 | h1
    · exact h.off p h1
    · have := h.lo; have := h.ld; omega
  have g2 : WG H1 w dn g most (makT most ns n).1 F1 e := ⟨o1, l1, k2.lt h.ld, G1, off1, h.ne⟩
  obtain ⟨D, hD, g3, k3⟩ := h.back g2 k2 (makT most ns n).2.1
  rw [hD] at hr
  exact ⟨D, F1, _, _, hr.symm, g3, k3, n1⟩
theorem shl_up {f : Nat} (hC : NormC f) (h : WG H w dn g most ns F 0) (gk : Gok ns) {n : Nd} {x : Int} {v : Vl} {look : ByteArray → Option Vl} (P : PV look ns n (.shl x v)) (hne : (exF most f ns n (.shl x v)).2.2 ≠ -1) {H1 : AHeap} (k : Keeps H H1) {r1 : Option (AV × AHeap)} (hr1 : R Zh [.ptr w 0, .agg [.int .i64 v.w, u (lo v.n), u (hi v.n)]] H1 = r1) :
    ∃ id1 H2, r1 = some (.int .i64 id1, H2) ∧ (∀ p, H.size ≤ p → p < H1.size → H2.obj p = H1.obj p) ∧ ∀ r, R Zl [.ptr w 0, .agg (nodeO 26 x id1 0 0 0).cs] H2 = r → ∃ id H3, r = some (.int .i64 id, H3) ∧ Wv H w dn g most F (exF most f ns n (.shl x v)) (some (back [] H (.int .i64 id) H3)) := by
  obtain ⟨H2, F2, ns2, id1, e2, rfl, g2, k2, n2, ok, bad⟩ := constant_run (h.keeps k) hr1 fun _ _ k' hr' => make_run ((h.keeps k).keeps k') hr'
  refine ⟨id1, H2, rfl, fun p h1 h2 => k2.obj p h2 fun hp => ?_, fun r hr => ?_⟩
  · rcases List.mem_cons.1 hp with rfl | hp
    · have := h.lo; omega
    · have := h.G.ltF hp; omega
  have hsz := k.size
  have k12 : Fr (w :: F) H H2 := (k.fr _).trans k2 fun p hp => .inl hp
  obtain ⟨v1, v2, v3, x1, x2, x3, -⟩ := P
  obtain ⟨c1, c2⟩ := con_formed (ns := ns) v1
  unfold exF at hne ⊢
  simp only at hne ⊢
  by_cases h0 : (makT most ns (constN v)).2.2 = 0
  · rw [if_pos h0] at hne ⊢
    obtain ⟨rfl, rfl, rfl⟩ := ok h0
    have M := NV.made (n := constN v) gk c1 (by rw [c2]) (by simp [constN]) h0
    rw [c2] at M
    obtain ⟨X, hX⟩ : ∃ X, X = makT most ns (constN v) := ⟨_, rfl⟩
    rw [← hX] at M hne g2 hr ⊢
    obtain ⟨t, ht, hno⟩ := M.more
    have hle : ns.length ≤ X.1.length := by rw [ht]; simp
    have hxs : (ndF X.1 x).sort = v.w := by rw [ht, ndF_more x1 x2]; exact x3
    have hw128 := (ok_w v1).2
    obtain ⟨s1, s2⟩ := sorted_shl (x := x) (c := X.2.1) x1 (by omega) M.lo M.hi hxs (by rw [M.srt]; rfl) v3 hw128
    obtain ⟨H3, F3, ns3, id, e3, rfl, g3, k3, n3, ok3, bad3⟩ := hC g2 M.gok s1 (by rw [s2]) hne hr
    have k13 : Fr (w :: F) H H3 := k12.trans k3 fun p hp => by
      rcases List.mem_cons.1 hp with rfl | hp
      · exact .inl (by simp)
      · rcases n2 p hp with h | h
        · exact .inl (by simp [h])
        · exact .inr (by omega)
    obtain ⟨D, hD, g4, k4⟩ := h.back g3 k13 id
    have hs2 := k2.size
    refine ⟨id, H3, rfl, D, F3, ns3, id, e3, by rw [hD], g4, k4, fun p hp => ?_, ok3, bad3⟩
    rcases n3 p hp with h | h
    · rcases n2 p h with h | h
      · exact .inl h
      · exact .inr (by omega)
    · exact .inr (by omega)
  · rw [if_neg h0] at hne ⊢
    have hb := bad h0
    have he : ¬ e2 = 0 := by rw [hb]; exact h0
    rw [norm_err g2 he] at hr
    obtain ⟨D, hD, g4, k4⟩ := h.back g2 k12 0
    refine ⟨0, H2, hr.symm, D, F2, ns2, 0, e2, by rw [hD], g4, k4, fun p hp => ?_, fun hh => absurd hh h0, fun _ => hb⟩
    rcases n2 p hp with h | h
    · exact .inl h
    · exact .inr (by omega)
theorem rshl_run {N : Nat} (h1 : 1 ≤ N) (hN : N ≤ 128) {i : Nat} (hi' : i < N) {x : BitVec N} {H : AHeap} : R Ze7 [B x, .int .i64 i] H = some (B ((shiftF 26 x (BitVec.ofNat N i)).setWidth N), H) := by
  rw [Zh5]
  have hl : lo (BitVec.ofNat 128 i : W128) = BitVec.ofNat 64 i := by
    apply BitVec.eq_of_toNat_eq
    simp [lo]
  have hh : hi (BitVec.ofNat 128 i : W128) = 0#64 := by
    apply BitVec.eq_of_toNat_eq
    simp [hi, Nat.shiftRight_eq_div_pow]
    omega
  have hnew := fun H => (bvnew_run h1 hN (x := BitVec.ofNat 128 i) (H := H)).run
  have htwo := fun H => (two_run h1 hN (n := 26) (a := x) (b := (BitVec.ofNat 128 i).setWidth N) (H := H)).run
  have e1 : (BitVec.ofNat 128 i).setWidth N = BitVec.ofNat N i := by
    apply BitVec.eq_of_toNat_eq
    simp
    rw [Nat.mod_eq_of_lt (show i < 2 ^ 128 by omega)]
  rw [hl, hh] at hnew
  rw [e1] at hnew htwo
  simp only [twoF, twoE] at htwo
  simp only [B, Bt] at hnew htwo ⊢
  simp (maxDischargeDepth := 40) at htwo
  simp (maxDischargeDepth := 40) [Zgv, hnew, htwo]
end
end Go.Proofs.Ytiobohfiaapgeaa
end
section
namespace Go.Proofs.Ytiobohfiaapgeaa
set_option maxRecDepth 100000
set_option maxHeartbeats 4000000
theorem shl_E {N i : Nat} (hN : N ≤ 128) (hi' : i < N) : E ((shiftF 26 (1#N) (BitVec.ofNat N i)).setWidth N) = 1#128 <<< i := by
  have hlt : i < 2 ^ N := Nat.lt_trans hi' (Nat.lt_two_pow_self)
  have hs : shN (BitVec.ofNat N i) = i := by
    unfold shN
    rw [BitVec.toNat_ofNat, Nat.mod_eq_of_lt hlt, if_pos hi']
  unfold shiftF
  rw [if_pos rfl, hs]
  unfold E
  apply BitVec.eq_of_getLsbD_eq
  intro t ht
  simp only [BitVec.getLsbD_setWidth, BitVec.getLsbD_shiftLeft, ht, decide_true, Bool.true_and, BitVec.getLsbD_one]
  by_cases c : t = i
  · subst c
    simp [hi', show 0 < N by omega, show (0 : Nat) < 128 by omega]
  · have : ¬ (t - i = 0 ∧ i ≤ t) := by omega
    by_cases c2 : t < i
    · simp [c2]
    · have : ¬ t - i = 0 := by omega
      simp [this]
theorem powF_of {N : Nat} (y : BitVec N) : powF (Vl.of y) = (List.range N).find? fun i => decide (E y = 1#128 <<< i) := rfl
section
variable {H0 : AHeap} {w dn g : Nat} {most : Int} {ns : List Nd} {F : List Nat} {e : Int}
theorem pow_loop {f : Nat} (hC : NormC f) (h : WG H0 w dn g most ns F 0) (gk : Gok ns) {n : Nd} {N : Nat} (h1N : 1 ≤ N) (hN : N ≤ 128) {y : BitVec N} {x0 x1 : Int} {look : ByteArray → Option Vl}
    (P : ∀ i, powF (Vl.of y) = some i → PV look ns n (.shl x0 ⟨N, BitVec.ofNat 128 i⟩) ∧ (exF most f ns n (.shl x0 ⟨N, BitVec.ofNat 128 i⟩)).2.2 ≠ -1)
    {H : AHeap} (k : Keeps H0 H) {o6 o7 : Nat} (n6 : H0.size ≤ o6) (l6 : o6 < H.size) (l7 : o7 < H.size) (ob6 : H.obj o6 = .cells [.int .i64 x0, .int .i64 x1]) (ob7 : H.obj o7 = .cells [.int .i64 N, u (lo (E y)), u (hi (E y))]) {ev : Env} {r : Rn}
    (hL : loopL Try.prog KT R Zbk ev H = r) (e0 : ev 0 = some (.ptr w 0)) (e6 : ev 6 = some (.ptr o6 0)) (e7 : ev 7 = some (.ptr o7 0)) (e38 : ev 38 = some (.int .i64 N)) (e39 : ev 39 = some (.int .i64 0)) :
    ∃ x ev' H', r = some (x, ev', H') ∧ ((x = .exit 2 ∧ powF (Vl.of y) = none ∧ Keeps H H') ∨ (x = .ret ∧ ∃ i id, powF (Vl.of y) = some i ∧ ev' 4 = some (.int .i64 id) ∧ Wv H0 w dn g most F (exF most f ns n (.shl x0 ⟨N, BitVec.ofNat 128 i⟩)) (some (back [] H0 (.int .i64 id) H')))) ∧ ∀ t, t ∉ defs Zbk → ev' t = ev t := by
  refine loop_count Zbk.eq_1 hL N (fun i e1 H1 => e1 39 = some (.int .i64 i) ∧ Keeps H H1 ∧ ∀ j, j < i → ¬ E y = 1#128 <<< j) _ 0 (Nat.zero_le _) ⟨e39, Keeps.refl _, by simp⟩ ?_ ?_
  · rintro i e1 H1 hf - hi' ⟨f39, k1, hj⟩
    have w1 : IntKind.i64.wrap ((i : Int) + 1) = (i : Int) + 1 := i64w (by omega) (by omega)
    have c1 : (i : Int) < N := by omega
    have p6 : H1.obj o6 = .cells [.int .i64 x0, .int .i64 x1] := by rw [k1.obj o6 l6]; exact ob6
    have p7 : H1.obj o7 = .cells [.int .i64 N, u (lo (E y)), u (hi (E y))] := by rw [k1.obj o7 l7]; exact ob7
    have m6 := k1.lt l6
    have m7 := k1.lt l7
    have hl : lo (BitVec.ofNat 128 i : W128) = BitVec.ofNat 64 i := by
      apply BitVec.eq_of_toNat_eq
      simp [lo]
    have hh : hi (BitVec.ofNat 128 i : W128) = 0#64 := by
      apply BitVec.eq_of_toNat_eq
      simp [hi, Nat.shiftRight_eq_div_pow]
      omega
    have hone := fun H => (bvnew_run h1N hN (x := 1#128) (H := H)).run
    have hby := fun H => (bvnew_run h1N hN (x := BitVec.ofNat 128 i) (H := H)).run
    rw [hl, hh] at hby
    rw [show (1#128 : W128).setWidth N = 1#N by apply BitVec.eq_of_toNat_eq; simp] at hone
    have e2 : E ((BitVec.ofNat 128 i : W128).setWidth N) = BitVec.ofNat 128 i := by
      unfold E
      apply BitVec.eq_of_toNat_eq
      have hlt : i < 2 ^ N := Nat.lt_trans hi' (Nat.lt_two_pow_self)
      simp
      rw [Nat.mod_eq_of_lt (show i < 2 ^ 128 by omega), Nat.mod_eq_of_lt hlt, Nat.mod_eq_of_lt (show i < 2 ^ 128 by omega)]
    have hsh := fun H => rshl_run h1N hN hi' (x := 1#N) (H := H)
    simp only [B, Bt] at hone hby hsh
    rw [shl_E hN hi'] at hsh
    rw [e2] at hby
    rw [show lo (1#128 : W128) = 1#64 from rfl, show hi (1#128 : W128) = 0#64 from rfl] at hone
    by_cases c : E y = 1#128 <<< i
    · have hp : powF (Vl.of y) = some i := by
        rw [powF_of, List.find?_range_eq_some]
        refine ⟨decide_eq_true c, List.mem_range.2 hi', fun j hji => by simp [hj j hji]⟩
      obtain ⟨P1, P2⟩ := P i hp
      have hsu := fun (H1 : AHeap) (k : Keeps H0 H1) (r : Option (AV × AHeap)) => shl_up hC h gk P1 P2 k (r1 := r)
      rw [← c] at hsh
      rw [hl, hh] at hby
      simp only [Nd.parts', nodeO, hl, hh] at hsu
      have k0 := k.trans k1
      have hld : ∀ ev : Env, ev 6 = some (.ptr o6 0) → ev 62 = some (.ptr o6 0) → markLd [2, 5, 997, 1006] ev (.tmp 62) (.int .i64 x0) = true := fun ev h1 h2 => markLd_one (s := 6) (d := 0) (o := o6) (off := 0) (by rfl) (by rfl) h1 h2 (by rfl)
      have r12 : ((((H1.new (.cells [.int .i64 0, u 0#64, u 0#64])).set H1.size (.cells [.int .i64 N, u (lo (E 1#N)), u (hi (E 1#N))])).new (.cells [.int .i64 0, u 0#64, u 0#64])).set (H1.size + 1) (.cells [.int .i64 N, u (BitVec.ofNat 64 i), u 0#64])).obj (H1.size + 1) = .cells [.int .i64 N, u (BitVec.ofNat 64 i), u 0#64] := by simp
      have m12 : H1.size + 1 < ((((H1.new (.cells [.int .i64 0, u 0#64, u 0#64])).set H1.size (.cells [.int .i64 N, u (lo (E 1#N)), u (hi (E 1#N))])).new (.cells [.int .i64 0, u 0#64, u 0#64])).set (H1.size + 1) (.cells [.int .i64 N, u (BitVec.ofNat 64 i), u 0#64])).size := by simp
      generalize hX : (((H1.new (.cells [.int .i64 0, u 0#64, u 0#64])).set H1.size (.cells [.int .i64 N, u (lo (E 1#N)), u (hi (E 1#N))])).new (.cells [.int .i64 0, u 0#64, u 0#64])).set (H1.size + 1) (.cells [.int .i64 N, u (BitVec.ofNat 64 i), u 0#64]) = HX at r12 m12
      have kX1 : Keeps H1 HX := by rw [← hX]; ((repeat (first | exact Keeps.refl _ | assumption | refine Keeps.new' ?_ _ | refine Keeps.set ?_ ?_ _)) <;> (first | assumption | (simp; done) | (simp; omega)))
      have kX : Keeps H0 HX := k0.trans kX1
      have q6 : HX.obj o6 = .cells [.int .i64 x0, .int .i64 x1] := by rw [kX1.obj o6 m6]; exact p6
      have l6X := kX1.lt m6
      generalize hA : R Zh [.ptr w 0, .agg [.int .i64 N, u (BitVec.ofNat 64 i), u 0#64]] HX = q
      obtain ⟨id1, H2, rfl, hsame, hn2⟩ := hsu _ kX _ hA
      have s6 : H2.obj o6 = HX.obj o6 := hsame o6 n6 (kX1.lt m6)
      have hcl : ∀ ev : Env, ev 6 = some (.ptr o6 0) → markCl [2, 5, 997, 1006] ev HX H2 = true := fun ev h1 => markCl_one (s := 6) (d := 0) (o := o6) (off := 0) (by rfl) (by rfl) h1 (by rw [s6])
      obtain ⟨id, H3, hB, hW⟩ := hn2 _ rfl
      clear hn2 hsu
      simp (maxDischargeDepth := 40) [hf, f39, e0, e6, e7, e38, c1, p7, m7, hone, hby, hsh, hX, hA, hB, hld, hcl, q6, r12]
      exact ⟨i, hp, hW⟩
    · have hn : ¬ (lo (E y) = lo (1#128 <<< i) ∧ hi (E y) = hi (1#128 <<< i)) := fun hx => c (pair_ext hx.1 hx.2)
      simp (maxDischargeDepth := 40) [hf, f39, e7, e38, c1, p7, m7, hone, hsh, eq_false hn]
      simp (maxDischargeDepth := 40) [w1]
      refine ⟨k1.trans (by ((repeat (first | exact Keeps.refl _ | assumption | refine Keeps.new' ?_ _ | refine Keeps.set ?_ ?_ _)) <;> (first | assumption | (simp; done) | (simp; omega)))), fun j hj' => ?_⟩
      rcases Nat.lt_succ_iff_lt_or_eq.1 hj' with h | rfl
      · exact hj j h
      · exact c
  · rintro e1 H1 hf ⟨f39, k1, hj⟩
    simp [hf, f39, e38]
    refine ⟨?_, k1⟩
    rw [powF_of, List.find?_range_eq_none]
    intro j hji
    simp [hj j hji]
end
end Go.Proofs.Ytiobohfiaapgeaa
end
section
namespace Go.Proofs.Ytiobohfiaapgeaa
set_option maxRecDepth 100000
set_option maxHeartbeats 4000000
section
variable {H : AHeap} {w dn g : Nat} {most : Int} {ns : List Nd} {F : List Nat} {e : Int}
theorem con_parts {ns : List Nd} {k : Int} {N : Nat} {y : BitVec N} (h : conF ns k = some (Vl.of y)) : (ndF ns k).op = 1 ∧ (ndF ns k).vw = N ∧ (ndF ns k).vl = lo (E y) ∧ (ndF ns k).vh = hi (E y) := by
  obtain ⟨h1, h2⟩ := conF_cs h
  obtain ⟨n1, n2, n3⟩ := nd_v (ndF ns k)
  rw [← h2] at n1 n2 n3
  exact ⟨h1, n3.symm, n1.symm, n2.symm⟩
theorem double_loop {f : Nat} (hC : NormC f) (h : WG H w dn g most ns F 0) (gk : Gok ns) {n : Nd} {N : Nat} (h1N : 1 ≤ N) (hN : N ≤ 128) {x y : BitVec N} {look : ByteArray → Option Vl} (hA : AllFit look ns) (ha : V look ns n.a = Vl.of x) (hb : V look ns n.b = Vl.of y)
    (P : PV look ns n (doubleF ns n)) (hne : (exF most f ns n (doubleF ns n)).2.2 ≠ -1) {H1 : AHeap} (k : Keeps H H1) {ev : Env} {r : Rn}
    (hL : loopL Try.prog KT R Zbl ev H1 = r) (e0 : ev 0 = some (.ptr w 0)) (e24 : ev 24 = some (.agg [.int .i64 n.a, .int .i64 n.b, .int .i64 n.b, .int .i64 n.a])) (e25 : ev 25 = some (.int .i64 0)) :
    ∃ x ev' H', r = some (x, ev', H') ∧ ((x = .exit 0 ∧ doubleF ns n = .mk ∧ Keeps H1 H') ∨ (x = .ret ∧ ∃ id, ev' 4 = some (.int .i64 id) ∧ Wv H w dn g most F (exF most f ns n (doubleF ns n)) (some (back [] H (.int .i64 id) H')))) ∧ ∀ t, t ∉ defs Zbl → ev' t = ev t := by
  obtain ⟨B1, hB1⟩ : ∃ B1 : Prop, B1 = ((conF ns n.b).bind powF = none) := ⟨_, rfl⟩
  obtain ⟨B2, hB2⟩ : ∃ B2 : Prop, B2 = ((conF ns n.a).bind powF = none) := ⟨_, rfl⟩
  refine loop_count Zbl.eq_1 hL 2 (fun i e1 H2 => e1 25 = some (.int .i64 i) ∧ Keeps H1 H2 ∧ (0 < i → B1) ∧ (1 < i → B2)) _ 0 (Nat.zero_le _) ⟨e25, Keeps.refl _, by simp, by simp⟩ ?_ ?_
  · rintro i e1 H2 hf - hi' ⟨f25, k01, hp1, hp2⟩
    have k1 := k.trans k01
    have w1 : IntKind.i64.wrap ((i : Int) + 1) = (i : Int) + 1 := i64w (by omega) (by omega)
    have c1 : (i : Int) < 2 := by omega
    rcases (by omega : i = 0 ∨ i = 1) with rfl | rfl
    · have hval := value_run (h.keeps ((k1.new' (.cells [.int .i64 0, .int .i64 0])).set (o := H2.size) (Keeps.size k1) (.cells [.int .i64 n.a, .int .i64 n.b]))) n.b
      cases hc : conF ns n.b with
      | none =>
        have hno := conF_no hc
        obtain ⟨kd, hkd⟩ : ∃ k, k = ndF ns n.b := ⟨_, rfl⟩
        rw [← hkd] at hno hval
        simp (maxDischargeDepth := 40) [hf, f25, e0, e24, hval, hno]
        refine ⟨k01.trans (by ((repeat (first | exact Keeps.refl _ | assumption | refine Keeps.new' ?_ _ | refine Keeps.set ?_ ?_ _)) <;> (first | assumption | (simp; done) | (simp; omega)))), by rw [hB1, hc]; rfl⟩
      | some v =>
        have hvv := con_all gk hA hc
        rw [hb] at hvv
        subst hvv
        obtain ⟨q1, q2, q3, q4⟩ := con_parts hc
        rw [q2, q3, q4] at hval
        obtain ⟨kd, hkd⟩ : ∃ k, k = ndF ns n.b := ⟨_, rfl⟩
        rw [← hkd] at q1 hval
        simp (maxDischargeDepth := 40) [hf, f25, e0, e24, hval, q1]
        generalize hL2 : loopL _ _ _ _ _ _ = q
        have kk : Keeps H2 ((((H2.new (.cells [.int .i64 0, .int .i64 0])).set H2.size (.cells [.int .i64 n.a, .int .i64 n.b])).new (.cells [.int .i64 0, u 0#64, u 0#64])).set (H2.size + 1) (.cells [.int .i64 N, u (lo (E y)), u (hi (E y))])) := by ((repeat (first | exact Keeps.refl _ | assumption | refine Keeps.new' ?_ _ | refine Keeps.set ?_ ?_ _)) <;> (first | assumption | (simp; done) | (simp; omega)))
        have hdb : ∀ i, powF (Vl.of y) = some i → doubleF ns n = .shl n.a ⟨N, BitVec.ofNat 128 i⟩ := fun i hpi => by
          unfold doubleF
          
          rw [hc, Option.bind_some, hpi]
          rfl
        obtain ⟨xx, ev2, H3, rfl, hx, fr⟩ := pow_loop hC h gk (n := n) (x0 := n.a) (x1 := n.b) h1N hN (y := y) (fun i hpi => by rw [hdb i hpi] at P hne; exact ⟨P, hne⟩) (k1.trans kk) (o6 := H2.size) (o7 := H2.size + 1) (Keeps.size k1) (by simp) (by simp) (by simp) (by simp) hL2 (by simp [hf, e0]) (by simp) (by simp) (by simp) (by simp)
        rcases hx with ⟨rfl, hp, k3⟩ | ⟨rfl, i, id, hpi, f4, hW⟩
        · simp (maxDischargeDepth := 40) [fr, f25]
          refine ⟨k01.trans (kk.trans k3), by rw [hB1, hc]; exact hp⟩
        · simp (maxDischargeDepth := 40) [f4]
          rw [hdb i hpi]
          exact hW
    · have hval := value_run (h.keeps ((k1.new' (.cells [.int .i64 0, .int .i64 0])).set (o := H2.size) (Keeps.size k1) (.cells [.int .i64 n.b, .int .i64 n.a]))) n.a
      cases hc : conF ns n.a with
      | none =>
        have hno := conF_no hc
        obtain ⟨kd, hkd⟩ : ∃ k, k = ndF ns n.a := ⟨_, rfl⟩
        rw [← hkd] at hno hval
        simp (maxDischargeDepth := 40) [hf, f25, e0, e24, hval, hno]
        refine ⟨k01.trans (by ((repeat (first | exact Keeps.refl _ | assumption | refine Keeps.new' ?_ _ | refine Keeps.set ?_ ?_ _)) <;> (first | assumption | (simp; done) | (simp; omega)))), hp1 (by omega), by rw [hB2, hc]; rfl⟩
      | some v =>
        have hvv := con_all gk hA hc
        rw [ha] at hvv
        subst hvv
        obtain ⟨q1, q2, q3, q4⟩ := con_parts hc
        rw [q2, q3, q4] at hval
        obtain ⟨kd, hkd⟩ : ∃ k, k = ndF ns n.a := ⟨_, rfl⟩
        rw [← hkd] at q1 hval
        simp (maxDischargeDepth := 40) [hf, f25, e0, e24, hval, q1]
        generalize hL2 : loopL _ _ _ _ _ _ = q
        have kk : Keeps H2 ((((H2.new (.cells [.int .i64 0, .int .i64 0])).set H2.size (.cells [.int .i64 n.b, .int .i64 n.a])).new (.cells [.int .i64 0, u 0#64, u 0#64])).set (H2.size + 1) (.cells [.int .i64 N, u (lo (E x)), u (hi (E x))])) := by ((repeat (first | exact Keeps.refl _ | assumption | refine Keeps.new' ?_ _ | refine Keeps.set ?_ ?_ _)) <;> (first | assumption | (simp; done) | (simp; omega)))
        have hdb : ∀ i, powF (Vl.of x) = some i → doubleF ns n = .shl n.b ⟨N, BitVec.ofNat 128 i⟩ := fun i hpi => by
          unfold doubleF
          rw [hB1] at hp1; rw [hp1 (by omega)]; simp only
          rw [hc, Option.bind_some, hpi]
          rfl
        obtain ⟨xx, ev2, H3, rfl, hx, fr⟩ := pow_loop hC h gk (n := n) (x0 := n.b) (x1 := n.a) h1N hN (y := x) (fun i hpi => by rw [hdb i hpi] at P hne; exact ⟨P, hne⟩) (k1.trans kk) (o6 := H2.size) (o7 := H2.size + 1) (Keeps.size k1) (by simp) (by simp) (by simp) (by simp) hL2 (by simp [hf, e0]) (by simp) (by simp) (by simp) (by simp)
        rcases hx with ⟨rfl, hp, k3⟩ | ⟨rfl, i, id, hpi, f4, hW⟩
        · simp (maxDischargeDepth := 40) [fr, f25]
          refine ⟨k01.trans (kk.trans k3), hp1 (by omega), by rw [hB2, hc]; exact hp⟩
        · simp (maxDischargeDepth := 40) [f4]
          rw [hdb i hpi]
          exact hW
  · rintro e1 H2 hf ⟨f25, k1, hp1, hp2⟩
    simp [f25]
    refine ⟨?_, k1⟩
    unfold doubleF
    rw [hB1] at hp1
    rw [hB2] at hp2
    rw [hp1 (by omega), hp2 (by omega)]
theorem doubled_run {f : Nat} (hC : NormC f) (h : WG H w dn g most ns F 0) (gk : Gok ns) {n : Nd} {N : Nat} (h1N : 1 ≤ N) (hN : N ≤ 128) {x y : BitVec N} {look : ByteArray → Option Vl} (hA : AllFit look ns) (ha : V look ns n.a = Vl.of x) (hb : V look ns n.b = Vl.of y)
    (P : PV look ns n (doubleF ns n)) (hne : (exF most f ns n (doubleF ns n)).2.2 ≠ -1) {r : Option (AV × AHeap)} (hr : R Z2 [.ptr w 0, .agg n.cs] H = r) : Wv H w dn g most F (exF most f ns n (doubleF ns n)) r := by
  rw [Zeu] at hr
  have k1 : Keeps H (H.new (.cells n.cs)) := (Keeps.refl H).new' _
  have mk := fun (H1 : AHeap) (k : Keeps H H1) (r : Option (AV × AHeap)) (hr : R Zg [.ptr w 0, .agg n.cs] H1 = r) => mk_up (f := f) h k hr
  simp only [Nd.parts'] at hr mk k1
  simp (maxDischargeDepth := 40) [Zc9] at hr
  generalize hL : loopL _ _ _ _ _ _ = q at hr
  obtain ⟨xx, ev2, H3, rfl, hx, fr⟩ := double_loop hC h gk h1N hN hA ha hb P hne k1 hL (by simp) (by simp) (by simp)
  rcases hx with ⟨rfl, hp, k3⟩ | ⟨rfl, id, f4, hW⟩
  · rw [hp]
    have hob : H3.obj H.size = .cells [.int .i64 n.op, .int .i64 n.sort, .int .i64 n.a, .int .i64 n.b, .int .i64 n.c, .int .i64 n.p, .int .i64 n.q, .int .i64 n.vw, u n.vl, u n.vh, .str n.name] := by rw [k3.obj _ (by simp)]; simp
    have hl1 : H.size < H3.size := by have := k3.size; simp at this; omega
    simp (maxDischargeDepth := 40) [fr, hob] at hr
    generalize hA : R Zg _ _ = q at hr
    obtain ⟨id, H4, rfl, hW⟩ := mk _ (k1.trans k3) _ hA
    simp at hr
    rw [← hr]
    exact hW
  · simp [f4] at hr
    rw [← hr]
    exact hW
end
end Go.Proofs.Ytiobohfiaapgeaa
end
section
namespace Go.Proofs.Ytiobohfiaapgeaa
set_option maxRecDepth 100000
set_option maxHeartbeats 4000000
theorem tb8 {op : Int} (h1 : 0 ≤ op) (h2 : op ≤ 44) : tbit op 8 = 0 ↔ ¬ (op = 12 ∨ op = 20) := tbit_fin (p := fun op => op = 12 ∨ op = 20) (by decide) h1 h2
theorem tb64 {op : Int} (h1 : 0 ≤ op) (h2 : op ≤ 44) : tbit op 64 = 0 ↔ ¬ (op = 26 ∨ op = 27 ∨ op = 28) := tbit_fin (p := fun op => op = 26 ∨ op = 27 ∨ op = 28) (by decide) h1 h2
theorem tb48 {op : Int} (h1 : 0 ≤ op) (h2 : op ≤ 44) : tbit op 48 = 0 ↔ ¬ (op = 13 ∨ op = 14 ∨ op = 18 ∨ op = 19 ∨ op = 26 ∨ op = 27 ∨ op = 28) := tbit_fin (p := fun op => op = 13 ∨ op = 14 ∨ op = 18 ∨ op = 19 ∨ op = 26 ∨ op = 27 ∨ op = 28) (by decide) h1 h2
theorem tb256 {op : Int} (h1 : 0 ≤ op) (h2 : op ≤ 44) : tbit op 256 = 0 ↔ ¬ (op = 20 ∨ op = 21) := tbit_fin (p := fun op => op = 20 ∨ op = 21) (by decide) h1 h2
theorem tb16 {op : Int} (h1 : 0 ≤ op) (h2 : op ≤ 44) : tbit op 16 = 0 ↔ ¬ (op = 13 ∨ op = 14 ∨ op = 18) := tbit_fin (p := fun op => op = 13 ∨ op = 14 ∨ op = 18) (by decide) h1 h2
theorem tb1 {op : Int} (h1 : 0 ≤ op) (h2 : op ≤ 44) : tbit op 1 = 0 ↔ ¬ (op = 4 ∨ op = 5 ∨ op = 12 ∨ op = 13) := tbit_fin (p := fun op => op = 4 ∨ op = 5 ∨ op = 12 ∨ op = 13) (by decide) h1 h2
theorem tb2 {op : Int} (h1 : 0 ≤ op) (h2 : op ≤ 44) : tbit op 2 = 0 ↔ ¬ (op = 6 ∨ op = 29 ∨ op = 31 ∨ op = 33 ∨ op = 35 ∨ op = 14 ∨ op = 19) := tbit_fin (p := fun op => op = 6 ∨ op = 29 ∨ op = 31 ∨ op = 33 ∨ op = 35 ∨ op = 14 ∨ op = 19) (by decide) h1 h2
theorem tb4 {op : Int} (h1 : 0 ≤ op) (h2 : op ≤ 44) : tbit op 4 = 0 ↔ ¬ (op = 8 ∨ op = 30 ∨ op = 32 ∨ op = 34 ∨ op = 36 ∨ op = 7) := tbit_fin (p := fun op => op = 8 ∨ op = 30 ∨ op = 32 ∨ op = 34 ∨ op = 36 ∨ op = 7) (by decide) h1 h2
section
variable {H : AHeap} {w dn g : Nat} {most : Int} {ns : List Nd} {F : List Nat} {e : Int}
theorem beside_err (h : WG H w dn g most ns F e) (he : ¬ e = 0) {n : Nd} (h4 : 4 ≤ n.op) (h8 : n.op ≤ 8) {r : Option (AV × AHeap)} (hr : R Zz [.ptr w 0, .agg n.cs, .int .i64 (tagsF n.op)] H = r) :
    ∃ id H', r = some (.int .i64 id, H') ∧ ∃ F' ns', WG H' w dn g most ns' F' e ∧ Fr (w :: F) H H' ∧ ∀ p, p ∈ F' → p ∈ F ∨ H.size ≤ p := by
  rw [Zdh] at hr
  have k1 : Keeps H (H.new (.cells n.cs)) := (Keeps.refl H).new' _
  have z8 := (tb8 (op := n.op) (by omega) (by omega)).2 (by omega)
  have z64 := (tb64 (op := n.op) (by omega) (by omega)).2 (by omega)
  have z48 := (tb48 (op := n.op) (by omega) (by omega)).2 (by omega)
  have z256 := (tb256 (op := n.op) (by omega) (by omega)).2 (by omega)
  have z16 := (tb16 (op := n.op) (by omega) (by omega)).2 (by omega)
  have n20 : ¬ n.op = 20 := by omega
  have mk := fun (r : Option (AV × AHeap)) => make_err (h.keeps k1) he (n := n) (r := r)
  simp only [Nd.parts'] at hr mk k1
  simp (maxDischargeDepth := 40) [Zn, z8, z64, z48, z256, z16, n20] at hr
  generalize hA : R Zg _ _ = q at hr
  obtain ⟨H2, F2, ns2, id, rfl, g2, k2, n2⟩ := mk _ hA
  simp at hr
  have k3 : Fr (w :: F) H H2 := (k1.fr _).trans k2 fun p hp => .inl hp
  obtain ⟨D, hD, g4, k4⟩ := h.back g2 k3 id
  rw [hD] at hr
  refine ⟨id, D, hr.symm, F2, ns2, g4, k4, fun p hp => ?_⟩
  have := k1.size
  rcases n2 p hp with h | h
  · exact .inl h
  · exact .inr (by omega)
theorem beside_run {f : Nat} (h : WG H w dn g most ns F 0) {n : Nd} (o0 : 0 ≤ n.op) (o44 : n.op ≤ 44)
    (hd : n.op = 20 → besideF ns n = doubleF ns n → ∀ H1, Keeps H H1 → ∀ r, R Z2 [.ptr w 0, .agg n.cs] H1 = r → ∃ id H2, r = some (.int .i64 id, H2) ∧ Wv H w dn g most F (exF most f ns n (doubleF ns n)) (some (back [] H (.int .i64 id) H2)))
    {r : Option (AV × AHeap)} (hr : R Zz [.ptr w 0, .agg n.cs, .int .i64 (tagsF n.op)] H = r) : Wv H w dn g most F (exF most f ns n (besideF ns n)) r := by
  rw [Zdh] at hr
  have hself := h.self
  have hlo := h.lo
  have k1 : Keeps H (H.new (.cells n.cs)) := (Keeps.refl H).new' _
  have t8 := tb8 o0 o44
  have t64 := tb64 o0 o44
  have t48 := tb48 o0 o44
  have t256 := tb256 o0 o44
  have t16 := tb16 o0 o44
  have ia := fun c => is_run (h.keeps k1) (id := n.a) (c := c)
  have ib := fun c => is_run (h.keeps k1) (id := n.b) (c := c)
  have hnode := (h.keeps k1).node n.a
  have mk := fun (H1 : AHeap) (k : Keeps H H1) (r : Option (AV × AHeap)) (hr : R Zg [.ptr w 0, .agg n.cs] H1 = r) => mk_up (f := f) h k hr
  have co := fun (H1 : AHeap) (k : Keeps H H1) (r : Option (AV × AHeap)) (hr : R Zh [.ptr w 0, .agg [.int .i64 (ndF ns n.a).sort, u (lo (0#128 : W128)), u (hi (0#128 : W128))]] H1 = r) => con_up (f := f) (n := n) (v := ⟨(ndF ns n.a).sort, 0#128⟩) h k hr
  simp only [show lo (0#128 : W128) = 0#64 from rfl, show hi (0#128 : W128) = 0#64 from rfl] at co
  obtain ⟨k, hk⟩ : ∃ k, k = ndF ns n.a := ⟨_, rfl⟩
  simp only [Nd.parts'] at hr mk k1 hnode hd ia ib
  rw [← hk] at hnode co
  by_cases grp : n.op = 12
  · have z8 : ¬ tbit n.op 8 = 0 := fun hh => t8.1 hh (by omega)
    have z64 : tbit n.op 64 = 0 := t64.2 (by omega)
    have z48 : tbit n.op 48 = 0 := t48.2 (by omega)
    have z256 : tbit n.op 256 = 0 := t256.2 (by omega)
    have z16 : tbit n.op 16 = 0 := t16.2 (by omega)
    have n20 : ¬ n.op = 20 := by omega
    cases a0 : isF ns n.a 0#64 with
    | true =>
      have hB : besideF ns n = .con ⟨k.sort, 0#128⟩ := by
        simp [besideF, grp, ← hk, a0]
      rw [hB]
      simp (maxDischargeDepth := 40) [Zn, hself, hlo, z8, ia 0#64, a0, hnode] at hr
      generalize hA : R Zh _ _ = q at hr
      obtain ⟨id, H2, rfl, hW⟩ := co _ (by ((repeat (first | exact Keeps.refl _ | assumption | refine Keeps.new' ?_ _ | refine Keeps.set ?_ ?_ _)) <;> (first | assumption | (simp; done) | (simp; omega)))) _ hA
      simp at hr
      rw [← hr]
      simpa only [hk] using hW
    | false =>
      cases b0 : isF ns n.b 0#64 with
      | true =>
        have hB : besideF ns n = .con ⟨k.sort, 0#128⟩ := by
          simp [besideF, grp, ← hk, a0, b0]
        rw [hB]
        simp (maxDischargeDepth := 40) [Zn, hself, hlo, z8, ia 0#64, ib 0#64, a0, b0, hnode] at hr
        generalize hA : R Zh _ _ = q at hr
        obtain ⟨id, H2, rfl, hW⟩ := co _ (by ((repeat (first | exact Keeps.refl _ | assumption | refine Keeps.new' ?_ _ | refine Keeps.set ?_ ?_ _)) <;> (first | assumption | (simp; done) | (simp; omega)))) _ hA
        simp at hr
        rw [← hr]
        simpa only [hk] using hW
      | false =>
        have hB : besideF ns n = .mk := by
          simp [besideF, grp, a0, b0]
        rw [hB]
        simp (maxDischargeDepth := 40) [Zn, z8, z64, z48, z256, z16, n20, ia 0#64, ib 0#64, a0, b0] at hr
        generalize hA : R Zg _ _ = q at hr
        obtain ⟨id, H2, rfl, hW⟩ := mk _ (by ((repeat (first | exact Keeps.refl _ | assumption | refine Keeps.new' ?_ _ | refine Keeps.set ?_ ?_ _)) <;> (first | assumption | (simp; done) | (simp; omega)))) _ hA
        simp at hr
        rw [← hr]
        exact hW
  have g12 := grp
  clear grp
  by_cases grp : n.op = 20
  · have z8 : ¬ tbit n.op 8 = 0 := fun hh => t8.1 hh (by omega)
    have z64 : tbit n.op 64 = 0 := t64.2 (by omega)
    have z48 : tbit n.op 48 = 0 := t48.2 (by omega)
    have z256 : ¬ tbit n.op 256 = 0 := fun hh => t256.1 hh (by omega)
    have z16 : tbit n.op 16 = 0 := t16.2 (by omega)
    have e20 := eq_true grp
    cases a0 : isF ns n.a 0#64 with
    | true =>
      have hB : besideF ns n = .con ⟨k.sort, 0#128⟩ := by
        simp [besideF, grp, ← hk, a0]
      rw [hB]
      simp (maxDischargeDepth := 40) [Zn, hself, hlo, z8, ia 0#64, a0, hnode] at hr
      generalize hA : R Zh _ _ = q at hr
      obtain ⟨id, H2, rfl, hW⟩ := co _ (by ((repeat (first | exact Keeps.refl _ | assumption | refine Keeps.new' ?_ _ | refine Keeps.set ?_ ?_ _)) <;> (first | assumption | (simp; done) | (simp; omega)))) _ hA
      simp at hr
      rw [← hr]
      simpa only [hk] using hW
    | false =>
      cases b0 : isF ns n.b 0#64 with
      | true =>
        have hB : besideF ns n = .con ⟨k.sort, 0#128⟩ := by
          simp [besideF, grp, ← hk, a0, b0]
        rw [hB]
        simp (maxDischargeDepth := 40) [Zn, hself, hlo, z8, ia 0#64, ib 0#64, a0, b0, hnode] at hr
        generalize hA : R Zh _ _ = q at hr
        obtain ⟨id, H2, rfl, hW⟩ := co _ (by ((repeat (first | exact Keeps.refl _ | assumption | refine Keeps.new' ?_ _ | refine Keeps.set ?_ ?_ _)) <;> (first | assumption | (simp; done) | (simp; omega)))) _ hA
        simp at hr
        rw [← hr]
        simpa only [hk] using hW
      | false =>
        cases b1 : isF ns n.b 1#64 with
        | true =>
          have hB : besideF ns n = .at n.a := by
            simp [besideF, grp, a0, b0, b1]
          rw [hB]
          simp (maxDischargeDepth := 40) [Zn, z8, z64, z48, z256, ia 0#64, ib 0#64, ib 1#64, a0, b0, b1] at hr
          rw [← hr]
          exact Wv.stay h _
        | false =>
          cases a1 : isF ns n.a 1#64 with
          | true =>
            have hB : besideF ns n = .at n.b := by
              simp [besideF, grp, a0, b0, b1, a1]
            rw [hB]
            simp (maxDischargeDepth := 40) [Zn, z8, z64, z48, z256, z16, e20, ia 0#64, ib 0#64, ib 1#64, ia 1#64, a0, b0, b1, a1] at hr
            rw [← hr]
            exact Wv.stay h _
          | false =>
            have hB : besideF ns n = doubleF ns n := by
              simp [besideF, grp, a0, b0, b1, a1]
            have hd := hd grp hB
            rw [hB]
            simp (maxDischargeDepth := 40) [Zn, z8, z64, z48, z256, z16, e20, ia 0#64, ib 0#64, ib 1#64, ia 1#64, a0, b0, b1, a1] at hr
            generalize hA : R Z2 _ _ = q at hr
            obtain ⟨id, H2, rfl, hW⟩ := hd _ (by ((repeat (first | exact Keeps.refl _ | assumption | refine Keeps.new' ?_ _ | refine Keeps.set ?_ ?_ _)) <;> (first | assumption | (simp; done) | (simp; omega)))) _ hA
            simp at hr
            rw [← hr]
            exact hW
  have g20 := grp
  clear grp
  by_cases grp : n.op = 26 ∨ n.op = 27 ∨ n.op = 28
  · have z8 : tbit n.op 8 = 0 := t8.2 (by omega)
    have z64 : ¬ tbit n.op 64 = 0 := fun hh => t64.1 hh (by omega)
    have z48 : ¬ tbit n.op 48 = 0 := fun hh => t48.1 hh (by omega)
    have z256 : tbit n.op 256 = 0 := t256.2 (by omega)
    have z16 : tbit n.op 16 = 0 := t16.2 (by omega)
    have n20 : ¬ n.op = 20 := by omega
    cases a0 : isF ns n.a 0#64 with
    | true =>
      have hB : besideF ns n = .con ⟨k.sort, 0#128⟩ := by
        rcases grp with h | h | h <;> simp [besideF, h, ← hk, a0]
      rw [hB]
      simp (maxDischargeDepth := 40) [Zn, hself, hlo, z8, z64, ia 0#64, a0, hnode] at hr
      generalize hA : R Zh _ _ = q at hr
      obtain ⟨id, H2, rfl, hW⟩ := co _ (by ((repeat (first | exact Keeps.refl _ | assumption | refine Keeps.new' ?_ _ | refine Keeps.set ?_ ?_ _)) <;> (first | assumption | (simp; done) | (simp; omega)))) _ hA
      simp at hr
      rw [← hr]
      simpa only [hk] using hW
    | false =>
      cases b0 : isF ns n.b 0#64 with
      | true =>
        have hB : besideF ns n = .at n.a := by
          rcases grp with h | h | h <;> simp [besideF, h, a0, b0]
        rw [hB]
        simp (maxDischargeDepth := 40) [Zn, z8, z64, z48, ia 0#64, ib 0#64, a0, b0] at hr
        rw [← hr]
        exact Wv.stay h _
      | false =>
        have hB : besideF ns n = .mk := by
          rcases grp with h | h | h <;> simp [besideF, h, a0, b0]
        rw [hB]
        simp (maxDischargeDepth := 40) [Zn, z8, z64, z48, z256, z16, n20, ia 0#64, ib 0#64, a0, b0] at hr
        generalize hA : R Zg _ _ = q at hr
        obtain ⟨id, H2, rfl, hW⟩ := mk _ (by ((repeat (first | exact Keeps.refl _ | assumption | refine Keeps.new' ?_ _ | refine Keeps.set ?_ ?_ _)) <;> (first | assumption | (simp; done) | (simp; omega)))) _ hA
        simp at hr
        rw [← hr]
        exact hW
  have g26 := grp
  clear grp
  by_cases grp : n.op = 13 ∨ n.op = 14 ∨ n.op = 18
  · have z8 : tbit n.op 8 = 0 := t8.2 (by omega)
    have z64 : tbit n.op 64 = 0 := t64.2 (by omega)
    have z48 : ¬ tbit n.op 48 = 0 := fun hh => t48.1 hh (by omega)
    have z256 : tbit n.op 256 = 0 := t256.2 (by omega)
    have z16 : ¬ tbit n.op 16 = 0 := fun hh => t16.1 hh (by omega)
    have n20 : ¬ n.op = 20 := by omega
    cases b0 : isF ns n.b 0#64 with
    | true =>
      have hB : besideF ns n = .at n.a := by
        rcases grp with h | h | h <;> simp [besideF, h, b0]
      rw [hB]
      simp (maxDischargeDepth := 40) [Zn, z8, z64, z48, ib 0#64, b0] at hr
      rw [← hr]
      exact Wv.stay h _
    | false =>
      cases a0 : isF ns n.a 0#64 with
      | true =>
        have hB : besideF ns n = .at n.b := by
          rcases grp with h | h | h <;> simp [besideF, h, b0, a0]
        rw [hB]
        simp (maxDischargeDepth := 40) [Zn, z8, z64, z48, z256, z16, ib 0#64, ia 0#64, b0, a0] at hr
        rw [← hr]
        exact Wv.stay h _
      | false =>
        have hB : besideF ns n = .mk := by
          rcases grp with h | h | h <;> simp [besideF, h, b0, a0]
        rw [hB]
        simp (maxDischargeDepth := 40) [Zn, z8, z64, z48, z256, z16, n20, ib 0#64, ia 0#64, b0, a0] at hr
        generalize hA : R Zg _ _ = q at hr
        obtain ⟨id, H2, rfl, hW⟩ := mk _ (by ((repeat (first | exact Keeps.refl _ | assumption | refine Keeps.new' ?_ _ | refine Keeps.set ?_ ?_ _)) <;> (first | assumption | (simp; done) | (simp; omega)))) _ hA
        simp at hr
        rw [← hr]
        exact hW
  have g13 := grp
  clear grp
  by_cases grp : n.op = 19
  · have z8 : tbit n.op 8 = 0 := t8.2 (by omega)
    have z64 : tbit n.op 64 = 0 := t64.2 (by omega)
    have z48 : ¬ tbit n.op 48 = 0 := fun hh => t48.1 hh (by omega)
    have z256 : tbit n.op 256 = 0 := t256.2 (by omega)
    have z16 : tbit n.op 16 = 0 := t16.2 (by omega)
    have n20 : ¬ n.op = 20 := by omega
    cases b0 : isF ns n.b 0#64 with
    | true =>
      have hB : besideF ns n = .at n.a := by
        simp [besideF, grp, b0]
      rw [hB]
      simp (maxDischargeDepth := 40) [Zn, z8, z64, z48, ib 0#64, b0] at hr
      rw [← hr]
      exact Wv.stay h _
    | false =>
      have hB : besideF ns n = .mk := by
        simp [besideF, grp, b0]
      rw [hB]
      simp (maxDischargeDepth := 40) [Zn, z8, z64, z48, z256, z16, n20, ib 0#64, b0] at hr
      generalize hA : R Zg _ _ = q at hr
      obtain ⟨id, H2, rfl, hW⟩ := mk _ (by ((repeat (first | exact Keeps.refl _ | assumption | refine Keeps.new' ?_ _ | refine Keeps.set ?_ ?_ _)) <;> (first | assumption | (simp; done) | (simp; omega)))) _ hA
      simp at hr
      rw [← hr]
      exact hW
  have g19 := grp
  clear grp
  by_cases grp : n.op = 21
  · have z8 : tbit n.op 8 = 0 := t8.2 (by omega)
    have z64 : tbit n.op 64 = 0 := t64.2 (by omega)
    have z48 : tbit n.op 48 = 0 := t48.2 (by omega)
    have z256 : ¬ tbit n.op 256 = 0 := fun hh => t256.1 hh (by omega)
    have z16 : tbit n.op 16 = 0 := t16.2 (by omega)
    have n20 : ¬ n.op = 20 := by omega
    cases b1 : isF ns n.b 1#64 with
    | true =>
      have hB : besideF ns n = .at n.a := by
        simp [besideF, grp, b1]
      rw [hB]
      simp (maxDischargeDepth := 40) [Zn, z8, z64, z48, z256, ib 1#64, b1] at hr
      rw [← hr]
      exact Wv.stay h _
    | false =>
      have hB : besideF ns n = .mk := by
        simp [besideF, grp, b1]
      rw [hB]
      simp (maxDischargeDepth := 40) [Zn, z8, z64, z48, z256, z16, n20, ib 1#64, b1] at hr
      generalize hA : R Zg _ _ = q at hr
      obtain ⟨id, H2, rfl, hW⟩ := mk _ (by ((repeat (first | exact Keeps.refl _ | assumption | refine Keeps.new' ?_ _ | refine Keeps.set ?_ ?_ _)) <;> (first | assumption | (simp; done) | (simp; omega)))) _ hA
      simp at hr
      rw [← hr]
      exact hW
  have g21 := grp
  clear grp
  have z8 : tbit n.op 8 = 0 := t8.2 (by omega)
  have z64 : tbit n.op 64 = 0 := t64.2 (by omega)
  have z48 : tbit n.op 48 = 0 := t48.2 (by omega)
  have z256 : tbit n.op 256 = 0 := t256.2 (by omega)
  have z16 : tbit n.op 16 = 0 := t16.2 (by omega)
  have n20 : ¬ n.op = 20 := by omega
  have hB : besideF ns n = .mk := by
    unfold besideF
    rw [if_neg (by omega), if_neg (by omega), if_neg (by omega), if_neg (by omega)]
  rw [hB]
  simp (maxDischargeDepth := 40) [Zn, z8, z64, z48, z256, z16, n20] at hr
  generalize hA : R Zg _ _ = q at hr
  obtain ⟨id, H2, rfl, hW⟩ := mk _ (by ((repeat (first | exact Keeps.refl _ | assumption | refine Keeps.new' ?_ _ | refine Keeps.set ?_ ?_ _)) <;> (first | assumption | (simp; done) | (simp; omega)))) _ hA
  simp at hr
  rw [← hr]
  exact hW
end
end Go.Proofs.Ytiobohfiaapgeaa
end
section
namespace Go.Proofs.Ytiobohfiaapgeaa
set_option maxRecDepth 100000
set_option maxHeartbeats 4000000
section
variable {H : AHeap} {w dn g : Nat} {most : Int} {ns : List Nd} {F : List Nat} {e : Int}
theorem mul_words {ns : List Nd} {look : ByteArray → Option Vl} (gk : Gok ns) (hA : AllFit look ns) {n : Nd} (hf : formedF ns.length n = true) (hs : (sortedF ns n).2 = 0) (h20 : n.op = 20) : ∃ N : Nat, 1 ≤ N ∧ N ≤ 128 ∧ ∃ x y : BitVec N, V look ns n.a = Vl.of x ∧ V look ns n.b = Vl.of y := by
  have F := node_fit gk hA hf hs (by omega) (by omega)
  rw [kidsV_2 (by rw [h20]; decide)] at F
  obtain ⟨l, hl⟩ : ∃ l, l = [V look ns n.a, V look ns n.b] := ⟨_, rfl⟩
  obtain ⟨s, hs⟩ : ∃ s, s = (sortedF ns n).1.sort := ⟨_, rfl⟩
  rw [← hl, ← hs] at F
  cases F with
  | word N x y r1 r2 =>
    injection hl with e1 e2
    injection e2 with e2
    exact ⟨N, r1, r2, x, y, e1.symm, e2.symm⟩
  | _ => omega
theorem logic_ops {ns : List Nd} {n : Nd} {c : Ch} (h : logicF ns n = some c) : 4 ≤ n.op ∧ n.op ≤ 8 := by
  unfold logicF at h
  split at h
  · cases h
  · omega
theorem wtwo_run {f : Nat} (hC : NormC f) (h : WG H w dn g most ns F 0) (gk : Gok ns) {n : Nd} (hf : formedF ns.length n = true) (hs : (sortedF ns n).2 = 0) (har : arity n.op = 2) (hne : (exF most f ns n (binC ns n)).2.2 ≠ -1) {r : Option (AV × AHeap)}
    (hr : R Zbq [.ptr w 0, .agg n.cs] H = r) : Wv H w dn g most F (exF most f ns n (binC ns n)) r := by
  rw [Zfh] at hr
  have hself := h.self
  have hlo := h.lo
  have k1 : Keeps H (H.new (.cells n.cs)) := (Keeps.refl H).new' _
  have h1 : ¬ n.op = 1 := fun hh => by rw [hh] at har; revert har; decide
  have h2 : ¬ n.op = 2 := fun hh => by rw [hh] at har; revert har; decide
  obtain ⟨look, hA⟩ := look_any gk
  have PB := bin_val gk hA hf hs h1 h2 har
  have pth : pathF ns n = binC ns n := by unfold pathF; rw [if_neg (by omega), if_neg (by omega), if_neg (by omega)]
  have pos : (exF most f ns n (binC ns n)).2.2 = 0 → 0 < (exF most f ns n (binC ns n)).2.1 := fun h0 => by
    rw [← pth, ← normF_ex] at hne h0 ⊢
    have := ((norm_val (f + 1) gk hf hs h1 h2 hne).1 h0).lo
    omega
  cases hfo : foldF ns n with
  | some v =>
    rw [show binC ns n = .con v by unfold binC; rw [hfo]]
    have hX := fun (r' : Option (AV × AHeap)) => fold_up (f := f) h (by omega) hfo k1 (r := r')
    simp only [Nd.parts'] at hr hX
    simp (maxDischargeDepth := 40) [Zbg] at hr
    generalize hA : R Zy _ _ = q at hr
    obtain ⟨id, H2, e, rfl, o2, l2, hid, hW⟩ := hX _ hA
    by_cases c : 0 < id
    · simp (maxDischargeDepth := 40) [c] at hr
      rw [← hr]; exact hW
    · have := hid c
      simp (maxDischargeDepth := 40) [c, o2, this] at hr
      rw [← hr]; exact hW
  | none =>
    have hX := fold_no h (by omega) hfo k1
    have ob := arity_bound (op := n.op) (by omega)
    have t1 := tb1 (op := n.op) (by omega) (by omega)
    have t2 := tb2 (op := n.op) (by omega) (by omega)
    have t4 := tb4 (op := n.op) (by omega) (by omega)
    have hz := zero_run (h.keeps k1) (n := n)
    have hb := fun H => bool_run (b := true) (H := H)
    have co := fun (v : Vl) (H1 : AHeap) (k : Keeps H H1) (r : Option (AV × AHeap)) (hr : R Zh [.ptr w 0, .agg [.int .i64 v.w, u (lo v.n), u (hi v.n)]] H1 = r) => con_up (f := f) (n := n) h k hr
    have hlg := fun (P : ∀ c, logicF ns n = some c → PV look ns n c ∧ (exF most f ns n c).2.2 ≠ -1) (r : Option (AV × AHeap)) => wlogic_run hC (h.keeps k1) gk P (r := r)
    have hbd := fun (hd) (r : Option (AV × AHeap)) => beside_run (f := f) (h.keeps k1) (n := n) (by omega) (by omega) hd (r := r)
    have hbe := fun (H2 : AHeap) (ns2 : List Nd) (F2 : List Nat) (e2 : Int) (g2 : WG H2 w dn g most ns2 F2 e2) (he : ¬ e2 = 0) (h4 : 4 ≤ n.op) (h8 : n.op ≤ 8) (r : Option (AV × AHeap)) => beside_err g2 he (n := n) h4 h8 (r := r)
    have hdb : n.op = 20 → binC ns n = doubleF ns n → ∀ H1, Keeps (H.new (.cells n.cs)) H1 → ∀ r, R Z2 [.ptr w 0, .agg n.cs] H1 = r → ∃ id H2, r = some (.int .i64 id, H2) ∧ Wv (H.new (.cells n.cs)) w dn g most F (exF most f ns n (doubleF ns n)) (some (back [] (H.new (.cells n.cs)) (.int .i64 id) H2)) := fun h20 hB H1 k r hr => by
      obtain ⟨N, N1, N2, x, y, ha, hb⟩ := mul_words gk hA hf hs h20
      rw [hB] at PB hne
      exact Wv.up (h.keeps k1) k (doubled_run hC ((h.keeps k1).keeps k) gk N1 N2 hA ha hb PB hne hr)
    simp only [Nd.parts'] at hr hX k1 hz hlg hbd hbe hdb
    have hbin0 : binC ns n = (if n.a = n.b ∧ (n.op = 4 ∨ n.op = 5 ∨ n.op = 12 ∨ n.op = 13) then .at n.a
    else if n.a = n.b ∧ (n.op = 6 ∨ n.op = 29 ∨ n.op = 31 ∨ n.op = 33 ∨ n.op = 35 ∨ n.op = 14 ∨ n.op = 19) then .con (if n.op = 14 ∨ n.op = 19 then ⟨(ndF ns n.a).sort, 0#128⟩ else Vl.bool false)
    else if n.a = n.b ∧ (n.op = 8 ∨ n.op = 30 ∨ n.op = 32 ∨ n.op = 34 ∨ n.op = 36 ∨ n.op = 7) then .con (Vl.bool true)
    else match logicF ns n with
      | some c => c
      | none => besideF ns n) := by
      unfold binC
      rw [hfo]
      rfl
    by_cases cab : n.a = n.b
    · have eab := eq_true cab
      by_cases c1 : n.op = 4 ∨ n.op = 5 ∨ n.op = 12 ∨ n.op = 13
      · have z1 : ¬ tbit n.op 1 = 0 := fun hh => t1.1 hh c1
        rw [hbin0, if_pos ⟨cab, c1⟩]
        simp (maxDischargeDepth := 40) [Zbg, hself, hlo, hX, tags_run, eab, z1] at hr
        rw [← hr]
        exact Wv.stay h _
      have z1 := t1.2 c1
      rw [if_neg (fun hh => c1 hh.2)] at hbin0
      by_cases c2 : n.op = 6 ∨ n.op = 29 ∨ n.op = 31 ∨ n.op = 33 ∨ n.op = 35 ∨ n.op = 14 ∨ n.op = 19
      · have z2 : ¬ tbit n.op 2 = 0 := fun hh => t2.1 hh c2
        rw [hbin0, if_pos ⟨cab, c2⟩]
        obtain ⟨zv, hzv⟩ : ∃ zv, zv = (if n.op = 14 ∨ n.op = 19 then (⟨(ndF ns n.a).sort, 0#128⟩ : Vl) else Vl.bool false) := ⟨_, rfl⟩
        have hz2 : AV.agg [.int .i64 (if n.op = 14 ∨ n.op = 19 then (ndF ns n.a).sort else 0), u 0#64, u 0#64] = .agg [.int .i64 zv.w, u (lo zv.n), u (hi zv.n)] := by
          rw [hzv]
          by_cases c : n.op = 14 ∨ n.op = 19
          · rw [if_pos c, if_pos c]
            simp only [show lo (0#128 : W128) = 0#64 from rfl, show hi (0#128 : W128) = 0#64 from rfl]
          · rw [if_neg c, if_neg c]
            simp only [Vl.bool, Bool.false_eq_true, if_false, show lo (0#128 : W128) = 0#64 from rfl, show hi (0#128 : W128) = 0#64 from rfl]
        rw [hz2] at hz
        rw [← hzv]
        simp (maxDischargeDepth := 40) [Zbg, hself, hlo, hX, tags_run, eab, z1, z2, hz] at hr
        generalize hA : R Zh _ _ = q at hr
        obtain ⟨id, H2, rfl, hW⟩ := co zv _ k1 _ hA
        simp at hr
        rw [← hr]
        exact hW
      have z2 := t2.2 c2
      rw [if_neg (fun hh => c2 hh.2)] at hbin0
      by_cases c4 : n.op = 8 ∨ n.op = 30 ∨ n.op = 32 ∨ n.op = 34 ∨ n.op = 36 ∨ n.op = 7
      · have z4 : ¬ tbit n.op 4 = 0 := fun hh => t4.1 hh c4
        rw [hbin0, if_pos ⟨cab, c4⟩]
        simp (maxDischargeDepth := 40) [Zbg, hself, hlo, hX, tags_run, eab, z1, z2, z4, hb] at hr
        generalize hA : R Zh _ _ = q at hr
        obtain ⟨id, H2, rfl, hW⟩ := co (Vl.bool true) _ k1 _ hA
        simp at hr
        rw [← hr]
        exact hW
      have z4 := t4.2 c4
      rw [if_neg (fun hh => c4 hh.2)] at hbin0
      have hbin := hbin0
      simp (maxDischargeDepth := 40) [Zbg, hself, hlo, hX, tags_run, eab, z1, z2, z4] at hr
      generalize hL : R Zbj _ _ = q at hr
      have hW := hlg (fun c hc => by rw [hbin, hc] at PB hne; exact ⟨PB, hne⟩) _ hL
      cases hlc : logicF ns n with
      | none =>
        rw [hlc] at hW hbin
        simp only at hW hbin
        subst hW
        simp (maxDischargeDepth := 40) at hr
        generalize hB : R Zz _ _ = q at hr
        have hW := hbd (fun h20 hB => hdb h20 (hbin.trans hB)) _ hB
        obtain ⟨id, H2, rfl, hW2⟩ := Wv.up h k1 hW
        simp at hr
        rw [hbin, ← hr]
        exact hW2
      | some c =>
        obtain ⟨l4, l8⟩ := logic_ops hlc
        rw [hlc] at hW hbin
        simp only at hW hbin
        rw [← hbin] at hW
        obtain ⟨id', H2', e1, hW2⟩ := Wv.up h k1 hW
        obtain ⟨H2, F2, ns2, id, e2, rfl, g2, k2, n2, ok, bad⟩ := hW
        cases e1
        by_cases c0 : 0 < id'
        · simp (maxDischargeDepth := 40) [c0] at hr
          rw [← hr]
          exact hW2
        · have he : ¬ (exF most f ns n (binC ns n)).2.2 = 0 := fun h0 => c0 (by rw [(ok h0).2.1]; exact pos h0)
          have hb := bad he
          have hnF : H.size ∉ w :: F := fun hp => by
            rcases List.mem_cons.1 hp with hp | hp
            · omega
            · have := h.G.ltF hp; omega
          have hob : H2'.obj H.size = .cells [.int .i64 n.op, .int .i64 n.sort, .int .i64 n.a, .int .i64 n.b, .int .i64 n.c, .int .i64 n.p, .int .i64 n.q, .int .i64 n.vw, u n.vl, u n.vh, .str n.name] := by rw [k2.obj _ (by simp) hnF]; simp
          have hl1 : H.size < H2'.size := by have := k2.size; simp at this; omega
          simp (maxDischargeDepth := 40) [c0, hob] at hr
          generalize hB : R Zz _ _ = q at hr
          obtain ⟨id3, H3, rfl, F3, ns3, g3, k3, n3⟩ := hbe H2' ns2 F2 e2 g2 (by rw [hb]; exact he) l4 l8 _ hB
          simp at hr
          have s1 := k1.size
          have s2 := k2.size
          have nn : ∀ p, p ∈ F2 → p ∈ F ∨ H.size ≤ p := fun p hp => by
            rcases n2 p hp with h | h
            · exact .inl h
            · exact .inr (by omega)
          have k13 : Fr (w :: F) H H3 := ((k1.fr _).trans k2 fun p hp => .inl hp).trans k3 fun p hp => by
            rcases List.mem_cons.1 hp with rfl | hp
            · exact .inl (by simp)
            · rcases nn p hp with h | h
              · exact .inl (by simp [h])
              · exact .inr h
          obtain ⟨D, hD, g4, k4⟩ := h.back g3 k13 id3
          rw [hD] at hr
          refine ⟨D, F3, ns3, id3, e2, hr.symm, g4, k4, fun p hp => ?_, fun h0 => absurd h0 he, fun _ => hb⟩
          rcases n3 p hp with h | h
          · exact nn p h
          · exact .inr (by omega)
    · rw [if_neg (fun hh => cab hh.1), if_neg (fun hh => cab hh.1), if_neg (fun hh => cab hh.1)] at hbin0
      have hbin := hbin0
      simp (maxDischargeDepth := 40) [Zbg, hself, hlo, hX, tags_run, cab] at hr
      generalize hL : R Zbj _ _ = q at hr
      have hW := hlg (fun c hc => by rw [hbin, hc] at PB hne; exact ⟨PB, hne⟩) _ hL
      cases hlc : logicF ns n with
      | none =>
        rw [hlc] at hW hbin
        simp only at hW hbin
        subst hW
        simp (maxDischargeDepth := 40) at hr
        generalize hB : R Zz _ _ = q at hr
        have hW := hbd (fun h20 hB => hdb h20 (hbin.trans hB)) _ hB
        obtain ⟨id, H2, rfl, hW2⟩ := Wv.up h k1 hW
        simp at hr
        rw [hbin, ← hr]
        exact hW2
      | some c =>
        obtain ⟨l4, l8⟩ := logic_ops hlc
        rw [hlc] at hW hbin
        simp only at hW hbin
        rw [← hbin] at hW
        obtain ⟨id', H2', e1, hW2⟩ := Wv.up h k1 hW
        obtain ⟨H2, F2, ns2, id, e2, rfl, g2, k2, n2, ok, bad⟩ := hW
        cases e1
        by_cases c0 : 0 < id'
        · simp (maxDischargeDepth := 40) [c0] at hr
          rw [← hr]
          exact hW2
        · have he : ¬ (exF most f ns n (binC ns n)).2.2 = 0 := fun h0 => c0 (by rw [(ok h0).2.1]; exact pos h0)
          have hb := bad he
          have hnF : H.size ∉ w :: F := fun hp => by
            rcases List.mem_cons.1 hp with hp | hp
            · omega
            · have := h.G.ltF hp; omega
          have hob : H2'.obj H.size = .cells [.int .i64 n.op, .int .i64 n.sort, .int .i64 n.a, .int .i64 n.b, .int .i64 n.c, .int .i64 n.p, .int .i64 n.q, .int .i64 n.vw, u n.vl, u n.vh, .str n.name] := by rw [k2.obj _ (by simp) hnF]; simp
          have hl1 : H.size < H2'.size := by have := k2.size; simp at this; omega
          simp (maxDischargeDepth := 40) [c0, hob] at hr
          generalize hB : R Zz _ _ = q at hr
          obtain ⟨id3, H3, rfl, F3, ns3, g3, k3, n3⟩ := hbe H2' ns2 F2 e2 g2 (by rw [hb]; exact he) l4 l8 _ hB
          simp at hr
          have s1 := k1.size
          have s2 := k2.size
          have nn : ∀ p, p ∈ F2 → p ∈ F ∨ H.size ≤ p := fun p hp => by
            rcases n2 p hp with h | h
            · exact .inl h
            · exact .inr (by omega)
          have k13 : Fr (w :: F) H H3 := ((k1.fr _).trans k2 fun p hp => .inl hp).trans k3 fun p hp => by
            rcases List.mem_cons.1 hp with rfl | hp
            · exact .inl (by simp)
            · rcases nn p hp with h | h
              · exact .inl (by simp [h])
              · exact .inr h
          obtain ⟨D, hD, g4, k4⟩ := h.back g3 k13 id3
          rw [hD] at hr
          refine ⟨D, F3, ns3, id3, e2, hr.symm, g4, k4, fun p hp => ?_, fun h0 => absurd h0 he, fun _ => hb⟩
          rcases n3 p hp with h | h
          · exact nn p h
          · exact .inr (by omega)
theorem norm_runs (f : Nat) : NormC f := by
  induction f with
  | zero =>
    unfold NormC
    intro H w dn g most ns F n r h gk hf hs hne hr
    exact absurd rfl hne
  | succ f hC =>
    unfold NormC
    intro H w dn g most ns F n r h gk hf hs hne hr
    rw [normF_ex] at hne ⊢
    rw [Zdv] at hr
    have hself := h.self
    have hlo := h.lo
    have k1 : Keeps H (H.new (.cells n.cs)) := (Keeps.refl H).new' _
    have har := fun H => arity_run (op := n.op) (H := H)
    have h0 := (formed_arity hf).2
    have h3 := arity_le n.op
    have a12 : n.op = 1 ∨ n.op = 2 → arity n.op = 0 := fun hh => by rcases hh with hh | hh <;> rw [hh] <;> decide
    unfold pathF at hne ⊢
    have mk := fun (r : Option (AV × AHeap)) (hr : R Zg [.ptr w 0, .agg n.cs] (H.new (.cells n.cs)) = r) => mk_up (f := f) h k1 hr
    have one := fun (ha : arity n.op = 1) (hne : (exF most f ns n (unC ns n)).2.2 ≠ -1) (r : Option (AV × AHeap)) (hr : R Zbf [.ptr w 0, .agg n.cs] (H.new (.cells n.cs)) = r) => Wv.up h k1 (wone_run hC (h.keeps k1) gk hf hs (fun hh => by have := a12 (.inl hh); omega) (fun hh => by have := a12 (.inr hh); omega) ha hne hr)
    have cho := fun (r : Option (AV × AHeap)) (hr : R Zbh [.ptr w 0, .agg n.cs] (H.new (.cells n.cs)) = r) => Wv.up h k1 (choice_run (f := f) (h.keeps k1) hr)
    have two := fun (ha : arity n.op = 2) (hne : (exF most f ns n (binC ns n)).2.2 ≠ -1) (r : Option (AV × AHeap)) (hr : R Zbq [.ptr w 0, .agg n.cs] (H.new (.cells n.cs)) = r) => Wv.up h k1 (wtwo_run hC (h.keeps k1) gk hf hs ha hne hr)
    simp only [Nd.parts'] at hr mk one cho two
    by_cases c0 : arity n.op = 0
    · have e0 := eq_true c0
      rw [if_pos c0]
      simp (maxDischargeDepth := 40) [Zbo, hself, hlo, har, e0] at hr
      generalize hA : R Zg _ _ = q at hr
      obtain ⟨id, H2, rfl, hW⟩ := mk _ hA
      simp at hr
      rw [← hr]
      exact hW
    rw [if_neg c0] at hne ⊢
    by_cases c1 : arity n.op = 1
    · have e1 := eq_true c1
      rw [if_pos c1] at hne ⊢
      simp (maxDischargeDepth := 40) [Zbo, hself, hlo, har, c0, e1] at hr
      generalize hA : R Zbf _ _ = q at hr
      obtain ⟨id, H2, rfl, hW⟩ := one c1 hne _ hA
      simp at hr
      rw [← hr]
      exact hW
    rw [if_neg c1] at hne ⊢
    by_cases c3 : arity n.op = 3
    · have e3 := eq_true c3
      rw [if_pos c3] at hne ⊢
      simp (maxDischargeDepth := 40) [Zbo, hself, hlo, har, c0, c1, e3] at hr
      generalize hA : R Zbh _ _ = q at hr
      obtain ⟨id, H2, rfl, hW⟩ := cho _ hA
      simp at hr
      rw [← hr]
      exact hW
    rw [if_neg c3] at hne ⊢
    simp (maxDischargeDepth := 40) [Zbo, hself, hlo, har, c0, c1, c3] at hr
    generalize hA : R Zbq _ _ = q at hr
    obtain ⟨id, H2, rfl, hW⟩ := two (by omega) hne _ hA
    simp at hr
    rw [← hr]
    exact hW
end
end Go.Proofs.Ytiobohfiaapgeaa
end
section
namespace Go.Proofs.Ytiobohfiaapgeaa
set_option maxRecDepth 100000
theorem findE_snoc (k : AV) : ∀ (es : List AEnt) (e : AEnt), findE k (es ++ [e]) = (findE k es).or (if keyEq k e.key = true then some e else none)
  | [], e => by simp [findE]
  | x :: es, e => by
    simp only [List.cons_append, findE]
    by_cases h : keyEq k x.key = true
    · simp [h]
    · rw [if_neg h, if_neg h]; exact findE_snoc k es e
theorem key_int {k j : Int} : keyEq (.int .i64 k) (.int .i64 j) = decide (k = j) := by
  simp only [keyEq, scEq]
  by_cases h : k = j <;> simp [h]
def IM (es : List AEnt) (f : Int → Option Int) : Prop := (∀ k, (findE (.int .i64 k) es).map (·.val) = (f k).map (.int .i64 ·)) ∧ ∀ x, x ∈ es → ∃ j, x.key = .int .i64 j
theorem IM.nil : IM [] fun _ => none := ⟨fun k => by simp [findE], fun x hx => by cases hx⟩
theorem IM.add {es : List AEnt} {f : Int → Option Int} (h : IM es f) {k v : Int} {c : Nat} (hk : f k = none) : IM (es ++ [⟨.int .i64 k, .int .i64 v, c⟩]) (fun x => if x = k then some v else f x) := by
  refine ⟨fun x => ?_, fun x hx => ?_⟩
  · rw [findE_snoc, key_int]
    have h1 := h.1 x
    by_cases e : x = k
    · subst e
      rw [hk] at h1
      cases hf : findE (.int .i64 x) es with
      | none => simp
      | some y => rw [hf] at h1; simp at h1
    · show _ = ((if x = k then some v else f x) : Option Int).map _
      rw [if_neg e]
      cases hf : findE (.int .i64 x) es with
      | none => rw [hf] at h1; simpa [e] using h1
      | some y => rw [hf] at h1; simpa using h1
  · rcases List.mem_append.1 hx with h1 | h1
    · exact h.2 x h1
    · simp at h1; exact ⟨k, by rw [h1]⟩
theorem IM.find {es : List AEnt} {f : Int → Option Int} (h : IM es f) (k : Int) : (f k = none ∧ findE (.int .i64 k) es = none) ∨ ∃ v x, f k = some v ∧ findE (.int .i64 k) es = some x ∧ x.val = .int .i64 v := by
  have h1 := h.1 k
  cases hf : findE (.int .i64 k) es <;> cases hl : f k <;> rw [hf, hl] at h1 <;> first | (cases h1; done) | skip
  · exact .inl ⟨rfl, rfl⟩
  · exact .inr ⟨_, _, rfl, rfl, by simpa using h1⟩
theorem findE_set {k v : Int} : ∀ {es : List AEnt}, (∀ x, x ∈ es → ∃ j, x.key = .int .i64 j) → findE (.int .i64 k) es ≠ none → ∀ j : Int, (findE (.int .i64 j) (setE (.int .i64 k) (.int .i64 v) es)).map (·.val) = if j = k then some (.int .i64 v) else (findE (.int .i64 j) es).map (·.val)
  | [], _, h, _ => by simp [findE] at h
  | e :: es, hk, h, j => by
    obtain ⟨i, hi⟩ := hk e (by simp)
    unfold setE
    by_cases c : k = i
    · subst c
      rw [if_pos (by rw [hi, key_int]; simp)]
      unfold findE
      by_cases d : j = k
      · simp [d, key_int]
      · simp [d, key_int, hi]
    · rw [if_neg (by rw [hi, key_int]; simpa using c)]
      unfold findE at h
      rw [if_neg (by rw [hi, key_int]; simpa using c)] at h
      have ih := findE_set (v := v) (fun x hx => hk x (by simp [hx])) h j
      unfold findE
      by_cases d : j = i
      · subst d
        simp [hi, key_int]
        intro e; exact absurd e.symm c
      · have hd : ¬ keyEq (.int .i64 j) e.key = true := by rw [hi, key_int]; simpa using d
        simp only [if_neg hd]
        exact ih
theorem IM.look {es : List AEnt} {f : Int → Option Int} (h : IM es f) (k : Int) : lookU false (.int .i64 0) (findE (.int .i64 k) es) = .int .i64 ((f k).getD 0) := by
  rcases h.find k with ⟨h1, h2⟩ | ⟨v, x, h1, h2, h3⟩
  · rw [h1, h2]; rfl
  · rw [h1, h2]; simp [h3]
theorem setE_keys {k v : AV} : ∀ {es : List AEnt}, (∃ j, k = .int .i64 j) → (∀ x, x ∈ es → ∃ j, x.key = .int .i64 j) → ∀ x, x ∈ setE k v es → ∃ j, x.key = .int .i64 j
  | [], _, _, _, h => by simp [setE] at h
  | e :: es, hk, he, x, h => by
    unfold setE at h
    split at h
    · rcases List.mem_cons.1 h with rfl | h1
      · exact hk
      · exact he x (by simp [h1])
    · rcases List.mem_cons.1 h with rfl | h1
      · exact he _ (by simp)
      · exact setE_keys hk (fun y hy => he y (by simp [hy])) x h1
theorem IM.upd {es : List AEnt} {f : Int → Option Int} (h : IM es f) (k v : Int) (H : AHeap) (o : Nat) (sh : KSh) (c : Nat) :
    ∃ es' c', (match findE (.int .i64 k) es with
      | some _ => some (H.set o (.map sh (setE (.int .i64 k) (.int .i64 v) es) c))
      | none => some (H.set o (.map sh (es ++ [⟨.int .i64 k, .int .i64 v, c⟩]) (c + 1)))) = some (H.set o (.map sh es' c')) ∧ IM es' (fun x => if x = k then some v else f x) := by
  rcases h.find k with ⟨h1, h2⟩ | ⟨w, x, h1, h2, h3⟩
  · rw [h2]
    exact ⟨_, _, rfl, h.add h1⟩
  · rw [h2]
    refine ⟨_, _, rfl, fun j => ?_, setE_keys ⟨k, rfl⟩ h.2⟩
    rw [findE_set h.2 (by rw [h2]; simp) j]
    show _ = ((if j = k then some v else f j) : Option Int).map _
    by_cases c : j = k
    · rw [if_pos c, if_pos c]; rfl
    · rw [if_neg c, if_neg c]; exact h.1 j
theorem IM.updM {es : List AEnt} {f : Int → Option Int} (h : IM es f) (k v : Int) (H : AHeap) (o : Nat) (c : Nat) (ho : H.obj o = .map (.one (.i .i64)) es c) :
    ∃ es' c', updM (.int .i64 k) (.int .i64 v) (.map o) H (some (.one (.i .i64))) = some (H.set o (.map (.one (.i .i64)) es' c')) ∧ IM es' (fun x => if x = k then some v else f x) := by
  obtain ⟨es', c', h1, h2⟩ := h.upd k v H o (.one (.i .i64)) c
  refine ⟨es', c', ?_, h2⟩
  rw [← h1, updM_map]
  simp only [fits_one, fits_int, decide_true, if_true, ho]
  cases findE (.int .i64 k) es <;> rfl
end Go.Proofs.Ytiobohfiaapgeaa
end
