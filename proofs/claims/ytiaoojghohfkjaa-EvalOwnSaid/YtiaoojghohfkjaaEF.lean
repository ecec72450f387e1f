/- Graphs that calls have made: what holds of their nodes; the values of terms (plain). -/
import Derived.Test.YtiaoojghohfkjaaEE
import Derived.Test.YtiaoojghohfkjaaTO
namespace Go.Proofs.Ytiaoojghohfkjaa
set_option maxRecDepth 100000
set_option maxHeartbeats 2000000

/-- What holds of the nodes of a graph. -/
structure Gok (ns : List Nd) : Prop where
  kok : Kok ns
  vok : Vok ns
  form : ∀ n, n ∈ ns → formedF ns.length n = true
  srt : ∀ n, n ∈ ns → sortedF ns n = (n, 0)
  uniq : ∀ i n, ns[i]? = some n → n.op = 2 → vidx ns n.name = some i
theorem Gok.nil : Gok [] := ⟨fun i n h => by simp at h, fun n h => by simp at h, fun n h => by simp at h, fun n h => by simp at h, fun i n h => by simp at h⟩
theorem vidx_more' {ns : List Nd} {M : Nd} {i : Nat} {s : ByteArray} (h : vidx ns s = some i) : vidx (ns ++ [M]) s = some i := vidx_more h
theorem sorted_self {ns : List Nd} {n M : Nd} (h : sortedF ns n = (M, 0)) : sortedF ns M = (M, 0) ∧ ∀ N, formedF N M = formedF N n := by
  by_cases c1 : n.op = 1
  · have : (sortedF ns n).1 = n := by unfold sortedF; rw [if_pos c1]
    have e : M = n := by rw [h] at this; exact this
    subst e
    exact ⟨h, fun _ => rfl⟩
  by_cases c2 : n.op = 2
  · have : (sortedF ns n).1 = n := by unfold sortedF; rw [if_neg c1, if_pos c2]
    have e : M = n := by rw [h] at this; exact this
    subst e
    exact ⟨h, fun _ => rfl⟩
  · unfold sortedF at h
    rw [if_neg c1, if_neg c2] at h
    have e := congrArg Prod.fst h
    have e2 := congrArg Prod.snd h
    simp only at e e2
    subst e
    refine ⟨?_, fun _ => rfl⟩
    unfold sortedF
    simp only [c1, c2, if_false]
    rw [e2]
theorem sorted_zero {ns : List Nd} {n : Nd} (h : (sortedF ns n).2 = 0) : sortedF ns n = ((sortedF ns n).1, 0) := by rw [← h]
theorem Gok.make {most : Int} {ns : List Nd} {n : Nd} (g : Gok ns) : Gok (makT most ns n).1 := by
  unfold makT
  split
  · exact g
  rename_i h1
  split
  · exact g
  rename_i h2
  have hf : formedF ns.length n = true := by simpa using h1
  have hs : (sortedF ns n).2 = 0 := by simpa using h2
  split
  · exact g
  rename_i hi
  split
  · exact g
  have hss := sorted_zero hs
  generalize hM : (sortedF ns n).1 = M at *
  obtain ⟨s1, s2⟩ := sorted_self hss
  have fM : formedF ns.length M = true := by rw [s2]; exact hf
  obtain ⟨k1, k2, k3⟩ := formed_kids fM
  obtain ⟨k4, k5, k6⟩ := formed_kids0 fM
  have ho := sorted_op hss
  have hv2 : M.op = 2 → vidx ns M.name = none ∧ M = n ∧ M = ⟨2, M.sort, 0, 0, 0, 0, 0, 0, 0#64, 0#64, M.name⟩ := fun h => by
    have e := ho.2 (ho.1 ▸ h)
    have := var_new g.vok hf (ho.1 ▸ h) hs (by rw [hM]; exact hi)
    rw [← e] at this
    exact ⟨this.1, e, this.2.2⟩
  refine ⟨g.kok.grow ⟨⟨k4, k1⟩, ⟨k5, k2⟩, ⟨k6, k3⟩⟩, ?_, ?_, ?_, ?_⟩
  · intro m hm hm2
    rcases List.mem_append.1 hm with h | h
    · exact g.vok m h hm2
    · simp at h
      subst h
      exact (hv2 hm2).2.2
  · intro m hm
    rcases List.mem_append.1 hm with h | h
    · exact formed_more (by rw [List.length_append]; omega) (g.form m h)
    · simp at h
      subst h
      exact formed_more (by rw [List.length_append]; omega) fM
  · intro m hm
    rcases List.mem_append.1 hm with h | h
    · exact sorted_more (g.form m h) (g.srt m h) fun h2 => vidx_of_mem h h2
    · simp at h
      subst h
      by_cases c2 : m.op = 2
      · obtain ⟨v1, v2, v3⟩ := hv2 c2
        have c1 : ¬ m.op = 1 := by omega
        unfold sortedF at s1 ⊢
        rw [if_neg c1, if_pos c2] at s1 ⊢
        have e2 := congrArg Prod.snd s1
        simp only at e2
        split at e2
        rotate_left
        · cases e2
        rename_i hc
        rw [if_pos hc]
        cases hb : nameBad ns m with
        | true => rw [hb] at e2; cases e2
        | false =>
          unfold nameBad at hb ⊢
          rw [v1] at hb
          rw [vidx_append, v1]
          simp only [Bool.or_eq_false_iff] at hb
          simp [c2, hb.1]
      · exact sorted_more fM s1 fun h2 => absurd h2 c2
  · intro i m hm hm2
    by_cases c : i < ns.length
    · rw [List.getElem?_append_left c] at hm
      exact vidx_more' (g.uniq i m hm hm2)
    · have hl := (List.getElem?_eq_some_iff.1 hm).1
      rw [List.length_append, List.length_singleton] at hl
      have e : i = ns.length := by omega
      subst e
      rw [List.getElem?_append_right (Nat.le_refl _), Nat.sub_self] at hm
      simp at hm
      subst hm
      rw [vidx_append, (hv2 hm2).1]
      simp [hm2]

/-! The values of terms. -/
def Nd.v (n : Nd) : Vl := ⟨n.vw, mkN n.vl n.vh⟩
def pick (acc : List Vl) (k : Int) : Vl := if k ≤ 0 then Vl.zero else acc.getD (k - 1).toNat Vl.zero
def kidsV (acc : List Vl) (n : Nd) : List Vl := [pick acc n.a, pick acc n.b, pick acc n.c].take (arity n.op).toNat
def nodeV (look : ByteArray → Option Vl) (acc : List Vl) (n : Nd) : Vl :=
  if n.op = 1 then n.v else if n.op = 2 then (look n.name).getD Vl.zero else meanV n.op n.p n.q (kidsV acc n)
def valsV (look : ByteArray → Option Vl) (ns : List Nd) : List Vl := ns.foldl (fun acc n => acc ++ [nodeV look acc n]) []
theorem valsV_append (look : ByteArray → Option Vl) (ns : List Nd) (n : Nd) : valsV look (ns ++ [n]) = valsV look ns ++ [nodeV look (valsV look ns) n] := by simp [valsV]
theorem valsV_more (look : ByteArray → Option Vl) (ns : List Nd) : ∀ ks : List Nd, ∃ t, valsV look (ns ++ ks) = valsV look ns ++ t := by
  intro ks
  induction ks generalizing ns with
  | nil => exact ⟨[], by simp⟩
  | cons k ks ih =>
    obtain ⟨t, ht⟩ := ih (ns ++ [k])
    rw [List.append_assoc] at ht
    exact ⟨_, by rw [show ns ++ k :: ks = ns ++ ([k] ++ ks) from rfl, ht, valsV_append, List.append_assoc]⟩
theorem valsV_len (look : ByteArray → Option Vl) : ∀ ns : List Nd, (valsV look ns).length = ns.length := by
  suffices h : ∀ (ns : List Nd) (acc : List Vl), (ns.foldl (fun acc n => acc ++ [nodeV look acc n]) acc).length = acc.length + ns.length from fun ns => by have := h ns []; simpa [valsV] using this
  intro ns
  induction ns with
  | nil => intro acc; rfl
  | cons n ns ih => intro acc; rw [List.foldl_cons, ih]; simp; omega
theorem pick_more {acc t : List Vl} {k : Int} (h : k ≤ acc.length) : pick (acc ++ t) k = pick acc k := by
  unfold pick
  split
  · rfl
  · rename_i c
    rw [List.getD_eq_getElem?_getD, List.getD_eq_getElem?_getD, List.getElem?_append_left (by omega)]
theorem nodeV_more {look : ByteArray → Option Vl} {acc t : List Vl} {n : Nd} (ha : n.a ≤ acc.length) (hb : n.b ≤ acc.length) (hc : n.c ≤ acc.length) : nodeV look (acc ++ t) n = nodeV look acc n ∧ kidsV (acc ++ t) n = kidsV acc n := by
  have : kidsV (acc ++ t) n = kidsV acc n := by unfold kidsV; rw [pick_more ha, pick_more hb, pick_more hc]
  exact ⟨by unfold nodeV; rw [this], this⟩
/-- A term's value. -/
def V (look : ByteArray → Option Vl) (ns : List Nd) (k : Int) : Vl := pick (valsV look ns) k
theorem V_zero (look : ByteArray → Option Vl) (ns : List Nd) {k : Int} (h : k ≤ 0) : V look ns k = Vl.zero := by unfold V pick; rw [if_pos h]
theorem V_more {look : ByteArray → Option Vl} {ns ks : List Nd} {k : Int} (h : k ≤ ns.length) : V look (ns ++ ks) k = V look ns k := by
  obtain ⟨t, ht⟩ := valsV_more look ns ks
  unfold V
  rw [ht, pick_more (by rw [valsV_len]; exact h)]
theorem V_node {look : ByteArray → Option Vl} {ns : List Nd} (kok : Kok ns) {i : Nat} {n : Nd} (hn : ns[i]? = some n) : V look ns ((i : Int) + 1) = nodeV look (valsV look ns) n := by
  have hi := (List.getElem?_eq_some_iff.1 hn).1
  obtain ⟨⟨a0, a1⟩, ⟨b0, b1⟩, ⟨d0, d1⟩⟩ := kok i n hn
  have e : ns = ns.take i ++ ([n] ++ ns.drop (i + 1)) := by
    rw [← List.append_assoc]
    have : ns.take i ++ [n] = ns.take (i + 1) := by rw [List.take_add_one, hn]; rfl
    rw [this, List.take_append_drop]
  have hl : (ns.take i).length = i := by simp; omega
  obtain ⟨t, ht⟩ := valsV_more look (ns.take i) ([n] ++ ns.drop (i + 1))
  have e1 : valsV look ns = valsV look (ns.take i) ++ t := by rw [← ht, ← e]
  have hvl : (valsV look (ns.take i)).length = i := by rw [valsV_len, hl]
  rw [e1, (nodeV_more (by rw [hvl]; exact a1) (by rw [hvl]; exact b1) (by rw [hvl]; exact d1)).1]
  obtain ⟨t2, ht2⟩ := valsV_more look (ns.take i ++ [n]) (ns.drop (i + 1))
  rw [List.append_assoc, ← e, valsV_append] at ht2
  unfold V pick
  rw [if_neg (by omega), ht2, show ((i : Int) + 1 - 1).toNat = i from by omega, List.getD_eq_getElem?_getD, List.getElem?_append_left (by simp; omega), List.getElem?_append_right (by omega), hvl, Nat.sub_self]
  rfl

/-- A variable has a value of its sort. -/
def varFit (look : ByteArray → Option Vl) (n : Nd) : Bool := match look n.name with
  | some v => v.ok && decide (v.w = n.sort)
  | none => false
/-- Indices that hold their kids. -/
def Cl (ns : List Nd) (S : Nat → Prop) : Prop := ∀ i n, S i → ns[i]? = some n → ∀ k, (k = n.a ∨ k = n.b ∨ k = n.c) → 0 < k → S (k - 1).toNat
theorem ksort_pos {ns : List Nd} {k : Int} (h : 0 < k) {m : Nd} (hm : ns[(k - 1).toNat]? = some m) : ksort ns k = [m.sort] := by
  unfold ksort
  rw [if_pos h, List.getD_eq_getElem?_getD, hm]; rfl
theorem ksort_none {ns : List Nd} {k : Int} (h : k = 0) : ksort ns k = [] := by unfold ksort; rw [if_neg (by omega)]
/-- The kids of a node that is formed: as many as its operator has. -/
theorem kids_list {ns : List Nd} {n : Nd} (hf : formedF ns.length n = true) (h3 : ¬ n.op = 1) (h2 : ¬ n.op = 2) (acc : List Vl) (hk : ∀ k, (k = n.a ∨ k = n.b ∨ k = n.c) → 0 < k → ∃ m, ns[(k - 1).toNat]? = some m ∧ (pick acc k).ok = true ∧ (pick acc k).w = m.sort) :
    (kidsV acc n).map Vl.w = ksort ns n.a ++ ksort ns n.b ++ ksort ns n.c ∧ ∀ v, v ∈ kidsV acc n → v.ok = true := by
  unfold formedF at hf
  simp only [kidsOK, Bool.and_eq_true, decide_eq_true_eq] at hf
  obtain ⟨⟨f1, f2, f3, -⟩, ⟨f4, -⟩, -⟩ := hf
  have K : ∀ k : Int, (k = n.a ∨ k = n.b ∨ k = n.c) → 1 ≤ k → ksort ns k = [(pick acc k).w] ∧ (pick acc k).ok = true := fun k h1 h2 => by
    obtain ⟨m, m1, m2, m3⟩ := hk k h1 (by omega)
    exact ⟨by rw [ksort_pos (by omega) m1, m3], m2⟩
  have har : arity n.op = 1 ∨ arity n.op = 2 ∨ arity n.op = 3 := by
    have h0 := arity_le n.op
    have : ¬ arity n.op = 0 := by
      unfold arity
      split
      · omega
      · split
        · omega
        · split
          · omega
          · split <;> omega
    omega
  unfold kidOK at f1 f2 f3
  unfold kidsV
  rcases har with h | h | h <;> rw [h] at f1 f2 f3 ⊢ <;> simp at f1 f2 f3
  · obtain ⟨q1, q2⟩ := K n.a (.inl rfl) f1.1
    rw [q1, ksort_none f2, ksort_none f3]
    simp [q2]
  · obtain ⟨q1, q2⟩ := K n.a (.inl rfl) f1.1
    obtain ⟨q3, q4⟩ := K n.b (.inr (.inl rfl)) f2.1
    rw [q1, q3, ksort_none f3]
    simp [q2, q4]
  · obtain ⟨q1, q2⟩ := K n.a (.inl rfl) f1.1
    obtain ⟨q3, q4⟩ := K n.b (.inr (.inl rfl)) f2.1
    obtain ⟨q5, q6⟩ := K n.c (.inr (.inr rfl)) f3.1
    rw [q1, q3, q5]
    simp [q2, q4, q6]
/-- Values are right, and of their nodes' sorts, where the variables have values that fit. -/
theorem val_good {look : ByteArray → Option Vl} {ns : List Nd} (g : Gok ns) {S : Nat → Prop} (hc : Cl ns S) (hv : ∀ i n, S i → ns[i]? = some n → n.op = 2 → varFit look n = true) : ∀ (i : Nat) (n : Nd), S i → ns[i]? = some n →
    (V look ns ((i : Int) + 1)).ok = true ∧ (V look ns ((i : Int) + 1)).w = n.sort ∧ (¬ n.op = 1 → ¬ n.op = 2 → Fit n.op n.p n.q (kidsV (valsV look ns) n) n.sort ∧ applyS n.op n.p n.q (kidsV (valsV look ns) n) = (V look ns ((i : Int) + 1), 0)) := by
  intro i
  induction i using Nat.strongRecOn with
  | ind i ih =>
    intro n hS hn
    obtain ⟨⟨a0, a1⟩, ⟨b0, b1⟩, ⟨d0, d1⟩⟩ := g.kok i n hn
    have hmem : n ∈ ns := List.mem_of_getElem? hn
    have hi := (List.getElem?_eq_some_iff.1 hn).1
    have hs := g.srt n hmem
    rw [V_node g.kok hn]
    by_cases c1 : n.op = 1
    · have e : nodeV look (valsV look ns) n = n.v := by unfold nodeV; rw [if_pos c1]
      rw [e]
      unfold sortedF at hs
      rw [if_pos c1] at hs
      have h2 := congrArg Prod.snd hs
      simp only at h2
      split at h2
      rotate_left
      · cases h2
      rename_i hc
      refine ⟨?_, hc.2.1, fun h => absurd c1 h⟩
      unfold Vl.ok Nd.v
      simp only
      rw [lo_mk, hi_mk]; exact hc.1
    by_cases c2 : n.op = 2
    · have e : nodeV look (valsV look ns) n = (look n.name).getD Vl.zero := by unfold nodeV; rw [if_neg c1, if_pos c2]
      rw [e]
      have hf := hv i n hS hn c2
      unfold varFit at hf
      split at hf
      · rename_i v hv
        rw [hv]
        simp at hf
        exact ⟨hf.1, hf.2, fun _ h => absurd c2 h⟩
      · cases hf
    · have hk := kids_list (g.form n hmem) c1 c2 (valsV look ns) fun k h1 h2 => by
        have hkl : k ≤ i := by rcases h1 with rfl | rfl | rfl <;> assumption
        have hlt : (k - 1).toNat < ns.length := by omega
        obtain ⟨m, hm⟩ : ∃ m, ns[(k - 1).toNat]? = some m := ⟨ns[(k - 1).toNat], List.getElem?_eq_getElem hlt⟩
        obtain ⟨g1, g2, -⟩ := ih (k - 1).toNat (by omega) m (hc i n hS hn k h1 h2) hm
        have e : (((k - 1).toNat : Int) + 1) = k := by omega
        rw [e] at g1 g2
        exact ⟨m, hm, g1, g2⟩
      have e : nodeV look (valsV look ns) n = meanV n.op n.p n.q (kidsV (valsV look ns) n) := by unfold nodeV; rw [if_neg c1, if_neg c2]
      unfold sortedF at hs
      rw [if_neg c1, if_neg c2, ← hk.1] at hs
      have h1 := congrArg (fun x => x.1.sort) hs
      have h2 := congrArg Prod.snd hs
      simp only at h1 h2
      have hfit : Fit n.op n.p n.q (kidsV (valsV look ns) n) n.sort := fit_of (by rw [← h1, ← h2]) hk.2
      rw [e]
      refine ⟨hfit.good.1, hfit.good.2, fun _ _ => ⟨hfit, ?_⟩⟩
      unfold applyS
      rw [sorts_ok hk.2, h2, if_pos rfl]

/-! Cones. -/
theorem cP_self {ns : List Nd} (kok : Kok ns) : ∀ n, n ≤ ns.length → cP ns n n = true := by
  intro n hn
  cases n with
  | zero => rfl
  | succ n =>
    obtain ⟨m, hm⟩ : ∃ m, ns[n]? = some m := ⟨ns[n], List.getElem?_eq_getElem hn⟩
    obtain ⟨⟨a0, a1⟩, ⟨b0, b1⟩, ⟨d0, d1⟩⟩ := kok n m hm
    rw [cP_succ hm (by omega) (by omega) (by omega)]
    simp
theorem cP_kids {ns : List Nd} (kok : Kok ns) : ∀ n, n ≤ ns.length → ∀ j m, cP ns n (j + 1) = true → ns[j]? = some m → ∀ k, (k = m.a.toNat ∨ k = m.b.toNat ∨ k = m.c.toNat) → cP ns n k = true := by
  intro n
  induction n using Nat.strongRecOn with
  | ind n ih =>
    intro hn j m hj hm k hk
    cases n with
    | zero => rw [cP_zero] at hj; simp at hj
    | succ n =>
      obtain ⟨m', hm'⟩ : ∃ m, ns[n]? = some m := ⟨ns[n], List.getElem?_eq_getElem hn⟩
      obtain ⟨⟨a0, a1⟩, ⟨b0, b1⟩, ⟨d0, d1⟩⟩ := kok n m' hm'
      rw [cP_succ hm' (by omega) (by omega) (by omega)] at hj ⊢
      simp only [Bool.or_eq_true, decide_eq_true_eq] at hj ⊢
      rcases hj with h | h | h | h
      · have : j = n := by omega
        subst this
        rw [hm] at hm'
        cases hm'
        rcases hk with rfl | rfl | rfl
        · exact .inr (.inl (cP_self kok _ (by omega)))
        · exact .inr (.inr (.inl (cP_self kok _ (by omega))))
        · exact .inr (.inr (.inr (cP_self kok _ (by omega))))
      · exact .inr (.inl (ih _ (by omega) (by omega) j m h hm k hk))
      · exact .inr (.inr (.inl (ih _ (by omega) (by omega) j m h hm k hk)))
      · exact .inr (.inr (.inr (ih _ (by omega) (by omega) j m h hm k hk)))
theorem cone_cl {ns : List Nd} (kok : Kok ns) {n : Nat} (hn : n ≤ ns.length) : Cl ns fun i => cP ns n (i + 1) = true := by
  intro i m hS hm k hk h0
  have := cP_kids kok n hn i m hS hm k.toNat (by rcases hk with rfl | rfl | rfl <;> simp)
  rw [show (k - 1).toNat + 1 = k.toNat from by omega]
  exact this
theorem cone_rises (ns : List Nd) (a : Int) : (coneT ns a).Pairwise (· < ·) := by
  unfold coneT
  split
  · exact .nil
  · unfold outT
    rw [List.pairwise_map]
    refine List.Pairwise.imp (R := fun (a b : Nat) => a < b) (fun h => by omega) ?_
    exact List.Pairwise.filter _ List.pairwise_lt_range
/-- A variable of the list whose value doesn't fit. -/
def unfit (look : ByteArray → Option Vl) (ns : List Nd) (x : Int) : Bool := decide ((ns.getD (x - 1).toNat Nd.zero).op = 2) && !varFit look (ns.getD (x - 1).toNat Nd.zero)
/-- What Eval tells. -/
def worthS (look : ByteArray → Option Vl) (ns : List Nd) (id : Int) : Vl × Int :=
  if id < 1 ∨ (ns.length : Int) < id then (Vl.zero, 40) else if (coneT ns id).any (unfit look ns) = true then (Vl.zero, 41) else (V look ns id, 0)
end Go.Proofs.Ytiaoojghohfkjaa
