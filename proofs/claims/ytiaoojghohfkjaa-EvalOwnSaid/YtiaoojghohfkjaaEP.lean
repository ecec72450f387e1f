/- Full assignments: every variable has a value that fits; an operand in another's place (plain). -/
import Derived.Test.YtiaoojghohfkjaaEN
namespace Go.Proofs.Ytiaoojghohfkjaa
set_option maxRecDepth 100000
set_option maxHeartbeats 2000000

theorem zero_ok {s : Int} (h : isSort s = true) : (⟨s, 0#128⟩ : Vl).ok = true := by
  unfold isSort at h
  have h := of_decide_eq_true h
  unfold Vl.ok rightF
  by_cases c : s = 0
  · rw [if_pos c]; exact (by decide : decide (lo (0#128) ≤ 1#64 ∧ hi (0#128) = 0#64) = true)
  · rw [if_neg c]
    have e : mkN (lo (0#128)) (hi (0#128)) = 0#128 := by decide
    simp only
    rw [e]
    simp; omega
theorem fullV_fit {look : ByteArray → Option Vl} {n : Nd} (h : isSort n.sort = true) : (fullV look n).ok = true ∧ (fullV look n).w = n.sort := by
  unfold fullV
  split
  · rename_i h1
    simp only [Bool.and_eq_true, decide_eq_true_eq] at h1
    exact h1
  · exact ⟨zero_ok h, rfl⟩
theorem Gok.sort {ns : List Nd} (g : Gok ns) {n : Nd} (h : n ∈ ns) (h2 : n.op = 2) : isSort n.sort = true := by
  have := g.srt n h
  unfold sortedF at this
  rw [if_neg (by omega), if_pos h2] at this
  have h2 := congrArg Prod.snd this
  simp only at h2
  split at h2
  · rename_i h; exact h.1
  · cases h2
theorem Gok.same {ns : List Nd} (g : Gok ns) {i j : Nat} {n m : Nd} (hn : ns[i]? = some n) (hm : ns[j]? = some m) (h2 : n.op = 2) (h2' : m.op = 2) (h : n.name = m.name) : i = j := by
  have a := g.uniq i n hn h2
  have b := g.uniq j m hm h2'
  rw [h, b] at a
  exact (Option.some.inj a).symm
/-- A full assignment tells each variable's value. -/
theorem look_full {look : ByteArray → Option Vl} {ns : List Nd} (g : Gok ns) {i : Nat} {n : Nd} (hn : ns[i]? = some n) (h2 : n.op = 2) : lookL (fullS look ns (varsT ns ns.length)) n.name = some (fullV look n) := by
  have hi := (List.getElem?_eq_some_iff.1 hn).1
  have hgi : ns.getD i Nd.zero = n := by rw [List.getD_eq_getElem?_getD, hn]; rfl
  unfold lookL
  cases hf : (fullS look ns (varsT ns ns.length)).find? (fun m => decide (m.name = n.name)) with
  | none =>
    exfalso
    have hm : (i : Int) + 1 ∈ varsT ns ns.length := by
      unfold varsT
      simp only [List.mem_map, List.mem_filter, List.mem_range, decide_eq_true_eq]
      exact ⟨i, ⟨hi, by rw [hgi]; exact h2⟩, rfl⟩
    have := List.find?_eq_none.1 hf ⟨n.name, fullV look n⟩ (by
      unfold fullS
      refine List.mem_map.2 ⟨_, hm, ?_⟩
      rw [show ((i : Int) + 1 - 1).toNat = i from by omega, hgi])
    simp at this
  | some m =>
    have hp := List.find?_some hf
    have hm := List.mem_of_find?_eq_some hf
    unfold fullS at hm
    obtain ⟨x, hx, rfl⟩ := List.mem_map.1 hm
    obtain ⟨j, rfl, hj, hj2⟩ := mem_vars hx
    rw [show ((j : Int) + 1 - 1).toNat = j from by omega] at hp ⊢
    obtain ⟨m, hm⟩ : ∃ m, ns[j]? = some m := ⟨ns[j], List.getElem?_eq_getElem hj⟩
    have hgj : ns.getD j Nd.zero = m := by rw [List.getD_eq_getElem?_getD, hm]; rfl
    rw [hgj] at hj2 hp ⊢
    have e := g.same hm hn hj2 h2 (by simpa using hp)
    subst e
    rw [hm] at hn
    cases hn
    rfl
/-- Every variable has a value that fits. -/
def AllFit (look : ByteArray → Option Vl) (ns : List Nd) : Prop := ∀ (i : Nat) (n : Nd), ns[i]? = some n → n.op = 2 → varFit look n = true
theorem full_fit {look : ByteArray → Option Vl} {ns : List Nd} (g : Gok ns) : AllFit (lookL (fullS look ns (varsT ns ns.length))) ns := by
  intro i n hn h2
  unfold varFit
  rw [look_full g hn h2]
  obtain ⟨h3, h4⟩ := fullV_fit (look := look) (g.sort (List.mem_of_getElem? hn) h2)
  simp [h3, h4]
theorem AllFit.any {look : ByteArray → Option Vl} {ns : List Nd} (h : AllFit look ns) (xs : List Int) : xs.any (unfit look ns) = false := by
  rw [List.any_eq_false]
  intro x hx
  unfold unfit
  cases hn : ns[(x - 1).toNat]? with
  | none => rw [List.getD_eq_getElem?_getD, hn]; simp [Nd.zero]
  | some n =>
    rw [List.getD_eq_getElem?_getD, hn]
    simp only [Option.getD_some, Bool.and_eq_true, decide_eq_true_eq, Bool.not_eq_true']
    rintro ⟨h2, h3⟩
    rw [h _ n hn h2] at h3
    cases h3
theorem AllFit.worth {look : ByteArray → Option Vl} {ns : List Nd} (h : AllFit look ns) {id : Int} (h1 : 1 ≤ id) (h2 : id ≤ ns.length) : worthS look ns id = (V look ns id, 0) := by
  unfold worthS
  rw [if_neg (by omega), h.any]
  simp
theorem AllFit.good {look : ByteArray → Option Vl} {ns : List Nd} (h : AllFit look ns) (g : Gok ns) {i : Nat} {n : Nd} (hn : ns[i]? = some n) : (V look ns ((i : Int) + 1)).ok = true ∧ (V look ns ((i : Int) + 1)).w = n.sort := by
  have := val_good g (S := fun _ => True) (fun _ _ _ _ _ _ _ => trivial) (fun i n _ hn h2 => h i n hn h2) i n trivial hn
  exact ⟨this.1, this.2.1⟩
theorem AllFit.more {look : ByteArray → Option Vl} {ns : List Nd} (h : AllFit look ns) {M : Nd} (hM : ¬ M.op = 2) : AllFit look (ns ++ [M]) := by
  intro i n hn h2
  by_cases c : i < ns.length
  · rw [List.getElem?_append_left c] at hn; exact h i n hn h2
  · rw [List.getElem?_append_right (by omega)] at hn
    have := List.mem_of_getElem? hn
    simp at this
    rw [this] at h2
    exact absurd h2 hM
theorem formed_arity {N : Int} {n : Nd} (h : formedF N n = true) : (∀ i, i < 3 → kidOK N (arity n.op) i ([n.a, n.b, n.c].getD i 0) = true) ∧ 0 ≤ arity n.op := by
  unfold formedF at h
  simp only [kidsOK, Bool.and_eq_true, decide_eq_true_eq] at h
  obtain ⟨⟨f1, f2, f3, -⟩, ⟨f4, -⟩, -⟩ := h
  refine ⟨fun i hi => ?_, f4⟩
  rcases (by omega : i = 0 ∨ i = 1 ∨ i = 2) with rfl | rfl | rfl
  · exact f1
  · exact f2
  · exact f3
/-- The law: an operand may be put in the place of another one of the same value. -/
theorem swap_law {look : ByteArray → Option Vl} {ns : List Nd} (g : Gok ns) (hf : AllFit look ns) (hl : ns.length ≤ 120) {i : Nat} {n : Nd} (hn : ns[i]? = some n) (ha : ¬ n.a = 0) {to : Int} (t1 : 1 ≤ to) (t2 : to ≤ ns.length) (hv : V look ns n.a = V look ns to) :
    ∃ js m, makT 4096 ns { n with a := to } = (js, m, 0) ∧ 1 ≤ m ∧ m ≤ js.length ∧ Gok js ∧ AllFit look js ∧ V look js m = V look ns ((i : Int) + 1) := by
  have hmem := List.mem_of_getElem? hn
  have hform := g.form n hmem
  have hsrt := g.srt n hmem
  have hi := (List.getElem?_eq_some_iff.1 hn).1
  obtain ⟨⟨a0, a1⟩, ⟨b0, b1⟩, ⟨d0, d1⟩⟩ := g.kok i n hn
  obtain ⟨hk, h0⟩ := formed_arity hform
  have har : 1 ≤ arity n.op := by
    have := hk 0 (by omega)
    simp only [List.getD_cons_zero] at this
    unfold kidOK at this
    split at this
    · omega
    · simp at this; omega
  have c1 : ¬ n.op = 1 := by intro h; rw [h] at har; revert har; decide
  have c2 : ¬ n.op = 2 := by intro h; rw [h] at har; revert har; decide
  have hf' : formedF ns.length { n with a := to } = true := by
    unfold formedF at hform ⊢
    simp only [kidsOK, Bool.and_eq_true] at hform ⊢
    refine ⟨⟨?_, hform.1.2⟩, hform.2⟩
    unfold kidOK
    rw [if_pos (by show ((0 : Nat) : Int) < arity n.op; omega)]
    simp; omega
  obtain ⟨ma, hma⟩ : ∃ m, ns[(n.a - 1).toNat]? = some m := ⟨ns[(n.a - 1).toNat]'(by omega), List.getElem?_eq_getElem (by omega)⟩
  obtain ⟨mt, hmt⟩ : ∃ m, ns[(to - 1).toNat]? = some m := ⟨ns[(to - 1).toNat]'(by omega), List.getElem?_eq_getElem (by omega)⟩
  have hws : ma.sort = mt.sort := by
    have ga := (hf.good g hma).2
    have gt := (hf.good g hmt).2
    rw [show (((n.a - 1).toNat : Nat) : Int) + 1 = n.a from by omega] at ga
    rw [show (((to - 1).toNat : Nat) : Int) + 1 = to from by omega] at gt
    rw [← ga, ← gt, hv]
  have hks : ksort ns to = ksort ns n.a := by rw [ksort_pos (by omega) hmt, ksort_pos (by omega) hma, hws]
  have hs' : sortedF ns { n with a := to } = ({ n with a := to }, 0) := by
    unfold sortedF at hsrt ⊢
    rw [if_neg c1, if_neg c2] at hsrt ⊢
    simp only at hsrt ⊢
    rw [hks]
    have e1 := congrArg (fun x => x.1.sort) hsrt
    have e2 := congrArg Prod.snd hsrt
    simp only at e1 e2
    rw [e1, e2]
  have hgm := g.make (most := 4096) (n := { n with a := to })
  have hnode : ∀ (js : List Nd) (k : Nat), Gok js → (∃ t, valsV look js = valsV look ns ++ t) → js[k]? = some { n with a := to } → V look js ((k : Int) + 1) = V look ns ((i : Int) + 1) := fun js k gj ⟨t, ht⟩ hk => by
    rw [V_node gj.kok hk, V_node g.kok hn, ht]
    have hvl := valsV_len look ns
    rw [(nodeV_more (by rw [hvl]; exact t2) (by rw [hvl]; simp only; omega) (by rw [hvl]; simp only; omega)).1]
    unfold nodeV kidsV
    simp only [c1, c2, if_false]
    have : pick (valsV look ns) to = pick (valsV look ns) n.a := hv.symm
    rw [this]
  have hlen : ¬ (4096 : Int) ≤ ns.length := by omega
  unfold makT at hgm ⊢
  rw [if_neg (by rw [hf']; simp), hs'] at hgm ⊢
  simp only [not_true, if_false] at hgm ⊢
  cases hx : idx ns { n with a := to } with
  | some k =>
    rw [hx] at hgm
    simp only at hgm ⊢
    obtain ⟨hm1, hm2⟩ := idx_mem hx
    have hk' : ns[k]? = some { n with a := to } := by
      unfold idx at hx
      obtain ⟨h1, h2, -⟩ := List.findIdx?_eq_some_iff_getElem.1 hx
      rw [List.getElem?_eq_getElem h1]
      simp only [decide_eq_true_eq] at h2
      rw [← h2]
    exact ⟨ns, (k : Int) + 1, rfl, by omega, by omega, g, hf, hnode ns k g ⟨[], by simp⟩ hk'⟩
  | none =>
    rw [hx] at hgm
    simp only [hlen, if_false] at hgm ⊢
    refine ⟨_, _, rfl, by omega, by rw [List.length_append]; simp, hgm, hf.more c2, hnode _ ns.length hgm (valsV_more look ns _) (by simp)⟩
end Go.Proofs.Ytiaoojghohfkjaa
