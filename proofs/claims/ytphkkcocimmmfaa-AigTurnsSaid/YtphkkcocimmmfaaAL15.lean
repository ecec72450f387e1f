/- The interpreter is right: every order of a region; bodies; calls. -/
import Derived.Test.YtphkkcocimmmfaaAL14
import Derived.LoopN
namespace Go.Proofs.Ytphkkcocimmmfaa
open Go.RowKit

section
variable {P : Program} {K : TypeId → Option (List Sc)}

theorem before_go (md : Region.Mode) : ∀ (l : List Oper) (acc : Array Nat) (pre : List Oper), acc.size = pre.length →
    (∀ i o, pre[i]? = some o → ∀ m, acc[i]? = some m → ∀ j, m.testBit j = true → ∃ e ∈ o.after.toList, Region.binds .any e = true ∧ (e.on = j ∨ (e.on < i ∧ (acc.getD e.on 0).testBit j = true))) →
    let out := l.foldl (fun (acc : Array Nat) o => acc.push (o.after.foldl (fun s e => if Region.binds .any e then s ||| 2 ^ e.on ||| acc.getD e.on 0 else s) 0)) acc
    out.size = (pre ++ l).length ∧ ∀ i o, (pre ++ l)[i]? = some o → ∀ m, out[i]? = some m → ∀ j, m.testBit j = true → ∃ e ∈ o.after.toList, Region.binds .any e = true ∧ (e.on = j ∨ (e.on < i ∧ (out.getD e.on 0).testBit j = true))
  | [], acc, pre, hs, h => by
    simp only [List.foldl_nil, List.append_nil]
    exact ⟨hs, h⟩
  | o :: l, acc, pre, hs, h => by
    simp only [List.foldl_cons]
    have key := before_go md l (acc.push (o.after.foldl (fun s e => if Region.binds .any e then s ||| 2 ^ e.on ||| acc.getD e.on 0 else s) 0)) (pre ++ [o]) (by simp [hs]) ?_
    · simpa [List.append_assoc] using key
    · intro i o' ho' m hm j hj
      by_cases hi : i < pre.length
      · rw [List.getElem?_append_left hi] at ho'
        rw [Array.getElem?_push_lt (by omega)] at hm
        rw [← Array.getElem?_eq_getElem] at hm
        obtain ⟨e, he, hb, hor⟩ := h i o' ho' m hm j hj
        refine ⟨e, he, hb, hor.imp id fun ⟨h1, h2⟩ => ⟨h1, ?_⟩⟩
        have : (acc.push (o.after.foldl (fun s e => if Region.binds .any e then s ||| 2 ^ e.on ||| acc.getD e.on 0 else s) 0)).getD e.on 0 = acc.getD e.on 0 := by
          simp only [Array.getD_eq_getD_getElem?]
          rw [Array.getElem?_push, if_neg (by omega)]
        rw [this]; exact h2
      · have hi' : i = pre.length := by
          have := (List.getElem?_eq_some_iff.1 ho').1
          simp at this
          omega
        subst hi'
        rw [List.getElem?_append_right (by omega)] at ho'
        simp at ho'
        subst ho'
        rw [Array.getElem?_push, if_pos hs.symm] at hm
        cases hm
        have fold : ∀ (es : List Edge) (s : Nat), (es.foldl (fun s e => if Region.binds .any e then s ||| 2 ^ e.on ||| acc.getD e.on 0 else s) s).testBit j = true → s.testBit j = true ∨ ∃ e ∈ es, Region.binds .any e = true ∧ (e.on = j ∨ (acc.getD e.on 0).testBit j = true) := by
          intro es
          induction es with
          | nil => intro s h; exact .inl h
          | cons e es ih =>
            intro s h
            simp only [List.foldl_cons] at h
            rcases ih _ h with h | ⟨e', he', hh⟩
            · split at h
              · rename_i hb
                simp only [Nat.testBit_or, Bool.or_eq_true] at h
                rcases h with (h | h) | h
                · exact .inl h
                · rw [Nat.testBit_two_pow] at h
                  exact .inr ⟨e, by simp, hb, .inl (by simpa using h)⟩
                · exact .inr ⟨e, by simp, hb, .inr h⟩
              · exact .inl h
            · exact .inr ⟨e', by simp [he'], hh⟩
        rw [← Array.foldl_toList] at hj
        rcases fold _ 0 hj with h0 | ⟨e, he, hb, hor⟩
        · simp at h0
        · refine ⟨e, he, hb, hor.imp id fun h2 => ?_⟩
          have hlt : e.on < pre.length := by
            rcases Nat.lt_or_ge e.on pre.length with h | h
            · exact h
            · rw [Array.getD_eq_getD_getElem?, Array.getElem?_eq_none (by omega)] at h2
              simp at h2
          refine ⟨hlt, ?_⟩
          have : (acc.push (o.after.toList.foldl (fun s e => if Region.binds .any e then s ||| 2 ^ e.on ||| acc.getD e.on 0 else s) 0)).getD e.on 0 = acc.getD e.on 0 := by
            simp only [Array.getD_eq_getD_getElem?]
            rw [Array.getElem?_push, if_neg (by omega)]
          rw [← Array.foldl_toList, this]; exact h2

theorem before_spec (ops : Array Oper) : (Region.before ops).size = ops.size ∧ ∀ i o, ops[i]? = some o → ∀ m, (Region.before ops)[i]? = some m → ∀ j, m.testBit j = true → ∃ e ∈ o.after.toList, Region.binds .any e = true ∧ (e.on = j ∨ (e.on < i ∧ ((Region.before ops).getD e.on 0).testBit j = true)) := by
  have := before_go .any ops.toList #[] [] rfl (by intro i o h; simp at h)
  unfold Region.before
  rw [← Array.foldl_toList]
  simpa using this

/-- Which operations are left. -/
def left (n : Nat) (listed : Array Bool) : List Nat := (List.range n).filter fun i => !listed.getD i true

theorem mem_left {n : Nat} {listed : Array Bool} {i : Nat} : i ∈ left n listed ↔ i < n ∧ listed.getD i true = false := by
  simp [left]

theorem left_split {n : Nat} {listed : Array Bool} (hn : listed.size = n) {i : Nat} (hi : i ∈ left n listed) : ∃ pre post, left n listed = pre ++ i :: post ∧ (∀ j ∈ pre, j < i ∧ listed.getD j true = false) ∧ left n (listed.setIfInBounds i true) = pre ++ post := by
  obtain ⟨h1, h2⟩ := mem_left.1 hi
  have hr : List.range n = List.range i ++ i :: (List.range' (i + 1) (n - (i + 1))) := by
    rw [List.range_eq_range', List.range_eq_range']
    have : n = i + (1 + (n - (i + 1))) := by omega
    conv => lhs; rw [this]
    rw [← List.range'_append_1, ← List.range'_append_1]
    simp [List.range'_one]
  refine ⟨(List.range i).filter fun j => !listed.getD j true, (List.range' (i + 1) (n - (i + 1))).filter fun j => !listed.getD j true, ?_, ?_, ?_⟩
  · unfold left
    rw [hr, List.filter_append, List.filter_cons]
    rw [if_pos (by rw [h2]; rfl)]
  · intro j hj
    simp only [List.mem_filter, List.mem_range, Bool.not_eq_true'] at hj
    exact hj
  · have hself : (listed.setIfInBounds i true).getD i true = true := by
      rw [Array.getD_eq_getD_getElem?]
      simp [hn, h1]
    have hoth : ∀ j, j ≠ i → (listed.setIfInBounds i true).getD j true = listed.getD j true := by
      intro j hj
      simp only [Array.getD_eq_getD_getElem?]
      rw [Array.getElem?_setIfInBounds_ne (Ne.symm hj)]
    unfold left
    rw [hr, List.filter_append, List.filter_cons, if_neg (by rw [hself]; simp)]
    congr 1
    · apply List.filter_congr
      intro j hj
      rw [hoth j (by have := List.mem_range.1 hj; omega)]
    · apply List.filter_congr
      intro j hj
      rw [hoth j (by have := List.mem_range'_1.1 hj; omega)]

def Closed (ops : Array Oper) (listed : Array Bool) : Prop := ∀ i o, ops[i]? = some o → listed.getD i true = true → ∀ e ∈ o.after.toList, Region.binds .any e = true → listed.getD e.on false = true

theorem getD_tf {a : Array Bool} {i : Nat} (hi : i < a.size) : a.getD i true = a.getD i false := by
  simp [Array.getD, hi]

theorem mem_ready {ops : Array Oper} {listed : Array Bool} {i : Nat} : i ∈ Region.ready .any ops listed ↔ i < ops.size ∧ listed.getD i true = false ∧ ∃ o, ops[i]? = some o ∧ ∀ e ∈ o.after.toList, Region.binds .any e = true → listed.getD e.on false = true := by
  unfold Region.ready
  simp only [List.mem_filter, List.mem_range, Bool.and_eq_true, Bool.not_eq_true']
  constructor
  · rintro ⟨h1, h2, h3⟩
    refine ⟨h1, h2, ops[i], by simp [h1], ?_⟩
    rw [Array.getElem?_eq_getElem h1] at h3
    simp only [Option.map_some, Option.getD_some, Array.all_eq_true_iff_forall_mem] at h3
    intro e he hb
    have := h3 e (Array.mem_toList_iff.1 he)
    simpa [hb] using this
  · rintro ⟨h1, h2, o, ho, h3⟩
    refine ⟨h1, h2, ?_⟩
    rw [ho]
    simp only [Option.map_some, Option.getD_some, Array.all_eq_true_iff_forall_mem]
    intro e he
    by_cases hb : Region.binds .any e = true
    · simp [hb, h3 e (Array.mem_toList_iff.2 he) hb]
    · simp [hb]

theorem before_listed {ops : Array Oper} {listed : Array Bool} (hn : listed.size = ops.size) (hcl : Closed ops listed) : ∀ (i : Nat) (o : Oper), ops[i]? = some o → (∀ e ∈ o.after.toList, Region.binds .any e = true → listed.getD e.on false = true) → ∀ j, ((Region.before ops).getD i 0).testBit j = true → listed.getD j false = true := by
  intro i
  induction i using Nat.strongRecOn with
  | _ i ih =>
    intro o ho hr j hj
    obtain ⟨hsz, hsp⟩ := before_spec ops
    have hi : i < (Region.before ops).size := by rw [hsz]; exact (Array.getElem?_eq_some_iff.1 ho).1
    have hm : (Region.before ops)[i]? = some ((Region.before ops).getD i 0) := by simp [Array.getD, hi]
    obtain ⟨e, he, hb, hor⟩ := hsp i o ho _ hm j hj
    have hl := hr e he hb
    rcases hor with rfl | ⟨hlt, hj'⟩
    · exact hl
    · have hes : e.on < ops.size := by have := (Array.getElem?_eq_some_iff.1 ho).1; omega
      refine ih e.on hlt ops[e.on] (by simp [hes]) ?_ j hj'
      exact fun e' he' hb' => hcl e.on ops[e.on] (by simp [hes]) (by rw [getD_tf (by omega)]; exact hl) e' he' hb'

theorem any_wp (hK : KeysOK P K) {C : Calling} (hC : CallOK P C) {D : List Nat} {ops : Array Oper} {N : Nat} (hD : dstOK N ops = true) (hok : drawOK ops D = true) {Q : Exit → Act → World → Prop} {e' : Env} {H' : AHeap} : ∀ (fuel : Nat) (listed : Array Bool) (S : St) (e : Env) (a : Act), listed.size = ops.size → Closed ops listed → fuel = (left ops.size listed).length →
    Sim S → EnvR S e a.tmps → a.tmps.size = N → a.defers = [] → evalIx (P := P) (K := K) C (fun k => D.contains k) ops (left ops.size listed) e S.H = some (e', H') → (∀ a' w', Done N S e' H' a' w' → Q .normal a' w') → wpAny P .any ops Q fuel listed a S.w
  | 0, listed, S, e, a, hn, hcl, hf, hS, hE, hN, hd, h, hQ => by
    have hnil : left ops.size listed = [] := List.eq_nil_of_length_eq_zero hf.symm
    rw [hnil] at h
    simp [evalIx] at h
    obtain ⟨rfl, rfl⟩ := h
    refine ⟨?_, hQ a S.w ⟨S, rfl, rfl, hS, Ext.refl S, hE, hN, hd⟩⟩
    apply List.eq_nil_iff_forall_not_mem.2
    intro i hi
    obtain ⟨h1, h2, _⟩ := mem_ready.1 hi
    have : i ∈ left ops.size listed := mem_left.2 ⟨h1, h2⟩
    rw [hnil] at this
    cases this
  | fuel + 1, listed, S, e, a, hn, hcl, hf, hS, hE, hN, hd, h, hQ => by
    simp only [drawOK, Bool.and_eq_true] at hok
    obtain ⟨hlow, hpairs⟩ := hok
    refine ⟨fun hr => ?_, fun i hi => ?_⟩
    · -- the first that is left is ready
      exfalso
      cases hl : left ops.size listed with
      | nil => rw [hl] at hf; simp at hf
      | cons i rest =>
        have hi : i ∈ left ops.size listed := by rw [hl]; simp
        obtain ⟨h1, h2⟩ := mem_left.1 hi
        obtain ⟨pre, post, hsp, hpre, _⟩ := left_split hn hi
        have hrdy : i ∈ Region.ready .any ops listed := by
          refine mem_ready.2 ⟨h1, h2, ops[i], by simp [h1], fun ed he hb => ?_⟩
          have hlt := zipIdx_all _ hlow (i := i) (a := ops[i]) (by simp [h1])
          unfold lowOK at hlt
          rw [Array.all_eq_true_iff_forall_mem] at hlt
          have := hlt ed (Array.mem_toList_iff.1 he)
          simp [hb] at this
          rw [← getD_tf (by omega)]
          cases hg : listed.getD ed.on true with
          | true => rfl
          | false =>
            have hm : ed.on ∈ left ops.size listed := mem_left.2 ⟨by omega, hg⟩
            rw [hl] at hm
            have hsorted : (left ops.size listed).Pairwise (· < ·) := by
              unfold left
              exact List.Pairwise.filter _ (List.pairwise_lt_range)
            rw [hl] at hsorted
            rcases List.mem_cons.1 hm with hm | hm
            · omega
            · have := (List.pairwise_cons.1 hsorted).1 _ hm
              omega
        rw [hr] at hrdy
        cases hrdy
    · obtain ⟨h1, h2, o, ho, hedges⟩ := mem_ready.1 hi
      have him : i ∈ left ops.size listed := mem_left.2 ⟨h1, h2⟩
      obtain ⟨pre, post, hsp, hpre, hnext⟩ := left_split hn him
      rw [hsp] at h
      have hp : ∀ j ∈ pre, ∀ x y, ops[j]? = some x → ops[i]? = some y → pairOK ops D j i x y = true := by
        intro j hj x y hx hy
        obtain ⟨hlt, hun⟩ := hpre j hj
        have h3 := zipIdx_all (fun y j => ops.toList.zipIdx.all fun x => betw ops D y j x.1 x.2) hpairs (i := i) (a := y) (by simpa using hy)
        have h4 := zipIdx_all _ h3 (i := j) (a := x) (by simpa using hx)
        unfold betw at h4
        simp only [Bool.or_eq_true, Bool.not_eq_true', decide_eq_false_iff_not] at h4
        rcases h4 with (h4 | h4) | h4
        · exact absurd hlt h4
        · have := before_listed hn hcl i o ho hedges j h4
          rw [← getD_tf (by have := (Array.getElem?_eq_some_iff.1 hx).1; omega)] at this
          rw [hun] at this; cases this
        · exact h4
      obtain ⟨e1, H1, hs1, hs2⟩ := front hK hC hD hS hE hN hp h
      refine stepIx_wp hK hC hD hS hE hN hd hs1 fun T a' t1 t2 t3 t4 t5 t6 => ?_
      subst t1
      refine any_wp hK hC hD (by simp only [drawOK, Bool.and_eq_true]; exact ⟨hlow, hpairs⟩) fuel (listed.setIfInBounds i true) T e1 a' (by simp [hn]) ?_ ?_ t2 t4 t5 t6 (by rw [hnext]; exact hs2) (fun a'' w'' hd'' => hQ a'' w'' (hd''.of_ext t3))
      · intro k ok hok hk ed hed hb
        by_cases hki : k = i
        · subst hki
          rw [ho] at hok
          cases hok
          have := hedges ed hed hb
          rw [Array.getD_eq_getD_getElem?] at this ⊢
          by_cases hee : k = ed.on
          · subst hee; simp [hn, h1]
          · rw [Array.getElem?_setIfInBounds_ne hee]; exact this
        · have hk' : listed.getD k true = true := by
            rw [Array.getD_eq_getD_getElem?] at hk ⊢
            rw [Array.getElem?_setIfInBounds_ne (Ne.symm hki)] at hk
            exact hk
          have := hcl k ok hok hk' ed hed hb
          rw [Array.getD_eq_getD_getElem?] at this ⊢
          by_cases hee : i = ed.on
          · subst hee; simp [hn, h1]
          · rw [Array.getElem?_setIfInBounds_ne hee]; exact this
      · rw [hnext]
        rw [hsp] at hf
        simp at hf ⊢
        omega

/-- A world that differs in its count of draws alone. -/
theorem drew_sim {S : St} (hS : Sim S) {w' : World} (h1 : w'.os = S.w.os) (h2 : w'.tape = S.w.tape) (h3 : w'.output = S.w.output) (h4 : w'.heap = S.w.heap) : Sim ⟨S.ι, S.H, w'⟩ ∧ Ext S ⟨S.ι, S.H, w'⟩ := by
  have hE : Ext S ⟨S.ι, S.H, w'⟩ := by
    refine ⟨h1, h2, h3, Nat.le_of_eq (by rw [h4]), Nat.le_refl _, fun _ _ => rfl, ?_, ?_, fun _ => Nat.le_refl _, fun _ _ _ => rfl⟩
    · rintro b m ⟨c, e, fr, g1, g2⟩
      exact ⟨c, e, fr, by simp only; rw [h4]; exact g1, g2⟩
    · intro b hb hn
      exact ⟨by simp only; rw [h4], hn⟩
  exact ⟨⟨fun o ho => (hS.objs o ho).same hE ho (by simp only; rw [h4]), hS.inj, fun o ho => by simp only; rw [h4]; exact hS.below o ho⟩, hE⟩

def CodePost (N : Nat) (S : St) (x : AX) (e : Env) (H : AHeap) : Exit → Act → World → Prop
  | .normal, a, w => x = .normal ∧ Done N S e H a w
  | .exit id, a, w => x = .exit id ∧ Done N S e H a w
  | .ret, a, w => x = .ret ∧ Done N S e H a w
  | _, _, _ => False

theorem CodePost.of_ext {N : Nat} {S T : St} (h : Ext S T) {x : AX} {e : Env} {H : AHeap} {ex : Exit} {a : Act} {w : World} (hd : CodePost N T x e H ex a w) : CodePost N S x e H ex a w := by
  cases ex <;> first | exact ⟨hd.1, hd.2.of_ext h⟩ | exact hd

theorem code_wp (hK : KeysOK P K) (hmix : P.follows .mixedOrders = true) {C : Calling} (hC : CallOK P C) {D : Quiets} {f : FuncId} {N : Nat} : ∀ {c : Code} {S : St} {e : Env} {a : Act} {x : AX} {e' : Env} {H' : AHeap}, codeOK N (D f) c = true → Sim S → EnvR S e a.tmps → a.tmps.size = N → a.defers = [] →
    evalCode P K C D f c e S.H = some (x, e', H') → c.wp P (CodePost N S x e' H') a S.w
  | .skip, S, e, a, x, e', H', _, hS, hE, hN, hd, h => by
    simp [evalCode] at h
    obtain ⟨rfl, rfl, rfl⟩ := h
    exact wp_skip ⟨rfl, S, rfl, rfl, hS, Ext.refl S, hE, hN, hd⟩
  | .exit id, S, e, a, x, e', H', _, hS, hE, hN, hd, h => by
    simp [evalCode] at h
    obtain ⟨rfl, rfl, rfl⟩ := h
    exact wp_exit ⟨rfl, S, rfl, rfl, hS, Ext.refl S, hE, hN, hd⟩
  | .ret, S, e, a, x, e', H', _, hS, hE, hN, hd, h => by
    simp [evalCode] at h
    obtain ⟨rfl, rfl, rfl⟩ := h
    exact wp_ret ⟨rfl, S, rfl, rfl, hS, Ext.refl S, hE, hN, hd⟩
  | .region id ops draw, S, e, a, x, e', H', hok, hS, hE, hN, hd, h => by
    simp only [codeOK, Bool.and_eq_true] at hok
    simp only [evalCode, Option.map_eq_some_iff] at h
    obtain ⟨⟨e1, H1⟩, h, he⟩ := h
    cases he
    rw [evalOps_ix (k := 0) (fun j => by simp)] at h
    have hr : List.range' 0 ops.toList.length = List.range ops.size := by rw [List.range_eq_range']; simp
    rw [hr] at h
    cases draw with
    | false =>
      refine wp_region ?_
      exact evalIx_wp hK hC hok.1 hS hE hN hd h fun a' w' hd' => ⟨rfl, hd'⟩
    | true =>
      refine wp_region_any hmix ?_
      obtain ⟨hS1, hE1⟩ := drew_sim hS (w' := { S.w with drawn := S.w.drawn + 1 }) rfl rfl rfl rfl
      have hdr : drawOK ops (D f id) = true := by simpa using hok.2
      have hleft : left ops.size (Array.replicate ops.size false) = List.range ops.size := by
        unfold left
        rw [List.filter_eq_self]
        intro i hi
        have := List.mem_range.1 hi
        simp [Array.getD, this]
      refine any_wp (S := ⟨S.ι, S.H, { S.w with drawn := S.w.drawn + 1 }⟩) hK hC hok.1 hdr ops.size (Array.replicate ops.size false) e a (by simp) ?_ (by rw [hleft]; simp) hS1 (hE.ext hE1) hN hd (by rw [hleft]; simpa using h) (fun a' w' hd' => ⟨rfl, hd'.of_ext hE1⟩)
      intro i o ho hl
      have hi := (Array.getElem?_eq_some_iff.1 ho).1
      simp [Array.getD, hi] at hl
  | .seq p q, S, e, a, x, e', H', hok, hS, hE, hN, hd, h => by
    simp only [codeOK, Bool.and_eq_true] at hok
    simp only [evalCode, Option.bind_eq_some_iff] at h
    obtain ⟨⟨x1, e1, H1⟩, h1, h⟩ := h
    refine wp_seq (wp_mono (code_wp hK hmix hC hok.1 hS hE hN hd h1) fun ex a' w' hp => ?_)
    cases ex with
    | normal =>
      obtain ⟨rfl, T, rfl, rfl, t1, t2, t3, t4, t5⟩ := hp
      simp only at h
      exact wp_mono (code_wp hK hmix hC hok.2 t1 t3 t4 t5 h) fun ex a' w' hp => hp.of_ext t2
    | exit id =>
      obtain ⟨rfl, hp⟩ := hp
      simp only at h
      cases h
      exact ⟨rfl, hp⟩
    | ret =>
      obtain ⟨rfl, hp⟩ := hp
      simp only at h
      cases h
      exact ⟨rfl, hp⟩
    | goto l => exact hp
    | panic ch => exact hp
    | outgrown => exact hp
  | .cond c p q, S, e, a, x, e', H', hok, hS, hE, hN, hd, h => by
    simp only [codeOK, Bool.and_eq_true] at hok
    simp only [evalCode] at h
    split at h <;> first | (cases h; done) | skip
    rename_i t ht
    have hv := evalOpd_sound hE ht
    generalize hce : a.eval c = y at hv
    cases hv
    refine wp_cond hce ?_
    cases t with
    | true => simp only [if_true] at h ⊢; exact code_wp hK hmix hC hok.1 hS hE hN hd h
    | false => simp only [Bool.false_eq_true, if_false] at h ⊢; exact code_wp hK hmix hC hok.2 hS hE hN hd h
  | .block id b, S, e, a, x, e', H', hok, hS, hE, hN, hd, h => by
    simp only [codeOK] at hok
    simp only [evalCode, Option.map_eq_some_iff] at h
    obtain ⟨⟨x1, e1, H1⟩, h1, h⟩ := h
    refine wp_block (wp_mono (code_wp hK hmix hC hok hS hE hN hd h1) fun ex a' w' hp => ?_)
    cases ex with
    | normal => obtain ⟨rfl, hp⟩ := hp; simp only at h; cases h; exact ⟨rfl, hp⟩
    | exit id' =>
      obtain ⟨rfl, hp⟩ := hp
      simp only at h
      simp only [Exit.inBlock]
      by_cases hid : id' = id
      · rw [if_pos hid] at h ⊢; cases h; exact ⟨rfl, hp⟩
      · rw [if_neg hid] at h ⊢; cases h; exact ⟨rfl, hp⟩
    | ret => obtain ⟨rfl, hp⟩ := hp; simp only at h; cases h; exact ⟨rfl, hp⟩
    | goto l => exact hp
    | panic ch => exact hp
    | outgrown => exact hp
  | .loop b, S, e, a, x, e', H', hok, hS, hE, hN, hd, h => by
    simp only [codeOK] at hok
    simp only [evalCode] at h
    obtain ⟨n, hn⟩ := loopLim_iff.1 h
    refine wp_loop_rounds n ?_
    clear h
    induction n generalizing S e a with
    | zero => simp [iter] at hn
    | succ n ih =>
      rw [rounds_succ]
      simp only [iter] at hn
      cases hb : evalCode P K C D f b e S.H with
      | none => rw [hb] at hn; cases hn
      | some r =>
        obtain ⟨x1, e1, H1⟩ := r
        rw [hb] at hn
        refine wp_mono (code_wp hK hmix hC hok hS hE hN hd hb) fun ex a' w' hp => ?_
        cases ex with
        | normal =>
          obtain ⟨rfl, T, rfl, rfl, t1, t2, t3, t4, t5⟩ := hp
          simp only at hn
          simp only [Exit.then]
          have := ih T e1 a' t1 t3 t4 t5 hn
          -- the rounds that are left, from S's point of view
          have mono : ∀ (k : Nat) (a : Act) (w : World), Code.rounds P b (CodePost N T x e' H') k a w → Code.rounds P b (CodePost N S x e' H') k a w := by
            intro k
            induction k with
            | zero => intro a w h; exact h
            | succ k ihk =>
              intro a w h
              rw [rounds_succ] at h ⊢
              refine wp_mono h fun ex a w h => ?_
              cases ex with
              | normal => exact ihk a w h
              | exit id => exact CodePost.of_ext (ex := .exit id) t2 h
              | ret => exact CodePost.of_ext (ex := .ret) t2 h
              | goto l => exact h
              | panic ch => exact h
              | outgrown => exact h
          exact mono n _ _ this
        | exit id' => obtain ⟨rfl, hp⟩ := hp; simp only at hn; cases hn; exact ⟨rfl, hp⟩
        | ret => obtain ⟨rfl, hp⟩ := hp; simp only at hn; cases hn; exact ⟨rfl, hp⟩
        | goto l => exact hp
        | panic ch => exact hp
        | outgrown => exact hp
  | .scope _, _, _, _, _, _, _, _, _, _, _, _, h => by simp [evalCode] at h
  | .label _, _, _, _, _, _, _, _, _, _, _, _, h => by simp [evalCode] at h
  | .goto _, _, _, _, _, _, _, _, _, _, _, _, h => by simp [evalCode] at h
  | .refuse _, _, _, _, _, _, _, _, _, _, _, _, h => by simp [evalCode] at h
  | .rangeFunc .., _, _, _, _, _, _, _, _, _, _, _, h => by simp [evalCode] at h

/-- What the program's text is asked for, once. -/
structure Good (P : Program) (K : TypeId → Option (List Sc)) : Prop where
  keys : KeysOK P K
  mixed : P.follows .mixedOrders = true

theorem args_get : ∀ {as : List AV} {xs : List Value} {S : St}, VRs S as xs → ∀ (k t : Nat) (v : AV), Env.args as k t = some v → ∃ x, k ≤ t ∧ xs[t - k]? = some x ∧ VR S v x
  | [], _, _, _, k, t, v, h => by simp [Env.args, Env.nil] at h
  | a :: as, _, S, .cons _ x _ xs ha hs, k, t, v, h => by
    simp only [Env.args] at h
    split at h
    · rename_i ht
      subst ht
      cases h
      exact ⟨x, Nat.le_refl _, by simp, ha⟩
    · obtain ⟨y, h1, h2, h3⟩ := args_get hs (k + 1) t v h
      refine ⟨y, by omega, ?_, h3⟩
      rw [show t - k = (t - (k + 1)) + 1 from by omega, List.getElem?_cons_succ]
      exact h2

def resVal (tmps : Array Value) : ResultVar → Sem Value
  | .tmp t => pure (tmps.getD t undef)
  | .cell a t => do loadVar t (← asAddr (tmps.getD a undef))

theorem results_eq (fn : Func) (tmps : Array Value) : results fn tmps = (do
    let vs ← fn.results.mapM (resVal tmps)
    pure (if h : vs.size = 1 then vs[0] else .tuple vs)) := by
  unfold results
  congr

theorem results_sound {S : St} (hS : Sim S) {e : Env} {tmps : Array Value} (hE : EnvR S e tmps) : ∀ {rs : List ResultVar} {vs : List AV}, evalResults P e S.H rs = some vs →
    ∃ xs, (rs.mapM (resVal tmps)).run P S.w = .ok xs S.w ∧ VRs S vs xs
  | [], vs, h => by simp [evalResults] at h; subst h; exact ⟨[], rfl, .nil⟩
  | r :: rs, vs, h => by
    simp only [evalResults, Option.bind_eq_some_iff, Option.map_eq_some_iff] at h
    obtain ⟨v, hv, ws, hw, rfl⟩ := h
    obtain ⟨xs, hx, hxs⟩ := results_sound hS hE hw
    cases r with
    | tmp t =>
      obtain ⟨x, hx1, hx2⟩ := hE t v hv
      refine ⟨x :: xs, ?_, .cons v x ws xs hx2 hxs⟩
      have : tmps.getD t undef = x := by simp [Array.getD_eq_getD_getElem?, hx1]
      simp only [List.mapM_cons, Sem.run_bind, resVal, Sem.run_pure, Result.andThen_ok, this, hx]
    | cell a t =>
      simp only [evalResult, Option.bind_eq_some_iff] at hv
      obtain ⟨p, hp, hv⟩ := hv
      obtain ⟨y, hy1, hy2⟩ := hE a p hp
      obtain ⟨z, hz, hvz⟩ := aload_sound (P := P) hS hy2 hv
      have hg : tmps.getD a undef = y := by simp [Array.getD_eq_getD_getElem?, hy1]
      refine ⟨z :: xs, ?_, .cons v z ws xs hvz hxs⟩
      have hz' : (do loadVar t (← asAddr (tmps.getD a undef)) : Sem Value).run P S.w = .ok z S.w := by
        rw [hg]
        cases hy2 <;> first
          | (simp [aload] at hv; done)
          | (simpa [Instr.loadAt, Instr.sureAddr, asAddr] using hz)
      have hz2 : (resVal tmps (.cell a t)).run P S.w = .ok z S.w := hz'
      simp only [List.mapM_cons, Sem.run_bind, hz2, Sem.run_pure, Result.andThen_ok, hx]

theorem tupled_sound {S : St} {vs : List AV} {xs : List Value} (h : VRs S vs xs) : VR S (tupled vs) (if h : xs.toArray.size = 1 then xs.toArray[0] else .tuple xs.toArray) := by
  cases h with
  | nil => exact .tup [] [] .nil
  | cons a x as xs ha hs =>
    cases hs with
    | nil => exact ha
    | cons b y bs ys hb hs =>
      rw [dif_neg (by simp)]
      exact .tup _ _ (.cons _ _ _ _ ha (.cons _ _ _ _ hb hs))

theorem fn_ok {D : Quiets} (hG : Good P K) {C : Calling} (hC : CallOK P C) : CallOK P (evalFn P K D C) := by
  intro f as H v H' h
  simp only [evalFn, Option.bind_eq_some_iff] at h
  obtain ⟨fn, hf, c, hc, h⟩ := h
  split at h <;> first | (cases h; done) | skip
  rename_i hcond
  obtain ⟨hlen, hcode, hname⟩ := hcond
  refine ⟨⟨fn, hf, by simp [hc], hname⟩, fun S vs hS hH hv => ?_⟩
  subst hH
  simp only [Option.bind_eq_some_iff] at h
  obtain ⟨⟨x, e, H1⟩, hx, h⟩ := h
  refine calls_of_wp hf hc ?_
  have hvl := hv.length
  have hE : EnvR S (Env.args as 0) (vs.toArray ++ Array.replicate (fn.ntmps - vs.toArray.size) undef) := by
    intro t u hu
    obtain ⟨y, _, h2, h3⟩ := args_get hv 0 t u hu
    refine ⟨y, ?_, h3⟩
    have hlt : t < vs.length := by have := (List.getElem?_eq_some_iff.1 h2).1; omega
    rw [Array.getElem?_append_left (by simpa using hlt)]
    simpa using h2
  refine wp_mono (code_wp (a := { tmps := vs.toArray ++ Array.replicate (fn.ntmps - vs.toArray.size) undef, defers := [] }) hG.keys hG.mixed hC hcode hS hE (by simp; omega) rfl hx) fun ex a' w' hp => ?_
  have fin : ∀ {T : St}, Sim T → T.H = H1 → EnvR T e a'.tmps → Ext S T → (evalResults P e H1 fn.results.toList).map (fun vs => (tupled vs, H1)) = some (v, H') → ∃ r, (results fn a'.tmps).run P T.w = .ok r T.w ∧ CallPost S v H' (.returned r) T.w := by
    intro T hT hTH hTE hST hres
    simp only [Option.map_eq_some_iff, Prod.mk.injEq] at hres
    obtain ⟨us, hus, rfl, rfl⟩ := hres
    subst hTH
    obtain ⟨xs, hxs, hvr⟩ := results_sound (P := P) hT hTE hus
    refine ⟨_, ?_, T, _, rfl, rfl, rfl, hT, hST, tupled_sound hvr⟩
    rw [results_eq]
    have hm : (fn.results.mapM (resVal a'.tmps)).run P T.w = .ok xs.toArray T.w := by
      rw [Array.mapM_eq_mapM_toList]
      simp only [Sem.run_map, hxs]
      rfl
    simp only [Sem.run_bind, hm, Result.andThen_ok]
    rfl
  cases ex with
  | normal =>
    obtain ⟨rfl, T, rfl, t0, t1, t2, t3, t4, t5⟩ := hp
    obtain ⟨r, h1, h2⟩ := fin t1 t0 t3 t2 h
    exact ⟨t5, r, h1, h2⟩
  | ret =>
    obtain ⟨rfl, T, rfl, t0, t1, t2, t3, t4, t5⟩ := hp
    obtain ⟨r, h1, h2⟩ := fin t1 t0 t3 t2 h
    exact ⟨t5, r, h1, h2⟩
  | exit id =>
    obtain ⟨rfl, hp⟩ := hp
    cases h
  | goto l => exact hp.elim
  | panic ch => exact hp.elim
  | outgrown => exact hp.elim

theorem run_ok {D : Quiets} (hG : Good P K) : ∀ n, CallOK P (run P K D n)
  | 0 => fun f as H v H' h => by simp [run] at h
  | n + 1 => fn_ok hG (run_ok hG n)

/-- THE ONE THEOREM: what the interpreter tells of a call, the machine does, whatever it draws. -/
theorem runs_ok {D : Quiets} (hG : Good P K) : CallOK P (runs P K D) := by
  intro f as H v H' h
  obtain ⟨n, hn⟩ := runs_iff.1 h
  exact run_ok hG n f as H v H' hn

end
end Go.Proofs.Ytphkkcocimmmfaa
