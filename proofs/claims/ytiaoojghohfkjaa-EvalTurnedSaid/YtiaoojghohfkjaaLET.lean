/- The law EvalTurned. -/
import Derived.Test.YtiaoojghohfkjaaEN
namespace Go.Proofs.Ytiaoojghohfkjaa
set_option maxRecDepth 100000
set_option maxHeartbeats 4000000

def turns (op : Int) : Prop := op = 4 ∨ op = 5 ∨ op = 6 ∨ op = 8 ∨ op = 12 ∨ op = 13 ∨ op = 14 ∨ op = 15 ∨ op = 16 ∨ op = 17 ∨ op = 18 ∨ op = 20 ∨ op = 37
theorem sort2_sym {op : Int} (h : turns op) (a b : Int) : sortS op 0 0 [a, b] = sortS op 0 0 [b, a] := by
  have har : arity op = 2 := by rcases h with rfl | rfl | rfl | rfl | rfl | rfl | rfl | rfl | rfl | rfl | rfl | rfl | rfl <;> decide
  unfold sortS
  rw [har]
  simp only [List.length_cons, List.length_nil, List.all_cons, List.all_nil, List.getD_cons_zero, List.getD_cons_succ, Nat.add_sub_cancel, Bool.and_true, Nat.zero_add]
  rw [Bool.and_comm (isSort a) (isSort b)]
  have ht : toldB op 0 0 a b b = toldB op 0 0 b a a := by
    rcases h with rfl | rfl | rfl | rfl | rfl | rfl | rfl | rfl | rfl | rfl | rfl | rfl | rfl <;> simp only [toldB] <;> simp only [Int.reduceLE, Int.reduceEq, if_true, if_false] <;> rw [decide_eq_decide] <;> constructor <;> intro hh <;> simp only [true_and] at hh ⊢ <;> omega
  rw [ht]
  split
  · rfl
  split
  · rfl
  split
  · rfl
  split
  · rfl
  rename_i h4
  have hv : toldV op 0 0 a b = toldV op 0 0 b a := by
    rw [Bool.not_eq_false] at h4
    rcases h with rfl | rfl | rfl | rfl | rfl | rfl | rfl | rfl | rfl | rfl | rfl | rfl | rfl <;> simp only [toldB, toldV] at h4 ⊢ <;> simp only [Int.reduceLE, Int.reduceEq, if_true, if_false, decide_eq_true_eq] at h4 ⊢ <;> omega
  rw [hv]
theorem wordV_sym {op : Int} (h : turns op) (h12 : 12 ≤ op) (h28 : op ≤ 28) {n : Nat} (x y : BitVec n) : wordV op x y = wordV op y x := by
  rcases h with rfl | rfl | rfl | rfl | rfl | rfl | rfl | rfl | rfl | rfl | rfl | rfl | rfl <;> first | omega | (simp only [wordV]; simp only [Int.reduceEq, if_true, if_false])
  all_goals first | rw [BitVec.and_comm] | rw [BitVec.or_comm] | rw [BitVec.xor_comm] | rw [BitVec.add_comm] | rw [BitVec.mul_comm]
theorem boolV_sym {op : Int} (h : turns op) (h8 : op ≤ 8) (a b : Vl) : boolV op a b = boolV op b a := by
  rcases h with rfl | rfl | rfl | rfl | rfl | rfl | rfl | rfl | rfl | rfl | rfl | rfl | rfl <;> first | omega | (simp only [boolV]; simp only [Int.reduceEq, if_true, if_false])
  · rw [Bool.and_comm]
  · rw [Bool.or_comm]
  · cases a.yes <;> cases b.yes <;> rfl
  · rw [decide_eq_decide]; exact ⟨fun h => h.symm, fun h => h.symm⟩
theorem apply_sym {op : Int} (h : turns op) (a b : Vl) : applyS op 0 0 [a, b] = applyS op 0 0 [b, a] := by
  have hs := sort2_sym h a.sort b.sort
  unfold applyS
  simp only [List.map_cons, List.map_nil]
  rw [hs]
  by_cases c : (sortS op 0 0 [b.sort, a.sort]).2 = 0
  · rw [if_pos c, if_pos c]
    have hfit := apply_fit (op := op) (p := 0) (q := 0) (l := [a, b]) (by simp only [List.map_cons, List.map_nil]; rw [hs]; exact c)
    generalize (sortS op 0 0 (List.map Vl.sort [a, b])).1 = s at hfit
    have hop := hfit.op
    by_cases h8 : op ≤ 8
    · rw [mean_bool h8, mean_bool h8]
      exact congrArg (fun b => (Vl.bool b, (0 : Int))) (boolV_sym h h8 a b)
    · by_cases h28 : op ≤ 28
      · cases hfit with
        | word n x y h1 h2 h3 h4 => rw [mean_two h3 (by omega) h2, mean_two h3 (by omega) h2, twoV, twoV, if_pos h4, if_pos h4, wordV_sym h h3 h4]
        | _ => omega
      · have h37 : op = 37 := by rcases h with h | h | h | h | h | h | h | h | h | h | h | h | h <;> omega
        subst h37
        cases hfit with
        | comp n x y h1 h2 =>
          have e : ∀ x y : BitVec n, meanV 37 0 0 [Vl.of x, Vl.of y] = Vl.of (w := 1) (if x = y then 1#1 else 0#1) := fun x y => by
            rw [mean_two (by omega) (by omega) h2, twoV, if_neg (by omega), if_neg (by omega)]
          rw [e, e]
          by_cases e : x = y
          · rw [if_pos e, if_pos e.symm]
          · rw [if_neg e, if_neg (fun h => e h.symm)]
        | _ => omega
  · rw [if_neg c, if_neg c]
/-- A choice, and the choice turned round. -/
theorem apply_ite (a b c d : Vl) (hd : d = ⟨0, mkN (1#64 - (lo c.n &&& 1#64)) 0#64⟩) :
    ((applyS 9 0 0 [c, a, b]).2 = 0 ∧ (applyS 9 0 0 [d, b, a]).2 = 0 ∧ (applyS 9 0 0 [c, a, b]).1 = (applyS 9 0 0 [d, b, a]).1 ∧ (lo c.n = 1#64 ∧ (applyS 9 0 0 [c, a, b]).1 = a ∨ lo c.n = 0#64 ∧ (applyS 9 0 0 [c, a, b]).1 = b)) ∨ (applyS 9 0 0 [c, a, b]).2 = 30 := by
  by_cases h : (sortS 9 0 0 ([c, a, b].map Vl.sort)).2 = 0
  · left
    have hfit := apply_fit h
    generalize hs : (sortS 9 0 0 (List.map Vl.sort [c, a, b])).1 = s at hfit
    cases hfit with
    | ite c a b h1 h2 h3 h4 h5 h6 =>
      have hd1 : d = Vl.bool (!c) := by rw [hd]; cases c <;> exact Vl.ext' rfl (by decide) (by decide)
      have h2' : (sortS 9 0 0 ([d, b, a].map Vl.sort)).2 = 0 := by
        have e1 : [d, b, a].map Vl.sort = [0, b.w, a.w] := by
          simp only [List.map_cons, List.map_nil, sort_ok h4, sort_ok h5, hd1, sort_ok (Vl.bool_ok _)]
          rfl
        have e2 : [Vl.bool c, a, b].map Vl.sort = [0, a.w, b.w] := by
          simp only [List.map_cons, List.map_nil, sort_ok h4, sort_ok h5, sort_ok (Vl.bool_ok _)]
          rfl
        rw [e2, h6] at h
        rw [e1, h6]
        exact h
      unfold applyS
      rw [if_pos h, if_pos h2', hd1, mean_ite, mean_ite]
      cases c
      · refine ⟨rfl, rfl, ?_, .inr ⟨by decide, ?_⟩⟩ <;> simp [show (Vl.bool false).yes = false from by decide, show (Vl.bool true).yes = true from by decide]
      · refine ⟨rfl, rfl, ?_, .inl ⟨by decide, ?_⟩⟩ <;> simp [show (Vl.bool false).yes = false from by decide, show (Vl.bool true).yes = true from by decide]
    | _ => omega
  · right
    unfold applyS
    rw [if_neg h]
    show (sortS 9 0 0 ([c, a, b].map Vl.sort)).2 = 30
    unfold sortS at h ⊢
    rw [arity9, if_neg (by omega), if_neg (by simp)] at h ⊢
    split
    · rfl
    rename_i h3
    rw [if_neg h3] at h
    split
    · rfl
    rename_i h4
    rw [if_neg h4] at h
    exfalso
    apply h
    rw [if_neg]
    have : isSort b.sort = true := by
      rw [Bool.not_eq_false] at h3
      simp at h3
      exact h3.2.2
    unfold isSort at this
    have := of_decide_eq_true this
    show ¬ 128 < toldV 9 0 0 _ b.sort
    rw [show toldV 9 0 0 (([c, a, b].map Vl.sort).getD 0 0) b.sort = b.sort from rfl]
    omega

theorem turned_run {op : Int} {a b c : Vl} {H : AHeap} : R f_plaitlaw4_EvalTurned [.int .i64 op, .agg [.int .i64 a.w, u (lo a.n), u (hi a.n)], .agg [.int .i64 b.w, u (lo b.n), u (hi b.n)], .agg [.int .i64 c.w, u (lo c.n), u (hi c.n)]] H = some (.bool true, H) := by
  have hk := fun H => known4_run (H := H)
  have ap2 : ∀ (x y : Vl) H' o, o < H'.size → H'.obj o = .cells [.int .i64 x.w, u (lo x.n), u (hi x.n), .int .i64 y.w, u (lo y.n), u (hi y.n)] → R f_eval_Apply [.int .i64 op, .int .i64 0, .int .i64 0, .row o 0 3 2 true] H' = some (.tup [(applyS op 0 0 [x, y]).1.av, .int .i64 (applyS op 0 0 [x, y]).2], H') := fun x y H' o ho ob =>
    apply_run (l := [x, y]) (Reads.row' ho (by rw [ob]; rfl) rfl) (by simp)
  have ap3 : ∀ (x y z : Vl) H' o, o < H'.size → H'.obj o = .cells [.int .i64 x.w, u (lo x.n), u (hi x.n), .int .i64 y.w, u (lo y.n), u (hi y.n), .int .i64 z.w, u (lo z.n), u (hi z.n)] → R f_eval_Apply [.int .i64 9, .int .i64 0, .int .i64 0, .row o 0 3 3 true] H' = some (.tup [(applyS 9 0 0 [x, y, z]).1.av, .int .i64 (applyS 9 0 0 [x, y, z]).2], H') := fun x y z H' o ho ob =>
    apply_run (l := [x, y, z]) (Reads.row' ho (by rw [ob]; rfl) rfl) (by simp)
  obtain ⟨d, hd⟩ : ∃ d : Vl, d = ⟨0, mkN (1#64 - (lo c.n &&& 1#64)) 0#64⟩ := ⟨_, rfl⟩
  have hite := apply_ite a b c d hd
  have a1 := ap3 c a b
  have a2 : ∀ H' o, o < H'.size → H'.obj o = .cells [.int .i64 0, u (1#64 - (lo c.n &&& 1#64)), u 0#64, .int .i64 b.w, u (lo b.n), u (hi b.n), .int .i64 a.w, u (lo a.n), u (hi a.n)] → R f_eval_Apply [.int .i64 9, .int .i64 0, .int .i64 0, .row o 0 3 3 true] H' = some (.tup [(applyS 9 0 0 [d, b, a]).1.av, .int .i64 (applyS 9 0 0 [d, b, a]).2], H') := fun H' o ho ob =>
    ap3 d b a H' o ho (by rw [ob, hd]; simp only [lo_mk, hi_mk])
  generalize applyS 9 0 0 [c, a, b] = X at *
  generalize applyS 9 0 0 [d, b, a] = Y at *
  obtain ⟨X, e⟩ := X
  obtain ⟨Y, f⟩ := Y
  simp only at hite a1 a2
  have tail : ∀ t : Bool, t = true → True := fun _ _ => trivial
  rw [e_plaitlaw4_EvalTurned]
  have fin : (e = 0 ∧ f = 0 ∧ X = Y ∧ (decide (lo c.n = 1#64) = true ∧ X = a ∨ (decide (lo c.n = 1#64) = false ∧ decide (lo c.n = 0#64) = true) ∧ X = b)) ∨ e = 30 := by
    rcases hite with ⟨h1, h2, h3, h4 | h4⟩ | h
    · exact .inl ⟨h1, h2, h3, .inl ⟨by simp [h4.1], h4.2⟩⟩
    · exact .inl ⟨h1, h2, h3, .inr ⟨⟨by simp [h4.1], by simp [h4.1]⟩, h4.2⟩⟩
    · exact .inr h
  clear hite
  by_cases ht : turns op
  · have hs := apply_sym ht a b
    have b1 := ap2 a b
    have b2 := ap2 b a
    rw [hs] at b1
    generalize applyS op 0 0 [b, a] = W at *
    obtain ⟨W, ew⟩ := W
    simp only at b1 b2
    clear ap2 ap3 hs
    rcases ht with rfl | rfl | rfl | rfl | rfl | rfl | rfl | rfl | rfl | rfl | rfl | rfl | rfl <;>
      simp (maxDischargeDepth := 40) (maxSteps := 1000000) [c_plaitlaw4_EvalTurned, hk, a1, a2, b1, b2] <;>
      rcases fin with ⟨rfl, rfl, rfl, ⟨hc, rfl⟩ | ⟨⟨hc, hc2⟩, rfl⟩⟩ | rfl <;>
      first | (simp (maxDischargeDepth := 40) (maxSteps := 1000000) [hc, hc2]; done) | (simp (maxDischargeDepth := 40) (maxSteps := 1000000) [hc]; done) | (simp (maxDischargeDepth := 40) (maxSteps := 1000000); done)
  · unfold turns at ht
    simp only [not_or] at ht
    obtain ⟨t1, t2, t3, t4, t5, t6, t7, t8, t9, t10, t11, t12, t13⟩ := ht
    clear ap2 ap3
    simp (maxDischargeDepth := 40) (maxSteps := 1000000) [c_plaitlaw4_EvalTurned, hk, t1, t2, t3, t4, t5, t6, t7, t8, t9, t10, t11, t12, t13, a1, a2]
    rcases fin with ⟨rfl, rfl, rfl, ⟨hc, rfl⟩ | ⟨⟨hc, hc2⟩, rfl⟩⟩ | rfl
    · simp (maxDischargeDepth := 40) (maxSteps := 1000000) [hc]
    · simp (maxDischargeDepth := 40) (maxSteps := 1000000) [hc, hc2]
    · simp (maxDischargeDepth := 40) (maxSteps := 1000000)
end Go.Proofs.Ytiaoojghohfkjaa
