/- The evaluator: meanings of operators on Bools, and of any sort. -/
import Derived.Test.YtiaoojghohfkjaaEA
namespace Go.Proofs.Ytiaoojghohfkjaa
set_option maxRecDepth 100000
set_option maxHeartbeats 2000000

instance : DecidableEq Vl := fun a b => decidable_of_iff (a.w = b.w ∧ a.n = b.n) (by cases a; cases b; simp)
@[simp] theorem cells_fn {f : Fn} {a b : List AV} : (AV.fn f a b).cells = [.fn f a b] := rfl
@[simp] theorem cells_nilf : AV.nilf.cells = [.nilf] := rfl
@[simp] theorem one_nilf : AV.nilf.one = true := rfl
@[simp] theorem one_fn {f : Fn} {a b : List AV} : (AV.fn f a b).one = true := rfl
/-- What an operator on Bools, or equality, makes. -/
def boolV (op : Int) (a b : Vl) : Bool :=
  if op = 3 then !a.yes else if op = 4 then a.yes && b.yes else if op = 5 then a.yes || b.yes else if op = 6 then a.yes != b.yes else if op = 7 then !a.yes || b.yes else decide (a = b)
/-- The function behind it. -/
def boolF (op : Int) : FuncId := if op = 3 then f_eval_bools_1 else if op = 4 then f_eval_bools_2 else if op = 5 then f_eval_bools_3 else if op = 6 then f_eval_bools_4 else if op = 7 then f_eval_bools_5 else f_eval_bools_6

theorem vl_eq {a b : Vl} : decide (a = b) = (decide (a.w = b.w) && decide (lo a.n = lo b.n) && decide (hi a.n = hi b.n)) := by
  rw [← Bool.decide_and, ← Bool.decide_and, decide_eq_decide]
  constructor
  · rintro rfl; exact ⟨⟨rfl, rfl⟩, rfl⟩
  · rintro ⟨⟨h1, h2⟩, h3⟩; exact Vl.ext' h1 h2 h3

theorem bools1_run {H : AHeap} {s : AV} {a : Vl} (hs : RV H s [a]) : R f_eval_bools_1 [s] H = some (.bool (!a.yes), H) := by
  obtain ⟨x0, y0⟩ := hs.at (i := 0) (x := a) rfl
  have x0' : aindexAddr Go.Proofs.Try.prog T_s_api_Bits s 0 = some (ixp s 3 0) := x0
  have z0 := y0 H (Keeps.refl H)
  have hy := fun H => yes_run (v := a) (H := H)
  rw [e_eval_bools_1]
  simp (maxDischargeDepth := 40) [c_eval_bools_1, x0', z0, hy]
theorem boolsB_run {H : AHeap} {s : AV} {a b : Vl} {op : Int} (h1 : 4 ≤ op) (h2 : op ≤ 8) (hs : RV H s [a, b]) : R (boolF op) [s] H = some (.bool (boolV op a b), H) := by
  obtain ⟨x0, y0⟩ := hs.at (i := 0) (x := a) rfl
  obtain ⟨x1, y1⟩ := hs.at (i := 1) (x := b) rfl
  have x0' : aindexAddr Go.Proofs.Try.prog T_s_api_Bits s 0 = some (ixp s 3 0) := x0
  have x1' : aindexAddr Go.Proofs.Try.prog T_s_api_Bits s 1 = some (ixp s 3 1) := x1
  have z0 := y0 H (Keeps.refl H)
  have z1 := y1 H (Keeps.refl H)
  have hy := fun H => yes_run (v := a) (H := H)
  have hz := fun H => yes_run (v := b) (H := H)
  have hop : op = 4 ∨ op = 5 ∨ op = 6 ∨ op = 7 ∨ op = 8 := by omega
  rcases hop with rfl | rfl | rfl | rfl | rfl
  · rw [show boolF 4 = f_eval_bools_2 from rfl, e_eval_bools_2]
    cases ha : a.yes <;> rw [ha] at hy <;> simp (maxDischargeDepth := 40) [c_eval_bools_2, x0', z0, x1', z1, hy, hz, boolV, ha]
  · rw [show boolF 5 = f_eval_bools_3 from rfl, e_eval_bools_3]
    cases ha : a.yes <;> rw [ha] at hy <;> simp (maxDischargeDepth := 40) [c_eval_bools_3, x0', z0, x1', z1, hy, hz, boolV, ha]
  · rw [show boolF 6 = f_eval_bools_4 from rfl, e_eval_bools_4]
    simp (maxDischargeDepth := 40) [c_eval_bools_4, x0', z0, x1', z1, hy, hz, boolV, bne]
  · rw [show boolF 7 = f_eval_bools_5 from rfl, e_eval_bools_5]
    cases ha : a.yes <;> rw [ha] at hy <;> simp (maxDischargeDepth := 40) [c_eval_bools_5, x0', z0, x1', z1, hy, hz, boolV, ha]
  · rw [show boolF 8 = f_eval_bools_6 from rfl, e_eval_bools_6]
    simp (maxDischargeDepth := 40) [c_eval_bools_6, x0', z0, x1', z1, boolV, vl_eq, Bool.and_assoc]
theorem ite_run {H : AHeap} {s : AV} {a b c : Vl} {p q : Int} (hs : RV H s [a, b, c]) : R f_eval_bools_7 [.int .i64 p, .int .i64 q, s] H = some (.tup [(if a.yes = true then b else c).av, .int .i64 0], H) := by
  obtain ⟨x0, y0⟩ := hs.at (i := 0) (x := a) rfl
  obtain ⟨x1, y1⟩ := hs.at (i := 1) (x := b) rfl
  obtain ⟨x2, y2⟩ := hs.at (i := 2) (x := c) rfl
  have x0' : aindexAddr Go.Proofs.Try.prog T_s_api_Bits s 0 = some (ixp s 3 0) := x0
  have x1' : aindexAddr Go.Proofs.Try.prog T_s_api_Bits s 1 = some (ixp s 3 1) := x1
  have x2' : aindexAddr Go.Proofs.Try.prog T_s_api_Bits s 2 = some (ixp s 3 2) := x2
  have hy := fun H => yes_run (v := a) (H := H)
  rw [e_eval_bools_7]
  cases ha : a.yes <;> rw [ha] at hy <;> simp (maxDischargeDepth := 40) [c_eval_bools_7, x0', y0, x1', y1, x2', y2, hy]

/-- A Bool's meaning, called. -/
theorem logic1_run {H : AHeap} {s : AV} {f : FuncId} {b : Bool} {o : Nat} {p q : Int} (ho : o < H.size) (hf : H.obj o = .cells [.fn (.func f) [] []]) (h : ∀ H', Keeps H H' → R f [s] H' = some (.bool b, H')) : R f_eval_logic_1 [.int .i64 p, .int .i64 q, s, .ptr o 0] H = some (.tup [(Vl.bool b).av, .int .i64 0], H) := by
  have hb := fun H => bool_run (b := b) (H := H)
  have hne : ¬ o = H.size := Nat.ne_of_lt ho
  rw [e_eval_logic_1]
  simp (maxDischargeDepth := 40) [c_eval_logic_1, hf, hne, h, hb]

theorem back_open {H H' : AHeap} {v : AV} (hc : closed H.size v = false) : back [] H v H' = (v, H') := by
  unfold back
  rw [if_neg]
  rintro ⟨h, -⟩
  have : frz H' H.size [] v = v := by cases v <;> rfl
  rw [this, hc] at h
  cases h
theorem logic_run {H : AHeap} {f : FuncId} : ∃ H', R f_eval_logic [.fn (.func f) [] []] H = some (.agg [.fn (.func f_eval_logic_1) [] [.ptr H.size 0]], H') ∧ Keeps H H' ∧ H.size < H'.size ∧ H'.obj H.size = .cells [.fn (.func f) [] []] := by
  rw [e_eval_logic]
  simp (maxDischargeDepth := 40) [c_eval_logic]
  refine ⟨_, back_open ?_, ?_, ?_, ?_⟩
  · simp only [closed, closedL]; simp
  · exact ((Keeps.new _ _).trans (Keeps.new _ _)).set (Nat.le_succ _) _
  · simp
  · simp
/-- What 'bools' tells. -/
theorem bools_run {H : AHeap} {op : Int} : (3 ≤ op → op ≤ 8 → ∃ o H', R f_eval_bools [.int .i64 op] H = some (.tup [.agg [.fn (.func f_eval_logic_1) [] [.ptr o 0]], .bool true], H') ∧ Keeps H H' ∧ o < H'.size ∧ H'.obj o = .cells [.fn (.func (boolF op)) [] []]) ∧
    (op = 9 → R f_eval_bools [.int .i64 op] H = some (.tup [.agg [.fn (.func f_eval_bools_7) [] []], .bool true], H)) ∧ (¬ (3 ≤ op ∧ op ≤ 9) → R f_eval_bools [.int .i64 op] H = some (.tup [.agg [.nilf], .bool false], H)) := by
  rw [e_eval_bools]
  refine ⟨fun h1 h2 => ?_, fun h => ?_, fun h => ?_⟩
  · have hop : op = 3 ∨ op = 4 ∨ op = 5 ∨ op = 6 ∨ op = 7 ∨ op = 8 := by omega
    have main : ∀ f, ∃ o H', R f_eval_logic [.fn (.func f) [] []] (H.new (.cells [.nilf])) = some (.agg [.fn (.func f_eval_logic_1) [] [.ptr o 0]], H') ∧ Keeps (H.new (.cells [.nilf])) H' ∧ H.size < o ∧ o < H'.size ∧ H'.obj o = .cells [.fn (.func f) [] []] := fun f => by
      obtain ⟨H', h1, h2, h3, h4⟩ := logic_run (H := H.new (.cells [.nilf])) (f := f)
      exact ⟨_, H', h1, h2, by simp, h3, h4⟩
    have fin : ∀ (o : Nat) (H' : AHeap), Keeps (H.new (.cells [.nilf])) H' → H.size < o → o < H'.size → ∀ f, H'.obj o = .cells [.fn (.func f) [] []] → ∃ o_1 H'_1, back [] H (.tup [.agg [.fn (.func f_eval_logic_1) [] [.ptr o 0]], .bool true]) (H'.set H.size (.cells [.fn (.func f_eval_logic_1) [] [.ptr o 0]])) = (.tup [.agg [.fn (.func f_eval_logic_1) [] [.ptr o_1 0]], .bool true], H'_1) ∧ Keeps H H'_1 ∧ o_1 < H'_1.size ∧ H'_1.obj o_1 = .cells [.fn (.func f) [] []] := by
      intro o H' k ho ho' f hf
      rw [back_open (by simp [closed, closedL]; omega)]
      have k2 : Keeps H H' := (Keeps.new _ _).trans k
      exact ⟨o, _, rfl, k2.set (Nat.le_refl _) _, by simpa using ho', by rw [set_old (by omega)]; exact hf⟩
    rcases hop with rfl | rfl | rfl | rfl | rfl | rfl
    · obtain ⟨o, H', hr, k, ho, ho', hf⟩ := main f_eval_bools_1
      have hs : H'.obj H.size = .cells [.nilf] := by rw [k.obj _ (by simp)]; simp
      have hz : H.size < H'.size := by omega
      simp (maxDischargeDepth := 40) [c_eval_bools, hr, hs, boolF]
      exact fin o H' k ho ho' _ hf
    · obtain ⟨o, H', hr, k, ho, ho', hf⟩ := main f_eval_bools_2
      have hs : H'.obj H.size = .cells [.nilf] := by rw [k.obj _ (by simp)]; simp
      have hz : H.size < H'.size := by omega
      simp (maxDischargeDepth := 40) [c_eval_bools, hr, hs, boolF]
      exact fin o H' k ho ho' _ hf
    · obtain ⟨o, H', hr, k, ho, ho', hf⟩ := main f_eval_bools_3
      have hs : H'.obj H.size = .cells [.nilf] := by rw [k.obj _ (by simp)]; simp
      have hz : H.size < H'.size := by omega
      simp (maxDischargeDepth := 40) [c_eval_bools, hr, hs, boolF]
      exact fin o H' k ho ho' _ hf
    · obtain ⟨o, H', hr, k, ho, ho', hf⟩ := main f_eval_bools_4
      have hs : H'.obj H.size = .cells [.nilf] := by rw [k.obj _ (by simp)]; simp
      have hz : H.size < H'.size := by omega
      simp (maxDischargeDepth := 40) [c_eval_bools, hr, hs, boolF]
      exact fin o H' k ho ho' _ hf
    · obtain ⟨o, H', hr, k, ho, ho', hf⟩ := main f_eval_bools_5
      have hs : H'.obj H.size = .cells [.nilf] := by rw [k.obj _ (by simp)]; simp
      have hz : H.size < H'.size := by omega
      simp (maxDischargeDepth := 40) [c_eval_bools, hr, hs, boolF]
      exact fin o H' k ho ho' _ hf
    · obtain ⟨o, H', hr, k, ho, ho', hf⟩ := main f_eval_bools_6
      have hs : H'.obj H.size = .cells [.nilf] := by rw [k.obj _ (by simp)]; simp
      have hz : H.size < H'.size := by omega
      simp (maxDischargeDepth := 40) [c_eval_bools, hr, hs, boolF]
      exact fin o H' k ho ho' _ hf
  · subst h
    simp (maxDischargeDepth := 40) [c_eval_bools, closed, closedL]
  · have c3 : ¬ op = 3 := by omega
    have c4 : ¬ op = 4 := by omega
    have c5 : ¬ op = 5 := by omega
    have c6 : ¬ op = 6 := by omega
    have c7 : ¬ op = 7 := by omega
    have c8 : ¬ op = 8 := by omega
    have c9 : ¬ op = 9 := by omega
    simp (maxDischargeDepth := 40) [c_eval_bools, c3, c4, c5, c6, c7, c8, c9, closed, closedL]
theorem words_run {H : AHeap} {op : Int} : ∃ o H', R f_eval_words [.int .i64 op] H = some (.agg [.fn (.func f_eval_words_1) [] [.ptr o 0]], H') ∧ Keeps H H' ∧ o < H'.size ∧ H'.obj o = .cells [.int .i64 op] := by
  rw [e_eval_words]
  simp (maxDischargeDepth := 40) [c_eval_words]
  rw [back_open]
  rotate_left
  · simp only [closed, closedL]; simp
  refine ⟨_, _, rfl, ?_, ?_, ?_⟩
  · exact ((Keeps.new _ _).trans (Keeps.new _ _)).set (Nat.le_succ _) _
  · simp
  · simp
end Go.Proofs.Ytiaoojghohfkjaa
