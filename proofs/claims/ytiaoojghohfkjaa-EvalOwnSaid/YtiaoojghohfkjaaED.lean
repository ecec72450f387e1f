/- What an operator makes of values that fit is a value of the told sort; the evaluator's words. -/
import Derived.Test.YtiaoojghohfkjaaEC
namespace Go.Proofs.Ytiaoojghohfkjaa
set_option maxRecDepth 100000
set_option maxHeartbeats 2000000

theorem mean_bool {op p q : Int} (h : op ≤ 8) (l : List Vl) : meanV op p q l = Vl.bool (boolV op (l.getD 0 Vl.zero) (l.getD 1 Vl.zero)) := by
  unfold meanV; rw [if_pos h]
theorem mean_ite {p q : Int} (a b c : Vl) : meanV 9 p q [a, b, c] = if a.yes = true then b else c := rfl
theorem mean_not {p q : Int} {n : Nat} (hn : n ≤ 128) (x : BitVec n) : meanV 10 p q [Vl.of x] = Vl.of (~~~x) := by
  show Vl.of (~~~(Vl.of x).x n) = _
  rw [Vl.of_x hn]
theorem mean_neg {p q : Int} {n : Nat} (hn : n ≤ 128) (x : BitVec n) : meanV 11 p q [Vl.of x] = Vl.of (-x) := by
  show Vl.of (-(Vl.of x).x n) = _
  rw [Vl.of_x hn]
theorem mean_two {op p q : Int} (h1 : 12 ≤ op) (h2 : op ≤ 37) {n : Nat} (hn : n ≤ 128) (x y : BitVec n) : meanV op p q [Vl.of x, Vl.of y] = twoV op x y := by
  unfold meanV
  rw [if_neg (by omega), if_neg (by omega), if_neg (by omega), if_neg (by omega), if_pos h2]
  show twoV op ((Vl.of x).x n) ((Vl.of y).x n) = _
  rw [Vl.of_x hn, Vl.of_x hn]
theorem mean_concat {p q : Int} {n m : Nat} (hn : n ≤ 128) (hm : m ≤ 128) (x : BitVec n) (y : BitVec m) : meanV 38 p q [Vl.of x, Vl.of y] = Vl.of ((E x <<< m ||| E y).setWidth (n + m)) := by
  show Vl.of ((E ((Vl.of x).x n) <<< m ||| E ((Vl.of y).x m)).setWidth (n + m)) = _
  rw [Vl.of_x hn, Vl.of_x hm]
theorem mean_extract {i j n : Nat} (hn : n ≤ 128) (h : j ≤ i) (x : BitVec n) : meanV 39 i j [Vl.of x] = Vl.of ((E x >>> j).setWidth (i - j + 1)) := by
  have e : ((i : Int) - j).toNat = i - j := by omega
  show Vl.of ((E ((Vl.of x).x n) >>> j).setWidth (((i : Int) - j).toNat + 1)) = _
  rw [Vl.of_x hn, e]
theorem mean_zext {q : Int} {k n : Nat} (hn : n ≤ 128) (x : BitVec n) : meanV 40 k q [Vl.of x] = Vl.of ((E x).setWidth (n + k)) := by
  show Vl.of ((E ((Vl.of x).x n)).setWidth (n + k)) = _
  rw [Vl.of_x hn]
theorem mean_sext {q : Int} {k n : Nat} (hn : n ≤ 128) (x : BitVec n) : meanV 41 k q [Vl.of x] = Vl.of ((if x.msb = true then E x ||| ~~~maskN n else E x).setWidth (n + k)) := by
  show Vl.of ((if ((Vl.of x).x n).msb = true then E ((Vl.of x).x n) ||| ~~~maskN n else E ((Vl.of x).x n)).setWidth (n + k)) = _
  rw [Vl.of_x hn]
theorem mean_rotl {q : Int} {k n : Nat} (hn : n ≤ 128) (x : BitVec n) : meanV 42 k q [Vl.of x] = Vl.of (rotV x (k % n)) := by
  show Vl.of (rotV ((Vl.of x).x n) (k % n)) = _
  rw [Vl.of_x hn]
theorem mean_rotr {q : Int} {k n : Nat} (hn : n ≤ 128) (x : BitVec n) : meanV 43 k q [Vl.of x] = Vl.of (rotV x ((n - k % n) % n)) := by
  show Vl.of (rotV ((Vl.of x).x n) ((n - k % n) % n)) = _
  rw [Vl.of_x hn]
theorem mean_rep {q : Int} {k n : Nat} (hn : n ≤ 128) (x : BitVec n) : meanV 44 k q [Vl.of x] = Vl.of (repB x k) := by
  show Vl.of (repB ((Vl.of x).x n) k) = _
  rw [Vl.of_x hn]

theorem bool_w (b : Bool) : (Vl.bool b).w = 0 := rfl
theorem of_w {n : Nat} (x : BitVec n) : (Vl.of x).w = n := rfl
/-- What is made is right, and of the told sort. -/
theorem Fit.good {op p q s : Int} {l : List Vl} (h : Fit op p q l s) : (meanV op p q l).ok = true ∧ (meanV op p q l).w = s := by
  cases h with
  | not a h1 h2 h3 => rw [mean_bool (by omega)]; exact ⟨Vl.bool_ok _, rfl⟩
  | two a b h1 h2 h3 h4 => rw [mean_bool (by omega)]; exact ⟨Vl.bool_ok _, rfl⟩
  | eq a b h1 h2 h3 h4 h5 h6 => rw [mean_bool (by omega)]; exact ⟨Vl.bool_ok _, rfl⟩
  | ite c a b h1 h2 h3 h4 h5 h6 =>
    subst h1
    rw [mean_ite]
    split
    · exact ⟨h4, h6⟩
    · exact ⟨h5, rfl⟩
  | one n x h1 h2 h3 h4 h5 h6 =>
    rcases (by omega : op = 10 ∨ op = 11) with rfl | rfl
    · rw [mean_not h2]; exact ⟨Vl.of_ok h1 h2 _, rfl⟩
    · rw [mean_neg h2]; exact ⟨Vl.of_ok h1 h2 _, rfl⟩
  | word n x y h1 h2 h3 h4 h5 h6 =>
    rw [mean_two h3 (by omega) h2, twoV, if_pos h4]
    exact ⟨Vl.of_ok h1 h2 _, rfl⟩
  | cmp n x y h1 h2 h3 h4 h5 h6 =>
    rw [mean_two (by omega) (by omega) h2, twoV, if_neg (by omega), if_pos h4]
    exact ⟨Vl.bool_ok _, rfl⟩
  | comp n x y h1 h2 h3 h4 h5 =>
    rw [mean_two (by omega) (by omega) h2, twoV, if_neg (by omega), if_neg (by omega)]
    exact ⟨Vl.of_ok (by omega) (by omega) _, rfl⟩
  | concat n m x y h1 h2 h3 h4 h5 h6 =>
    subst h4
    rw [mean_concat (by omega) (by omega)]
    exact ⟨Vl.of_ok (by omega) h3 _, rfl⟩
  | extract n i j x h1 h2 h3 h4 h5 h6 h7 =>
    subst h3; subst h4; subst h5
    rw [mean_extract h2 h6]
    exact ⟨Vl.of_ok (by omega) (by omega) _, rfl⟩
  | ext n k x h1 h2 h3 h4 h5 h6 =>
    subst h5
    rcases (by omega : op = 40 ∨ op = 41) with rfl | rfl
    · rw [mean_zext (by omega)]; exact ⟨Vl.of_ok (by omega) h2 _, rfl⟩
    · rw [mean_sext (by omega)]; exact ⟨Vl.of_ok (by omega) h2 _, rfl⟩
  | rot n k x h1 h2 h3 h4 h5 h6 =>
    subst h5
    rcases (by omega : op = 42 ∨ op = 43) with rfl | rfl
    · rw [mean_rotl h2]; exact ⟨Vl.of_ok h1 h2 _, rfl⟩
    · rw [mean_rotr h2]; exact ⟨Vl.of_ok h1 h2 _, rfl⟩
  | rep n k x h1 h2 h3 h4 h5 h6 =>
    subst h4; subst h5
    have hn : n ≤ 128 := Nat.le_trans (Nat.le_mul_of_pos_right n h2) h3
    rw [mean_rep hn]
    exact ⟨Vl.of_ok (Nat.mul_pos h1 h2) h3 _, rfl⟩

/-! The program's words, each of its callees told. -/
abbrev Told1 (f : FuncId) (vs : List AV) (v : Vl) : Prop := ∀ H, R f vs H = some (.tup [.agg [.int .i64 v.w, u (lo v.n), u (hi v.n)], .int .i64 0], H)
theorem words1_one {H : AHeap} {s : AV} {a v : Vl} {op p q : Int} {o : Nat} (hs : RV H s [a]) (ho : o < H.size) (ob : H.obj o = .cells [.int .i64 op]) (h1 : 10 ≤ op) (h2 : op ≤ 11) (r : Told1 f_bv_One [.int .i64 op, .agg [.int .i64 a.w, u (lo a.n), u (hi a.n)]] v) :
    R f_eval_words_1 [.int .i64 p, .int .i64 q, s, .ptr o 0] H = some (.tup [v.av, .int .i64 0], H) := by
  obtain ⟨x0, y0⟩ := hs.at (i := 0) (x := a) rfl
  have x0' : aindexAddr Go.Proofs.Try.prog T_s_api_Bits s 0 = some (ixp s 3 0) := x0
  have hne : ¬ o = H.size := Nat.ne_of_lt ho
  rw [e_eval_words_1]
  rcases (by omega : op = 10 ∨ op = 11) with rfl | rfl <;> simp (maxDischargeDepth := 40) [c_eval_words_1, x0', y0, ob, hne, r]
theorem words1_concat {H : AHeap} {s : AV} {a b v : Vl} {p q : Int} {o : Nat} (hs : RV H s [a, b]) (ho : o < H.size) (ob : H.obj o = .cells [.int .i64 38]) (r : Told1 f_bv_Concat [.agg [.int .i64 a.w, u (lo a.n), u (hi a.n)], .agg [.int .i64 b.w, u (lo b.n), u (hi b.n)]] v) :
    R f_eval_words_1 [.int .i64 p, .int .i64 q, s, .ptr o 0] H = some (.tup [v.av, .int .i64 0], H) := by
  obtain ⟨x0, y0⟩ := hs.at (i := 0) (x := a) rfl
  obtain ⟨x1, y1⟩ := hs.at (i := 1) (x := b) rfl
  have x0' : aindexAddr Go.Proofs.Try.prog T_s_api_Bits s 0 = some (ixp s 3 0) := x0
  have x1' : aindexAddr Go.Proofs.Try.prog T_s_api_Bits s 1 = some (ixp s 3 1) := x1
  have hne : ¬ o = H.size := Nat.ne_of_lt ho
  rw [e_eval_words_1]
  simp (maxDischargeDepth := 40) [c_eval_words_1, x0', y0, x1', y1, ob, hne, r]
theorem words1_two {H : AHeap} {s : AV} {a b v : Vl} {op p q : Int} {o : Nat} (hs : RV H s [a, b]) (ho : o < H.size) (ob : H.obj o = .cells [.int .i64 op]) (h1 : 12 ≤ op) (h2 : op ≤ 37) (r : Told1 f_bv_Two [.int .i64 op, .agg [.int .i64 a.w, u (lo a.n), u (hi a.n)], .agg [.int .i64 b.w, u (lo b.n), u (hi b.n)]] v) :
    R f_eval_words_1 [.int .i64 p, .int .i64 q, s, .ptr o 0] H = some (.tup [v.av, .int .i64 0], H) := by
  obtain ⟨x0, y0⟩ := hs.at (i := 0) (x := a) rfl
  obtain ⟨x1, y1⟩ := hs.at (i := 1) (x := b) rfl
  have x0' : aindexAddr Go.Proofs.Try.prog T_s_api_Bits s 0 = some (ixp s 3 0) := x0
  have x1' : aindexAddr Go.Proofs.Try.prog T_s_api_Bits s 1 = some (ixp s 3 1) := x1
  have hne : ¬ o = H.size := Nat.ne_of_lt ho
  have d1 : ¬ op = 10 := by omega
  have d2 : ¬ op = 11 := by omega
  have d3 : ¬ op = 38 := by omega
  have d4 : ¬ op = 39 := by omega
  have d5 : ¬ op = 40 := by omega
  have d6 : ¬ op = 41 := by omega
  have d7 : ¬ op = 42 := by omega
  have d8 : ¬ op = 43 := by omega
  have d9 : ¬ op = 44 := by omega
  rw [e_eval_words_1]
  simp (maxDischargeDepth := 40) [c_eval_words_1, x0', y0, x1', y1, ob, hne, r, d1, d2, d3, d4, d5, d6, d7, d8, d9]
theorem words1_extract {H : AHeap} {s : AV} {a v : Vl} {p q : Int} {o : Nat} (hs : RV H s [a]) (ho : o < H.size) (ob : H.obj o = .cells [.int .i64 39]) (r : Told1 f_bv_Extract [.agg [.int .i64 a.w, u (lo a.n), u (hi a.n)], .int .i64 p, .int .i64 q] v) :
    R f_eval_words_1 [.int .i64 p, .int .i64 q, s, .ptr o 0] H = some (.tup [v.av, .int .i64 0], H) := by
  obtain ⟨x0, y0⟩ := hs.at (i := 0) (x := a) rfl
  have x0' : aindexAddr Go.Proofs.Try.prog T_s_api_Bits s 0 = some (ixp s 3 0) := x0
  have hne : ¬ o = H.size := Nat.ne_of_lt ho
  rw [e_eval_words_1]
  simp (maxDischargeDepth := 40) [c_eval_words_1, x0', y0, ob, hne, r]
theorem words1_ext {H : AHeap} {s : AV} {a v : Vl} {op p q : Int} {o : Nat} (hs : RV H s [a]) (ho : o < H.size) (ob : H.obj o = .cells [.int .i64 op]) (h1 : 40 ≤ op) (h2 : op ≤ 41) (r : Told1 f_bv_Extend [.agg [.int .i64 a.w, u (lo a.n), u (hi a.n)], .int .i64 p, .bool (decide (op = 41))] v) :
    R f_eval_words_1 [.int .i64 p, .int .i64 q, s, .ptr o 0] H = some (.tup [v.av, .int .i64 0], H) := by
  obtain ⟨x0, y0⟩ := hs.at (i := 0) (x := a) rfl
  have x0' : aindexAddr Go.Proofs.Try.prog T_s_api_Bits s 0 = some (ixp s 3 0) := x0
  have hne : ¬ o = H.size := Nat.ne_of_lt ho
  rw [e_eval_words_1]
  rcases (by omega : op = 40 ∨ op = 41) with rfl | rfl <;> simp only [Int.reduceEq, decide_false, decide_true] at r <;> simp (maxDischargeDepth := 40) [c_eval_words_1, x0', y0, ob, hne, r]
theorem words1_rot {H : AHeap} {s : AV} {a v : Vl} {op p q : Int} {o : Nat} (hs : RV H s [a]) (ho : o < H.size) (ob : H.obj o = .cells [.int .i64 op]) (h1 : 42 ≤ op) (h2 : op ≤ 43) (r : Told1 f_bv_Rotate [.agg [.int .i64 a.w, u (lo a.n), u (hi a.n)], .int .i64 p, .bool (decide (op = 42))] v) :
    R f_eval_words_1 [.int .i64 p, .int .i64 q, s, .ptr o 0] H = some (.tup [v.av, .int .i64 0], H) := by
  obtain ⟨x0, y0⟩ := hs.at (i := 0) (x := a) rfl
  have x0' : aindexAddr Go.Proofs.Try.prog T_s_api_Bits s 0 = some (ixp s 3 0) := x0
  have hne : ¬ o = H.size := Nat.ne_of_lt ho
  rw [e_eval_words_1]
  rcases (by omega : op = 42 ∨ op = 43) with rfl | rfl <;> simp only [Int.reduceEq, decide_false, decide_true] at r <;> simp (maxDischargeDepth := 40) [c_eval_words_1, x0', y0, ob, hne, r]
theorem words1_rep {H : AHeap} {s : AV} {a v : Vl} {p q : Int} {o : Nat} (hs : RV H s [a]) (ho : o < H.size) (ob : H.obj o = .cells [.int .i64 44]) (r : Told1 f_bv_Repeat [.agg [.int .i64 a.w, u (lo a.n), u (hi a.n)], .int .i64 p] v) :
    R f_eval_words_1 [.int .i64 p, .int .i64 q, s, .ptr o 0] H = some (.tup [v.av, .int .i64 0], H) := by
  obtain ⟨x0, y0⟩ := hs.at (i := 0) (x := a) rfl
  have x0' : aindexAddr Go.Proofs.Try.prog T_s_api_Bits s 0 = some (ixp s 3 0) := x0
  have hne : ¬ o = H.size := Nat.ne_of_lt ho
  rw [e_eval_words_1]
  simp (maxDischargeDepth := 40) [c_eval_words_1, x0', y0, ob, hne, r]
end Go.Proofs.Ytiaoojghohfkjaa
