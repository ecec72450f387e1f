/- The operators of the statements as rules of simp; words as the statements take them. -/
import Derived.Test.YtfjbdlfnoecejaaBR2
import Derived.Test.YtfjbdlfnoecejaaBV4
import Derived.Test.YtfjbdlfnoecejaaALC
namespace Go.Proofs.Ytfjbdlfnoecejaa
set_option maxRecDepth 100000

@[simp] theorem d_and {w : Nat} (h1 : 1 ≤ w) (hw : w ≤ 128) {a b : BitVec w} {H : AHeap} : R f_plaitlaw1_do [.int .i64 12, .agg [.int .i64 (w : Nat), u (lo (E a)), u (hi (E a))], .agg [.int .i64 (w : Nat), u (lo (E b)), u (hi (E b))]] H = some (.agg [.int .i64 (w : Nat), u (lo (E (a &&& b))), u (hi (E (a &&& b)))], H) := by
  have := (do_run h1 hw (n := 12) (a := a) (b := b) (H := H)).run
  rw [two_and hw] at this
  exact this
@[simp] theorem d_or {w : Nat} (h1 : 1 ≤ w) (hw : w ≤ 128) {a b : BitVec w} {H : AHeap} : R f_plaitlaw1_do [.int .i64 13, .agg [.int .i64 (w : Nat), u (lo (E a)), u (hi (E a))], .agg [.int .i64 (w : Nat), u (lo (E b)), u (hi (E b))]] H = some (.agg [.int .i64 (w : Nat), u (lo (E (a ||| b))), u (hi (E (a ||| b)))], H) := by
  have := (do_run h1 hw (n := 13) (a := a) (b := b) (H := H)).run
  rw [two_or hw] at this
  exact this
@[simp] theorem d_xor {w : Nat} (h1 : 1 ≤ w) (hw : w ≤ 128) {a b : BitVec w} {H : AHeap} : R f_plaitlaw1_do [.int .i64 14, .agg [.int .i64 (w : Nat), u (lo (E a)), u (hi (E a))], .agg [.int .i64 (w : Nat), u (lo (E b)), u (hi (E b))]] H = some (.agg [.int .i64 (w : Nat), u (lo (E (a ^^^ b))), u (hi (E (a ^^^ b)))], H) := by
  have := (do_run h1 hw (n := 14) (a := a) (b := b) (H := H)).run
  rw [two_xor hw] at this
  exact this
@[simp] theorem d_nand {w : Nat} (h1 : 1 ≤ w) (hw : w ≤ 128) {a b : BitVec w} {H : AHeap} : R f_plaitlaw1_do [.int .i64 15, .agg [.int .i64 (w : Nat), u (lo (E a)), u (hi (E a))], .agg [.int .i64 (w : Nat), u (lo (E b)), u (hi (E b))]] H = some (.agg [.int .i64 (w : Nat), u (lo (E (~~~(a &&& b)))), u (hi (E (~~~(a &&& b))))], H) := by
  have := (do_run h1 hw (n := 15) (a := a) (b := b) (H := H)).run
  rw [two_nand hw] at this
  exact this
@[simp] theorem d_nor {w : Nat} (h1 : 1 ≤ w) (hw : w ≤ 128) {a b : BitVec w} {H : AHeap} : R f_plaitlaw1_do [.int .i64 16, .agg [.int .i64 (w : Nat), u (lo (E a)), u (hi (E a))], .agg [.int .i64 (w : Nat), u (lo (E b)), u (hi (E b))]] H = some (.agg [.int .i64 (w : Nat), u (lo (E (~~~(a ||| b)))), u (hi (E (~~~(a ||| b))))], H) := by
  have := (do_run h1 hw (n := 16) (a := a) (b := b) (H := H)).run
  rw [two_nor hw] at this
  exact this
@[simp] theorem d_xnor {w : Nat} (h1 : 1 ≤ w) (hw : w ≤ 128) {a b : BitVec w} {H : AHeap} : R f_plaitlaw1_do [.int .i64 17, .agg [.int .i64 (w : Nat), u (lo (E a)), u (hi (E a))], .agg [.int .i64 (w : Nat), u (lo (E b)), u (hi (E b))]] H = some (.agg [.int .i64 (w : Nat), u (lo (E (~~~(a ^^^ b)))), u (hi (E (~~~(a ^^^ b))))], H) := by
  have := (do_run h1 hw (n := 17) (a := a) (b := b) (H := H)).run
  rw [two_xnor hw] at this
  exact this
@[simp] theorem d_add {w : Nat} (h1 : 1 ≤ w) (hw : w ≤ 128) {a b : BitVec w} {H : AHeap} : R f_plaitlaw1_do [.int .i64 18, .agg [.int .i64 (w : Nat), u (lo (E a)), u (hi (E a))], .agg [.int .i64 (w : Nat), u (lo (E b)), u (hi (E b))]] H = some (.agg [.int .i64 (w : Nat), u (lo (E (a + b))), u (hi (E (a + b)))], H) := by
  have := (do_run h1 hw (n := 18) (a := a) (b := b) (H := H)).run
  rw [two_add hw] at this
  exact this
@[simp] theorem d_sub {w : Nat} (h1 : 1 ≤ w) (hw : w ≤ 128) {a b : BitVec w} {H : AHeap} : R f_plaitlaw1_do [.int .i64 19, .agg [.int .i64 (w : Nat), u (lo (E a)), u (hi (E a))], .agg [.int .i64 (w : Nat), u (lo (E b)), u (hi (E b))]] H = some (.agg [.int .i64 (w : Nat), u (lo (E (a - b))), u (hi (E (a - b)))], H) := by
  have := (do_run h1 hw (n := 19) (a := a) (b := b) (H := H)).run
  rw [two_sub hw] at this
  exact this
@[simp] theorem d_mul {w : Nat} (h1 : 1 ≤ w) (hw : w ≤ 128) {a b : BitVec w} {H : AHeap} : R f_plaitlaw1_do [.int .i64 20, .agg [.int .i64 (w : Nat), u (lo (E a)), u (hi (E a))], .agg [.int .i64 (w : Nat), u (lo (E b)), u (hi (E b))]] H = some (.agg [.int .i64 (w : Nat), u (lo (E (a * b))), u (hi (E (a * b)))], H) := by
  have := (do_run h1 hw (n := 20) (a := a) (b := b) (H := H)).run
  rw [two_mul' hw] at this
  exact this
@[simp] theorem d_not {w : Nat} (h1 : 1 ≤ w) (hw : w ≤ 128) {a : BitVec w} {H : AHeap} : R f_plaitlaw1_one [.int .i64 10, .agg [.int .i64 (w : Nat), u (lo (E a)), u (hi (E a))]] H = some (.agg [.int .i64 (w : Nat), u (lo (E (~~~a))), u (hi (E (~~~a)))], H) := (lawone_run h1 hw (n := 10) (a := a) (H := H)).run
@[simp] theorem d_neg {w : Nat} (h1 : 1 ≤ w) (hw : w ≤ 128) {a : BitVec w} {H : AHeap} : R f_plaitlaw1_one [.int .i64 11, .agg [.int .i64 (w : Nat), u (lo (E a)), u (hi (E a))]] H = some (.agg [.int .i64 (w : Nat), u (lo (E (-a))), u (hi (E (-a)))], H) := (lawone_run h1 hw (n := 11) (a := a) (H := H)).run

theorem word_of {w : Int} (h0 : -9223372036854775808 ≤ w) (h1 : w ≤ 9223372036854775807) (a b : BitVec 64) : ∃ x : BitVec (wid w), ∀ H, R f_plaitlaw1_word [.int .i64 w, u a, u b] H = some (.agg [.int .i64 (wid w : Nat), u (lo (E x)), u (hi (E x))], H) := by
  refine ⟨(mkN a b).setWidth (wid w), fun H => ?_⟩
  have := (lword_run h0 h1 (x := mkN a b) (H := H)).run
  rw [lo_mk, hi_mk] at this
  exact this
@[simp] theorem s_known {H : AHeap} : R f_plaitlaw1_known [] H = some (.bool true, H) := known_run
theorem E_one {w : Nat} (h1 : 1 ≤ w) (hw : w ≤ 128) : E (1#w) = 1#128 := by
  apply BitVec.eq_of_getLsbD_eq
  intro i hi
  rw [E_bit hw, BitVec.getLsbD_one, BitVec.getLsbD_one]
  by_cases h : i = 0 <;> simp [h]; omega
theorem E_zero {w : Nat} : E (0#w) = 0#128 := by simp [E]
@[simp] theorem pair_dec' (x y : W128) : (decide (lo x = lo y) && decide (hi x = hi y)) = decide (x = y) := pair_dec x y
@[simp] theorem pair_and (x y : W128) : (lo x = lo y ∧ hi x = hi y) = (x = y) := propext ⟨fun h => pair_ext h.1 h.2, fun h => by rw [h]; exact ⟨rfl, rfl⟩⟩
@[simp] theorem E_iff' {w : Nat} (hw : w ≤ 128) (x y : BitVec w) : (E x = E y) = (x = y) := propext (E_iff hw x y)

theorem nat_and_or : ∀ x y : Nat, (x &&& y) + (x ||| y) = x + y := by
  intro x
  induction x using Nat.strongRecOn with
  | _ x ih =>
    intro y
    by_cases h0 : x = 0
    · subst h0; simp
    · have h := ih (x / 2) (by omega) (y / 2)
      have a1 : (x &&& y) / 2 = x / 2 &&& y / 2 := Nat.and_div_two
      have o1 : (x ||| y) / 2 = x / 2 ||| y / 2 := Nat.or_div_two
      have a2 : (x &&& y) % 2 = (x % 2) &&& (y % 2) := by have := Nat.and_mod_two_pow (a := x) (b := y) (n := 1); simpa using this
      have o2 : (x ||| y) % 2 = (x % 2) ||| (y % 2) := by have := Nat.or_mod_two_pow (a := x) (b := y) (n := 1); simpa using this
      have m : (x &&& y) % 2 + (x ||| y) % 2 = x % 2 + y % 2 := by
        rw [a2, o2]
        rcases Nat.mod_two_eq_zero_or_one x with h1 | h1 <;> rcases Nat.mod_two_eq_zero_or_one y with h2 | h2 <;> rw [h1, h2] <;> decide
      omega
theorem and_add_or {w : Nat} (a b : BitVec w) : (a &&& b) + (a ||| b) = a + b := by
  apply BitVec.eq_of_toNat_eq
  rw [BitVec.toNat_add, BitVec.toNat_add, BitVec.toNat_and, BitVec.toNat_or, nat_and_or]

set_option maxHeartbeats 8000000 in
theorem laws_run {w : Int} (h0 : -9223372036854775808 ≤ w) (h1 : w ≤ 9223372036854775807) {x1 x2 x3 x4 x5 x6 : BitVec 64} {H : AHeap} : R f_plaitlaw1_BvLaws [.int .i64 w, u x1, u x2, u x3, u x4, u x5, u x6] H = some (.bool true, H) := by
  obtain ⟨g1, g2⟩ := wid_le w
  obtain ⟨a, ha⟩ := word_of h0 h1 x1 x2
  obtain ⟨b, hb⟩ := word_of h0 h1 x3 x4
  obtain ⟨c, hc⟩ := word_of h0 h1 x5 x6
  generalize wid w = v at *
  have o1 := fun H => (do_run g1 g2 (n := 18) (a := ~~~a) (b := 1#v) (H := H)).run
  rw [two_add g2] at o1
  simp only [B, Bt, E_one g1 g2, lo_one, hi_one] at o1
  have e1 : b + a = a + b := BitVec.add_comm b a
  have e2 : b * a = a * b := BitVec.mul_comm b a
  have e3 : a + b + c = a + (b + c) := BitVec.add_assoc a b c
  have e4 : a * b * c = a * (b * c) := BitVec.mul_assoc a b c
  have e5 : a * (b + c) = a * b + a * c := BitVec.mul_add
  have e6 : a - b = a + -b := BitVec.sub_eq_add_neg a b
  have e7 : -a = ~~~a + 1#v := BitVec.neg_eq_not_add a
  have e8 : ~~~(a &&& b) = ~~~a ||| ~~~b := BitVec.not_and
  have e9 : ~~~(a ||| b) = ~~~a &&& ~~~b := BitVec.not_or
  have e10 : a ^^^ b ^^^ b = a := by rw [BitVec.xor_assoc, BitVec.xor_self, BitVec.xor_zero]
  have e11 : (a &&& b) + (a ||| b) = a + b := and_add_or a b
  rw [e_plaitlaw1_BvLaws]
  simp (maxDischargeDepth := 40) (maxSteps := 1000000) [c_plaitlaw1_BvLaws, g1, g2, ha, hb, hc, o1, e1, e2, e3, e4, e5, e6, e7, e8, e9, e10, e11]
theorem tv_int3 {d : Nat} {a : AV} (h : TV Go.Proofs.Try.prog (d + 1) 3 a) : ∃ n, a = .int .i64 n ∧ -9223372036854775808 ≤ n ∧ n ≤ 9223372036854775807 := tv_i64 Go.Proofs.Try.underlying3 h
theorem tv_u22 {d : Nat} {a : AV} (h : TV Go.Proofs.Try.prog (d + 1) 22 a) : ∃ x, a = u x := tv_u64 Go.Proofs.Try.underlying22 h
theorem BvLaws_law {a0 a1 a2 a3 a4 a5 a6 : AV} (y0 : TV Go.Proofs.Try.prog 8 3 a0) (y1 : TV Go.Proofs.Try.prog 8 22 a1) (y2 : TV Go.Proofs.Try.prog 8 22 a2) (y3 : TV Go.Proofs.Try.prog 8 22 a3) (y4 : TV Go.Proofs.Try.prog 8 22 a4) (y5 : TV Go.Proofs.Try.prog 8 22 a5) (y6 : TV Go.Proofs.Try.prog 8 22 a6) : ∃ H', R f_plaitlaw1_BvLaws [a0, a1, a2, a3, a4, a5, a6] H0 = some (.bool true, H') := by
  obtain ⟨n0, rfl, p0, q0⟩ := tv_int3 y0
  obtain ⟨x1, rfl⟩ := tv_u22 y1
  obtain ⟨x2, rfl⟩ := tv_u22 y2
  obtain ⟨x3, rfl⟩ := tv_u22 y3
  obtain ⟨x4, rfl⟩ := tv_u22 y4
  obtain ⟨x5, rfl⟩ := tv_u22 y5
  obtain ⟨x6, rfl⟩ := tv_u22 y6
  exact ⟨_, laws_run p0 q0⟩
end Go.Proofs.Ytfjbdlfnoecejaa
