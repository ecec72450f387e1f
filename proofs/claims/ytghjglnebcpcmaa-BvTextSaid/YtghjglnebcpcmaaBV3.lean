/- What the program's operators on words compute. What the program's operators on words compute: numbers and orders. What the program's operators on words compute: orders, and all of them together. What the program's operators on words compute: Two, One, Bit, New. -/
import Derived.Test.YtghjglnebcpcmaaBV2
/-! What the program's operators on words compute. -/
namespace Go.Proofs.Ytghjglnebcpcmaa
set_option maxRecDepth 100000

theorem zero_dec (x : W128) : (decide (lo x = 0#64) && decide (hi x = 0#64)) = decide (x = 0#128) := by rw [← Bool.decide_and, decide_eq_decide]; exact zero_iff x
def smodN {w : Nat} (a b : BitVec w) : W128 :=
  if E a.abs % E b.abs = 0#128 ∨ a.msb = false ∧ b.msb = false then E a.abs % E b.abs else if b.msb = false then E b - E a.abs % E b.abs else if a.msb = false then E a.abs % E b.abs + E b else -(E a.abs % E b.abs)

set_option maxHeartbeats 1000000 in
theorem smod_run {w : Nat} (h1 : 1 ≤ w) (hw : w ≤ 128) {a b : BitVec w} {H : AHeap} : Pure R f_bv_smod [B a, B b] H (N (smodN a b)) := by
  unfold Pure
  rw [e_bv_smod]
  unfold smodN
  generalize hm : a.msb = p
  generalize hn : b.msb = q
  by_cases h0 : E a.abs % E b.abs = 0#128
  · simp (maxDischargeDepth := 40) [c_bv_smod, B, Bt, N, h1, hw, h0]
  · cases p <;> cases q <;> simp (maxDischargeDepth := 40) [c_bv_smod, B, Bt, N, h1, hw, h0, zero_dec, hm, hn]

def bitF (n : Int) (x y : W128) : W128 := if n = 15 then ~~~(x &&& y) else if n = 12 then x &&& y else if n = 16 then ~~~(x ||| y) else if n = 13 then x ||| y else if n = 17 then ~~~(x ^^^ y) else x ^^^ y
theorem bitwise_run {n : Int} {x y : W128} {H : AHeap} : Pure R f_bv_bitwise [.int .i64 n, N x, N y] H (N (bitF n x y)) := by
  have ra := fun H => (nnot_run (x := x &&& y) (H := H)).run
  have ro := fun H => (nnot_run (x := x ||| y) (H := H)).run
  have rx := fun H => (nnot_run (x := x ^^^ y) (H := H)).run
  simp only [N, lo_and, hi_and, lo_or, hi_or, lo_xor, hi_xor] at ra ro rx
  unfold Pure bitF
  rw [e_bv_bitwise]
  by_cases c1 : n = 15
  · simp (maxDischargeDepth := 9) [c_bv_bitwise, N, c1, ra]
  by_cases c2 : n = 12
  · simp (maxDischargeDepth := 9) [c_bv_bitwise, N, c2, lo_and, hi_and]
  by_cases c3 : n = 16
  · simp (maxDischargeDepth := 9) [c_bv_bitwise, N, c3, ro]
  by_cases c4 : n = 13
  · simp (maxDischargeDepth := 9) [c_bv_bitwise, N, c4, lo_or, hi_or]
  by_cases c5 : n = 17
  · simp (maxDischargeDepth := 9) [c_bv_bitwise, N, c5, rx]
  · simp (maxDischargeDepth := 9) [c_bv_bitwise, N, c1, c2, c3, c4, c5, lo_xor, hi_xor]

def shN {w : Nat} (b : BitVec w) : Nat := if b.toNat < w then b.toNat else w
def shiftF {w : Nat} (n : Int) (a b : BitVec w) : W128 :=
  if n = 26 then E a <<< shN b else if n = 28 ∧ a.msb = true then E a >>> shN b ||| ~~~(maskN w >>> shN b) else E a >>> shN b
theorem sh_small {w : Nat} (hw : w ≤ 128) (b : BitVec w) : (hi (E b) = 0#64 ∧ (lo (E b)).toNat < w) ↔ b.toNat < w := by
  have h1 := hi_nat (E b)
  have h2 := lo_nat (E b)
  rw [E_nat hw] at h1 h2
  have h3 : hi (E b) = 0#64 ↔ (hi (E b)).toNat = 0 := ⟨fun h => by rw [h]; rfl, fun h => BitVec.eq_of_toNat_eq (by rw [h]; rfl)⟩
  rw [h3, h1, h2]
  omega
set_option maxHeartbeats 4000000 in
theorem shifted_run {w : Nat} (h1 : 1 ≤ w) (hw : w ≤ 128) {n : Int} {a b : BitVec w} {H : AHeap} : Pure R f_bv_shifted [.int .i64 n, B a, B b] H (N (shiftF n a b)) := by
  unfold Pure shiftF shN
  rw [e_bv_shifted]
  have hs := sh_small hw b
  have hlo := lo_nat (E b)
  rw [E_nat hw] at hlo
  have hW : ((BitVec.ofNat 64 w).toNat) = w := by rw [BitVec.toNat_ofNat]; omega
  by_cases hb : b.toNat < w
  · have hb1 := (hs.2 hb).1
    have hb2 := (hs.2 hb).2
    have hl : (lo (E b)).toNat = b.toNat := by rw [hlo]; omega
    have hb3 : b.toNat ≤ 128 := by omega
    have hb4 : lo (E b) < BitVec.ofNat 64 w := by rw [BitVec.lt_def, hW]; omega
    have w1 : IntKind.i64.wrap (b.toNat : Int) = (b.toNat : Int) := i64w (by omega) (by omega)
    by_cases c1 : n = 26
    · simp (maxDischargeDepth := 40) [c_bv_shifted, B, Bt, N, c1, hb, hb1, hl, hb3, hb4, w1]
    by_cases c2 : n = 28
    · cases hm : a.msb <;> simp (maxDischargeDepth := 40) [c_bv_shifted, B, Bt, N, h1, hw, c2, hb, hb1, hl, hb3, hb4, w1, hm, lo_or, hi_or]
    · simp (maxDischargeDepth := 40) [c_bv_shifted, B, Bt, N, c1, c2, hb, hb1, hl, hb3, hb4, w1]
  · by_cases hh : hi (E b) = 0#64
    · have hb4 : ¬ lo (E b) < BitVec.ofNat 64 w := by
        rw [BitVec.lt_def, hW]
        exact fun e => hb (hs.1 ⟨hh, e⟩)
      by_cases c1 : n = 26
      · simp (maxDischargeDepth := 40) [c_bv_shifted, B, Bt, N, hw, c1, hb, hh, hb4]
      by_cases c2 : n = 28
      · cases hm : a.msb <;> simp (maxDischargeDepth := 40) [c_bv_shifted, B, Bt, N, h1, hw, c2, hb, hh, hb4, hm, lo_or, hi_or]
      · simp (maxDischargeDepth := 40) [c_bv_shifted, B, Bt, N, hw, c1, c2, hb, hh, hb4]
    · by_cases c1 : n = 26
      · simp (maxDischargeDepth := 40) [c_bv_shifted, B, Bt, N, hw, c1, hb, hh]
      by_cases c2 : n = 28
      · cases hm : a.msb <;> simp (maxDischargeDepth := 40) [c_bv_shifted, B, Bt, N, h1, hw, c2, hb, hh, hm, lo_or, hi_or]
      · simp (maxDischargeDepth := 40) [c_bv_shifted, B, Bt, N, hw, c1, c2, hb, hh]
end Go.Proofs.Ytghjglnebcpcmaa
/-! What the program's operators on words compute: numbers and orders. -/
namespace Go.Proofs.Ytghjglnebcpcmaa
set_option maxRecDepth 100000

@[simp] theorem s_smod {w : Nat} (h1 : 1 ≤ w) (hw : w ≤ 128) {x y : BitVec w} {H : AHeap} : R f_bv_smod [.agg [.int .i64 (w : Nat), u (lo (E x)), u (hi (E x))], .agg [.int .i64 (w : Nat), u (lo (E y)), u (hi (E y))]] H = some (.agg [u (lo (smodN x y)), u (hi (smodN x y))], H) := (smod_run h1 hw).run

def udivN (w : Nat) (x y : W128) : W128 := if y = 0#128 then maskN w else x / y
def reckF {w : Nat} (n : Int) (a b : BitVec w) : W128 :=
  if n = 18 then E a + E b else if n = 19 then E a - E b else if n = 20 then E a * E b else if n = 21 then udivN w (E a) (E b) else if n = 22 then E a % E b
  else if n = 23 then (if (a.msb != b.msb) = true then -(udivN w (E a.abs) (E b.abs)) else udivN w (E a.abs) (E b.abs))
  else if n = 24 then (if a.msb = true then -(E a.abs % E b.abs) else E a.abs % E b.abs) else smodN a b

set_option maxHeartbeats 4000000 in
theorem reckoned_run {w : Nat} (h1 : 1 ≤ w) (hw : w ≤ 128) {n : Int} {a b : BitVec w} {H : AHeap} : Pure R f_bv_reckoned [.int .i64 n, B a, B b] H (N (reckF n a b)) := by
  unfold Pure reckF udivN
  rw [e_bv_reckoned]
  by_cases c1 : n = 18
  · simp (maxDischargeDepth := 40) [c_bv_reckoned, B, Bt, N, c1]
  by_cases c2 : n = 19
  · simp (maxDischargeDepth := 40) [c_bv_reckoned, B, Bt, N, c2]
  by_cases c3 : n = 20
  · simp (maxDischargeDepth := 40) [c_bv_reckoned, B, Bt, N, c3]
  by_cases c4 : n = 21
  · simp (maxDischargeDepth := 40) [c_bv_reckoned, B, Bt, N, hw, c4]
  by_cases c5 : n = 22
  · simp (maxDischargeDepth := 40) [c_bv_reckoned, B, Bt, N, hw, c5]
  by_cases c6 : n = 23
  · simp (maxDischargeDepth := 40) [c_bv_reckoned, B, Bt, N, h1, hw, c6]
  by_cases c7 : n = 24
  · simp (maxDischargeDepth := 40) [c_bv_reckoned, B, Bt, N, h1, hw, c7]
  · simp (maxDischargeDepth := 40) [c_bv_reckoned, B, Bt, N, h1, hw, c1, c2, c3, c4, c5, c6, c7]
end Go.Proofs.Ytghjglnebcpcmaa
/-! What the program's operators on words compute: orders, and all of them together. -/
namespace Go.Proofs.Ytghjglnebcpcmaa
set_option maxRecDepth 100000

theorem bitwise_un {n : Int} {x y : W128} {H : AHeap} : Pure R f_bv_bitwise [.int .i64 n, .agg [u (lo x), u (hi x)], .agg [u (lo y), u (hi y)]] H (.agg [u (lo (bitF n x y)), u (hi (bitF n x y))]) := bitwise_run
@[simp] theorem s_bitwise {n : Int} {x y : W128} {H : AHeap} : R f_bv_bitwise [.int .i64 n, .agg [u (lo x), u (hi x)], .agg [u (lo y), u (hi y)]] H = some (.agg [u (lo (bitF n x y)), u (hi (bitF n x y))], H) := bitwise_un.run
theorem reckoned_un {w : Nat} (h1 : 1 ≤ w) (hw : w ≤ 128) {n : Int} {x y : BitVec w} {H : AHeap} : Pure R f_bv_reckoned [.int .i64 n, .agg [.int .i64 (w : Nat), u (lo (E x)), u (hi (E x))], .agg [.int .i64 (w : Nat), u (lo (E y)), u (hi (E y))]] H (.agg [u (lo (reckF n x y)), u (hi (reckF n x y))]) := reckoned_run h1 hw
@[simp] theorem s_reckoned {w : Nat} (h1 : 1 ≤ w) (hw : w ≤ 128) {n : Int} {x y : BitVec w} {H : AHeap} : R f_bv_reckoned [.int .i64 n, .agg [.int .i64 (w : Nat), u (lo (E x)), u (hi (E x))], .agg [.int .i64 (w : Nat), u (lo (E y)), u (hi (E y))]] H = some (.agg [u (lo (reckF n x y)), u (hi (reckF n x y))], H) := (reckoned_un h1 hw).run
theorem shifted_un {w : Nat} (h1 : 1 ≤ w) (hw : w ≤ 128) {n : Int} {x y : BitVec w} {H : AHeap} : Pure R f_bv_shifted [.int .i64 n, .agg [.int .i64 (w : Nat), u (lo (E x)), u (hi (E x))], .agg [.int .i64 (w : Nat), u (lo (E y)), u (hi (E y))]] H (.agg [u (lo (shiftF n x y)), u (hi (shiftF n x y))]) := shifted_run h1 hw
@[simp] theorem s_shifted {w : Nat} (h1 : 1 ≤ w) (hw : w ≤ 128) {n : Int} {x y : BitVec w} {H : AHeap} : R f_bv_shifted [.int .i64 n, .agg [.int .i64 (w : Nat), u (lo (E x)), u (hi (E x))], .agg [.int .i64 (w : Nat), u (lo (E y)), u (hi (E y))]] H = some (.agg [u (lo (shiftF n x y)), u (hi (shiftF n x y))], H) := (shifted_un h1 hw).run
@[simp] theorem s_bool {b : Bool} {H : AHeap} : R f_bv_Bool [.bool b] H = some (Bt 0 (if b = true then 1#128 else 0#128), H) := boolB_run.run

/-- The signs' bit, for the signed orders. -/
def topN (w : Nat) : W128 := 1#128 <<< (w - 1)
def cmpN (n : Int) (x y : W128) : Bool :=
  if n = 29 ∨ n = 33 then decide (x < y) else if n = 30 ∨ n = 34 then !decide (y < x) else if n = 31 ∨ n = 35 then decide (y < x) else !decide (x < y)
def cmpF {w : Nat} (n : Int) (a b : BitVec w) : Bool :=
  if n = 33 ∨ n = 34 ∨ n = 35 ∨ n = 36 then cmpN n (E a ^^^ topN w) (E b ^^^ topN w) else cmpN n (E a) (E b)

set_option maxHeartbeats 4000000 in
theorem compared_run {w : Nat} (h1 : 1 ≤ w) (hw : w ≤ 128) {n : Int} {a b : BitVec w} {H : AHeap} : Pure R f_bv_compared [.int .i64 n, B a, B b] H (.bool (cmpF n a b)) := by
  have w1 : IntKind.i64.wrap ((w : Int) - 1) = ((w - 1 : Nat) : Int) := by rw [i64w (by omega) (by omega)]; omega
  have w2 : w - 1 ≤ 128 := by omega
  have rl := fun H => (nleft_run (x := 1#128) (n := w - 1) w2 (H := H)).run
  have ra := fun H => (nless_run (x := E a ^^^ topN w) (y := E b ^^^ topN w) (H := H)).run
  have rb := fun H => (nless_run (x := E b ^^^ topN w) (y := E a ^^^ topN w) (H := H)).run
  simp only [N, lo_xor, hi_xor, show lo (1#128 : W128) = 1#64 from rfl, show hi (1#128 : W128) = 0#64 from rfl, show (1#128 : W128) <<< (w - 1) = topN w from rfl] at rl ra rb
  unfold Pure cmpF cmpN
  rw [e_bv_compared]
  by_cases c1 : n = 33
  · simp (maxDischargeDepth := 40) [c_bv_compared, B, Bt, c1, w1, rl, ra]
  by_cases c2 : n = 34
  · simp (maxDischargeDepth := 40) [c_bv_compared, B, Bt, c2, w1, rl, rb]
  by_cases c3 : n = 35
  · simp (maxDischargeDepth := 40) [c_bv_compared, B, Bt, c3, w1, rl, rb]
  by_cases c4 : n = 36
  · simp (maxDischargeDepth := 40) [c_bv_compared, B, Bt, c4, w1, rl, ra]
  by_cases c5 : n = 29
  · simp (maxDischargeDepth := 40) [c_bv_compared, B, Bt, c5]
  by_cases c6 : n = 30
  · simp (maxDischargeDepth := 40) [c_bv_compared, B, Bt, c6]
  by_cases c7 : n = 31
  · simp (maxDischargeDepth := 40) [c_bv_compared, B, Bt, c7]
  · simp (maxDischargeDepth := 40) [c_bv_compared, B, Bt, c1, c2, c3, c4, c5, c6, c7]
end Go.Proofs.Ytghjglnebcpcmaa
/-! What the program's operators on words compute: Two, One, Bit, New. -/
namespace Go.Proofs.Ytghjglnebcpcmaa
set_option maxRecDepth 100000

@[simp] theorem s_compared {w : Nat} (h1 : 1 ≤ w) (hw : w ≤ 128) {n : Int} {x y : BitVec w} {H : AHeap} : R f_bv_compared [.int .i64 n, .agg [.int .i64 (w : Nat), u (lo (E x)), u (hi (E x))], .agg [.int .i64 (w : Nat), u (lo (E y)), u (hi (E y))]] H = some (.bool (cmpF n x y), H) := (compared_run h1 hw).run

/-- A Bool as a value. -/
def BB (b : Bool) : AV := Bt 0 (if b = true then 1#128 else 0#128)
def twoF {w : Nat} (n : Int) (a b : BitVec w) : AV :=
  if 12 ≤ n ∧ n ≤ 17 then B ((bitF n (E a) (E b)).setWidth w) else if 18 ≤ n ∧ n ≤ 25 then B ((reckF n a b).setWidth w) else if 26 ≤ n ∧ n ≤ 28 then B ((shiftF n a b).setWidth w)
  else if 29 ≤ n ∧ n ≤ 36 then BB (cmpF n a b) else if n = 8 then BB (decide (a = b)) else if n = 37 then B (w := 1) (if a = b then 1#1 else 0#1) else Bt 0 0#128
def twoE (n : Int) : Int := if 12 ≤ n ∧ n ≤ 37 ∨ n = 8 then 0 else 11

theorem pair_dec (x y : W128) : (decide (lo x = lo y) && decide (hi x = hi y)) = decide (x = y) := by
  rw [← Bool.decide_and, decide_eq_decide]
  exact ⟨fun h => pair_ext h.1 h.2, fun h => by rw [h]; exact ⟨rfl, rfl⟩⟩
theorem E_iff {w : Nat} (hw : w ≤ 128) (x y : BitVec w) : E x = E y ↔ x = y := ⟨E_inj hw, fun h => by rw [h]⟩

set_option maxHeartbeats 4000000 in
theorem two_run {w : Nat} (h1 : 1 ≤ w) (hw : w ≤ 128) {n : Int} {a b : BitVec w} {H : AHeap} : Pure R f_bv_Two [.int .i64 n, B a, B b] H (.tup [twoF n a b, .int .i64 (twoE n)]) := by
  have he := E_iff hw a b
  unfold Pure twoF twoE BB
  rw [e_bv_Two]
  by_cases c1 : 12 ≤ n ∧ n ≤ 17
  · have d : n ≤ 37 := by omega
    simp (maxDischargeDepth := 40) [c_bv_Two, B, Bt, h1, hw, c1.1, c1.2, d]
  by_cases c2 : 18 ≤ n ∧ n ≤ 25
  · have d1 : 12 ≤ n := by omega
    have d2 : ¬ n ≤ 17 := by omega
    have d3 : n ≤ 37 := by omega
    simp (maxDischargeDepth := 40) [c_bv_Two, B, Bt, h1, hw, c2.1, c2.2, d1, d2, d3]
  by_cases c3 : 26 ≤ n ∧ n ≤ 28
  · have d1 : 12 ≤ n := by omega
    have d2 : ¬ n ≤ 17 := by omega
    have d3 : n ≤ 37 := by omega
    have d4 : 18 ≤ n := by omega
    have d5 : ¬ n ≤ 25 := by omega
    simp (maxDischargeDepth := 40) [c_bv_Two, B, Bt, h1, hw, c3.1, c3.2, d1, d2, d3, d4, d5]
  by_cases c4 : 29 ≤ n ∧ n ≤ 36
  · have d1 : 12 ≤ n := by omega
    have d2 : ¬ n ≤ 17 := by omega
    have d3 : n ≤ 37 := by omega
    have d4 : 18 ≤ n := by omega
    have d5 : ¬ n ≤ 25 := by omega
    have d6 : 26 ≤ n := by omega
    have d7 : ¬ n ≤ 28 := by omega
    simp (maxDischargeDepth := 40) [c_bv_Two, B, Bt, h1, hw, c4.1, c4.2, d1, d2, d3, d4, d5, d6, d7]
  by_cases c5 : n = 8
  · subst c5
    simp (maxDischargeDepth := 40) [c_bv_Two, B, Bt, h1, hw, pair_dec, he]
  by_cases c6 : n = 37
  · subst c6
    by_cases hab : a = b
    · subst hab
      have r := fun H => (cutB_run (w := 1) (by decide) (z := 1#128) (H := H)).run
      rw [show BitVec.setWidth 1 (1#128) = 1#1 from rfl] at r
      simp only [N, B, Bt, show hi (1#128 : W128) = 0#64 from rfl, show ((1 : Nat) : Int) = 1 from rfl, lo_one] at r
      simp (maxDischargeDepth := 40) [c_bv_Two, B, Bt, h1, hw, r]
    · have r := fun H => (cutB_run (w := 1) (by decide) (z := 0#128) (H := H)).run
      rw [show BitVec.setWidth 1 (0#128) = 0#1 from rfl] at r
      simp only [N, B, Bt, show hi (0#128 : W128) = 0#64 from rfl, show lo (0#128 : W128) = 0#64 from rfl, show ((1 : Nat) : Int) = 1 from rfl] at r
      simp (maxDischargeDepth := 40) [c_bv_Two, B, Bt, h1, hw, pair_dec, he, hab, r, show hi (0#128 : W128) = 0#64 from rfl, show lo (0#128 : W128) = 0#64 from rfl]
  · have g1 : (decide (12 ≤ n) && decide (n ≤ 17)) = false := by simp; omega
    have g2 : (decide (18 ≤ n) && decide (n ≤ 25)) = false := by simp; omega
    have g3 : (decide (26 ≤ n) && decide (n ≤ 28)) = false := by simp; omega
    have g4 : (decide (29 ≤ n) && decide (n ≤ 36)) = false := by simp; omega
    have g5 : ¬ (12 ≤ n ∧ n ≤ 37) := by omega
    rw [if_neg c1, if_neg c2, if_neg c3, if_neg c4, if_neg c5, if_neg c6, if_neg (by omega)]
    by_cases i1 : 12 ≤ n
    · have d1 : 18 ≤ n := by omega
      have d2 : 26 ≤ n := by omega
      have d3 : 29 ≤ n := by omega
      have f1 : ¬ n ≤ 17 := by omega
      have f2 : ¬ n ≤ 25 := by omega
      have f3 : ¬ n ≤ 28 := by omega
      have f4 : ¬ n ≤ 36 := by omega
      simp (maxDischargeDepth := 40) [c_bv_Two, B, Bt, h1, hw, i1, d1, d2, d3, f1, f2, f3, f4, c5, c6, show hi (0#128 : W128) = 0#64 from rfl, show lo (0#128 : W128) = 0#64 from rfl]
    · have d1 : ¬ 18 ≤ n := by omega
      have d2 : ¬ 26 ≤ n := by omega
      have d3 : ¬ 29 ≤ n := by omega
      simp (maxDischargeDepth := 40) [c_bv_Two, B, Bt, h1, hw, i1, d1, d2, d3, c5, c6, show hi (0#128 : W128) = 0#64 from rfl, show lo (0#128 : W128) = 0#64 from rfl]

def oneF {w : Nat} (n : Int) (a : BitVec w) : AV := if n = 10 then B (~~~a) else if n = 11 then B (-a) else Bt 0 0#128
theorem set_not {w : Nat} (hw : w ≤ 128) (x : BitVec w) : (~~~E x).setWidth w = ~~~x := by
  apply BitVec.eq_of_getLsbD_eq
  intro i hi
  have : i < 128 := by omega
  rw [BitVec.getLsbD_setWidth, BitVec.getLsbD_not, E_bit hw, BitVec.getLsbD_not]
  simp [hi, this]
set_option maxHeartbeats 4000000 in
theorem one_run {w : Nat} (h1 : 1 ≤ w) (hw : w ≤ 128) {n : Int} {a : BitVec w} {H : AHeap} : Pure R f_bv_One [.int .i64 n, B a] H (.tup [oneF n a, .int .i64 (if n = 10 ∨ n = 11 then 0 else 11)]) := by
  have e1 := set_not hw a
  have e2 := set_neg hw (E a)
  rw [E_set hw] at e2
  unfold Pure oneF
  rw [e_bv_One]
  by_cases c1 : n = 10
  · simp (maxDischargeDepth := 40) [c_bv_One, B, Bt, h1, hw, c1, e1]
  by_cases c2 : n = 11
  · simp (maxDischargeDepth := 40) [c_bv_One, B, Bt, h1, hw, c2, e2]
  · simp (maxDischargeDepth := 40) [c_bv_One, B, Bt, h1, hw, c1, c2, show hi (0#128 : W128) = 0#64 from rfl, show lo (0#128 : W128) = 0#64 from rfl]
end Go.Proofs.Ytghjglnebcpcmaa
