/- The chapter's examples hold. -/
import Derived.Test.YtghjglnebcpcmaaBVP
import Derived.Test.YtghjglnebcpcmaaBRN
namespace Go.Proofs.Ytghjglnebcpcmaa
set_option maxRecDepth 100000

theorem index_run {s : ByteArray} {n : Nat} (_hn : n < 256) {H : AHeap} : R f_strings_IndexByte [.str s, .int .u8 n] H = some (.int .i64 (firstIdx s (UInt8.ofNat n)), H) := by
  have h1 : R f_internal_bytealg_IndexByteString [.str s, .int .u8 n] H = some (.int .i64 (firstIdx s (UInt8.ofNat n)), H) := by
    rw [e_internal_bytealg_IndexByteString]; simp [Nat.toUInt8]
  have h2 : R f_internal_stringslite_IndexByte [.str s, .int .u8 n] H = some (.int .i64 (firstIdx s (UInt8.ofNat n)), H) := by
    rw [e_internal_stringslite_IndexByte]; simp [c_internal_stringslite_IndexByte, h1]
  rw [e_strings_IndexByte]; simp [c_strings_IndexByte, h2]

theorem digits_ex {H : AHeap} : R f_bv_digits [.str ⟨#[102, 70]⟩, .int .i64 4] H = some (.tup [.agg [.int .i64 8, u 255#64, u 0#64], .bool true], H) := by
  have i1 := fun H => index_run (s := ⟨#[48, 49, 50, 51, 52, 53, 54, 55, 56, 57, 97, 98, 99, 100, 101, 102]⟩) (n := 102) (by decide) (H := H)
  have i2 := fun H => index_run (s := ⟨#[48, 49, 50, 51, 52, 53, 54, 55, 56, 57, 97, 98, 99, 100, 101, 102]⟩) (n := 70) (by decide) (H := H)
  rw [show firstIdx ⟨#[48, 49, 50, 51, 52, 53, 54, 55, 56, 57, 97, 98, 99, 100, 101, 102]⟩ (UInt8.ofNat 102) = 15 from by decide] at i1
  rw [show firstIdx ⟨#[48, 49, 50, 51, 52, 53, 54, 55, 56, 57, 97, 98, 99, 100, 101, 102]⟩ (UInt8.ofNat 70) = -1 from by decide] at i2
  have l1 := fun H => (nleft_run (x := 0#128) (n := 4) (by omega) (H := H)).run
  have l2 := fun H => (nleft_run (x := 15#128) (n := 4) (by omega) (H := H)).run
  have c1 := fun H => (cutB_run (w := 8) (by omega) (z := 255#128) (H := H)).run
  simp only [N, B, Bt, show lo (0#128 <<< 4) = 0#64 from by decide, show hi (0#128 <<< 4) = 0#64 from by decide, show lo (15#128) = 15#64 from by decide, show hi (15#128) = 0#64 from by decide, show lo (15#128 <<< 4) = 240#64 from by decide, show hi (15#128 <<< 4) = 0#64 from by decide,
    show lo (255#128) = 255#64 from by decide, show hi (255#128) = 0#64 from by decide, show lo (E (BitVec.setWidth 8 255#128)) = 255#64 from by decide, show hi (E (BitVec.setWidth 8 255#128)) = 0#64 from by decide, lo_zero, hi_zero, show ((4 : Nat) : Int) = 4 from rfl, show ((8 : Nat) : Int) = 8 from rfl, show ((102 : Nat) : Int) = 102 from rfl, show ((70 : Nat) : Int) = 70 from rfl] at i1 i2 l1 l2 c1
  rw [e_bv_digits]
  have sz : ByteArray.size ⟨#[102, 70]⟩ = 2 := rfl
  simp (maxDischargeDepth := 40) [c_bv_digits, sz]
  rw [loopL_un l_bv_digits_0.eq_1]
  simp (maxDischargeDepth := 40) [i1, l1]
  rw [loopL_un l_bv_digits_0.eq_1]
  simp (maxDischargeDepth := 40) [i2, l2, IntKind.wrap_u8]
  rw [loopL_un l_bv_digits_0.eq_1]
  simp (maxDischargeDepth := 40) [sz, c1]

theorem prefix_ex {s p : ByteArray} {b : Bool} (h1 : p.size ≤ s.size) (h2 : decide (s.extract 0 p.size = p) = b) (_h3 : p.size ≤ 100) {H : AHeap} : R f_strings_HasPrefix [.str s, .str p] H = some (.bool b, H) := by
  have g : R f_internal_stringslite_HasPrefix [.str s, .str p] H = some (.bool b, H) := by
    rw [e_internal_stringslite_HasPrefix]
    have c1 : ¬ (s.size : Int) < p.size := by omega
    have c2 : (p.size : Int) ≤ s.size := by omega
    simp (maxDischargeDepth := 40) [c_internal_stringslite_HasPrefix, c2, h2]
  rw [e_strings_HasPrefix]
  simp [c_strings_HasPrefix, g]

theorem parse_ex {H : AHeap} : R f_bv_Parse [.str ⟨#[35, 120, 102, 70]⟩] H = some (.tup [.agg [.int .i64 8, u 255#64, u 0#64], .int .i64 0], H) := by
  have p1 := fun H => prefix_ex (s := ⟨#[35, 120, 102, 70]⟩) (p := ⟨#[35, 98]⟩) (b := false) (by decide) (by decide) (by decide) (H := H)
  have p2 := fun H => prefix_ex (s := ⟨#[35, 120, 102, 70]⟩) (p := ⟨#[35, 120]⟩) (b := true) (by decide) (by decide) (by decide) (H := H)
  have n1 : ¬ (⟨#[35, 120, 102, 70]⟩ : ByteArray) = ⟨#[116, 114, 117, 101]⟩ := by decide
  have n2 : ¬ (⟨#[35, 120, 102, 70]⟩ : ByteArray) = ⟨#[102, 97, 108, 115, 101]⟩ := by decide
  have sz : ByteArray.size ⟨#[35, 120, 102, 70]⟩ = 4 := rfl
  have ex : ByteArray.extract ⟨#[35, 120, 102, 70]⟩ 2 4 = ⟨#[102, 70]⟩ := by decide
  have d := fun H => digits_ex (H := H)
  rw [e_bv_Parse]
  simp (maxDischargeDepth := 40) [c_bv_Parse, p1, p2, n1, n2, sz, ex, d]

theorem text_ex {H : AHeap} : R f_bv_Text [.agg [.int .i64 0, u 1#64, u 0#64]] H = some (.str ⟨#[116, 114, 117, 101]⟩, H) := by
  have r : ∀ H, R f_bv_Right [.agg [.int .i64 0, u 1#64, u 0#64]] H = some (.bool true, H) := fun H => by
    rw [e_bv_Right]
    simp (maxDischargeDepth := 40) [c_bv_Right]
  rw [e_bv_Text]
  simp (maxDischargeDepth := 40) [c_bv_Text, r, Bt]

theorem right_ex {H : AHeap} : R f_bv_Right [.agg [.int .i64 4, u 16#64, u 0#64]] H = some (.bool false, H) := by
  have g1 := fun H => (cutB_run (w := 4) (by omega) (z := 16#128) (H := H)).run
  have g2 := fun H => (of_run (a := .int .i64 4) (x := 16#128) (H := H)).run
  simp only [N, B, Bt, show lo (16#128) = 16#64 from by decide, show hi (16#128) = 0#64 from by decide, show lo (E (BitVec.setWidth 4 16#128)) = 0#64 from by decide, show hi (E (BitVec.setWidth 4 16#128)) = 0#64 from by decide, show ((4 : Nat) : Int) = 4 from rfl] at g1 g2
  rw [e_bv_Right]
  simp (maxDischargeDepth := 40) [c_bv_Right, g1, g2]

theorem four_ex {x : BitVec 64} {H : AHeap} : R f_plaitlaw1_four [u x] H = some (.agg [.int .i64 4, u x, u 0#64], H) := by
  rw [e_plaitlaw1_four]
  simp (maxDischargeDepth := 40) [c_plaitlaw1_four]

theorem two_ex {n : Int} (a b : BitVec 4) {z : W128} {x y t : BitVec 64} (h1 : twoF n a b = Bt 4 z) (h2 : twoE n = 0) (hx : lo (E a) = x) (hy : lo (E b) = y) (ha : hi (E a) = 0#64) (hb : hi (E b) = 0#64) (ht : lo z = t) {H : AHeap} : R f_plaitlaw1_two [.int .i64 n, u x, u y] H = some (u t, H) := by
  have g := fun H => (two_run (w := 4) (by omega) (by omega) (n := n) (a := a) (b := b) (H := H)).run
  have f1 := fun H => four_ex (x := x) (H := H)
  have f2 := fun H => four_ex (x := y) (H := H)
  rw [h1, h2] at g
  simp only [B, Bt, hx, hy, ha, hb, ht, show ((4 : Nat) : Int) = 4 from rfl] at g
  rw [e_plaitlaw1_two]
  simp (maxDischargeDepth := 40) [c_plaitlaw1_two, f1, f2, g]
end Go.Proofs.Ytghjglnebcpcmaa
/-! The chapter's examples hold, all of them. -/
namespace Go.Proofs.Ytghjglnebcpcmaa
set_option maxRecDepth 100000

theorem new_ex {H : AHeap} : R f_bv_New [.int .i64 129, u 0#64, u 0#64] H = some (.tup [.agg [.int .i64 0, u 0#64, u 0#64], .int .i64 10], H) := by
  rw [e_bv_New]
  simp (maxDischargeDepth := 40) [c_bv_New]

set_option maxHeartbeats 8000000 in
theorem examples_run {H : AHeap} : R f_plaitlaw1_examples [] H = some (.bool true, H) := by
  have t0 := fun H => two_ex (n := 21) 7#4 0#4 (z := E ((reckF 21 (7#4) (0#4)).setWidth 4)) (x := 7#64) (y := 0#64) (t := 15#64) (by rfl) (by rfl) (by decide) (by decide) (by decide) (by decide) (by decide) (H := H)
  have t1 := fun H => two_ex (n := 22) 7#4 0#4 (z := E ((reckF 22 (7#4) (0#4)).setWidth 4)) (x := 7#64) (y := 0#64) (t := 7#64) (by rfl) (by rfl) (by decide) (by decide) (by decide) (by decide) (by decide) (H := H)
  have t2 := fun H => two_ex (n := 23) 8#4 15#4 (z := E ((reckF 23 (8#4) (15#4)).setWidth 4)) (x := 8#64) (y := 15#64) (t := 8#64) (by rfl) (by rfl) (by decide) (by decide) (by decide) (by decide) (by decide) (H := H)
  have t3 := fun H => two_ex (n := 23) 9#4 2#4 (z := E ((reckF 23 (9#4) (2#4)).setWidth 4)) (x := 9#64) (y := 2#64) (t := 13#64) (by rfl) (by rfl) (by decide) (by decide) (by decide) (by decide) (by decide) (H := H)
  have t4 := fun H => two_ex (n := 24) 9#4 2#4 (z := E ((reckF 24 (9#4) (2#4)).setWidth 4)) (x := 9#64) (y := 2#64) (t := 15#64) (by rfl) (by rfl) (by decide) (by decide) (by decide) (by decide) (by decide) (H := H)
  have t5 := fun H => two_ex (n := 25) 9#4 2#4 (z := E ((reckF 25 (9#4) (2#4)).setWidth 4)) (x := 9#64) (y := 2#64) (t := 1#64) (by rfl) (by rfl) (by decide) (by decide) (by decide) (by decide) (by decide) (H := H)
  have t6 := fun H => two_ex (n := 25) 7#4 14#4 (z := E ((reckF 25 (7#4) (14#4)).setWidth 4)) (x := 7#64) (y := 14#64) (t := 15#64) (by rfl) (by rfl) (by decide) (by decide) (by decide) (by decide) (by decide) (H := H)
  have t7 := fun H => two_ex (n := 23) 7#4 0#4 (z := E ((reckF 23 (7#4) (0#4)).setWidth 4)) (x := 7#64) (y := 0#64) (t := 15#64) (by rfl) (by rfl) (by decide) (by decide) (by decide) (by decide) (by decide) (H := H)
  have t8 := fun H => two_ex (n := 23) 9#4 0#4 (z := E ((reckF 23 (9#4) (0#4)).setWidth 4)) (x := 9#64) (y := 0#64) (t := 1#64) (by rfl) (by rfl) (by decide) (by decide) (by decide) (by decide) (by decide) (H := H)
  have t9 := fun H => two_ex (n := 28) 8#4 9#4 (z := E ((shiftF 28 (8#4) (9#4)).setWidth 4)) (x := 8#64) (y := 9#64) (t := 15#64) (by rfl) (by rfl) (by decide) (by decide) (by decide) (by decide) (by decide) (H := H)
  have t10 := fun H => two_ex (n := 20) 5#4 5#4 (z := E ((reckF 20 (5#4) (5#4)).setWidth 4)) (x := 5#64) (y := 5#64) (t := 9#64) (by rfl) (by rfl) (by decide) (by decide) (by decide) (by decide) (by decide) (H := H)
  have f1 := fun H => four_ex (x := 12#64) (H := H)
  have f2 := fun H => four_ex (x := 8#64) (H := H)
  have f3 := fun H => four_ex (x := 1#64) (H := H)
  have f4 := fun H => four_ex (x := 10#64) (H := H)
  have g1 := fun H => (rotate_left (w := 4) (n := 1) (k := 1) (d := 3) (by omega) (by omega) (by rfl) (by rfl) (a := 12#4) (H := H)).run
  have g2 := fun H => (concat_run (w := 1) (v := 1) (s := 2) (by omega) (by omega) (by rfl) (by omega) (a := 1#1) (b := 0#1) (H := H)).run
  have g3 := fun H => (extract_run (w := 4) (i := 3) (j := 2) (d := 1) (s := 2) (by omega) (by omega) (by rfl) (by omega) (by rfl) (a := 12#4) (H := H)).run
  have g4 := fun H => (extend_run (w := 4) (n := 2) (s := 6) (by omega) (by rfl) (by omega) (a := 8#4) (sg := true) (H := H)).run
  have g5 := fun H => (one_run (w := 4) (by omega) (by omega) (n := 11) (a := 1#4) (H := H)).run
  have g6 := fun H => (repeat_run (w := 2) (n := 2) (by omega) (by omega) (by omega) (x := 2#2) (H := H)).run
  have q5 : oneF 11 (1#4) = B (-1#4) := by rfl
  rw [q5] at g5
  simp only [B, Bt, show lo (E (12#4)) = 12#64 from by decide, show hi (E (12#4)) = 0#64 from by decide, show lo (E (1#1)) = 1#64 from by decide, show hi (E (1#1)) = 0#64 from by decide, show lo (E (0#1)) = 0#64 from by decide, show hi (E (0#1)) = 0#64 from by decide, show lo (E (8#4)) = 8#64 from by decide, show hi (E (8#4)) = 0#64 from by decide, show lo (E (1#4)) = 1#64 from by decide, show hi (E (1#4)) = 0#64 from by decide, show lo (E (2#2)) = 2#64 from by decide, show hi (E (2#2)) = 0#64 from by decide, show lo (E ((E (12#4) <<< 1 ||| E (12#4) >>> 3).setWidth 4)) = 9#64 from by decide, show hi (E ((E (12#4) <<< 1 ||| E (12#4) >>> 3).setWidth 4)) = 0#64 from by decide, show lo (E ((E (1#1) <<< 1 ||| E (0#1)).setWidth 2)) = 2#64 from by decide, show hi (E ((E (1#1) <<< 1 ||| E (0#1)).setWidth 2)) = 0#64 from by decide, show lo (E ((E (12#4) >>> 2).setWidth 2)) = 3#64 from by decide, show hi (E ((E (12#4) >>> 2).setWidth 2)) = 0#64 from by decide, show lo (E ((if (true && (8#4).msb) = true then E (8#4) ||| ~~~maskN 4 else E (8#4)).setWidth 6)) = 56#64 from by decide, show hi (E ((if (true && (8#4).msb) = true then E (8#4) ||| ~~~maskN 4 else E (8#4)).setWidth 6)) = 0#64 from by decide, show lo (E (-1#4)) = 15#64 from by decide, show hi (E (-1#4)) = 0#64 from by decide, show lo (E (repB (2#2) 2)) = 10#64 from by decide, show hi (E (repB (2#2) 2)) = 0#64 from by decide, show ((4 : Nat) : Int) = 4 from rfl, show ((1 : Nat) : Int) = 1 from rfl, show ((2 : Nat) : Int) = 2 from rfl, show ((3 : Nat) : Int) = 3 from rfl, show ((6 : Nat) : Int) = 6 from rfl] at g1 g2 g3 g4 g5 g6
  have p1 := fun H => parse_ex (H := H)
  have n1 := fun H => new_ex (H := H)
  rw [e_plaitlaw1_examples]
  simp (maxDischargeDepth := 60) (maxSteps := 1000000) [c_plaitlaw1_examples, t0, t1, t2, t3, t4, t5, t6, t7, t8, t9, t10, f1, f2, f3, f4, g1, g2, g3, g4, g5, g6, p1, n1]

theorem known_run {H : AHeap} : R f_plaitlaw1_known [] H = some (.bool true, H) := by
  have e1 := fun H => examples_run (H := H)
  have t1 := fun H => text_ex (H := H)
  have r1 := fun H => right_ex (H := H)
  have r2 := fun H => (rightB_run (w := 4) (by omega) (by omega) (x := 15#4) (H := H)).run
  simp only [B, Bt, show lo (E (15#4)) = 15#64 from by decide, show hi (E (15#4)) = 0#64 from by decide, show ((4 : Nat) : Int) = 4 from rfl] at r2
  have b1 := fun H => (boolB_run (b := true) (H := H)).run
  simp only [Bt, if_true, lo_one, hi_one, show ((0 : Nat) : Int) = 0 from rfl] at b1
  rw [e_plaitlaw1_known]
  simp (maxDischargeDepth := 40) [c_plaitlaw1_known, e1, t1, r1, r2, b1]
end Go.Proofs.Ytghjglnebcpcmaa
