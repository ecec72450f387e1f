/- Lists of bits, and the document's Bits and Word, as far as Right needs them. -/
import Derived.Test.YtghjglnebcpcmaaBVR
/-! Lists of bits: what a word's bits are, what a word of bits is (no program in sight). -/
namespace Go.Proofs.Ytghjglnebcpcmaa

/-- The bits of a number, the lowest first. -/
def bn (w : Nat) (x : W128) : List Bool := (List.range w).map x.getLsbD
/-- The bits of a word. -/
def bl {w : Nat} (x : BitVec w) : List Bool := (List.range w).map x.getLsbD
/-- The number of bits. -/
def wv (bs : List Bool) : W128 := (BitVec.ofBoolListLE bs).setWidth 128
theorem wv_bit (bs : List Bool) (i : Nat) : (wv bs).getLsbD i = (decide (i < 128) && bs.getD i false) := by
  rw [wv, BitVec.getLsbD_setWidth, BitVec.getLsbD_ofBoolListLE]
@[simp] theorem bn_length {w : Nat} {x : W128} : (bn w x).length = w := by simp [bn]
@[simp] theorem bl_length {w : Nat} {x : BitVec w} : (bl x).length = w := by simp [bl]
theorem bn_getD {w i : Nat} {x : W128} : (bn w x).getD i false = (decide (i < w) && x.getLsbD i) := by
  by_cases h : i < w
  · simp [bn, h]
  · simp [bn, h]
theorem bl_getD {w i : Nat} {x : BitVec w} : (bl x).getD i false = x.getLsbD i := by
  by_cases h : i < w
  · simp [bl, h]
  · simp [bl, h, BitVec.getLsbD_of_ge x i (by omega)]
theorem bn_E {w : Nat} (hw : w ≤ 128) (x : BitVec w) : bn w (E x) = bl x := by
  unfold bn bl
  apply List.map_congr_left
  intro i _
  exact E_bit hw x i
theorem wv_bl {w : Nat} (hw : w ≤ 128) (x : BitVec w) : wv (bl x) = E x := by
  apply BitVec.eq_of_getLsbD_eq
  intro i hi
  rw [wv_bit, bl_getD, E_bit hw]; simp [hi]
theorem wv_bn {w : Nat} (hw : w ≤ 128) (x : W128) : wv (bn w x) = E (x.setWidth w) := by
  apply BitVec.eq_of_getLsbD_eq
  intro i hi
  rw [wv_bit, bn_getD, E_bit hw, BitVec.getLsbD_setWidth]; simp [hi]
/-- Two lists of as many bits are the same just if all their bits are. -/
theorem list_ext {cs bs : List Bool} (hl : cs.length = bs.length) (h : ∀ i, i < cs.length → cs.getD i false = bs.getD i false) : cs = bs := by
  apply List.ext_getElem hl
  intro i h1 h2
  have := h i h1
  simpa [h1, h2] using this
theorem bl_of {w : Nat} {bs : List Bool} (hl : bs.length = w) {x : BitVec w} (h : ∀ i, i < w → bs.getD i false = x.getLsbD i) : bs = bl x :=
  list_ext (by simp [hl]) fun i hi => by rw [bl_getD]; exact h i (by omega)
theorem bl_inj {w : Nat} {x y : BitVec w} (h : bl x = bl y) : x = y := by
  apply BitVec.eq_of_getLsbD_eq
  intro i _
  rw [← bl_getD, ← bl_getD, h]

theorem one_shl_bit (i j : Nat) : ((1#128 : W128) <<< i).getLsbD j = (decide (j < 128) && decide (i = j)) := by
  rw [BitVec.getLsbD_shiftLeft]
  by_cases h1 : j < 128 <;> by_cases h2 : j < i <;> by_cases h3 : i = j
  all_goals simp [h1, h2, h3, BitVec.getLsbD_one]
  all_goals omega
theorem lo_one_shl {i : Nat} : lo ((1#128 : W128) <<< i) = if i < 64 then 1#64 <<< i else 0#64 := by
  apply BitVec.eq_of_getLsbD_eq
  intro j hj
  rw [lo_bit, one_shl_bit]
  split
  · rw [BitVec.getLsbD_shiftLeft, BitVec.getLsbD_one]
    by_cases h1 : j < i <;> by_cases h2 : i = j <;> simp [h1, h2, hj] <;> omega
  · have : ¬ i = j := by omega
    simp [this]
theorem hi_one_shl {i : Nat} (hi' : i < 128) : hi ((1#128 : W128) <<< i) = if i < 64 then 0#64 else 1#64 <<< (i - 64) := by
  apply BitVec.eq_of_getLsbD_eq
  intro j hj
  rw [hi_bit, one_shl_bit]
  split
  · have : ¬ i = 64 + j := by omega
    simp [this]
  · rw [BitVec.getLsbD_shiftLeft, BitVec.getLsbD_one]
    by_cases h1 : j < i - 64 <;> by_cases h2 : i = 64 + j <;> simp [h1, h2, hj] <;> omega
theorem wv_take {bs : List Bool} {i : Nat} (_h : bs.length ≤ 128) (_hi : i < bs.length) : wv (bs.take (i + 1)) = if bs.getD i false = true then wv (bs.take i) ||| 1#128 <<< i else wv (bs.take i) := by
  apply BitVec.eq_of_getLsbD_eq
  intro j hj
  have e : ∀ k, (bs.take k).getD j false = (decide (j < k) && bs.getD j false) := fun k => by
    simp only [List.getD_eq_getElem?_getD, List.getElem?_take]
    by_cases hjk : j < k <;> simp [hjk]
  split
  · rename_i hb
    rw [BitVec.getLsbD_or, wv_bit, wv_bit, e, e, one_shl_bit]
    by_cases h1 : j < i
    · have : ¬ i = j := by omega
      have h2 : j < i + 1 := by omega
      simp [h1, h2, this, hj]
    · by_cases h2 : i = j
      · subst h2
        have : bs[i]?.getD false = true := by simpa [List.getD_eq_getElem?_getD] using hb
        simp [this, hj]
      · have h3 : ¬ j < i + 1 := by omega
        simp [h1, h2, h3]
  · rename_i hb
    rw [wv_bit, wv_bit, e, e]
    by_cases h1 : j < i
    · have h2 : j < i + 1 := by omega
      simp [h1, h2]
    · by_cases h2 : i = j
      · subst h2
        have : bs[i]?.getD false = false := by simpa [List.getD_eq_getElem?_getD] using hb
        simp [this]
      · have h3 : ¬ j < i + 1 := by omega
        simp [h1, h3]
theorem wv_nil : wv [] = 0#128 := by decide

/-- A slice of bits. -/
def RB (H : AHeap) (v : AV) (bs : List Bool) : Prop := Reads H v 1 bs.length (bs.map .bool)
theorem RB.len {H : AHeap} {v : AV} {bs : List Bool} (h : RB H v bs) : sliceLen v = some bs.length := Reads.len h
theorem RB.keep {H H' : AHeap} {v : AV} {bs : List Bool} (h : RB H v bs) (k : Keeps H H') : RB H' v bs := Reads.keep h k
/-- A slice of bits that is never written any more. -/
def BL (bs : List Bool) : AV := .lst 1 bs.length (bs.map .bool)
theorem RB.lst {H : AHeap} {bs : List Bool} : RB H (BL bs) bs := Reads.lst (by simp)
theorem RB.row {H : AHeap} {o n : Nat} {full : Bool} {bs : List Bool} (ho : o < H.size) (h : H.obj o = .cells (bs.map .bool)) (hl : n = bs.length) : RB H (.row o 0 1 n full) bs := by
  subst hl; exact Reads.row' ho h (by simp)
theorem RB.nils {H : AHeap} : RB H .nils [] := Reads.nils
theorem RB.new {H : AHeap} {v : AV} {bs : List Bool} (h : RB H v bs) (x : AObj) : RB (H.new x) v bs := h.keep (Keeps.new H x)
@[simp] theorem closed_BL {n : Nat} {bs : List Bool} : closed n (BL bs) = true := by simp [BL]
@[simp] theorem frz_BL {H : AHeap} {n : Nat} {z : List Nat} {bs : List Bool} : frz H n z (BL bs) = BL bs := by simp [BL]
theorem RB.ix {P : Program} {H : AHeap} {v : AV} {bs : List Bool} (h : RB H v bs) {t : TypeId} (ht : eszS P t = some 1) {i : Nat} (hi : i < bs.length) : aindexAddr P t v (i : Int) = some (ixp v 1 i) := Reads.addr h ht hi
theorem RB.at {P : Program} {H : AHeap} {v : AV} {bs : List Bool} (h : RB H v bs) {t : TypeId} (hl : ldS P t = some none) {i : Nat} (hi : i < bs.length) : aload P H t (ixp v 1 i) = some (.bool (bs.getD i false)) := by
  rw [Reads.at h hl rfl hi]; simp [hi]
/-- Bits that are filled in one by one. -/
theorem fill_set {cs bs : List Bool} {i : Nat} (hl : cs.length = bs.length) (hi : i < bs.length) : (cs.take i ++ bs.drop i).set i (cs.getD i false) = cs.take (i + 1) ++ bs.drop (i + 1) := by
  have h0 : i < cs.length := by omega
  have hl2 : (cs.take i).length = i := by simp; omega
  rw [List.set_append_right i _ (by omega), hl2, Nat.sub_self, List.drop_eq_getElem_cons hi, List.set_cons_zero, List.take_succ_eq_append_getElem h0, List.append_assoc]
  simp [h0]
/-- A row that is filled from its beginning on. -/
theorem fills (g : Nat → AV) (z : AV) (w : Nat) : ∃ F : Nat → List AV, F 0 = List.replicate w z ∧ (∀ i, i < w → (F i).set i (g i) = F (i + 1)) ∧ (∀ i, i ≤ w → (F i).length = w) ∧ F w = (List.range w).map g := by
  refine ⟨fun i => ((List.range w).map g).take i ++ (List.replicate w z).drop i, by simp, fun i hi => ?_, fun i hi => by simp; omega, by simp [List.take_of_length_le]⟩
  have hl2 : (((List.range w).map g).take i).length = i := by simp; omega
  have h0 : i < ((List.range w).map g).length := by simpa using hi
  have h1 : i < (List.replicate w z).length := by simpa using hi
  show ((((List.range w).map g).take i ++ (List.replicate w z).drop i).set i (g i)) = ((List.range w).map g).take (i + 1) ++ (List.replicate w z).drop (i + 1)
  rw [List.set_append_right i _ (by omega), hl2, Nat.sub_self, List.drop_eq_getElem_cons h1, List.set_cons_zero, List.take_succ_eq_append_getElem h0, List.append_assoc]
  simp
end Go.Proofs.Ytghjglnebcpcmaa
/-! The document's functions on bits: a value's bits, a word of bits, a new word. -/
namespace Go.Proofs.Ytghjglnebcpcmaa
set_option maxRecDepth 100000

theorem and1_bit' (x : BitVec 64) (n : Nat) : decide (x >>> n &&& 1#64 = 1#64) = x.getLsbD n := by
  rw [and1_bit, BitVec.getLsbD_ushiftRight]; simp

/-! Bits -/
theorem bits_loop {w : Nat} (hw : w ≤ 128) {x : W128} {o o3 : Nat} {e : Env} {H : AHeap} {r : Rn} (hL : loopL Go.Proofs.Try.prog KT R l_plaitref1_Bits_0 e H = r) (ho : ¬ o = o3) (h1 : H.obj o = .cells [.int .i64 w, u (lo x), u (hi x)]) (h3 : H.obj o3 = .cells (List.replicate w (.bool false)))
    (e1 : e 1 = some (.ptr o 0)) (e3 : e 3 = some (.row o3 0 1 w true)) (e4 : e 4 = some (.int .i64 0)) :
    ∃ y e' H', r = some (y, e', H') ∧ (y = .exit 0 ∧ Upd o3 H H' ∧ H'.obj o3 = .cells ((bn w x).map .bool)) ∧ ∀ t, t ∉ defs l_plaitref1_Bits_0 → e' t = e t := by
  obtain ⟨F, F0, Fs, Fl, Fw⟩ := fills (fun i => .bool (x.getLsbD i)) (.bool false) w
  have hFw : F w = (bn w x).map .bool := by rw [Fw, bn, List.map_map]; rfl
  rw [← F0] at h3
  rw [← hFw]
  refine loop_count l_plaitref1_Bits_0.eq_1 hL w (fun i e1 H1 => e1 4 = some (.int .i64 i) ∧ Upd o3 H H1 ∧ H1.obj o3 = .cells (F i)) _ 0 (by omega) ⟨e4, Upd.refl _ _, h3⟩ ?_ ?_
  · rintro i f H1 hf - hlt ⟨f4, k, hob⟩
    have hw1 := i64w (n := (i : Int) + 1) (by omega) (by omega)
    have hs := Fs i hlt
    have hl : i < (F i).length := by rw [Fl i (by omega)]; exact hlt
    have ho1 : H1.obj o = .cells [.int .i64 w, u (lo x), u (hi x)] := by rw [k.obj o ho]; exact h1
    by_cases h64 : i < 64
    · have c1 : (i : Int) < 64 := by omega
      have hbit : decide (lo x >>> i &&& 1#64 = 1#64) = x.getLsbD i := by rw [and1_bit', lo_bit]; simp [h64]
      simp [hf, e1, e3, f4, ho1, hlt, c1, hob, hl, hw1, hbit, hs]
      exact k.set _
    · have c1 : ¬ (i : Int) < 64 := by omega
      have w2 := i64w (n := (i : Int) - 64) (by omega) (by omega)
      have t1 : ((i : Int) - 64).toNat = i - 64 := by omega
      have c2 : (0 : Int) ≤ (i : Int) - 64 := by omega
      have c3 : (64 : Int) ≤ (i : Int) := by omega
      have c4 : 64 ≤ i := by omega
      have hbit : decide (hi x >>> (i - 64) &&& 1#64 = 1#64) = x.getLsbD i := by
        rw [and1_bit', hi_bit, show 64 + (i - 64) = i from by omega]
        have : i - 64 < 64 := by omega
        simp [this]
      simp [hf, e1, e3, f4, ho1, hlt, c1, c3, hob, hl, hw1, w2, t1, hbit, hs]
      exact k.set _
  · rintro f H1 hf ⟨f4, k, hob⟩
    have ho1 : H1.obj o = .cells [.int .i64 w, u (lo x), u (hi x)] := by rw [k.obj o ho]; exact h1
    simp [hf, e1, f4, ho1]
    exact ⟨k, hob⟩

/-- A value's bits, in a row of their own. -/
structure BitsRun (w : Nat) (x : W128) (H : AHeap) (r : Option (AV × AHeap)) : Prop where
  ex : ∃ H', r = some (.row (H.size + 1) 0 1 w true, H') ∧ Keeps H H' ∧ H'.size = H.size + 2 ∧ H'.obj (H.size + 1) = .cells ((bn w x).map .bool)
theorem bits_run {w : Nat} (hw : w ≤ 128) {x : W128} {H : AHeap} : BitsRun w x H (R f_plaitref1_Bits [.agg [.int .i64 w, u (lo x), u (hi x)]] H) := by
  rw [e_plaitref1_Bits]
  have c1 : (w : Int) * 1 ≤ 140737488355328 := by omega
  have c2 : (w : Int) ≤ 9223372036854775807 := by omega
  simp [c_plaitref1_Bits, c2]
  have c3 : (w : Int) ≤ 140737488355328 := by omega
  simp [c3]
  generalize hL : loopL _ _ _ _ _ _ = q
  obtain ⟨y, e1, H1, rfl, ⟨rfl, k, hob⟩, fr⟩ := bits_loop hw (x := x) (o := H.size) (o3 := H.size + 1) hL (by omega) (by simp) (by simp) (by simp) (by simp) (by simp)
  have hsz : H1.size = H.size + 2 := by rw [k.size]; rfl
  simp [fr]
  refine ⟨H1, ?_, ?_, hsz, hob⟩
  · unfold back
    rw [if_neg (fun h => by have := h.1; simp at this; omega)]
  · exact k.keeps ((Keeps.new H _).new' _) (by omega)

/-! Word -/
theorem word_loop {o : Nat} {H : AHeap} {v : AV} {bs : List Bool} (_hv : RB H v bs) (hvo : ∀ H', Upd o H H' → RB H' v bs) (hm : bs.length ≤ 128) {e : Env} {r : Rn} (hL : loopL Go.Proofs.Try.prog KT R l_plaitref1_Word_0 e H = r)
    (h3 : H.obj o = .cells [.int .i64 bs.length, u 0#64, u 0#64]) (e0 : e 0 = some v) (e3 : e 3 = some (.ptr o 0)) (e4 : e 4 = some (.int .i64 0)) :
    ∃ y e' H', r = some (y, e', H') ∧ (y = .exit 0 ∧ Upd o H H' ∧ H'.obj o = .cells [.int .i64 bs.length, u (lo (wv bs)), u (hi (wv bs))]) ∧ ∀ t, t ∉ defs l_plaitref1_Word_0 → e' t = e t := by
  refine loop_count l_plaitref1_Word_0.eq_1 hL bs.length (fun i e1 H1 => e1 4 = some (.int .i64 i) ∧ Upd o H H1 ∧ H1.obj o = .cells [.int .i64 bs.length, u (lo (wv (bs.take i))), u (hi (wv (bs.take i)))]) _ 0 (by omega)
    ⟨e4, Upd.refl _ _, by simp [h3, wv_nil]⟩ ?_ ?_
  · rintro i f H1 hf - hi' ⟨f4, k, hob⟩
    have hw1 := i64w (n := (i : Int) + 1) (by omega) (by omega)
    have hv1 := hvo H1 k
    have a1 := hv1.ix (P := Go.Proofs.Try.prog) (t := T_s_bool) (by simp) hi'
    have a2 := hv1.at (P := Go.Proofs.Try.prog) (t := T_bool) (by simp) hi'
    have a3 : ∀ X, aload Go.Proofs.Try.prog (H1.set o X) T_bool (ixp v 1 i) = some (.bool (bs.getD i false)) := fun X => (hvo _ (k.set X)).at (P := Go.Proofs.Try.prog) (t := T_bool) (by simp) hi'
    have hs := wv_take hm hi'
    generalize hx : bs.getD i false = b at *
    have hvl := hv1.len
    have ci : ¬ (bs.length : Int) ≤ i := by omega
    cases b with
    | false =>
      simp only [Bool.false_eq_true, if_false] at hs
      simp [hf, e0, f4, hvl, hi', a1, a2, hw1, hs]
      exact ⟨k, hob⟩
    | true =>
      simp only [if_true] at hs
      have hl2 : (1#128 : W128) <<< i = 1#128 <<< i := rfl
      by_cases h64 : i < 64
      · have c1 : (i : Int) < 64 := by omega
        have c2 : ¬ (64 : Int) ≤ i := by omega
        have c3 : ¬ 64 ≤ i := by omega
        simp [hf, e0, e3, f4, hvl, hi', a1, a2, a3, hw1, hs, c1, c2, h64, hob, lo_or, hi_or, lo_one_shl, hi_one_shl (show i < 128 by omega)]
        exact k.set _
      · have c1 : ¬ (i : Int) < 64 := by omega
        have c2 : (64 : Int) ≤ i := by omega
        have c3 : 64 ≤ i := by omega
        have w2 := i64w (n := (i : Int) - 64) (by omega) (by omega)
        have t1 : ((i : Int) - 64).toNat = i - 64 := by omega
        have c4 : (0 : Int) ≤ (i : Int) - 64 := by omega
        simp [hf, e0, e3, f4, hvl, hi', a1, a2, hw1, hs, c1, c2, w2, t1, h64, hob, lo_or, hi_or, lo_one_shl, hi_one_shl (show i < 128 by omega)]
        exact k.set _
  · rintro f H1 hf ⟨f4, k, hob⟩
    have hvl := (hvo H1 k).len
    simp [hf, e0, f4, hvl]
    exact ⟨k, by simpa using hob⟩

theorem Upd.rb {o : Nat} {H0 H H' : AHeap} (h : Upd o H H') (k : Keeps H0 H) (ho : H0.size ≤ o) {v : AV} {bs : List Bool} (hv : RB H0 v bs) : RB H' v bs := hv.keep (h.keeps k ho)

theorem wordR_run {H : AHeap} {v : AV} {bs : List Bool} (hv : RB H v bs) (hm : bs.length ≤ 128) : Pure R f_plaitref1_Word [v] H (Bt bs.length (wv bs)) := by
  unfold Pure Bt
  rw [e_plaitref1_Word]
  simp [c_plaitref1_Word, hv.len]
  generalize hL : loopL _ _ _ _ _ _ = q
  have k0 : Keeps H (((H.new (.cells [.int .i64 0, u 0#64, u 0#64])).new (.cells [.int .i64 0, u 0#64, u 0#64])).set (H.size + 1) (.cells [.int .i64 bs.length, u 0#64, u 0#64])) := by simp (maxDischargeDepth := 9)
  obtain ⟨y, e1, H1, rfl, ⟨rfl, k, hob⟩, fr⟩ := word_loop (o := H.size + 1) (bs := bs) (v := v) (hv.keep k0) (fun H' k => k.rb k0 (by omega) hv) hm hL (by simp) (by simp) (by simp) (by simp)
  have hk : Keeps H H1 := k.keeps k0 (by omega)
  have hn : ¬ H.size = H.size + 1 := by omega
  have ho2 : H1.obj H.size = .cells [.int .i64 0, u 0#64, u 0#64] := by rw [k.obj _ hn]; simp
  have hk2 : ∀ X, Keeps H (H1.set H.size X) := fun X => hk.set (Nat.le_refl _) X
  simp [fr, hob, ho2, hk2]
end Go.Proofs.Ytghjglnebcpcmaa
