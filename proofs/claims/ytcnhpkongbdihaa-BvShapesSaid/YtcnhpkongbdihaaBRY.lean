/- Rotate and Repeat of both, on any values; the law BvShapes. -/
import Derived.Test.YtcnhpkongbdihaaBRX
namespace Go.Proofs.Ytcnhpkongbdihaa
set_option maxRecDepth 100000
set_option maxHeartbeats 2000000

/-- Where a bit comes from, turned by k. -/
def src (w k j : Nat) : Nat := if j < k then j + w - k else j - k
/-- Bits laid turned, as far as i. -/
def RL {w : Nat} (x : BitVec w) (k i : Nat) : List AV := (List.range w).map fun j => .bool (decide (src w k j < i) && x.getLsbD (src w k j))
theorem RL_len {w : Nat} (x : BitVec w) (k i : Nat) : (RL x k i).length = w := by simp [RL]
theorem RL_zero {w : Nat} (x : BitVec w) (k : Nat) : RL x k 0 = List.replicate w (.bool false) := by
  apply List.ext_getElem (by simp [RL])
  intro i h1 h2
  simp [RL]
theorem RL_step {w : Nat} (x : BitVec w) {k i : Nat} (hk : k ≤ w) (hi : i < w) : (RL x k i).set (if i + k < w then i + k else i + k - w) (.bool (x.getLsbD i)) = RL x k (i + 1) := by
  apply List.ext_getElem (by simp [RL])
  intro j h1 h2
  have hj : j < w := by simpa [RL] using h2
  rw [List.getElem_set]
  simp only [RL, List.getElem_map, List.getElem_range]
  by_cases e : src w k j = i
  · have : (if i + k < w then i + k else i + k - w) = j := by
      unfold src at e; split at e <;> split <;> omega
    rw [if_pos this, e]; simp
  · have : ¬ (if i + k < w then i + k else i + k - w) = j := by
      unfold src at e; split at e <;> split <;> omega
    rw [if_neg this]
    have : (src w k j < i + 1) ↔ (src w k j < i) := by omega
    simp [this]
def rotL {w : Nat} (x : BitVec w) (k : Nat) : List Bool := (List.range w).map fun j => x.getLsbD (src w k j)
theorem RL_all {w : Nat} (x : BitVec w) {k : Nat} (hk : k ≤ w) : RL x k w = (rotL x k).map .bool := by
  unfold RL rotL
  rw [List.map_map]
  apply List.map_congr_left
  intro j hj
  simp only [List.mem_range] at hj
  have : src w k j < w := by unfold src; split <;> omega
  simp [this]

theorem rrot_loop {w : Nat} (hw : w ≤ 128) {x : BitVec w} {k : Nat} (hk : k ≤ w) {v : AV} {H : AHeap} {o p : Nat} (hv : ∀ H', Upd o H H' → RB H' v (bl x)) (hob : H.obj o = .cells (List.replicate w (.bool false))) (lo' : o < H.size) (hp : ∀ H', Upd o H H' → ∃ a b, H'.obj p = .cells [.int .i64 w, a, b]) {e : Env} {r : Rn} (hL : loopL Go.Proofs.Try.prog KT R l_plaitref1_Rotate_0 e H = r)
    (e1' : e 1 = some (.int .i64 k)) (e3 : e 3 = some (.ptr p 0)) (e8 : e 8 = some v) (e9 : e 9 = some (.row o 0 1 w true)) (e10 : e 10 = some (.int .i64 0)) :
    ∃ y e' H', r = some (y, e', H') ∧ (y = .exit 0 ∧ Upd o H H' ∧ H'.obj o = .cells ((rotL x k).map .bool)) ∧ ∀ t, t ∉ defs l_plaitref1_Rotate_0 → e' t = e t := by
  rw [← RL_all x hk]
  refine loop_count l_plaitref1_Rotate_0.eq_1 hL w (fun i e1 H1 => e1 10 = some (.int .i64 i) ∧ Upd o H H1 ∧ H1.obj o = .cells (RL x k i)) _ 0 (Nat.zero_le _) ⟨e10, Upd.refl _ _, by rw [RL_zero]; exact hob⟩ ?_ ?_
  · rintro i f H1 hf - hi ⟨f10, k1, ob⟩
    have w1 := i64w (n := (i : Int) + 1) (by omega) (by omega)
    have w2 := i64w (n := (i : Int) + k) (by omega) (by omega)
    have hv1 := hv H1 k1
    have hl := hv1.len
    rw [bl_length] at hl
    obtain ⟨a, b, hpo⟩ := hp H1 k1
    have a1 := hv1.ix (P := Go.Proofs.Try.prog) (t := T_s_bool) (by simp) (i := i) (by simpa using hi)
    have a2 := hv1.at (P := Go.Proofs.Try.prog) (t := T_bool) (by simp) (i := i) (by simpa using hi)
    rw [bl_getD] at a2
    have hs := RL_step x hk hi
    have hlen := RL_len x k i
    have ci : (i : Int) < w := by omega
    have lo1 : o < H1.size := by rw [k1.size]; exact lo'
    have wn : ¬ w = 0 := by omega
    have hd : ((i : Int) + k).tmod (w : Int) = ((if i + k < w then i + k else i + k - w : Nat) : Int) := by
      rw [Int.tmod_eq_emod_of_nonneg (by omega)]
      split
      · rw [Int.emod_eq_of_lt (by omega) (by omega)]; omega
      · rw [show (i : Int) + k = (i + k - w : Nat) + (w : Int) from by omega, Int.add_emod_right, Int.emod_eq_of_lt (by omega) (by omega)]
    have hdl : (if i + k < w then i + k else i + k - w) < w := by split <;> omega
    generalize (if i + k < w then i + k else i + k - w) = dd at *
    have cd : (dd : Int) < w := by omega
    generalize x.getLsbD i = bit at *
    simp (maxDischargeDepth := 40) (maxSteps := 300000) [hf, e1', e3, e8, e9, f10, hl, hi, ci, a1, a2, hpo, ob, w1, w2, hd, hdl, cd, wn, hlen, hs, lo1]
    exact k1.set _
  · rintro f H1 hf ⟨f10, k1, ob⟩
    have hl := (hv H1 k1).len
    rw [bl_length] at hl
    simp [hf, e8, f10, hl]
    exact ⟨k1, ob⟩
theorem rot_bits {w : Nat} (hw : w ≤ 128) (x : BitVec w) {k : Nat} (hk : k ≤ w) : ∀ i, i < w → (rotL x k).getD i false = (E x <<< k ||| E x >>> (w - k)).getLsbD i := fun i hi => by
  have : (rotL x k).getD i false = x.getLsbD (src w k i) := by simp [rotL, hi]
  rw [this, BitVec.getLsbD_or, BitVec.getLsbD_shiftLeft, BitVec.getLsbD_ushiftRight, E_bit hw, E_bit hw]
  have h128 : i < 128 := by omega
  unfold src
  by_cases c : i < k
  · rw [if_pos c]; simp [c]; congr 1; omega
  · rw [if_neg c, BitVec.getLsbD_of_ge x (w - k + i) (by omega)]; simp [c, h128]
theorem rotate_same (w n : Int) (lf : Bool) (l h : BitVec 64) : ∃ (k : Int) (p q : BitVec 64) (e : Int), (∀ H, R f_bv_Rotate [.agg [.int .i64 w, u l, u h], .int .i64 n, .bool lf] H = some (.tup [.agg [.int .i64 k, u p, u q], .int .i64 e], H)) ∧ ∀ H, R f_plaitref1_Rotate [.agg [.int .i64 w, u l, u h], .int .i64 n, .bool lf] H = some (.tup [.agg [.int .i64 k, u p, u q], .int .i64 e], H) := by
  have r1 := fun H => bvword_run (w := w) (l := l) (h := h) (H := H)
  have r2 := fun H => refword_run (w := w) (l := l) (h := h) (H := H)
  cases h1 : isWd w l h with
  | false =>
    rw [h1] at r1 r2
    refine ⟨0, 0#64, 0#64, 10, fun H => ?_, fun H => ?_⟩
    · rw [e_bv_Rotate]; simp (maxDischargeDepth := 40) [c_bv_Rotate, r1]
    · rw [e_plaitref1_Rotate]; simp (maxDischargeDepth := 40) [c_plaitref1_Rotate, r2]
  | true =>
    rw [h1] at r1 r2
    obtain ⟨m, x, m1, m2, rfl, rfl, rfl⟩ := isWd_word h1
    by_cases c1 : n < 0
    · refine ⟨0, 0#64, 0#64, 12, fun H => ?_, fun H => ?_⟩
      · rw [e_bv_Rotate]; simp (maxDischargeDepth := 40) [c_bv_Rotate, r1, c1]
      · rw [e_plaitref1_Rotate]; simp (maxDischargeDepth := 40) [c_plaitref1_Rotate, r2, c1]
    obtain ⟨n, rfl⟩ := Int.eq_ofNat_of_zero_le (show 0 ≤ n by omega)
    have hmod : n % m < m := Nat.mod_lt _ (by omega)
    have t1 : ((n : Int)).tmod (m : Int) = ((n % m : Nat) : Int) := by rw [Int.tmod_eq_emod_of_nonneg (by omega)]; rfl
    have w2 : IntKind.i64.wrap ((n % m : Nat) : Int) = ((n % m : Nat) : Int) := i64w (by omega) (by omega)
    have w3 : IntKind.i64.wrap ((m : Int) - (n % m : Nat)) = ((m - n % m : Nat) : Int) := by rw [i64w (by omega) (by omega)]; omega
    have cm : (m : Int) ≤ 140737488355328 := by omega
    have cm2 : (m : Int) ≤ 9223372036854775807 := by omega
    have m0 : ¬ m = 0 := by omega
    have c1' : ¬ (n : Int) < 0 := c1
    -- the document's way, turned by k
    have main : ∀ (k : Nat) (H : AHeap), k ≤ m → ((lf = true ∧ k = n % m) ∨ (lf = false ∧ k = m - n % m)) → R f_plaitref1_Rotate [.agg [.int .i64 m, u (lo (E x)), u (hi (E x))], .int .i64 n, .bool lf] H = some (.tup [.agg [.int .i64 m, u (lo (E ((E x <<< k ||| E x >>> (m - k)).setWidth m))), u (hi (E ((E x <<< k ||| E x >>> (m - k)).setWidth m)))], .int .i64 0], H) := fun k H hk hlf => by
      generalize n % m = nm at *
      generalize hr : R f_plaitref1_Rotate _ H = r
      rw [e_plaitref1_Rotate] at hr
      obtain ⟨v1, H1, hb1, kb1, sb1, rb1, gr1, nv1⟩ := bitsV_run m2 x ((H.new (.cells [.int .i64 m, u (lo (E x)), u (hi (E x))])).new (.cells [.int .i64 0, u 0#64, u 0#64]))
      have k1 : Keeps H H1 := ((Keeps.new _ _).trans (Keeps.new _ _)).trans kb1
      have o1a : H1.obj H.size = .cells [.int .i64 m, u (lo (E x)), u (hi (E x))] := by rw [kb1.obj _ (by simp)]; simp
      have o1z : H1.obj (H.size + 1) = .cells [.int .i64 0, u 0#64, u 0#64] := by rw [kb1.obj _ (by simp)]; simp
      simp only [new_size] at sb1
      have hl := rb1.len
      rw [bl_length] at hl
      have kN : Keeps H1 (H1.new (.cells (List.replicate m (.bool false)))) := Keeps.new _ _
      have hbit := rot_bits m2 x hk
      have fin : ∀ (e : Env) (q : Rn), loopL Go.Proofs.Try.prog KT R l_plaitref1_Rotate_0 e (H1.new (.cells (List.replicate m (.bool false)))) = q → e 1 = some (.int .i64 k) → e 3 = some (.ptr H.size 0) → e 8 = some v1 → e 9 = some (.row H1.size 0 1 m true) → e 10 = some (.int .i64 0) →
          ∃ e' H2, q = some (.exit 0, e', H2) ∧ (∀ t, t ∉ defs l_plaitref1_Rotate_0 → e' t = e t) ∧ H2.obj (H.size + 1) = .cells [.int .i64 0, u 0#64, u 0#64] ∧ H.size + 1 < H2.size ∧ (∀ X, Keeps H (H2.set (H.size + 1) X)) ∧ R f_plaitref1_Word [.row H1.size 0 1 m true] H2 = some (.agg [.int .i64 m, u (lo (E ((E x <<< k ||| E x >>> (m - k)).setWidth m))), u (hi (E ((E x <<< k ||| E x >>> (m - k)).setWidth m)))], H2) := fun e q hL e1' e3 e8 e9 e10 => by
        obtain ⟨y, e', H2, rfl, ⟨rfl, ku, ob2⟩, fr⟩ := rrot_loop m2 (x := x) hk (v := v1) (o := H1.size) (p := H.size) (fun H' ku => rb1.keep (ku.keeps kN (Nat.le_refl _))) (by simp) (by simp) (fun H' ku => ⟨_, _, by rw [ku.obj _ (by omega), kN.obj _ (by omega)]; exact o1a⟩) hL e1' e3 e8 e9 e10
        have k2 : Keeps H H2 := k1.trans (ku.keeps kN (Nat.le_refl _))
        refine ⟨e', H2, rfl, fr, by rw [ku.obj _ (by omega), kN.obj _ (by omega)]; exact o1z, by rw [ku.size]; simp; omega, fun X => k2.set (by omega) X, ?_⟩
        exact wordL (RB.row (o := H1.size) (n := m) (full := true) (bs := rotL x k) (by rw [ku.size]; simp) ob2 (by simp [rotL])) (by simp [rotL]) m2 hbit
      generalize E ((E x <<< k ||| E x >>> (m - k)).setWidth m) = zz at *
      rcases hlf with ⟨rfl, rfl⟩ | ⟨rfl, rfl⟩
      · simp (maxDischargeDepth := 40) (maxSteps := 300000) [c_plaitref1_Rotate, r2, c1', t1, w2, m0, hb1, hl, cm, cm2] at hr
        generalize hL : loopL _ _ _ _ _ _ = q at hr
        obtain ⟨e', H2, rfl, fr, o2z, z2, kX, hwd⟩ := fin _ _ hL (by simp) (by simp) (by simp) (by simp) (by simp)
        simp (maxDischargeDepth := 40) (maxSteps := 300000) [fr, hwd, o2z, z2, kX] at hr
        exact hr.symm
      · simp (maxDischargeDepth := 40) (maxSteps := 300000) [c_plaitref1_Rotate, r2, c1', t1, w2, w3, m0, o1a, hb1, hl, cm, cm2] at hr
        generalize hL : loopL _ _ _ _ _ _ = q at hr
        obtain ⟨e', H2, rfl, fr, o2z, z2, kX, hwd⟩ := fin _ _ hL (by simp) (by simp) (by simp) (by simp) (by simp)
        simp (maxDischargeDepth := 40) (maxSteps := 300000) [fr, hwd, o2z, z2, kX] at hr
        exact hr.symm
    cases lf with
    | true => exact ⟨_, _, _, _, fun H => (rotate_left m1 m2 rfl rfl).run, fun H => main (n % m) H (by omega) (.inl ⟨rfl, rfl⟩)⟩
    | false =>
      refine ⟨_, _, _, _, fun H => (rotate_right m1 m2 rfl rfl rfl rfl).run, fun H => ?_⟩
      have := main (m - n % m) H (by omega) (.inr ⟨rfl, rfl⟩)
      rw [this]
      have he : (E x <<< (m - n % m) ||| E x >>> (m - (m - n % m))).setWidth m = (E x <<< ((m - n % m) % m) ||| E x >>> (m - (m - n % m) % m)).setWidth m := by
        apply BitVec.eq_of_getLsbD_eq
        intro i hi
        rw [BitVec.getLsbD_setWidth, BitVec.getLsbD_setWidth, ← rot_bits m2 x (by omega) i hi, ← rot_bits m2 x (Nat.le_of_lt (Nat.mod_lt _ (by omega))) i hi]
        congr 1
        simp only [rotL, List.getD_eq_getElem?_getD]
        by_cases c : n % m = 0
        · have e2 : (m - n % m) % m = 0 := by rw [c, Nat.sub_zero, Nat.mod_self]
          simp [c, hi, src]
        · rw [Nat.mod_eq_of_lt (by omega : m - n % m < m)]
      rw [he]
end Go.Proofs.Ytcnhpkongbdihaa
