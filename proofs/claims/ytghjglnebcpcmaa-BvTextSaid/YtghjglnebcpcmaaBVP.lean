/- A word repeated. -/
import Derived.Test.YtghjglnebcpcmaaBV4
namespace Go.Proofs.Ytghjglnebcpcmaa
set_option maxRecDepth 100000

def rpt {w : Nat} (x : BitVec w) : Nat → W128
  | 0 => 0#128
  | k + 1 => rpt x k <<< w ||| E x
def repB {w : Nat} (x : BitVec w) (k : Nat) : BitVec (w * k) := (rpt x k).setWidth (w * k)
theorem rpt_bit {w : Nat} (hw : 0 < w) (x : BitVec w) : ∀ (k : Nat), w * k ≤ 128 → ∀ i, (rpt x k).getLsbD i = (decide (i < w * k) && x.getLsbD (i % w))
  | 0, _, i => by simp [rpt]
  | k + 1, h, i => by
    have hk : w * k + w ≤ 128 := by rw [Nat.mul_add] at h; simpa using h
    have e : w * (k + 1) = w * k + w := by rw [Nat.mul_add]; simp
    rw [rpt, BitVec.getLsbD_or, BitVec.getLsbD_shiftLeft, rpt_bit hw x k (by omega), E_bit (by omega), e]
    by_cases h1 : i < w
    · have h2 : i < w * k + w := by omega
      have h3 : i % w = i := Nat.mod_eq_of_lt h1
      simp [h1, h2, h3]
    · have h3 : (i - w) % w = i % w := by
        conv => rhs; rw [show i = (i - w) + w from by omega, Nat.add_mod_right]
      have h4 : x.getLsbD i = false := BitVec.getLsbD_of_ge x i (by omega)
      rw [h3, h4]
      by_cases h5 : i < w * k + w
      · have h6 : i - w < w * k := by omega
        have h7 : i < 128 := by omega
        simp [h1, h5, h6, h7]
      · have h6 : ¬ i - w < w * k := by omega
        simp [h5, h6]
theorem E_repB {w : Nat} (hw : 0 < w) (x : BitVec w) {k : Nat} (hk : w * k ≤ 128) : E (repB x k) = rpt x k := by
  apply BitVec.eq_of_getLsbD_eq
  intro i hi
  rw [E_bit hk, repB, BitVec.getLsbD_setWidth, rpt_bit hw x k hk]
  by_cases h : i < w * k <;> simp [h]
theorem repB_bit {w : Nat} (hw : 0 < w) (x : BitVec w) {k : Nat} (hk : w * k ≤ 128) {i : Nat} : (repB x k).getLsbD i = (decide (i < w * k) && x.getLsbD (i % w)) := by
  rw [repB, BitVec.getLsbD_setWidth, rpt_bit hw x k hk]
  by_cases h : i < w * k <;> simp [h]

theorem rep_concat {w k : Nat} (h1 : 1 ≤ w) (h2 : 1 ≤ k) (hm : w * (k + 1) ≤ 128) {x : BitVec w} {H : AHeap} : Pure R f_bv_Concat [B (repB x k), B x] H (.tup [B (repB x (k + 1)), .int .i64 0]) := by
  have e : w * (k + 1) = w * k + w := by rw [Nat.mul_add]; simp
  have hp : 1 ≤ w * k := Nat.mul_pos h1 h2
  have g := concat_run (w := w * k) (v := w) (s := w * (k + 1)) hp h1 e hm (a := repB x k) (b := x) (H := H)
  rw [E_repB h1 x (by omega)] at g
  exact g

theorem rep_loop {w n : Nat} (h1 : 1 ≤ w) (hm : w * n ≤ 128) (hn : 1 ≤ n) (hn2 : n ≤ 128) {x : BitVec w} {o2 o6 : Nat} (hne : ¬ o2 = o6) {e : Env} {H : AHeap} {r : Rn} (hL : loopL Go.Proofs.Try.prog KT R l_bv_Repeat_0 e H = r)
    (b2 : H.obj o2 = .cells [.int .i64 w, u (lo (E x)), u (hi (E x))]) (b6 : H.obj o6 = .cells [.int .i64 (w * 1 : Nat), u (lo (E (repB x 1))), u (hi (E (repB x 1)))])
    (e2 : e 2 = some (.ptr o2 0)) (e6 : e 6 = some (.ptr o6 0)) (e25 : e 25 = some (.int .i64 (n - 1 : Nat))) (e26 : e 26 = some (.int .i64 0)) :
    ∃ y e' H', r = some (y, e', H') ∧ (y = .exit 1 ∧ Upd o6 H H' ∧ H'.obj o6 = .cells [.int .i64 (w * n : Nat), u (lo (E (repB x n))), u (hi (E (repB x n)))]) ∧ ∀ t, t ∉ defs l_bv_Repeat_0 → e' t = e t := by
  refine loop_count l_bv_Repeat_0.eq_1 hL (n - 1) (fun i e1 H1 => e1 26 = some (.int .i64 i) ∧ Upd o6 H H1 ∧ H1.obj o6 = .cells [.int .i64 (w * (i + 1) : Nat), u (lo (E (repB x (i + 1)))), u (hi (E (repB x (i + 1))))]) _ 0 (by omega)
    ⟨e26, Upd.refl _ _, b6⟩ ?_ ?_
  · rintro i f H1 hf - hi' ⟨f26, k, hob⟩
    have hle : w * (i + 1 + 1) ≤ w * n := Nat.mul_le_mul_left w (by omega)
    have hw1 := i64w (n := (i : Int) + 1) (by omega) (by omega)
    have r := fun H => (rep_concat h1 (k := i + 1) (by omega) (by omega) (x := x) (H := H)).run
    simp only [B, Bt] at r
    have ho2 : H1.obj o2 = .cells [.int .i64 w, u (lo (E x)), u (hi (E x))] := by rw [k.obj _ hne]; exact b2
    have c1 : (i : Int) < ((n - 1 : Nat) : Int) := by omega
    have c2 : i < n - 1 := hi'
    generalize E (repB x (i + 1)) = A at *
    generalize E (repB x (i + 1 + 1)) = B' at *
    generalize ((w * (i + 1) : Nat) : Int) = wA at *
    generalize ((w * (i + 1 + 1) : Nat) : Int) = wB at *
    simp (maxDischargeDepth := 20) [hf, e2, e6, e25, f26, ho2, hob, r, hw1, c1]
    exact k.set _
  · rintro f H1 hf ⟨f26, k, hob⟩
    have hn1 : n - 1 + 1 = n := by omega
    rw [hn1] at hob
    simp [hf, e25, f26]
    exact ⟨k, hob⟩

theorem repeat_run {w n : Nat} (h1 : 1 ≤ w) (hm : w * n ≤ 128) (hn : 1 ≤ n) {x : BitVec w} {H : AHeap} : Pure R f_bv_Repeat [B x, .int .i64 n] H (.tup [B (repB x n), .int .i64 0]) := by
  have hw : w ≤ 128 := by have := Nat.mul_le_mul_left w hn; omega
  have hn2 : n ≤ 128 := by have := Nat.mul_le_mul_right n h1; omega
  have c1 : ¬ (n : Int) < 1 := by omega
  have c2 : ¬ (w : Int) = 0 := by omega
  have hdiv : n ≤ 128 / w := by rw [Nat.le_div_iff_mul_le h1, Nat.mul_comm]; exact hm
  have t1 : (128 : Int).tdiv (w : Int) = ((128 / w : Nat) : Int) := by rw [Int.tdiv_eq_ediv_of_nonneg (by omega)]; rfl
  have hd2 : 128 / w ≤ 128 := Nat.div_le_self _ _
  have w1 : IntKind.i64.wrap ((128 / w : Nat) : Int) = ((128 / w : Nat) : Int) := i64w (by omega) (by omega)
  have w2 : IntKind.i64.wrap ((n : Int) - 1) = ((n - 1 : Nat) : Int) := by rw [i64w (by omega) (by omega)]; omega
  generalize hD : 128 / w = dd at *
  have c3 : ¬ ((dd : Nat) : Int) < n := by omega
  have c4 : ¬ dd < n := by omega
  have c5 : ¬ n < 1 := by omega
  have c6 : ¬ w = 0 := by omega
  have c7 : ¬ n = 0 := by omega
  have hE1 : E (repB x 1) = E x := by rw [E_repB h1 x (by omega)]; simp [rpt]
  unfold Pure
  rw [e_bv_Repeat]
  simp (maxDischargeDepth := 40) [c_bv_Repeat, B, Bt, h1, hw, c1, c3, c6, t1, w1, w2]
  generalize hL : loopL _ _ _ _ _ _ = q
  obtain ⟨y, e1, H1, rfl, ⟨rfl, k, hob⟩, fr⟩ := rep_loop (o2 := H.size) (o6 := H.size + 1 + 1) h1 hm hn hn2 (x := x) (by omega) hL (by simp) (by simp [hE1]) (by simp) (by simp) (by simp) (by simp)
  have hK : Keeps H H1 := k.keeps (by simp (maxDischargeDepth := 40)) (by omega)
  simp (maxDischargeDepth := 40) [fr, hob, k.obj, hK]
end Go.Proofs.Ytghjglnebcpcmaa
/-! The chapter's examples hold. -/
namespace Go.Proofs.Ytghjglnebcpcmaa
set_option maxRecDepth 100000
end Go.Proofs.Ytghjglnebcpcmaa
