/- And-inverter graphs: the loops of AigMeans. -/
import Derived.Test.YtphkkcocimmmfaaAW4
namespace Go.Proofs.Ytphkkcocimmmfaa
set_option maxRecDepth 100000

/-- A row of bools that grows, made anew. -/
structure OutB (H0 H : AHeap) (v : AV) (l : List Bool) : Prop where
  rd : Reads H v 1 l.length (l.map .bool)
  gr : grows v
  new : ∀ p, p ∈ objs v → H0.size ≤ p

theorem OutB.push {H0 H : AHeap} {v : AV} {l : List Bool} (h : OutB H0 H v l) (k : Keeps H0 H) {a : Bool} (hl : l.length ≤ 1000000) {r : Option (AV × AHeap)}
    (hA : appU (H.new (.cells [.bool a])) v (.row H.size 0 1 1 true) (some (1, 1, [.bool false])) = r) :
    ∃ v' H', r = some (v', H') ∧ OutB H0 H' v' (l ++ [a]) ∧ Keeps H0 H' := by
  obtain ⟨H1, rfl, f1, s1, o1, rd⟩ := app_of hA (h.rd.keep (by simp)) h.gr (Reads.row' (all := [.bool a]) (by simp) (by simp) (by simp)) (by omega) rfl (by omega) (by omega) (by omega) (by simp)
  have := k.size
  simp only [new_size] at s1
  exact ⟨_, H1, rfl, ⟨by simpa using rd, by simp, by simp; omega⟩, f1.keeps (by simp [k]) (fun p hp => h.new p hp)⟩

theorem shr_small {a : Int} (h0 : 0 ≤ a) {M : Int} (h1 : a ≤ M) (j : Nat) : 0 ≤ a.fdiv (2 ^ j) ∧ a.fdiv (2 ^ j) ≤ M := by
  have hp : (0 : Int) < 2 ^ j := Int.pow_pos (by decide)
  rw [Int.fdiv_eq_ediv_of_nonneg _ (Int.le_of_lt hp)]
  have := Int.ediv_nonneg h0 (Int.le_of_lt hp)
  have := Int.ediv_le_self (2 ^ j) h0
  omega

theorem means_loop2 {H0 : AHeap} {e : Env} {H : AHeap} {r : Rn} (hL : loopL Go.Proofs.Try.prog KT R l_plaitlaw8_AigMeans_2 e H = r) {n k : Nat} (hn : n ≤ 6) (hk : k ≤ 64) (k0 : Keeps H0 H)
    (e8 : e 8 = some (.int .i64 n)) (e11 : e 11 = some (.int .i64 k)) (e12 : e 12 = some .nils) (e13 : e 13 = some (.int .i64 0)) :
    ∃ x e' H', r = some (x, e', H') ∧ (x = .exit 4 ∧ Keeps H0 H' ∧ ∃ w l, e' 12 = some w ∧ l.length = n ∧ OutB H0 H' w l) ∧ ∀ t, t ∉ defs l_plaitlaw8_AigMeans_2 → e' t = e t := by
  refine loop_count l_plaitlaw8_AigMeans_2.eq_1 hL n (fun i e1 H1 => e1 13 = some (.int .i64 i) ∧ Keeps H0 H1 ∧ ∃ w l, e1 12 = some w ∧ l.length = i ∧ OutB H0 H1 w l) _ 0 (Nat.zero_le _) ⟨e13, k0, .nils, [], e12, rfl, ⟨Reads.nils, by simp, by simp⟩⟩ ?_ ?_
  · rintro i e1 H1 hf - hi ⟨f13, k1, w, l, f12, hl, ho⟩
    have w1 : IntKind.i64.wrap ((i : Int) + 1) = (i : Int) + 1 := i64w (by omega) (by omega)
    have c1 : (i : Int) < n := by omega
    have c2 : ¬ (i : Int) < 0 := by omega
    have hs := shr_small (a := (k : Int)) (by omega) (M := 64) (by omega) (min i 64)
    have b1 : -9223372036854775808 ≤ (k : Int).fdiv (2 ^ min i 64) := by omega
    have b2 : (k : Int).fdiv (2 ^ min i 64) ≤ 9223372036854775807 := by omega
    simp [hf, f13, f12, e8, e11, c1, c2, b1, b2]
    generalize hA : appU _ _ _ _ = q
    obtain ⟨w', H2, rfl, h2, k2⟩ := ho.push k1 (by omega) hA
    simp [f13, w1, k2]
    exact ⟨_, by simp [hl], h2⟩
  · rintro e1 H1 hf ⟨f13, k1, w, l, f12, hl, ho⟩
    simp [hf, f13, f12, e8]
    exact ⟨k1, l, hl, ho⟩

theorem OutB.keep {H0 H H' : AHeap} {v : AV} {l : List Bool} (h : OutB H0 H v l) (k : Keeps H H') : OutB H0 H' v l := ⟨h.rd.keep k, h.gr, h.new⟩

set_option maxHeartbeats 4000000 in
theorem means_loop1 {H0 : AHeap} {o : Nat} {ks : Kd} {F : List Nat} (g : GAt H0 o 4000 ks F) (hr : Rt 4000 ks) {e : Env} {H : AHeap} {r : Rn} (hL : loopL Go.Proofs.Try.prog KT R l_plaitlaw8_AigMeans_1 e H = r) {n : Nat} (hn : n ≤ 6) (k0 : Keeps H0 H)
    {cs : List AV} {len i : Nat} (hi : i < len) {w a b c x : Int} (hlen : i * 5 + 5 ≤ cs.length) (hw : cs[i * 5]? = some (.int .i64 w))
    (hx : ∀ inp : List Bool, inp.length = n → evalF ks x inp = (wantF w (evalF ks a inp).1 (evalF ks b inp).1 (evalF ks c inp).1, 0))
    (e0 : e 0 = some (.lst 5 len cs)) (e3 : e 3 = some (.ptr o 0)) (e4 : e 4 = some (.int .i64 i)) (e5 : e 5 = some (.int .i64 a)) (e6 : e 6 = some (.int .i64 b)) (e7 : e 7 = some (.int .i64 c)) (e8 : e 8 = some (.int .i64 n)) (e9 : e 9 = some (.int .i64 x)) (e11 : e 11 = some (.int .i64 0)) :
    ∃ y e' H', r = some (y, e', H') ∧ (y = .exit 2 ∧ Keeps H0 H') ∧ ∀ t, t ∉ defs l_plaitlaw8_AigMeans_1 → e' t = e t := by
  have hpw : (2 : Nat) ^ n ≤ 64 := Nat.le_trans (Nat.pow_le_pow_right (by omega) hn) (by decide)
  have hsh : IntKind.i64.wrap (2 ^ min n 64) = ((2 ^ n : Nat) : Int) := by
    rw [Nat.min_eq_left (by omega), i64w]
    · simp
    · have : (0 : Int) ≤ 2 ^ n := Int.le_of_lt (Int.pow_pos (by decide)); omega
    · have : ((2 ^ n : Nat) : Int) ≤ 64 := by omega
      simp at this; omega
  refine loop_count l_plaitlaw8_AigMeans_1.eq_1 hL (2 ^ n) (fun k e1 H1 => e1 11 = some (.int .i64 k) ∧ Keeps H0 H1) _ 0 (Nat.zero_le _) ⟨e11, k0⟩ ?_ ?_
  · rintro k e1 H1 hf - hk ⟨f11, k1⟩
    have w1 : IntKind.i64.wrap ((k : Int) + 1) = (k : Int) + 1 := i64w (by omega) (by omega)
    have c1 : (k : Int) < ((2 ^ n : Nat) : Int) := by omega
    have ci : (i : Int) < len := by omega
    rw [← hsh] at c1
    simp [hf, f11, e8, c1, -Int.natCast_pow]
    generalize hL2 : loopL _ _ _ _ _ _ = q
    obtain ⟨y, e2, H2, rfl, ⟨rfl, k2, v, inp, f12, hinp, ho⟩, fr2⟩ := means_loop2 (k := k) hL2 hn (by omega) k1 (by simp [hf, e8]) (by simp [f11]) (by simp) (by simp)
    simp [fr2, f12, hf, e3, e5]
    have hx := hx inp hinp
    have g2 := g.keeps k2
    generalize hE : R f_plait_aig_Graph_Eval _ _ = q
    obtain ⟨H3, rfl, k3⟩ := eval_run g2 hr ho.rd hE
    have g3 := g2.keeps k3
    have ho3 := ho.keep k3
    simp [fr2, f12, hf, e3, e6]
    generalize hE2 : R f_plait_aig_Graph_Eval _ _ = q
    obtain ⟨H4, rfl, k4⟩ := eval_run g3 hr ho3.rd hE2
    have g4 := g3.keeps k4
    have ho4 := ho3.keep k4
    have k04 : Keeps H0 H4 := (k2.trans k3).trans k4
    generalize hp : (evalF ks a inp).1 = p at *
    generalize hq : (evalF ks b inp).1 = s at *
    by_cases h4 : w = 4
    · subst h4
      cases p <;> cases s <;>
      · simp [fr2, f12, hf, e0, e3, e4, e9, ci, hlen, hw, f11]
        generalize hE3 : R f_plait_aig_Graph_Eval _ _ = q
        obtain ⟨H5, rfl, k5⟩ := eval_run g4 hr ho4.rd hE3
        simp [hx, wantF, fr2, f11, w1]
        exact k04.trans k5
    by_cases h5 : w = 5
    · subst h5
      cases p <;> cases s <;>
      · simp [fr2, f12, hf, e0, e3, e4, e9, ci, hlen, hw, f11]
        generalize hE3 : R f_plait_aig_Graph_Eval _ _ = q
        obtain ⟨H5, rfl, k5⟩ := eval_run g4 hr ho4.rd hE3
        simp [hx, wantF, fr2, f11, w1]
        exact k04.trans k5
    by_cases h6 : w = 6
    · subst h6
      cases p <;> cases s <;>
      · simp [fr2, f12, hf, e0, e3, e4, e7, ci, hlen, hw]
        generalize hE3 : R f_plait_aig_Graph_Eval _ _ = q
        obtain ⟨H5, rfl, k5⟩ := eval_run g4 hr ho4.rd hE3
        have g5 := g4.keeps k5
        have ho5 := ho4.keep k5
        generalize hc : (evalF ks c inp).1 = cv at *
        cases cv <;>
        · simp [fr2, f12, hf, e3, e9, f11]
          generalize hE4 : R f_plait_aig_Graph_Eval _ _ = q
          obtain ⟨H6, rfl, k6⟩ := eval_run g5 hr ho5.rd hE4
          simp [hx, wantF, fr2, f11, w1]
          exact (k04.trans k5).trans k6
    · cases p <;> cases s <;>
      · simp [fr2, f12, hf, e0, e3, e4, e9, ci, hlen, hw, f11, h4, h5, h6]
        generalize hE3 : R f_plait_aig_Graph_Eval _ _ = q
        obtain ⟨H5, rfl, k5⟩ := eval_run g4 hr ho4.rd hE3
        simp [hx, wantF, fr2, f11, w1, h4, h5, h6]
        exact k04.trans k5
  · rintro e1 H1 hf ⟨f11, k1⟩
    have c1 : ¬ ((2 ^ n : Nat) : Int) < IntKind.i64.wrap (2 ^ min n 64) := by rw [hsh]; omega
    simp [hf, f11, e8, hsh]
    exact k1

end Go.Proofs.Ytphkkcocimmmfaa
