/- Values as texts: the document's Text. -/
import Derived.Test.YtghjglnebcpcmaaBTH
namespace Go.Proofs.Ytghjglnebcpcmaa
set_option maxRecDepth 100000
set_option maxHeartbeats 4000000

theorem rtext_loop {K : AHeap} {n : Nat} {x : W128} (hn2 : n ≤ 128) {v : AV} (hv : RB K v (bn n x)) {ev : Env} {r : Rn}
    (hL : loopL Go.Proofs.Try.prog KT R l_plaitref1_Text_0 ev K = r) (e3 : ev 3 = some (.str (pushN (sigL n x 0)))) (e4 : ev 4 = some v) (e5 : ev 5 = some (.int .i64 ((n : Int) - 1))) :
    ∃ y ev' H', r = some (y, ev', H') ∧ (y = .exit 0 ∧ H' = K ∧ ev' 3 = some (.str (pushN (signL n x)))) ∧ ∀ t, t ∉ defs l_plaitref1_Text_0 → ev' t = ev t := by
  refine loop_count l_plaitref1_Text_0.eq_1 hL n (fun j e1 H1 => e1 5 = some (.int .i64 ((n : Int) - 1 - j)) ∧ H1 = K ∧ e1 3 = some (.str (pushN (sigL n x j)))) _ 0 (Nat.zero_le _) ⟨by simpa using e5, rfl, e3⟩ ?_ ?_
  · rintro j f H1 hf - hj ⟨f5, rfl, f3⟩
    obtain ⟨i, hie⟩ : ∃ i : Nat, i = n - 1 - j := ⟨_, rfl⟩
    have hic : (n : Int) - 1 - j = (i : Int) := by omega
    rw [hic] at f5
    have hstep : (n : Int) - 1 - ((j + 1 : Nat) : Int) = (i : Int) - 1 := by omega
    rw [hstep, sigL_succ, ← hie]
    have w1 : IntKind.i64.wrap ((i : Int) - 1) = (i : Int) - 1 := i64w (by omega) (by omega)
    have c1 : (0 : Int) ≤ i := by omega
    have hil : i < (bn n x).length := by simp; omega
    have a1 := hv.ix (P := Go.Proofs.Try.prog) (t := T_s_bool) (by simp) hil
    have a2 := hv.at (P := Go.Proofs.Try.prog) (t := T_bool) (by simp) hil
    rw [bn_getD, decide_eq_true (by simpa using hil), Bool.true_and] at a2
    obtain ⟨S, hS⟩ : ∃ S, S = pushN (sigL n x j) := ⟨_, rfl⟩
    have hSz : S.size = 2 + j := by
      rw [← bts_len, hS, bts_pushN, List.length_map, sigL_len]
    obtain ⟨k1, k0⟩ := cat_one (sigL n x j)
    rw [← hS] at k1 k0 f3
    have z1 : ByteArray.size ⟨#[49]⟩ = 1 := rfl
    have z0 : ByteArray.size ⟨#[48]⟩ = 1 := rfl
    have g1 : ∀ t, abin Go.Proofs.Try.prog KT .add t (.str S) (.str ⟨#[49]⟩) = some (.str (pushN (sigL n x j ++ [49]))) := fun t => by
      rw [str_add, if_pos (by rw [hSz, z1]; omega), k1]
    have g0 : ∀ t, abin Go.Proofs.Try.prog KT .add t (.str S) (.str ⟨#[48]⟩) = some (.str (pushN (sigL n x j ++ [48]))) := fun t => by
      rw [str_add, if_pos (by rw [hSz, z0]; omega), k0]
    cases hxb : x.getLsbD i with
    | true =>
      rw [hxb] at a2
      have hop : ∀ (e : Env) (G : AHeap), e 28 = some (.str S) → evalOp Go.Proofs.Try.prog KT R (.binOp .add T_string (.tmp 28) (.const (.string ⟨#[49]⟩)) T_string) e G = some (.str (pushN (sigL n x j ++ [49])), G) := fun e G he => by
        rw [op_bin, tmp_at, he, Option.bind_some, const_at, show ofValue (.string ⟨#[49]⟩) = some (.str ⟨#[49]⟩) from rfl, Option.bind_some, g1]
        rfl
      simp (maxDischargeDepth := 40) [hf, e4, f5, c1]
      simp (maxDischargeDepth := 40) [f3, a1, a2, hop, -op_bin]
      simp (maxDischargeDepth := 40) [f5, w1]
    | false =>
      rw [hxb] at a2
      have hop : ∀ (e : Env) (G : AHeap), e 30 = some (.str S) → evalOp Go.Proofs.Try.prog KT R (.binOp .add T_string (.tmp 30) (.const (.string ⟨#[48]⟩)) T_string) e G = some (.str (pushN (sigL n x j ++ [48])), G) := fun e G he => by
        rw [op_bin, tmp_at, he, Option.bind_some, const_at, show ofValue (.string ⟨#[48]⟩) = some (.str ⟨#[48]⟩) from rfl, Option.bind_some, g0]
        rfl
      simp (maxDischargeDepth := 40) [hf, e4, f5, c1]
      simp (maxDischargeDepth := 40) [f3, a1, a2, hop, -op_bin]
      simp (maxDischargeDepth := 40) [f5, w1]
  · rintro f H1 hf ⟨f5, rfl, f3⟩
    have hm1 : (n : Int) - 1 - (n : Int) = -1 := by omega
    rw [hm1] at f5
    simp [f5, f3, sigL_all]
end Go.Proofs.Ytghjglnebcpcmaa
