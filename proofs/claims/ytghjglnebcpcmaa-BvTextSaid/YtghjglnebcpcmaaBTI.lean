/- Values as texts: the document's Text, and its Parse. -/
import Derived.Test.YtghjglnebcpcmaaBTH2
namespace Go.Proofs.Ytghjglnebcpcmaa
set_option maxRecDepth 100000
set_option maxHeartbeats 4000000

theorem rtext_run {H : AHeap} {w : Int} {x : W128} : R f_plaitref1_Text [.agg [.int .i64 w, u (lo x), u (hi x)]] H = some (.str (textF w x), H) := by
  generalize h : R f_plaitref1_Text [.agg [.int .i64 w, u (lo x), u (hi x)]] H = r
  rw [e_plaitref1_Text] at h
  have hr := fun H => rightR_run (w := w) (l := lo x) (h := hi x) (H := H)
  obtain ⟨K, hK⟩ : ∃ K, K = H.new (.cells [.int .i64 w, u (lo x), u (hi x)]) := ⟨_, rfl⟩
  have oK : K.obj H.size = .cells [.int .i64 w, u (lo x), u (hi x)] := by rw [hK]; simp
  have lK : H.size < K.size := by rw [hK]; simp
  have kK : Keeps H K := by rw [hK]; exact Keeps.new _ _
  by_cases hR : rightF w (lo x) (hi x) = false
  · rw [hR] at hr
    have ht : textF w x = .empty := by unfold textF; rw [if_pos hR]
    rw [ht]
    simp (maxDischargeDepth := 40) [c_plaitref1_Text, hr, ← hK, oK, kK] at h
    rw [← h]
    rfl
  have hR1 : rightF w (lo x) (hi x) = true := by simpa using hR
  rw [hR1] at hr
  by_cases c0 : w = 0
  · subst c0
    have ht : textF 0 x = if x = 1#128 then pT else pF := by unfold textF; rw [if_neg hR, if_pos rfl]
    rw [ht]
    unfold rightF at hR1
    rw [if_pos rfl] at hR1
    have h1 := of_decide_eq_true hR1
    have hx : x = mkN (lo x) (hi x) := pair_ext (by rw [lo_mk]) (by rw [hi_mk])
    have h2 : lo x = 0#64 ∨ lo x = 1#64 := by
      have h1 := h1.1
      rw [BitVec.le_def] at h1
      have e1 : (1#64).toNat = 1 := rfl
      rw [e1] at h1
      rcases (by omega : (lo x).toNat = 0 ∨ (lo x).toNat = 1) with q | q
      · exact .inl (BitVec.eq_of_toNat_eq q)
      · exact .inr (BitVec.eq_of_toNat_eq q)
    rw [h1.2] at hr oK hK h
    rcases h2 with q | q
    · have hx0 : x = 0#128 := by rw [hx, q, h1.2]; decide
      rw [if_neg (by rw [hx0]; decide)]
      rw [q] at hr oK hK h
      simp (maxDischargeDepth := 40) [c_plaitref1_Text, hr, ← hK, oK, kK] at h
      rw [← h]
      rfl
    · have hx1 : x = 1#128 := by rw [hx, q, h1.2]; decide
      rw [if_pos hx1]
      rw [q] at hr oK hK h
      simp (maxDischargeDepth := 40) [c_plaitref1_Text, hr, ← hK, oK, kK] at h
      rw [← h]
      rfl
  · have ht : textF w x = pushN (signL w.toNat x) := by unfold textF; rw [if_neg hR, if_neg c0]
    rw [ht]
    have hw : 0 < w ∧ w ≤ 128 := by
      unfold rightF at hR1
      rw [if_neg c0, Bool.and_eq_true] at hR1
      exact of_decide_eq_true hR1.1
    obtain ⟨n, hn⟩ : ∃ n : Nat, w = n := ⟨w.toNat, by omega⟩
    subst hn
    have w1 : IntKind.i64.wrap ((n : Int) - 1) = (n : Int) - 1 := i64w (by omega) (by omega)
    obtain ⟨K2, hb, k2, s2, o2⟩ := (bits_run (w := n) (by omega) (x := x) (H := K)).ex
    have rd : RB K2 (.row (K.size + 1) 0 1 n true) (bn n x) := RB.row (by omega) o2 (by simp)
    have hlen := rd.len
    simp (maxDischargeDepth := 40) [c_plaitref1_Text, hr, ← hK, oK, eq_false (show ¬ n = 0 by omega), hb, w1] at h
    generalize hL : loopL _ _ _ _ _ _ = q at h
    obtain ⟨y, ev, H', rfl, ⟨rfl, rfl, f3⟩, fr⟩ := rtext_loop (x := x) (n := n) (by omega) rd hL (by simp [sigL]; rfl) (by simp) (by simp)
    have kk := kK.trans k2
    simp (maxDischargeDepth := 40) [f3, kk] at h
    rw [← h]
    simp
/-- One digit's bits are laid behind. -/
theorem shr_bit (d k : Nat) (hd : d ≤ 16) (hk : k ≤ 3) : decide (IntKind.i64.wrap ((BitVec.ofInt 64 ((d : Int).fdiv (2 ^ (min ((k : Int)).toNat 64))) &&& BitVec.ofInt 64 1).toNat : Int) = 1) = (BitVec.ofNat 128 d).getLsbD k := by
  have key : ∀ d : Fin 17, ∀ k : Fin 4, decide (IntKind.i64.wrap ((BitVec.ofInt 64 (((d : Nat) : Int).fdiv (2 ^ (min (((k : Nat) : Int)).toNat 64))) &&& BitVec.ofInt 64 1).toNat : Int) = 1) = (BitVec.ofNat 128 (d : Nat)).getLsbD (k : Nat) := by decide +kernel
  exact key ⟨d, by omega⟩ ⟨k, by omega⟩
theorem dig_loop {H K : AHeap} {e d : Nat} (he : e ≤ 4) (hd : d ≤ 16) (kK : Keeps H K) {v : AV} {bs : List Bool} (hm : bs.length ≤ 1000) (hv : OutC H K v 1 bs.length (bs.map .bool)) {ev : Env} {r : Rn}
    (hL : loopL Go.Proofs.Try.prog KT R l_plaitref1_Parse_1 ev K = r) (e5 : ev 5 = some (.int .i64 e)) (e6 : ev 6 = some v) (e8 : ev 8 = some (.int .i64 d)) (e9 : ev 9 = some (.int .i64 0)) :
    ∃ y ev' H', r = some (y, ev', H') ∧ (y = .exit 2 ∧ Keeps H H' ∧ ∃ w, ev' 6 = some w ∧ OutC H H' w 1 (bs ++ bn e (BitVec.ofNat 128 d)).length ((bs ++ bn e (BitVec.ofNat 128 d)).map .bool)) ∧ ∀ t, t ∉ defs l_plaitref1_Parse_1 → ev' t = ev t := by
  refine loop_count l_plaitref1_Parse_1.eq_1 hL e (fun k e1 H1 => e1 9 = some (.int .i64 k) ∧ Keeps H H1 ∧ ∃ w, e1 6 = some w ∧ OutC H H1 w 1 (bs ++ bn k (BitVec.ofNat 128 d)).length ((bs ++ bn k (BitVec.ofNat 128 d)).map .bool)) _ 0 (Nat.zero_le _) ⟨e9, kK, v, e6, by simpa [bn] using hv⟩ ?_ ?_
  · rintro k f H1 hf - hk ⟨f9, k1, w, f6, hw⟩
    have w1 : IntKind.i64.wrap ((k : Int) + 1) = (k : Int) + 1 := i64w (by omega) (by omega)
    have c1 : (k : Int) < e := by omega
    have c0 : ¬ (k : Int) < 0 := by omega
    have hbit := shr_bit d k hd (by omega)
    rw [bn_succ]
    have hll : (bs ++ bn k (BitVec.ofNat 128 d)).length ≤ 2000 := by simp; omega
    have hl2 : (bs ++ (bn k (BitVec.ofNat 128 d) ++ [(BitVec.ofNat 128 d).getLsbD k])).length = (bs ++ bn k (BitVec.ofNat 128 d)).length + 1 := by simp; omega
    have hm2 : (bs ++ (bn k (BitVec.ofNat 128 d) ++ [(BitVec.ofNat 128 d).getLsbD k])).map AV.bool = (bs ++ bn k (BitVec.ofNat 128 d)).map AV.bool ++ [.bool ((BitVec.ofNat 128 d).getLsbD k)] := by simp
    rw [hl2, hm2]
    obtain ⟨L, hLe⟩ : ∃ L, L = bs ++ bn k (BitVec.ofNat 128 d) := ⟨_, rfl⟩
    rw [← hLe] at hw hll ⊢
    obtain ⟨b, hb⟩ : ∃ b, b = (BitVec.ofNat 128 d).getLsbD k := ⟨_, rfl⟩
    rw [← hb] at hbit ⊢
    obtain ⟨X, hX⟩ : ∃ X : Int, X = (d : Int).fdiv (2 ^ (min ((k : Int)).toNat 64)) := ⟨_, rfl⟩
    obtain ⟨Y, hY⟩ : ∃ Y : Int, Y = IntKind.i64.wrap ((BitVec.ofInt 64 X &&& BitVec.ofInt 64 1).toNat : Int) := ⟨_, rfl⟩
    have g1 : ∀ t, abin Go.Proofs.Try.prog KT .shr t (.int .i64 d) (.int .i64 k) = some (.int .i64 X) := fun t => by rw [bin_shr, if_neg c0, hX]; rfl
    have g2 : ∀ t, abin Go.Proofs.Try.prog KT .and t (.int .i64 X) (.int .i64 1) = some (.int .i64 Y) := fun t => by rw [bin_and, hY]; rfl
    have g3 : ∀ t, abin Go.Proofs.Try.prog KT .eql t (.int .i64 Y) (.int .i64 1) = some (.bool b) := fun t => by rw [bin_eql, hY, hX, hbit]
    simp (maxDischargeDepth := 40) [hf, e5, e8, f6, f9, c1, g1, g2, g3, -bin_shr, -bin_and, -bin_eql]
    generalize hA : appU _ _ _ _ = q
    obtain ⟨v', H', rfl, o2, k2, -⟩ := hw.push k1 hA (by rfl) (by rfl) (by omega) (by omega) (by omega) (by rfl)
    simp (maxDischargeDepth := 40) [f9, w1]
    exact ⟨k2, o2⟩
  · rintro f H1 hf ⟨f9, k1, w, f6, hw⟩
    simp [hf, f9, e5, f6]
    exact ⟨k1, by simpa using hw⟩
end Go.Proofs.Ytghjglnebcpcmaa
