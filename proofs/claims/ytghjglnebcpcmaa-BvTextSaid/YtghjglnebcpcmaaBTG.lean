/- Values as texts: the solver's Text. -/
import Derived.Test.YtghjglnebcpcmaaBTF
namespace Go.Proofs.Ytghjglnebcpcmaa
set_option maxRecDepth 100000
set_option maxHeartbeats 4000000

/-- The first signs of a word. -/
def sigL (n : Nat) (x : W128) (j : Nat) : List Int := [35, 98] ++ (List.range j).map fun t => if x.getLsbD (n - 1 - t) = true then 49 else 48
theorem sigL_all (n : Nat) (x : W128) : sigL n x n = signL n x := rfl
theorem sigL_len (n : Nat) (x : W128) (j : Nat) : (sigL n x j).length = 2 + j := by simp [sigL]; omega
theorem sigL_succ (n : Nat) (x : W128) (j : Nat) : sigL n x (j + 1) = sigL n x j ++ [if x.getLsbD (n - 1 - j) = true then 49 else 48] := by
  unfold sigL
  rw [List.range_succ, List.map_append, List.append_assoc]
  rfl
theorem bit_and (y : BitVec 64) : y &&& 1#64 = if y.getLsbD 0 = true then 1#64 else 0#64 := by
  apply BitVec.eq_of_getLsbD_eq
  intro i hi
  rw [BitVec.getLsbD_and, BitVec.getLsbD_one]
  by_cases h0 : i = 0
  · subst h0; cases y.getLsbD 0 <;> simp
  · split <;> simp [h0, BitVec.getLsbD_one]
theorem text_loop {H K : AHeap} {n : Nat} {x : W128} (_hn : 1 ≤ n) (hn2 : n ≤ 128) {o : Nat} (ho : o < H.size) (hob : H.obj o = .cells [.int .i64 n, u (lo x), u (hi x)]) (kK : Keeps H K) {v : AV} (hv : OutC H K v 1 2 ((sigL n x 0).map (.int .u8))) {ev : Env} {r : Rn}
    (hL : loopL Go.Proofs.Try.prog KT R l_bv_Text_0 ev K = r) (e1 : ev 1 = some (.ptr o 0)) (e3 : ev 3 = some v) (e4 : ev 4 = some (.int .i64 ((n : Int) - 1))) :
    ∃ y ev' H', r = some (y, ev', H') ∧ (y = .exit 1 ∧ Keeps H H' ∧ ∃ w, ev' 3 = some w ∧ OutC H H' w 1 (2 + n) ((signL n x).map (.int .u8))) ∧ ∀ t, t ∉ defs l_bv_Text_0 → ev' t = ev t := by
  refine loop_count l_bv_Text_0.eq_1 hL n (fun j e1 H1 => e1 4 = some (.int .i64 ((n : Int) - 1 - j)) ∧ Keeps H H1 ∧ ∃ w, e1 3 = some w ∧ OutC H H1 w 1 (2 + j) ((sigL n x j).map (.int .u8))) _ 0 (Nat.zero_le _) ⟨by simpa using e4, kK, v, e3, hv⟩ ?_ ?_
  · rintro j f H1 hf - hj ⟨f4, k1, w, f3, hw⟩
    obtain ⟨i, hie⟩ : ∃ i : Nat, i = n - 1 - j := ⟨_, rfl⟩
    have hic : (n : Int) - 1 - j = (i : Int) := by omega
    rw [hic] at f4
    have hstep : (n : Int) - 1 - ((j + 1 : Nat) : Int) = (i : Int) - 1 := by omega
    rw [hstep, sigL_succ, ← hie, List.map_append]
    have w1 : IntKind.i64.wrap ((i : Int) - 1) = (i : Int) - 1 := i64w (by omega) (by omega)
    have c1 : (0 : Int) ≤ i := by omega
    have p0 : H1.obj o = .cells [.int .i64 n, u (lo x), u (hi x)] := (k1.obj o ho).trans hob
    have lo1 : o < H1.size := Nat.lt_of_lt_of_le ho k1.size
    have hof := fun H => (of_run (a := .int .i64 n) (x := x) (H := H)).run
    have hr := fun H => (nright_run (x := x) (n := i) (by omega) (H := H)).run
    simp only [N] at hof hr
    have hbit : (lo (x >>> i)).getLsbD 0 = x.getLsbD i := by
      rw [lo_bit, BitVec.getLsbD_ushiftRight]
      simp
    have hand := bit_and (lo (x >>> i))
    rw [hbit] at hand
    have hsz : 2 + j ≤ 1000 := by omega
    rw [show 2 + (j + 1) = 2 + j + 1 by omega]
    cases hxb : x.getLsbD i with
    | true =>
      rw [hxb, if_pos rfl] at hand
      simp (maxDischargeDepth := 40) [hf, e1, f3, f4, c1, p0, hof, hr, hand]
      generalize hA : appU _ _ _ _ = q
      obtain ⟨v', H', rfl, o2, k2, -⟩ := hw.push k1 hA (by rfl) (by rfl) (by omega) (by omega) (by omega) (by rfl)
      simp (maxDischargeDepth := 40) [f4, w1]
      exact ⟨k2, o2⟩
    | false =>
      rw [hxb, if_neg (by simp)] at hand
      simp (maxDischargeDepth := 40) [hf, e1, f3, f4, c1, p0, hof, hr, hand]
      generalize hA : appU _ _ _ _ = q
      obtain ⟨v', H', rfl, o2, k2, -⟩ := hw.push k1 hA (by rfl) (by rfl) (by omega) (by omega) (by omega) (by rfl)
      simp (maxDischargeDepth := 40) [f4, w1]
      exact ⟨k2, o2⟩
  · rintro f H1 hf ⟨f4, k1, w, f3, hw⟩
    have hm1 : (n : Int) - 1 - (n : Int) = -1 := by omega
    rw [hm1] at f4
    simp [f4, f3]
    exact ⟨k1, hw⟩
theorem text_run {H : AHeap} {w : Int} {x : W128} : R f_bv_Text [.agg [.int .i64 w, u (lo x), u (hi x)]] H = some (.str (textF w x), H) := by
  generalize h : R f_bv_Text [.agg [.int .i64 w, u (lo x), u (hi x)]] H = r
  rw [e_bv_Text] at h
  have hr := fun H => bvRight_run (w := w) (l := lo x) (h := hi x) (H := H)
  obtain ⟨K, hK⟩ : ∃ K, K = H.new (.cells [.int .i64 w, u (lo x), u (hi x)]) := ⟨_, rfl⟩
  have oK : K.obj H.size = .cells [.int .i64 w, u (lo x), u (hi x)] := by rw [hK]; simp
  have lK : H.size < K.size := by rw [hK]; simp
  have kK : Keeps H K := by rw [hK]; exact Keeps.new _ _
  by_cases hR : rightF w (lo x) (hi x) = false
  · rw [hR] at hr
    have ht : textF w x = .empty := by unfold textF; rw [if_pos hR]
    rw [ht]
    simp (maxDischargeDepth := 40) [c_bv_Text, hr, ← hK, oK, kK] at h
    rw [← h]
    rfl
  have hR1 : rightF w (lo x) (hi x) = true := by simpa using hR
  rw [hR1] at hr
  by_cases c0 : w = 0
  · subst c0
    have ht : textF 0 x = if x = 1#128 then pT else pF := by unfold textF; rw [if_neg hR, if_pos rfl]
    rw [ht]
    unfold rightF at hR1
    rw [if_pos rfl] at hR1
    have h1 := of_decide_eq_true hR1
    have hx : x = mkN (lo x) (hi x) := pair_ext (by rw [lo_mk]) (by rw [hi_mk])
    have h2 : lo x = 0#64 ∨ lo x = 1#64 := by
      have h1 := h1.1
      rw [BitVec.le_def] at h1
      have e1 : (1#64).toNat = 1 := rfl
      rw [e1] at h1
      rcases (by omega : (lo x).toNat = 0 ∨ (lo x).toNat = 1) with q | q
      · exact .inl (BitVec.eq_of_toNat_eq q)
      · exact .inr (BitVec.eq_of_toNat_eq q)
    rw [h1.2] at hr oK hK h
    rcases h2 with q | q
    · have hx0 : x = 0#128 := by rw [hx, q, h1.2]; decide
      rw [if_neg (by rw [hx0]; decide)]
      rw [q] at hr oK hK h
      simp (maxDischargeDepth := 40) [c_bv_Text, hr, ← hK, oK, kK, Bt] at h
      rw [← h]
      rfl
    · have hx1 : x = 1#128 := by rw [hx, q, h1.2]; decide
      rw [if_pos hx1]
      rw [q] at hr oK hK h
      simp (maxDischargeDepth := 40) [c_bv_Text, hr, ← hK, oK, kK, Bt] at h
      rw [← h]
      rfl
  · have ht : textF w x = pushN (signL w.toNat x) := by unfold textF; rw [if_neg hR, if_neg c0]
    rw [ht]
    have hw : 0 < w ∧ w ≤ 128 := by
      unfold rightF at hR1
      rw [if_neg c0, Bool.and_eq_true] at hR1
      exact of_decide_eq_true hR1.1
    obtain ⟨n, hn⟩ : ∃ n : Nat, w = n := ⟨w.toNat, by omega⟩
    subst hn
    have w1 : IntKind.i64.wrap ((n : Int) - 1) = (n : Int) - 1 := i64w (by omega) (by omega)
    obtain ⟨K2, hK2⟩ : ∃ K2, K2 = K.new (.cells [.int .u8 35, .int .u8 98]) := ⟨_, rfl⟩
    have k2 : Keeps K K2 := by rw [hK2]; exact Keeps.new _ _
    have o2 : K2.obj K.size = .cells [.int .u8 35, .int .u8 98] := by rw [hK2]; simp
    have l2 : K.size < K2.size := by rw [hK2]; simp
    have o1 : K2.obj H.size = .cells [.int .i64 n, u (lo x), u (hi x)] := (k2.obj _ lK).trans oK
    have l1 : H.size < K2.size := by omega
    have hsc := (Reads.row' (full := true) (sz := 1) (n := 2) l2 o2 (by rfl)).cells
    simp (maxDischargeDepth := 40) [c_bv_Text, hsc, hr, ← hK, oK, eq_false (show ¬ n = 0 by omega), Bt, ← hK2, o1, w1] at h
    generalize hL : loopL _ _ _ _ _ _ = q at h
    have hv : OutC K K2 (.row K.size 0 1 2 true) 1 2 ((sigL n x 0).map (.int .u8)) := ⟨Reads.row' l2 o2 (by rfl), by simp, by simp⟩
    obtain ⟨y, ev, H', rfl, ⟨rfl, k3, v, f3, hv3⟩, fr⟩ := text_loop (by omega) (by omega) lK oK k2 hv hL (by simp) (by simp) (by simp)
    have hlen : (signL n x).length = 2 + n := by rw [← sigL_all, sigL_len]
    have rd := hv3.rd
    rw [← hlen] at rd
    have hcv := cv_bytes rd hv3.gr
    have kk := kK.trans k3
    simp (maxDischargeDepth := 40) [f3, hcv, kk] at h
    rw [← h]
    simp
end Go.Proofs.Ytghjglnebcpcmaa
