/- The law TermRoom. -/
import Derived.Test.YtphkkcocimmmfaaLTS
namespace Go.Proofs.Ytphkkcocimmmfaa
set_option maxRecDepth 100000
set_option maxHeartbeats 4000000

/-- A number's place among n. -/
def placeF (k n : Int) : Int := if k.tmod n < 0 then k.tmod n + n else k.tmod n
theorem placeF_in {k n : Int} (hn : 0 < n) : 0 ≤ placeF k n ∧ placeF k n < n := by
  have h1 := Int.tmod_lt_of_pos k hn
  have h2 : -n < k.tmod n := by
    by_cases h : 0 ≤ k
    · have := Int.tmod_nonneg n h; omega
    · have := Int.tmod_lt_of_pos (-k) hn
      rw [Int.neg_tmod] at this; omega
  unfold placeF
  split <;> omega
theorem place_run {k n : Int} (hn : 0 < n) (hm : n ≤ 4611686018427387904) {H : AHeap} : R f_plaithelp_Place [.int .i64 k, .int .i64 n] H = some (.int .i64 (placeF k n), H) := by
  have h := placeF_in (k := k) hn
  rw [e_plaithelp_Place]
  have h0 : ¬ n = 0 := by omega
  have h1 := Int.tmod_lt_of_pos k hn
  unfold placeF at h ⊢
  by_cases hk : k.tmod n < 0
  · rw [if_pos hk] at h ⊢
    have w1 : IntKind.i64.wrap (k.tmod n + n) = k.tmod n + n := i64w (by omega) (by omega)
    simp [c_plaithelp_Place, h0, hk, w1]
  · rw [if_neg hk] at h ⊢
    simp [c_plaithelp_Place, h0, hk]

/-- The law's numbers. -/
def ndN (i : Nat) : Nd := ⟨1, 64, 0, 0, 0, 0, 0, 64, BitVec.ofNat 64 i, 0#64, .empty⟩
def nums (k : Nat) : List Nd := (List.range k).map ndN
@[simp] theorem nums_len (k : Nat) : (nums k).length = k := by simp [nums]
theorem nums_succ (k : Nat) : nums (k + 1) = nums k ++ [ndN k] := by simp [nums, List.range_succ]
theorem ndN_inj {i j : Nat} (hi : i < 18446744073709551616) (hj : j < 18446744073709551616) (h : ndN i = ndN j) : i = j := by
  have h1 : BitVec.ofNat 64 i = BitVec.ofNat 64 j := by simp only [ndN, Nd.mk.injEq] at h; exact h.2.2.2.2.2.2.2.2.1
  have h2 := congrArg BitVec.toNat h1
  simp only [BitVec.toNat_ofNat] at h2
  omega
theorem right64 (x : BitVec 64) : rightF 64 x 0#64 = true := by
  unfold rightF
  rw [if_neg (by decide)]
  simp only [Bool.and_eq_true, decide_eq_true_eq]
  refine ⟨by decide, ?_⟩
  apply pair_ext
  · rw [lo_and, lo_mk]; apply BitVec.eq_of_getLsbD_eq; intro i hi
    rw [BitVec.getLsbD_and, lo_bit, maskN_bit _ _ (by decide)]; simp [hi]
  · rw [hi_and, hi_mk]; simp
theorem num_formed (N : Nat) (i : Nat) : formedF N (ndN i) = true := by
  have ar : arity 1 = 0 := by decide
  simp [formedF, ndN, kidsOK, kidOK, ar]
theorem num_sorted (ns : List Nd) (i : Nat) : sortedF ns (ndN i) = (ndN i, 0) := by
  unfold sortedF
  rw [if_pos (show (ndN i).op = 1 from rfl)]
  simp only [ndN, right64, if_true, and_self]
theorem num_new {k i : Nat} (h : k ≤ i) (hi : i < 18446744073709551616) : idx (nums k) (ndN i) = none := by
  unfold idx
  rw [List.findIdx?_eq_none_iff]
  intro x hx
  simp only [nums, List.mem_map, List.mem_range] at hx
  obtain ⟨j, hj, rfl⟩ := hx
  rw [decide_eq_false_iff_not]
  intro e
  have := ndN_inj hi (by omega) e
  omega
theorem num_make {most : Int} {k i : Nat} (h : k ≤ i) (hi : i < 18446744073709551616) : makT most (nums k) (ndN i) = if most ≤ k then (nums k, 0, 33) else (nums k ++ [ndN i], (k : Int) + 1, 0) := by
  unfold makT
  rw [if_neg (by rw [num_formed]; simp), num_sorted]
  simp only [num_new h hi, nums_len]
  simp
theorem num_first {most : Int} {k : Nat} (h : 0 < k) : makT most (nums k) (ndN 0) = (nums k, 1, 0) := by
  have : idx (nums k) (ndN 0) = some 0 := by
    obtain ⟨k, rfl⟩ : ∃ m, k = m + 1 := ⟨k - 1, by omega⟩
    unfold idx nums
    rw [List.range_succ_eq_map]
    simp [List.findIdx?_cons]
  unfold makT
  rw [if_neg (by rw [num_formed]; simp), num_sorted]
  simp only [this]
  simp

theorem room_loop {H0 H : AHeap} {g : Nat} {room n : Nat} {F : List Nat} (hr : room ≤ 4096) (hn : n < 300) (g0 : GT H g room [] F) (k0 : Keeps H0 H) (f0 : ∀ p, p ∈ F → H0.size ≤ p) {e : Env} {r : Rn} (hL : loopL Go.Proofs.Try.prog KT R l_plaitlaw3_TermRoom_0 e H = r)
    (e1' : e 1 = some (.int .i64 n)) (e5 : e 5 = some (.ptr g 0)) (e6 : e 6 = some (.int .i64 room)) (e7 : e 7 = some (.int .i64 0)) :
    ∃ y e' H', r = some (y, e', H') ∧ (y = .exit 0 ∧ Keeps H0 H' ∧ ∃ F', GT H' g room (nums (min n room)) F' ∧ ∀ p, p ∈ F' → H0.size ≤ p) ∧ ∀ t, t ∉ defs l_plaitlaw3_TermRoom_0 → e' t = e t := by
  refine loop_count l_plaitlaw3_TermRoom_0.eq_1 hL n (fun i e1 H1 => e1 7 = some (.int .i64 i) ∧ Keeps H0 H1 ∧ ∃ F1, GT H1 g room (nums (min i room)) F1 ∧ ∀ p, p ∈ F1 → H0.size ≤ p) _ 0 (by omega) ⟨e7, k0, F, by simpa [nums] using g0, f0⟩ ?_ ?_
  · rintro i f H1 hf - hi ⟨f7, k1, F1, g1, f1⟩
    have w1 : IntKind.i64.wrap ((i : Int) + 1) = (i : Int) + 1 := i64w (by omega) (by omega)
    have c1 : (i : Int) < n := by omega
    simp (maxDischargeDepth := 40) [hf, e1', e5, f7, c1]
    generalize hN : R f_plait_term_Graph_Make _ _ = q
    by_cases c2 : i < room
    · rw [Nat.min_eq_left (by omega)] at g1
      have hmk : makT room (nums i) (ndN i) = (nums (i + 1), (i : Int) + 1, 0) := by rw [num_make (Nat.le_refl _) (by omega), if_neg (by omega), nums_succ]
      obtain ⟨H2, F2, rfl, g2, m2⟩ := GvT.go (n := ndN i) g1 hmk hN
      have k2 : Keeps H0 H2 := m2.fr.keeps k1 f1
      have c3 : (i : Int) < room := by omega
      have c4 : ¬ (room : Int) ≤ i := by omega
      simp (maxDischargeDepth := 40) [hf, e6, f7, c3, c4, w1]
      rw [Nat.min_eq_left (by omega)]
      refine ⟨k2, F2, g2, fun p hp => ?_⟩
      rcases m2.new p hp with h | h
      · exact f1 p h
      · exact Nat.le_trans k1.size h
    · rw [Nat.min_eq_right (by omega)] at g1
      have hmk : makT room (nums room) (ndN i) = (nums room, 0, 33) := by rw [num_make (by omega) (by omega), if_pos (by omega)]
      obtain ⟨H2, F2, rfl, g2, m2⟩ := GvT.go (n := ndN i) g1 hmk hN
      have k2 : Keeps H0 H2 := m2.fr.keeps k1 f1
      have c3 : ¬ (i : Int) < room := by omega
      have c4 : (room : Int) ≤ i := by omega
      simp (maxDischargeDepth := 40) [hf, e6, f7, c3, c4, w1]
      rw [Nat.min_eq_right (by omega)]
      refine ⟨k2, F2, g2, fun p hp => ?_⟩
      rcases m2.new p hp with h | h
      · exact f1 p h
      · exact Nat.le_trans k1.size h
  · rintro f H1 hf ⟨f7, k1, F1, g1, f1⟩
    simp [hf, f7, e1']
    exact ⟨k1, F1, g1, f1⟩

theorem room_run {H : AHeap} {most k : Int} : R f_plaitlaw3_TermRoom [.int .i64 most, .int .i64 k] H = some (.bool true, H) := by
  generalize h : R f_plaitlaw3_TermRoom _ _ = r
  have hk := fun H => known_run (H := H)
  have hp := fun H => place_run (k := k) (n := 300) (by omega) (by omega) (H := H)
  obtain ⟨q0, q1⟩ := placeF_in (k := k) (n := 300) (by omega)
  generalize placeF k 300 = k' at *
  obtain ⟨n, rfl⟩ := Int.eq_ofNat_of_zero_le q0
  have hn : n < 300 := by omega
  rw [e_plaitlaw3_TermRoom] at h
  simp (maxDischargeDepth := 40) [c_plaitlaw3_TermRoom, hk, hp] at h
  generalize hN : R f_term_New _ _ = q at h
  obtain ⟨H1, g, F1, rfl, g1, k1, f1⟩ := tnew_run hN
  obtain ⟨room, hroom⟩ : ∃ room : Nat, min (max most 1) 4096 = (room : Int) := ⟨(min (max most 1) 4096).toNat, by omega⟩
  have hr1 : 1 ≤ room := by omega
  have hr2 : room ≤ 4096 := by omega
  rw [hroom] at g1
  simp (maxDischargeDepth := 40) [hroom] at h
  generalize hL : loopL _ _ _ _ _ _ = q at h
  obtain ⟨y, e1, H2, rfl, ⟨rfl, k2, F2, g2, f2⟩, fr⟩ := room_loop (n := n) hr2 hn g1 k1 f1 hL (by simp) (by simp) (by simp) (by simp)
  have hlen : R f_plait_term_Graph_Len [.ptr g 0] H2 = some (.int .i64 (min n room : Nat), H2) := by
    obtain ⟨o1, o2, o3, t, -, -, -⟩ := id g2
    have := len_run t
    rwa [nums_len] at this
  have hmin : (min (n : Int) room) = ((min n room : Nat) : Int) := by omega
  generalize hm : min n room = m at *
  simp (maxDischargeDepth := 40) [fr, hlen, hmin] at h
  generalize hN : R f_plait_term_Graph_Make _ _ = q at h
  have hmk : ∃ js, makT room (nums m) (ndN 0) = (js, 1, 0) := by
    by_cases c : m = 0
    · subst c
      refine ⟨nums 0 ++ [ndN 0], ?_⟩
      rw [num_make (Nat.le_refl _) (by omega), if_neg (by omega)]; rfl
    · exact ⟨nums m, num_first (by omega)⟩
  obtain ⟨js, hmk⟩ := hmk
  obtain ⟨H3, F3, rfl, g3, m3⟩ := GvT.go (n := ndN 0) g2 hmk hN
  have k3 : Keeps H H3 := m3.fr.keeps k2 f2
  simp (maxDischargeDepth := 40) [k3] at h
  exact h.symm

theorem TermRoom_law {a0 a1 : AV} (y0 : TV Go.Proofs.Try.prog 8 3 a0) (y1 : TV Go.Proofs.Try.prog 8 3 a1) : ∃ H', R f_plaitlaw3_TermRoom [a0, a1] H0 = some (.bool true, H') := by
  obtain ⟨n0, rfl, -⟩ := tv_int3 y0
  obtain ⟨n1, rfl, -⟩ := tv_int3 y1
  exact ⟨_, room_run⟩
end Go.Proofs.Ytphkkcocimmmfaa
