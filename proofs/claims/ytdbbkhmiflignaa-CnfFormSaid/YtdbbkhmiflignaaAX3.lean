/- And-inverter graphs: the statements' own helpers. -/
import Derived.Test.YtdbbkhmiflignaaAX2
namespace Go.Proofs.Ytdbbkhmiflignaa
set_option maxRecDepth 100000

theorem loadi_of {H : AHeap} {v : AV} {l : List Int} (hv : Reads H v 1 l.length (l.map (.int .i64))) {i : Nat} (hi : i < l.length) : aindexAddr Go.Proofs.Try.prog T_s_int v (i : Int) = some (ixp v 1 i) ∧ ∀ H', Keeps H H' → aload Go.Proofs.Try.prog H' T_int (ixp v 1 i) = some (.int .i64 (l.getD i 0)) := by
  refine ⟨hv.addr (by simp) hi, fun H' k => ?_⟩
  rw [(hv.keep k).at (by simp) rfl hi]
  simp [List.getD_eq_getElem?_getD, hi]

theorem ints_loop {H : AHeap} {v w : AV} {a b : List Int} (hv : Reads H v 1 a.length (a.map (.int .i64))) (hw : Reads H w 1 b.length (b.map (.int .i64))) (hm : a.length ≤ 1000000) (hl : a.length = b.length)
    {e : Env} {r : Rn} (hL : loopL Go.Proofs.Try.prog KT R l_plaithelp_Ints_0 e H = r) (e0 : e 0 = some v) (e1 : e 1 = some w) (e5 : e 5 = some (.int .i64 0)) :
    ∃ x e' H', r = some (x, e', H') ∧ (H' = H ∧ ((x = .exit 0 ∧ a = b) ∨ (x = .ret ∧ e' 4 = some (.bool false) ∧ a ≠ b))) ∧ ∀ t, t ∉ defs l_plaithelp_Ints_0 → e' t = e t := by
  have hl' : (a.length : Int) = b.length := by omega
  refine loop_count l_plaithelp_Ints_0.eq_1 hL a.length (fun i e1 H1 => H1 = H ∧ e1 5 = some (.int .i64 i) ∧ a.take i = b.take i) _ 0 (Nat.zero_le _) ⟨rfl, e5, rfl⟩ ?_ ?_
  · rintro i e1 H1 hf - hi ⟨rfl, f5, ht⟩
    obtain ⟨a1, a2⟩ := loadi_of hv hi
    obtain ⟨b1, b2⟩ := loadi_of hw (i := i) (by omega)
    have w1 : IntKind.i64.wrap ((i : Int) + 1) = (i : Int) + 1 := i64w (by omega) (by omega)
    have c1 : (i : Int) < b.length := by omega
    have hib : i < b.length := by omega
    have ta : a.take (i + 1) = a.take i ++ [a.getD i 0] := by rw [List.take_add_one]; simp [List.getD_eq_getElem?_getD, hi]
    have tb : b.take (i + 1) = b.take i ++ [b.getD i 0] := by rw [List.take_add_one]; simp [List.getD_eq_getElem?_getD, hib]
    rw [ta, tb, ht]
    generalize hx : a.getD i 0 = x at *
    generalize hy : b.getD i 0 = y at *
    by_cases hab : x = y
    · subst hab
      simp [hf, f5, e0, ‹e 1 = some w›, hv.len, hl', c1, a1, b1, a2, b2, w1]
    · simp [hf, f5, e0, ‹e 1 = some w›, hv.len, hl', c1, a1, b1, a2, b2, hab]
      intro e
      subst e
      exact hab (hx.symm.trans hy)
  · rintro e1 H1 hf ⟨rfl, f5, ht⟩
    simp [hf, f5, e0, hv.len, hl']
    rw [List.take_of_length_le (Nat.le_refl _), List.take_of_length_le (by omega)] at ht
    exact ht
theorem ints_run {H : AHeap} {v w : AV} {a b : List Int} (hv : Reads H v 1 a.length (a.map (.int .i64))) (hw : Reads H w 1 b.length (b.map (.int .i64))) (hm : a.length ≤ 1000000) : R f_plaithelp_Ints [v, w] H = some (.bool (decide (a = b)), H) := by
  generalize h : R f_plaithelp_Ints [v, w] H = r
  rw [e_plaithelp_Ints] at h
  by_cases hl : a.length = b.length
  rotate_left
  · have hl' : ¬ (a.length : Int) = b.length := by omega
    have hne : a ≠ b := fun e => hl (by rw [e])
    simp [c_plaithelp_Ints, hv.len, hw.len, hl'] at h
    rw [← h]; simp [hne]
  have hl' : (a.length : Int) = b.length := by omega
  simp [c_plaithelp_Ints, hv.len, hw.len, hl'] at h
  generalize hL : loopL _ _ _ _ _ _ = q at h
  obtain ⟨x, e1, H1, rfl, ⟨rfl, hx⟩, fr⟩ := ints_loop hv hw hm hl hL (by simp) (by simp) (by simp)
  rcases hx with ⟨rfl, hab⟩ | ⟨rfl, h4, hab⟩
  · simp at h
    rw [← h]; simp [hab]
  · simp [h4] at h
    rw [← h]; simp [hab]

/-- A number's place among n. -/
def placeF (k n : Int) : Int := if k.tmod n < 0 then k.tmod n + n else k.tmod n
theorem placeF_in {k n : Int} (hn : 0 < n) : 0 ≤ placeF k n ∧ placeF k n < n := by
  have h1 := Int.tmod_lt_of_pos k hn
  have h2 : -n < k.tmod n := by
    by_cases h : 0 ≤ k
    · have := Int.tmod_nonneg n h; omega
    · have := Int.tmod_lt_of_pos (-k) hn
      rw [Int.neg_tmod] at this; omega
  unfold placeF
  split <;> omega
theorem place_run {k n : Int} (hn : 0 < n) (hm : n ≤ 4611686018427387904) {H : AHeap} : R f_plaithelp_Place [.int .i64 k, .int .i64 n] H = some (.int .i64 (placeF k n), H) := by
  have h := placeF_in (k := k) hn
  rw [e_plaithelp_Place]
  have h0 : ¬ n = 0 := by omega
  have h1 := Int.tmod_lt_of_pos k hn
  unfold placeF at h ⊢
  by_cases hk : k.tmod n < 0
  · rw [if_pos hk] at h ⊢
    have w1 : IntKind.i64.wrap (k.tmod n + n) = k.tmod n + n := i64w (by omega) (by omega)
    simp [c_plaithelp_Place, h0, hk, w1]
  · rw [if_neg hk] at h ⊢
    simp [c_plaithelp_Place, h0, hk]

theorem back_open {H H' : AHeap} {v : AV} (hc : closed H.size v = false) : back [] H v H' = (v, H') := by
  unfold back
  rw [if_neg]
  rintro ⟨h, -⟩
  have : frz H' H.size [] v = v := by cases v <;> rfl
  rw [this, hc] at h
  cases h
theorem new_run {n : Int} {H : AHeap} {r : Option (AV × AHeap)} (h : R f_aig_New [.int .i64 n] H = r) : ∃ H' o F, r = some (.ptr o 0, H') ∧ GAt H' o (min (max n 1) 32768) [] F ∧ Keeps H H' ∧ ∀ p, p ∈ F → H.size ≤ p := by
  rw [e_aig_New] at h
  simp [c_aig_New] at h
  rw [back_open (by simp [closed])] at h
  subst h
  exact ⟨_, H.size + 1, [H.size + 1, H.size], rfl, ⟨.nils, H.size, .nils, ⟨by simp, by simp, by simp, by omega, Reads.nils, by simp, by simp, by simp [ents], Reads.nils, by simp, by simp⟩, by simp⟩, by simp, by simp⟩
end Go.Proofs.Ytdbbkhmiflignaa
