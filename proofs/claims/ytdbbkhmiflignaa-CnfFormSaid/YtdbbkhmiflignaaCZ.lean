/- The document's own sets of literals. -/
import Derived.Test.YtdbbkhmiflignaaCY
namespace Go.Proofs.Ytdbbkhmiflignaa
set_option maxRecDepth 100000
set_option maxHeartbeats 1000000

def posF (out : List Int) (x : Int) : Nat := (out.takeWhile fun y => decide (y < x)).length
def addS (out : List Int) (x : Int) : List Int := if out[posF out x]? = some x then out else out.take (posF out x) ++ x :: out.drop (posF out x)
def setF (c : List Int) : List Int := c.foldl addS []
theorem posF_le (out : List Int) (x : Int) : posF out x ≤ out.length := by
  unfold posF
  exact (List.takeWhile_sublist _).length_le
theorem posF_lt {out : List Int} {x : Int} : ∀ {i : Nat}, i < posF out x → ∃ y, out[i]? = some y ∧ y < x := by
  induction out with
  | nil => intro i h; simp [posF] at h
  | cons a l ih =>
    intro i h
    unfold posF at h ih
    rw [List.takeWhile_cons] at h
    by_cases c : a < x
    · simp [c] at h
      cases i with
      | zero => exact ⟨a, by simp, c⟩
      | succ i =>
        obtain ⟨y, h1, h2⟩ := ih (i := i) (by omega)
        exact ⟨y, by simpa using h1, h2⟩
    · simp [c] at h
theorem posF_at {out : List Int} {x : Int} {y : Int} (h : out[posF out x]? = some y) : ¬ y < x := by
  induction out with
  | nil => simp at h
  | cons a l ih =>
    unfold posF at h ih
    rw [List.takeWhile_cons] at h
    by_cases c : a < x
    · simp [c] at h
      exact ih h
    · simp [c] at h
      subst h; exact c
theorem addS_mem {out : List Int} {x y : Int} : y ∈ addS out x ↔ y ∈ out ∨ y = x := by
  unfold addS
  split
  · rename_i h
    have := List.mem_of_getElem? h
    constructor
    · exact .inl
    · rintro (h1 | rfl)
      · exact h1
      · exact this
  · rw [List.mem_append, List.mem_cons]
    have : y ∈ out ↔ y ∈ out.take (posF out x) ∨ y ∈ out.drop (posF out x) := by
      rw [← List.mem_append, List.take_append_drop]
    rw [this]
    constructor
    · rintro (h | h | h)
      · exact .inl (.inl h)
      · exact .inr h
      · exact .inl (.inr h)
    · rintro ((h | h) | h)
      · exact .inl h
      · exact .inr (.inr h)
      · exact .inr (.inl h)
theorem addS_len {out : List Int} {x : Int} (h : x ∉ out) : (addS out x).length = out.length + 1 := by
  unfold addS
  rw [if_neg fun e => h (List.mem_of_getElem? e)]
  have := posF_le out x
  simp
  omega
theorem foldS_mem : ∀ {c out : List Int} {y : Int}, y ∈ c.foldl addS out ↔ y ∈ out ∨ y ∈ c
  | [], out, y => by simp
  | x :: c, out, y => by
    rw [List.foldl_cons, foldS_mem, addS_mem, List.mem_cons, or_assoc]
theorem setF_mem {c : List Int} {y : Int} : y ∈ setF c ↔ y ∈ c := by
  unfold setF
  rw [foldS_mem]; simp
theorem foldS_len : ∀ {c out : List Int}, c.Nodup → (∀ x, x ∈ c → x ∉ out) → (c.foldl addS out).length = out.length + c.length
  | [], out, _, _ => by simp
  | x :: c, out, hn, h => by
    obtain ⟨h1, h2⟩ := List.nodup_cons.1 hn
    rw [List.foldl_cons, foldS_len h2 fun y hy hm => ?_, addS_len (h x (by simp)), List.length_cons]
    · omega
    · rcases addS_mem.1 hm with h3 | rfl
      · exact h y (by simp [hy]) h3
      · exact h1 hy
theorem setF_len {c : List Int} (h : c.Nodup) : (setF c).length = c.length := by
  unfold setF
  rw [foldS_len h (by simp)]; simp
theorem setF_snoc (c : List Int) (x : Int) : setF (c ++ [x]) = addS (setF c) x := by simp [setF]
theorem foldS_le : ∀ {c out : List Int}, (c.foldl addS out).length ≤ out.length + c.length
  | [], _ => by simp
  | x :: c, out => by
    have h1 := foldS_le (c := c) (out := addS out x)
    have h2 : (addS out x).length ≤ out.length + 1 := by
      unfold addS
      split
      · omega
      · have := posF_le out x
        simp; omega
    rw [List.foldl_cons, List.length_cons]
    omega
theorem setF_le (c : List Int) : (setF c).length ≤ c.length := by
  have := foldS_le (c := c) (out := [])
  simpa [setF] using this

theorem find_loop {H : AHeap} {v w : AV} {out c : List Int} (hv : Reads H v 1 out.length (out.map (.int .i64))) (hw : Reads H w 1 c.length (c.map (.int .i64))) (hl : out.length ≤ 1000000) {i : Nat} (hi : i < c.length) {ev : Env} {r : Rn}
    (hL : loopL Go.Proofs.Try.prog KT R l_plaitref12_Set_1 ev H = r) (e0 : ev 0 = some w) (e4 : ev 4 = some v) (e5 : ev 5 = some (.int .i64 i)) (e6 : ev 6 = some (.int .i64 0)) :
    ∃ x e' H', r = some (x, e', H') ∧ (x = .exit 2 ∧ H' = H ∧ e' 6 = some (.int .i64 (posF out (c.getD i 0)))) ∧ ∀ t, t ∉ defs l_plaitref12_Set_1 → e' t = ev t := by
  obtain ⟨x, hx⟩ : ∃ x, x = c.getD i 0 := ⟨_, rfl⟩
  obtain ⟨a1, a2⟩ := loadi_of hw hi
  have a3 := a2 H (Keeps.refl _)
  rw [← hx] at a3 ⊢
  have hp := posF_le out x
  refine loop_count l_plaitref12_Set_1.eq_1 hL (posF out x) (fun k e1 H1 => H1 = H ∧ e1 6 = some (.int .i64 k)) _ 0 (Nat.zero_le _) ⟨rfl, e6⟩ ?_ ?_
  · rintro k e1 H1 hf - hk ⟨rfl, f6⟩
    obtain ⟨y, h1, h2⟩ := posF_lt hk
    obtain ⟨b1, b2⟩ := loadi_of hv (i := k) (by omega)
    have b3 := b2 H1 (Keeps.refl _)
    have hy : out.getD k 0 = y := by simp [List.getD_eq_getElem?_getD, h1]
    rw [hy] at b3
    have w1 : IntKind.i64.wrap ((k : Int) + 1) = (k : Int) + 1 := i64w (by omega) (by omega)
    have c1 : (k : Int) < out.length := by omega
    simp [hf, f6, e0, e4, e5, hv.len, c1, a1, a3, b1, b3, h2, w1]
  · rintro e1 H1 hf ⟨rfl, f6⟩
    by_cases c1 : posF out x < out.length
    · obtain ⟨b1, b2⟩ := loadi_of hv c1
      have b3 := b2 H1 (Keeps.refl _)
      have h2 := posF_at (out := out) (x := x) (y := out.getD (posF out x) 0) (by simp [List.getD_eq_getElem?_getD, c1])
      generalize out.getD (posF out x) 0 = y at *
      have c1' : (posF out x : Int) < out.length := by omega
      simp [hf, f6, e0, e4, e5, hv.len, c1', a1, a3, b1, b3, h2]
    · have c1' : ¬ (posF out x : Int) < out.length := by omega
      simp [hf, f6, e4, hv.len, c1']
theorem shift_step {out : List Int} {j : Nat} {y : AV} (hj : j < out.length) : ((out.take (j + 1)).map (AV.int .i64) ++ y :: (out.drop (j + 1)).map (AV.int .i64)).set (j + 1) (.int .i64 (out.getD j 0)) = (out.take j).map (AV.int .i64) ++ .int .i64 (out.getD j 0) :: (out.drop j).map (AV.int .i64) := by
  have hd : out.drop j = out.getD j 0 :: out.drop (j + 1) := by
    rw [List.drop_eq_getElem_cons hj]; simp [List.getD_eq_getElem?_getD, hj]
  have ht : out.take (j + 1) = out.take j ++ [out.getD j 0] := by rw [List.take_add_one]; simp [List.getD_eq_getElem?_getD, hj]
  have hl : ((out.take j).map (AV.int .i64)).length = j := by simp; omega
  rw [hd, ht]
  rw [List.map_append, List.append_assoc, List.set_append_right _ _ (by omega), hl, show j + 1 - j = 1 by omega]
  rfl
theorem shift_loop {H : AHeap} {o : Nat} {out : List Int} (_ho : o < H.size) (hob : H.obj o = .cells (out.map (AV.int .i64) ++ [.int .i64 0])) (hl : out.length ≤ 1000000) {k : Nat} (hk : k ≤ out.length) {ev : Env} {r : Rn}
    (hL : loopL Go.Proofs.Try.prog KT R l_plaitref12_Set_2 ev H = r) (e4 : ev 4 = some (.row o 0 1 (out.length + 1) false)) (e6 : ev 6 = some (.int .i64 k)) (e7 : ev 7 = some (.int .i64 out.length)) :
    ∃ x e' H', r = some (x, e', H') ∧ (x = .exit 4 ∧ Fr [o] H H' ∧ H'.size = H.size ∧ ∃ y, H'.obj o = .cells ((out.take k).map (AV.int .i64) ++ y :: (out.drop k).map (AV.int .i64))) ∧ ∀ t, t ∉ defs l_plaitref12_Set_2 → e' t = ev t := by
  refine loop_rule l_plaitref12_Set_2.eq_1 hL (fun m e1 H1 => ∃ j y, m = j - k ∧ k ≤ j ∧ j ≤ out.length ∧ e1 7 = some (.int .i64 (j : Nat)) ∧ Fr [o] H H1 ∧ H1.size = H.size ∧ H1.obj o = .cells ((out.take j).map (AV.int .i64) ++ y :: (out.drop j).map (AV.int .i64))) _ (out.length - k) ⟨out.length, .int .i64 0, rfl, hk, Nat.le_refl _, e7, Fr.refl _ _, rfl, by rw [hob]; simp⟩ ?_
  rintro m e1 H1 hf ⟨j, y, rfl, hkj, hjl, f7, F1, s1, o1⟩
  by_cases c : k < j
  · obtain ⟨j, rfl⟩ : ∃ j', j = j' + 1 := ⟨j - 1, by omega⟩
    have c' : (k : Int) < (j : Int) + 1 := by omega
    have w1 : IntKind.i64.wrap ((j : Int) + 1 - 1) = j := by rw [show (j : Int) + 1 - 1 = j by omega]; exact i64w (by omega) (by omega)
    have w2 : IntKind.i64.wrap (j : Int) = j := i64w (by omega) (by omega)
    have hget : ((out.take (j + 1)).map (AV.int .i64) ++ y :: (out.drop (j + 1)).map (AV.int .i64))[j]? = some (.int .i64 (out.getD j 0)) := by
      rw [List.getElem?_append_left (by simp; omega)]
      simp [List.getD_eq_getElem?_getD, show j < out.length by omega]
    have hset := shift_step (y := y) (show j < out.length by omega)
    have q1 : (j : Int) < (out.length : Int) + 1 := by omega
    have q2 : (j : Int) + 1 < (out.length : Int) + 1 := by omega
    have t1 : ((j : Int) + 1).toNat = j + 1 := by omega
    generalize out.getD j 0 = z at *
    obtain ⟨L, hL'⟩ : ∃ L, L = (out.take (j + 1)).map (AV.int .i64) ++ y :: (out.drop (j + 1)).map (AV.int .i64) := ⟨_, rfl⟩
    rw [← hL'] at o1 hget hset
    have hLl : j + 1 < L.length := by rw [hL']; simp; omega
    simp (maxDischargeDepth := 40) [hf, f7, e4, e6, c', w2, o1, hget, q1, q2, t1, hLl, hset]
    refine ⟨j - k, by omega, j, rfl, by omega, by omega, rfl, F1.set (.inl (by simp)) _, s1, .int .i64 z, by simp⟩
  · have : j = k := by omega
    subst this
    simp [hf, f7, e6]
    exact ⟨F1, s1, y, by simpa using o1⟩
end Go.Proofs.Ytdbbkhmiflignaa
