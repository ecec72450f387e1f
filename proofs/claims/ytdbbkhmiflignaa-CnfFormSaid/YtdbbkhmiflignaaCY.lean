/- The document's own functions on clauses: Has, Set, True, All, Can. -/
import Derived.Test.YtdbbkhmiflignaaCT
namespace Go.Proofs.Ytdbbkhmiflignaa
set_option maxRecDepth 100000

theorem has_run {H : AHeap} {w : AV} {c : List Int} (hw : Reads H w 1 c.length (c.map (.int .i64))) (hl : c.length ≤ 1000000) {x : Int} : R f_plaitref12_Has [w, .int .i64 x] H = some (.bool (decide (x ∈ c)), H) := by
  generalize h : R f_plaitref12_Has [w, .int .i64 x] H = r
  rw [e_plaitref12_Has] at h
  simp [c_plaitref12_Has] at h
  generalize hL : loopL _ _ _ _ _ _ = q at h
  obtain ⟨y, ev1, H1, rfl, ⟨rfl, hx⟩, fr1⟩ : ∃ y e' H', q = some (y, e', H') ∧ (H' = H ∧ ((y = .exit 0 ∧ x ∉ c) ∨ (y = .ret ∧ x ∈ c ∧ e' 4 = some (.bool true)))) ∧ ∀ t, t ∉ defs l_plaitref12_Has_0 → e' t = _ := by
    refine loop_count l_plaitref12_Has_0.eq_1 hL c.length (fun i e1 H1 => H1 = H ∧ e1 5 = some (.int .i64 i) ∧ x ∉ c.take i) _ 0 (Nat.zero_le _) ⟨rfl, by simp, by simp⟩ ?_ ?_
    · rintro i e1 H1 hf - hi ⟨rfl, f5, hn⟩
      obtain ⟨a1, a2⟩ := loadi_of hw hi
      have a3 := a2 H1 (Keeps.refl _)
      have w1 : IntKind.i64.wrap ((i : Int) + 1) = (i : Int) + 1 := i64w (by omega) (by omega)
      have c1 : (i : Int) < c.length := by omega
      have ta : c.take (i + 1) = c.take i ++ [c.getD i 0] := by rw [List.take_add_one]; simp [List.getD_eq_getElem?_getD, hi]
      have hm : c.getD i 0 ∈ c := by simp [List.getD_eq_getElem?_getD, hi]
      rw [ta]
      generalize c.getD i 0 = y at *
      by_cases hxy : y = x
      · subst hxy
        simp [hf, f5, hw.len, c1, a1, a3, hm]
      · have hxy' : ¬ x = y := fun e => hxy e.symm
        simp [hf, f5, hw.len, c1, a1, a3, hxy, hxy', w1, hn]
    · rintro e1 H1 hf ⟨rfl, f5, hn⟩
      rw [List.take_of_length_le (Nat.le_refl _)] at hn
      simp [hf, f5, hw.len, hn]
  rcases hx with ⟨rfl, hx⟩ | ⟨rfl, hx, h4⟩
  · simp at h
    rw [← h]; simp [hx]
  · simp [h4] at h
    rw [← h]; simp [hx]

/-- Is a literal true under the n-th assignment? -/
def litT (x : Int) (n : Nat) : Bool := (decide (n / 2 ^ ((max x (-x)).toNat - 1) % 2 = 1)) == decide (0 < x)
def trueF (c : List Int) (n : Nat) : Bool := c.any fun x => litT x n
def allT (C : List (List Int)) (n : Nat) : Bool := C.all fun c => trueF c n
def canF (C : List (List Int)) (v : Nat) : Bool := (List.range (2 ^ v)).any fun n => allT C n
theorem true_run {H : AHeap} {w : AV} {c : List Int} (hw : Reads H w 1 c.length (c.map (.int .i64))) (hl : c.length ≤ 1000000) (hb : ∀ x, x ∈ c → x ≠ 0 ∧ -60 ≤ x ∧ x ≤ 60) {n : Nat} (hn : n ≤ 1000000) : R f_plaitref12_True [w, .int .i64 n] H = some (.bool (trueF c n), H) := by
  generalize h : R f_plaitref12_True [w, .int .i64 n] H = r
  rw [e_plaitref12_True] at h
  simp [c_plaitref12_True] at h
  generalize hL : loopL _ _ _ _ _ _ = q at h
  obtain ⟨y, ev1, H1, rfl, ⟨rfl, hx⟩, fr1⟩ : ∃ y e' H', q = some (y, e', H') ∧ (H' = H ∧ ((y = .exit 0 ∧ trueF c n = false) ∨ (y = .ret ∧ trueF c n = true ∧ e' 4 = some (.bool true)))) ∧ ∀ t, t ∉ defs l_plaitref12_True_0 → e' t = _ := by
    refine loop_count l_plaitref12_True_0.eq_1 hL c.length (fun i e1 H1 => H1 = H ∧ e1 5 = some (.int .i64 i) ∧ trueF (c.take i) n = false) _ 0 (Nat.zero_le _) ⟨rfl, by simp, by simp [trueF]⟩ ?_ ?_
    · rintro i e1 H1 hf - hi ⟨rfl, f5, hn'⟩
      obtain ⟨a1, a2⟩ := loadi_of hw hi
      have a3 := a2 H1 (Keeps.refl _)
      have w1 : IntKind.i64.wrap ((i : Int) + 1) = (i : Int) + 1 := i64w (by omega) (by omega)
      have c1 : (i : Int) < c.length := by omega
      have ta : c.take (i + 1) = c.take i ++ [c.getD i 0] := by rw [List.take_add_one]; simp [List.getD_eq_getElem?_getD, hi]
      have hm : c.getD i 0 ∈ c := by simp [List.getD_eq_getElem?_getD, hi]
      have ht : trueF (c.take (i + 1)) n = (trueF (c.take i) n || litT (c.getD i 0) n) := by rw [ta]; simp [trueF]
      rw [ht, hn', Bool.false_or]
      have hb' := hb _ hm
      have hany : litT (c.getD i 0) n = true → trueF c n = true := fun h => List.any_eq_true.2 ⟨_, hm, h⟩
      generalize c.getD i 0 = y at *
      obtain ⟨v, hv⟩ : ∃ v : Nat, max y (-y) = (v : Int) + 1 := ⟨(max y (-y) - 1).toNat, by omega⟩
      have hv60 : v < 64 := by omega
      have w2 : IntKind.i64.wrap (-y) = -y := i64w (by omega) (by omega)
      have w3 : IntKind.i64.wrap ((v : Int) + 1 - 1) = v := by rw [show (v : Int) + 1 - 1 = v by omega]; exact i64w (by omega) (by omega)
      have w3' : IntKind.i64.wrap (v : Int) = v := i64w (by omega) (by omega)
      have hlt : litT y n = ((decide (n / 2 ^ v % 2 = 1)) == decide (0 < y)) := by unfold litT; rw [hv]; simp
      have hf1 : (n : Int).fdiv (2 ^ v) = ((n / 2 ^ v : Nat) : Int) := by
        rw [Int.fdiv_eq_ediv_of_nonneg _ (by exact Int.le_of_lt (Int.pow_pos (by omega)))]
        push_cast
        rfl
      have hle : n / 2 ^ v ≤ n := Nat.div_le_self _ _
      obtain ⟨m, hm2⟩ : ∃ m, m = n / 2 ^ v := ⟨_, rfl⟩
      rw [← hm2] at hlt hf1 hle
      have hmin : min v 64 = v := by omega
      rw [hlt] at hany ⊢
      have b1 : -9223372036854775808 ≤ (m : Int) := by omega
      have b2 : (m : Int) ≤ 9223372036854775807 := by omega
      have e2 : decide ((m : Int) % 2 = 1) = decide (m % 2 = 1) := by
        by_cases c : m % 2 = 1
        · have : (m : Int) % 2 = 1 := by omega
          simp [c, this]
        · have : ¬ (m : Int) % 2 = 1 := by omega
          simp [c, this]
      cases hd : (decide (m % 2 = 1) == decide (0 < y)) with
      | true =>
        have := hany hd
        simp [hf, f5, hw.len, c1, a1, a3, w2, hv, w3', hmin, hf1, b1, b2, e2, hd, this]
      | false => simp [hf, f5, hw.len, c1, a1, a3, w2, hv, w3', hmin, hf1, b1, b2, e2, hd, w1]
    · rintro e1 H1 hf ⟨rfl, f5, hn'⟩
      rw [List.take_of_length_le (Nat.le_refl _)] at hn'
      simp [hf, f5, hw.len, hn']
  rcases hx with ⟨rfl, hx⟩ | ⟨rfl, hx, h4⟩
  · simp at h
    rw [← h]; simp [hx]
  · simp [h4] at h
    rw [← h]; simp [hx]
theorem all_run {H : AHeap} {w : AV} {ws : List AV} {C : List (List Int)} (hw : CR H w ws C) (hl : C.length ≤ 1000000) (hb : ∀ c, c ∈ C → c.length ≤ 1000000 ∧ ∀ x, x ∈ c → x ≠ 0 ∧ -60 ≤ x ∧ x ≤ 60) {n : Nat} (hn : n ≤ 1000000) : R f_plaitref12_All [w, .int .i64 n] H = some (.bool (allT C n), H) := by
  generalize h : R f_plaitref12_All [w, .int .i64 n] H = r
  rw [e_plaitref12_All] at h
  simp [c_plaitref12_All] at h
  generalize hL : loopL _ _ _ _ _ _ = q at h
  obtain ⟨y, ev1, H1, rfl, ⟨rfl, hx⟩, fr1⟩ : ∃ y e' H', q = some (y, e', H') ∧ (H' = H ∧ ((y = .exit 0 ∧ allT C n = true) ∨ (y = .ret ∧ allT C n = false ∧ e' 4 = some (.bool false)))) ∧ ∀ t, t ∉ defs l_plaitref12_All_0 → e' t = _ := by
    refine loop_count l_plaitref12_All_0.eq_1 hL C.length (fun i e1 H1 => H1 = H ∧ e1 5 = some (.int .i64 i) ∧ allT (C.take i) n = true) _ 0 (Nat.zero_le _) ⟨rfl, by simp, by simp [allT]⟩ ?_ ?_
    · rintro i e1 H1 hf - hi ⟨rfl, f5, hn'⟩
      obtain ⟨o, f, a1, a2, a3, a4, -, -⟩ := hw.ldr hi
      have w1 : IntKind.i64.wrap ((i : Int) + 1) = (i : Int) + 1 := i64w (by omega) (by omega)
      have c1 : (i : Int) < C.length := by omega
      have ta : C.take (i + 1) = C.take i ++ [C.getD i []] := by rw [List.take_add_one]; simp [List.getD_eq_getElem?_getD, hi]
      have hm : C.getD i [] ∈ C := by simp [List.getD_eq_getElem?_getD, hi]
      have ht : allT (C.take (i + 1)) n = (allT (C.take i) n && trueF (C.getD i []) n) := by rw [ta]; simp [allT]
      rw [ht, hn', Bool.true_and]
      have hb' := hb _ hm
      have hany : trueF (C.getD i []) n = false → allT C n = false := fun h => by
        unfold allT
        rw [List.all_eq_false]
        exact ⟨_, hm, by rw [h]; simp⟩
      generalize C.getD i [] = c at *
      have ht := true_run (H := H1) (w := .row o 0 1 c.length f) (c := c) (Reads.row' a3 a4 (by simp)) hb'.1 hb'.2 hn
      cases hd : trueF c n with
      | true =>
        rw [hd] at ht
        simp [hf, f5, hw.rd.len, c1, a1, a2, ht, w1]
      | false =>
        rw [hd] at ht
        have := hany hd
        simp [hf, f5, hw.rd.len, c1, a1, a2, ht, this]
    · rintro e1 H1 hf ⟨rfl, f5, hn'⟩
      rw [List.take_of_length_le (Nat.le_refl _)] at hn'
      simp [hf, f5, hw.rd.len, hn']
  rcases hx with ⟨rfl, hx⟩ | ⟨rfl, hx, h4⟩
  · simp at h
    rw [← h]; simp [hx]
  · simp [h4] at h
    rw [← h]; simp [hx]
theorem can_run {H : AHeap} {w : AV} {ws : List AV} {C : List (List Int)} (hw : CR H w ws C) (hl : C.length ≤ 1000000) (hb : ∀ c, c ∈ C → c.length ≤ 1000000 ∧ ∀ x, x ∈ c → x ≠ 0 ∧ -60 ≤ x ∧ x ≤ 60) {v : Nat} (hv : v ≤ 19) : R f_plaitref12_Can [w, .int .i64 v] H = some (.bool (canF C v), H) := by
  generalize h : R f_plaitref12_Can [w, .int .i64 v] H = r
  rw [e_plaitref12_Can] at h
  simp [c_plaitref12_Can] at h
  have hp : 2 ^ v ≤ 2 ^ 19 := Nat.pow_le_pow_right (by omega) hv
  have hp2 : (2 : Nat) ^ 19 = 524288 := by rfl
  obtain ⟨N, hN⟩ : ∃ N, N = 2 ^ v := ⟨_, rfl⟩
  have hcan : canF C v = (List.range N).any fun n => allT C n := by rw [hN]; rfl
  rw [← hN, hp2] at hp
  have hsh : (1 : Int) * 2 ^ (min v 64) = N := by rw [hN, Nat.min_eq_left (by omega)]; push_cast; omega
  have wN : IntKind.i64.wrap (N : Int) = N := i64w (by omega) (by omega)
  generalize hL : loopL _ _ _ _ _ _ = q at h
  obtain ⟨y, ev1, H1, rfl, ⟨rfl, hx⟩, fr1⟩ : ∃ y e' H', q = some (y, e', H') ∧ (H' = H ∧ ((y = .exit 0 ∧ canF C v = false) ∨ (y = .ret ∧ canF C v = true ∧ e' 4 = some (.bool true)))) ∧ ∀ t, t ∉ defs l_plaitref12_Can_0 → e' t = _ := by
    refine loop_count l_plaitref12_Can_0.eq_1 hL N (fun i e1 H1 => H1 = H ∧ e1 5 = some (.int .i64 i) ∧ ((List.range i).any fun n => allT C n) = false) _ 0 (Nat.zero_le _) ⟨rfl, by simp, by simp⟩ ?_ ?_
    · rintro i e1 H1 hf - hi ⟨rfl, f5, hn'⟩
      have w1 : IntKind.i64.wrap ((i : Int) + 1) = (i : Int) + 1 := i64w (by omega) (by omega)
      have c1 : (i : Int) < N := by omega
      have ht := all_run hw hl hb (n := i) (by omega)
      rw [List.range_succ, List.any_append, hn', Bool.false_or]
      have hany : allT C i = true → canF C v = true := fun h => by rw [hcan]; exact List.any_eq_true.2 ⟨i, List.mem_range.2 hi, h⟩
      rw [Int.one_mul] at hsh
      cases hd : allT C i with
      | true =>
        rw [hd] at ht
        have := hany hd
        simp [hf, f5, c1, hsh, wN, ht, this]
      | false =>
        rw [hd] at ht
        simp [hf, f5, c1, hsh, wN, ht, w1, hd]
    · rintro e1 H1 hf ⟨rfl, f5, hn'⟩
      rw [Int.one_mul] at hsh
      simp [hf, f5, hsh, wN, hcan, hn']
  rcases hx with ⟨rfl, hx⟩ | ⟨rfl, hx, h4⟩
  · simp at h
    rw [← h]; simp [hx]
  · simp [h4] at h
    rw [← h]; simp [hx]
end Go.Proofs.Ytdbbkhmiflignaa
