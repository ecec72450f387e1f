/- And-inverter graphs as lists: what each call on one answers (no program in sight). -/
import Derived.Test.YtdbbkhmiflignaaALC
namespace Go.Proofs.Ytdbbkhmiflignaa

abbrev Kd := List (Int × Int)
/-- The two kids of each node in a row of cells. -/
def kc (ks : Kd) : List AV := ks.flatMap fun k => [.int .i64 k.1, .int .i64 k.2]
def rcl (ks : Kd) : List AV := ks.flatMap fun k => [.int .i64 k.1, .int .i64 k.2, .bool (decide (k = (0, 0)))]
/-- A literal of a graph of n nodes. -/
def isL (n : Nat) (l : Int) : Prop := 0 ≤ l ∧ l / 2 ≤ n
instance (n : Nat) (l : Int) : Decidable (isL n l) := inferInstanceAs (Decidable (_ ∧ _))
/-- The first node of two kids. -/
def findK (a b : Int) : Kd → Nat → Option Nat
  | [], _ => none
  | k :: ks, i => if k = (a, b) then some i else findK a b ks (i + 1)
/-- Answers: a literal, an error, the nodes. -/
structure Ans where
  l : Int
  e : Int
  ks : Kd
def putF (m : Int) (ks : Kd) (k : Int × Int) : Ans := if m ≤ ks.length then ⟨0, 81, ks⟩ else ⟨2 * (ks.length + 1), 0, ks ++ [k]⟩
def and2 (m : Int) (ks : Kd) (a b : Int) : Ans :=
  if a = 0 ∨ flip1 a = b then ⟨0, 0, ks⟩
  else if a = 1 ∨ a = b then ⟨b, 0, ks⟩
  else match findK a b ks 0 with
    | some i => ⟨2 * (i + 1), 0, ks⟩
    | none => putF m ks (a, b)
def andF (m : Int) (ks : Kd) (a b : Int) : Ans :=
  if isL ks.length a ∧ isL ks.length b then (if b < a then and2 m ks b a else and2 m ks a b) else ⟨0, 80, ks⟩
def turnF (r : Ans) : Ans := if r.e = 0 then ⟨flip1 r.l, 0, r.ks⟩ else ⟨0, r.e, r.ks⟩
def orF (m : Int) (ks : Kd) (a b : Int) : Ans :=
  if isL ks.length a ∧ isL ks.length b then turnF (andF m ks (flip1 a) (flip1 b)) else ⟨0, 80, ks⟩
def eitherF (m : Int) (ks : Kd) (a b c d : Int) : Ans :=
  let x := andF m ks a b
  if x.e = 0 then
    let y := andF m x.ks c d
    if y.e = 0 then orF m y.ks x.l y.l else ⟨0, y.e, y.ks⟩
  else ⟨0, x.e, x.ks⟩
def xorF (m : Int) (ks : Kd) (a b : Int) : Ans :=
  if isL ks.length a ∧ isL ks.length b then eitherF m ks a (flip1 b) (flip1 a) b else ⟨0, 80, ks⟩
def muxF (m : Int) (ks : Kd) (c a b : Int) : Ans :=
  if isL ks.length c ∧ isL ks.length a ∧ isL ks.length b then eitherF m ks c a (flip1 c) b else ⟨0, 80, ks⟩
def doesF (m : Int) (ks : Kd) (what a b c : Int) : Ans :=
  if what = 0 then putF m ks (0, 0)
  else if what = 1 ∨ what = 2 ∨ what = 3 then andF m ks a b
  else if what = 4 then orF m ks a b
  else if what = 5 then xorF m ks a b
  else if what = 6 then muxF m ks c a b
  else ⟨0, 0, ks⟩

/-- A right graph: at most m nodes; kids come first, neither constant nor the same nor opposite. -/
structure Rt (m : Int) (ks : Kd) : Prop where
  most : (ks.length : Int) ≤ m
  le : m ≤ 32768
  kids : ∀ (i : Nat) (k : Int × Int), ks[i]? = some k → k ≠ (0, 0) → 2 ≤ k.1 ∧ k.1 < k.2 ∧ k.2 < 2 * ((i : Int) + 1) ∧ flip1 k.1 ≠ k.2

theorem flip_bounds {n : Nat} {a : Int} (h : isL n a) : isL n (flip1 a) := by
  unfold isL flip1 at *
  split <;> omega
theorem flip_flip {a : Int} : flip1 (flip1 a) = a := by
  unfold flip1
  split
  · rw [if_neg (by omega)]; omega
  · rw [if_pos (by omega)]; omega
theorem isL_lt {n : Nat} {a : Int} : isL n a ↔ 0 ≤ a ∧ a < 2 * n + 2 := by
  unfold isL; omega

theorem isL_mono {n k : Nat} {a : Int} (h : isL n a) (hk : n ≤ k) : isL k a := by unfold isL at *; omega

theorem findK_some {a b : Int} : ∀ {ks : Kd} {j i : Nat}, findK a b ks j = some i → j ≤ i ∧ ks[i - j]? = some (a, b) ∧ ∀ k, k < i - j → ks[k]? ≠ some (a, b)
  | [], j, i, h => by simp [findK] at h
  | k :: ks, j, i, h => by
    unfold findK at h
    split at h
    · rename_i hk
      cases h
      refine ⟨Nat.le_refl _, by simp [hk], fun k hk => by omega⟩
    · rename_i hk
      obtain ⟨h1, h2, h3⟩ := findK_some h
      have e : i - j = (i - (j + 1)) + 1 := by omega
      refine ⟨by omega, by rw [e]; simpa using h2, fun n hn => ?_⟩
      cases n with
      | zero => simpa using hk
      | succ n => simpa using h3 n (by omega)
theorem findK_none {a b : Int} : ∀ {ks : Kd} {j : Nat}, findK a b ks j = none → ∀ i : Nat, ks[i]? ≠ some (a, b)
  | [], _, _, i => by simp
  | k :: ks, j, h, i => by
    unfold findK at h
    split at h
    · cases h
    · rename_i hk
      cases i with
      | zero => simpa using hk
      | succ i => simpa using findK_none h i
theorem findK_shift {a b : Int} : ∀ {ks : Kd} {j : Nat}, findK a b ks j = (findK a b ks 0).map (· + j)
  | [], _ => rfl
  | k :: ks, j => by
    unfold findK
    split
    · simp
    · rw [findK_shift (ks := ks) (j := j + 1), findK_shift (ks := ks) (j := 0 + 1)]
      cases findK a b ks 0 with
      | none => rfl
      | some i => simp; omega

/-- What an answer keeps of a graph, and what it is. -/
structure Fit (m : Int) (ks : Kd) (r : Ans) : Prop where
  rt : Rt m r.ks
  more : ∃ t, r.ks = ks ++ t
  lit : isL r.ks.length r.l

theorem Fit.len {m : Int} {ks : Kd} {r : Ans} (h : Fit m ks r) : ks.length ≤ r.ks.length := by
  obtain ⟨t, ht⟩ := h.more; rw [ht]; simp

theorem Rt.zero {m : Int} {ks : Kd} (_ : Rt m ks) : isL ks.length 0 := by unfold isL; omega
theorem Rt.same {m : Int} {ks : Kd} (h : Rt m ks) {l e : Int} (hl : isL ks.length l) : Fit m ks ⟨l, e, ks⟩ := ⟨h, ⟨[], by simp⟩, hl⟩
theorem Rt.put {m : Int} {ks : Kd} (h : Rt m ks) {k : Int × Int} (hk : k ≠ (0, 0) → 2 ≤ k.1 ∧ k.1 < k.2 ∧ k.2 < 2 * ((ks.length : Int) + 1) ∧ flip1 k.1 ≠ k.2) : Fit m ks (putF m ks k) := by
  unfold putF
  split
  · exact h.same h.zero
  · rename_i hm
    refine ⟨⟨by simp; omega, h.le, ?_⟩, ⟨[k], rfl⟩, by unfold isL; simp; omega⟩
    intro i k' hi hk'
    rw [List.getElem?_append] at hi
    split at hi
    · exact h.kids i k' hi hk'
    · rename_i hlt
      have : i - ks.length = 0 := by
        by_cases h0 : i - ks.length = 0
        · exact h0
        · rw [List.getElem?_eq_none (by simp; omega)] at hi; cases hi
      rw [this] at hi
      simp at hi
      subst hi
      have : i = ks.length := by omega
      subst this
      exact hk hk'
theorem Rt.and2 {m : Int} {ks : Kd} (h : Rt m ks) {a b : Int} (ha : isL ks.length a) (hb : isL ks.length b) (hab : a ≤ b) : Fit m ks (and2 m ks a b) := by
  unfold Go.Proofs.Ytdbbkhmiflignaa.and2
  split
  · exact h.same h.zero
  · rename_i h1
    split
    · exact h.same hb
    · rename_i h2
      rw [isL_lt] at ha hb
      split
      · rename_i i hi
        obtain ⟨_, h4, _⟩ := findK_some hi
        have := (List.getElem?_eq_some_iff.1 h4).1
        exact h.same (by rw [isL_lt]; omega)
      · exact h.put fun _ => by
          simp only
          refine ⟨by omega, by omega, by omega, fun e => h1 (.inr e)⟩
theorem Rt.and {m : Int} {ks : Kd} (h : Rt m ks) (a b : Int) : Fit m ks (andF m ks a b) := by
  unfold andF
  split
  · rename_i hab
    split
    · exact h.and2 hab.2 hab.1 (by omega)
    · exact h.and2 hab.1 hab.2 (by omega)
  · exact h.same h.zero
theorem Fit.turn {m : Int} {ks : Kd} {r : Ans} (h : Fit m ks r) : Fit m ks (turnF r) := by
  unfold turnF
  split
  · exact ⟨h.rt, h.more, flip_bounds h.lit⟩
  · exact ⟨h.rt, h.more, h.rt.zero⟩
theorem Rt.or {m : Int} {ks : Kd} (h : Rt m ks) (a b : Int) : Fit m ks (orF m ks a b) := by
  unfold orF
  split
  · exact (h.and _ _).turn
  · exact h.same h.zero
theorem Fit.trans {m : Int} {ks : Kd} {r s : Ans} (h : Fit m ks r) (k : Fit m r.ks s) : Fit m ks s := by
  obtain ⟨t, ht⟩ := h.more
  obtain ⟨t', ht'⟩ := k.more
  exact ⟨k.rt, ⟨t ++ t', by rw [ht', ht, List.append_assoc]⟩, k.lit⟩
theorem Rt.either {m : Int} {ks : Kd} (h : Rt m ks) (a b c d : Int) : Fit m ks (eitherF m ks a b c d) := by
  unfold eitherF
  have hx := h.and a b
  have hy := hx.rt.and c d
  simp only
  split
  · split
    · exact (hx.trans hy).trans (hy.rt.or _ _)
    · exact ⟨hy.rt, (hx.trans hy).more, hy.rt.zero⟩
  · exact ⟨hx.rt, hx.more, hx.rt.zero⟩
theorem Rt.xor {m : Int} {ks : Kd} (h : Rt m ks) (a b : Int) : Fit m ks (xorF m ks a b) := by
  unfold xorF
  split
  · exact h.either _ _ _ _
  · exact h.same h.zero
theorem Rt.mux {m : Int} {ks : Kd} (h : Rt m ks) (c a b : Int) : Fit m ks (muxF m ks c a b) := by
  unfold muxF
  split
  · exact h.either _ _ _ _
  · exact h.same h.zero
theorem Rt.does {m : Int} {ks : Kd} (h : Rt m ks) (w a b c : Int) : Fit m ks (doesF m ks w a b c) := by
  unfold doesF
  split
  · exact h.put fun hn => absurd rfl hn
  split
  · exact h.and _ _
  split
  · exact h.or _ _
  split
  · exact h.xor _ _
  split
  · exact h.mux _ _ _
  · exact h.same h.zero

theorem kc_len (ks : Kd) : (kc ks).length = ks.length * 2 := by
  induction ks with
  | nil => rfl
  | cons k ks ih => simp [kc] at *; omega
theorem rcl_len (ks : Kd) : (rcl ks).length = ks.length * 3 := by
  induction ks with
  | nil => rfl
  | cons k ks ih => simp [rcl] at *; omega
theorem kc_append (ks js : Kd) : kc (ks ++ js) = kc ks ++ kc js := by simp [kc]
theorem rcl_append (ks js : Kd) : rcl (ks ++ js) = rcl ks ++ rcl js := by simp [rcl]
theorem kc_at {ks : Kd} : ∀ {i : Nat} {k : Int × Int}, ks[i]? = some k → ((kc ks).drop (i * 2)).take 2 = [.int .i64 k.1, .int .i64 k.2] := by
  induction ks with
  | nil => intro i k h; simp at h
  | cons x ks ih =>
    intro i k h
    cases i with
    | zero => simp at h; subst h; simp [kc]
    | succ i =>
      simp at h
      have := ih h
      rw [Nat.add_mul]
      simpa [kc] using this
theorem rcl_at {ks : Kd} : ∀ {i : Nat} {k : Int × Int}, ks[i]? = some k → (rcl ks)[i * 3]? = some (.int .i64 k.1) ∧ (rcl ks)[i * 3 + 1]? = some (.int .i64 k.2) ∧ (rcl ks)[i * 3 + 2]? = some (.bool (decide (k = (0, 0)))) := by
  induction ks with
  | nil => intro i k h; simp at h
  | cons x ks ih =>
    intro i k h
    cases i with
    | zero => simp at h; subst h; simp [rcl]
    | succ i =>
      simp at h
      have := ih h
      rw [show (i + 1) * 3 = i * 3 + 3 from by omega]
      simpa [rcl, Nat.add_right_comm _ 3] using this
theorem kc_one (ks : Kd) : allOne (kc ks) = true := by
  induction ks with
  | nil => rfl
  | cons k ks ih => simp [kc] at *; exact ih
theorem rcl_one (ks : Kd) : allOne (rcl ks) = true := by
  induction ks with
  | nil => rfl
  | cons k ks ih => simp [rcl] at *; exact ih

/-- The map's entries: each and's kids, and its literal. -/
def ents : Kd → Nat → Nat → List AEnt
  | [], _, _ => []
  | k :: ks, i, b => if k = (0, 0) then ents ks (i + 1) b else ⟨.agg [.int .i64 k.1, .int .i64 k.2], .int .i64 (2 * ((i : Int) + 1)), b⟩ :: ents ks (i + 1) (b + 1)
theorem ents_append : ∀ (ks : Kd) (k : Int × Int) (i b : Nat), k ≠ (0, 0) → ents (ks ++ [k]) i b = ents ks i b ++ [⟨.agg [.int .i64 k.1, .int .i64 k.2], .int .i64 (2 * (((i + ks.length : Nat) : Int) + 1)), b + (ents ks i b).length⟩]
  | [], k, i, b, hk => by simp [ents, hk]
  | x :: ks, k, i, b, hk => by
    simp only [List.cons_append, ents]
    split
    · rw [ents_append ks k (i + 1) b hk]; simp; omega
    · rw [ents_append ks k (i + 1) (b + 1) hk]; simp; omega
theorem ents_input : ∀ (ks : Kd) (i b : Nat), ents (ks ++ [(0, 0)]) i b = ents ks i b
  | [], i, b => by simp [ents]
  | x :: ks, i, b => by
    simp only [List.cons_append, ents]
    split <;> rw [ents_input ks]
theorem ents_find {a c : Int} (ha : (a, c) ≠ (0, 0)) : ∀ (ks : Kd) (i b : Nat), (findE (.agg [.int .i64 a, .int .i64 c]) (ents ks i b)).map (·.val) = (findK a c ks i).map fun j => .int .i64 (2 * ((j : Int) + 1))
  | [], _, _ => rfl
  | (x, y) :: ks, i, b => by
    unfold ents findK
    by_cases h : (x, y) = (a, c)
    · cases h
      rw [if_neg ha, if_pos rfl]
      simp [findE, keyEq]
    · rw [if_neg h]
      split
      · exact ents_find ha ks (i + 1) b
      · rw [← ents_find ha ks (i + 1) (b + 1)]
        have : ¬ (a = x ∧ c = y) := fun e => h (by rw [e.1, e.2])
        simp [findE, keyEq, this]
/-- The inputs' literals. -/
def insF : Kd → Nat → List Int
  | [], _ => []
  | k :: ks, i => if k = (0, 0) then (2 * ((i : Int) + 1)) :: insF ks (i + 1) else insF ks (i + 1)
theorem insF_append : ∀ (ks : Kd) (k : Int × Int) (i : Nat), insF (ks ++ [k]) i = insF ks i ++ (if k = (0, 0) then [2 * (((i + ks.length : Nat) : Int) + 1)] else [])
  | [], k, i => by simp [insF]
  | x :: ks, k, i => by
    simp only [List.cons_append, insF]
    rw [insF_append ks k (i + 1)]
    split <;> (simp; split <;> simp <;> omega)
theorem insF_len : ∀ (ks : Kd) (i : Nat), (insF ks i).length ≤ ks.length
  | [], _ => by simp [insF]
  | x :: ks, i => by
    have := insF_len ks (i + 1)
    unfold insF
    split <;> simp <;> omega

/-! Values, cones. -/
def litV (vs : List Bool) (l : Int) : Bool := (vs.getD (l / 2).toNat false) != decide (l % 2 = 1)
def valsF (inp : List Bool) : Kd → Nat → List Bool → List Bool
  | [], _, acc => acc
  | k :: ks, n, acc => if k = (0, 0) then valsF inp ks (n + 1) (acc ++ [inp.getD n false]) else valsF inp ks n (acc ++ [litV acc k.1 && litV acc k.2])
theorem valsF_len (inp : List Bool) : ∀ (ks : Kd) (n : Nat) (acc : List Bool), (valsF inp ks n acc).length = acc.length + ks.length
  | [], _, _ => by simp [valsF]
  | k :: ks, n, acc => by
    unfold valsF
    split <;> (rw [valsF_len]; simp; omega)
def evalF (ks : Kd) (l : Int) (inp : List Bool) : Bool × Int :=
  if isL ks.length l then (if inp.length = (insF ks 0).length then (litV (valsF inp ks 0 [false]) l, 0) else (false, 82)) else (false, 80)
def kidsF (ks : Kd) (n : Int) : Int × Int × Bool :=
  if 1 ≤ n then (match ks[(n - 1).toNat]? with
    | some k => if k = (0, 0) then (0, 0, false) else (k.1, k.2, true)
    | none => (0, 0, false)) else (0, 0, false)
def mark1 (ks : Kd) (n : Nat) (v : List Bool) : List Bool :=
  if v.getD (n + 1) false = true then (match ks[n]? with
    | some k => if k = (0, 0) then v else (v.set (k.1 / 2).toNat true).set (k.2 / 2).toNat true
    | none => v) else v
def markF (ks : Kd) : Nat → List Bool → List Bool
  | 0, v => v
  | n + 1, v => markF ks n (mark1 ks n v)
theorem mark1_len (ks : Kd) (n : Nat) (v : List Bool) : (mark1 ks n v).length = v.length := by
  unfold mark1
  split
  · split
    · split <;> simp
    · rfl
  · rfl
theorem markF_len (ks : Kd) : ∀ (n : Nat) (v : List Bool), (markF ks n v).length = v.length
  | 0, _ => rfl
  | n + 1, v => by rw [markF, markF_len, mark1_len]
def outF (v : List Bool) (i : Nat) : List Int := ((List.range i).filter fun n => decide (1 ≤ n) && v.getD n false).map fun (n : Nat) => (n : Int)
theorem outF_one (v : List Bool) : outF v 1 = [] := by simp [outF, List.range_succ]
theorem outF_succ (v : List Bool) {i : Nat} (hi : 1 ≤ i) : outF v (i + 1) = outF v i ++ (if v.getD i false = true then [(i : Int)] else []) := by
  simp only [outF, List.range_succ, List.filter_append, List.map_append]
  congr 1
  have e : decide (1 ≤ i) = true := by simpa using hi
  simp only [List.filter_cons, e, Bool.true_and]
  split <;> simp
theorem outF_len (v : List Bool) (i : Nat) : (outF v i).length ≤ i := by
  unfold outF
  rw [List.length_map]
  exact Nat.le_trans (List.length_filter_le _ _) (by simp)
def coneM (ks : Kd) (l : Int) : List Bool := markF ks (l / 2).toNat ((List.replicate ((l / 2).toNat + 1) false).set (l / 2).toNat true)
def coneF (ks : Kd) (l : Int) : List Int := if isL ks.length l then outF (coneM ks l) ((l / 2).toNat + 1) else []

/-- A row of bools, longer: the marks are the same. -/
theorem mark1_more {m : Int} {ks : Kd} (hr : Rt m ks) {n : Nat} {v z : List Bool} (hn : n + 1 < v.length) : mark1 ks n (v ++ z) = mark1 ks n v ++ z := by
  unfold mark1
  rw [show (v ++ z).getD (n + 1) false = v.getD (n + 1) false from by simp [List.getD_eq_getElem?_getD, List.getElem?_append, hn]]
  split
  · split
    · rename_i k hk
      split
      · rfl
      · rename_i hne
        have := hr.kids n k hk hne
        rw [List.set_append_left _ _ (by omega), List.set_append_left _ _ (by simp; omega)]
    · rfl
  · rfl
theorem markF_more {m : Int} {ks : Kd} (hr : Rt m ks) {z : List Bool} : ∀ {n : Nat} {v : List Bool}, n < v.length → markF ks n (v ++ z) = markF ks n v ++ z
  | 0, _, _ => rfl
  | n + 1, v, h => by
    rw [markF, markF, mark1_more hr h, markF_more hr (by rw [mark1_len]; omega)]
theorem outF_more {v z : List Bool} {i : Nat} (h : i ≤ v.length) : outF (v ++ z) i = outF v i := by
  unfold outF
  congr 1
  apply List.filter_congr
  intro n hn
  have : n < v.length := by simp at hn; omega
  simp [List.getD_eq_getElem?_getD, List.getElem?_append, this]

end Go.Proofs.Ytdbbkhmiflignaa
