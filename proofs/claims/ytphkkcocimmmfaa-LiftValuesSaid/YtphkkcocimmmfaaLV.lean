/- The functions that 'LiftValues' reaches: what each computes. -/
import Derived.Test.YtphkkcocimmmfaaAT
import Derived.Test.YtphkkcocimmmfaaBW
namespace Go.Proofs.Ytphkkcocimmmfaa

theorem is_run {n : Int} {H : AHeap} : R f_plaitref3_Is [.int .i64 n] H = some (.bool (decide (0 ≤ n ∧ n ≤ 128)), H) := by
  rw [e_plaitref3_Is]
  simp [c_plaitref3_Is]
  split <;> simp [*]

theorem bool_run {b : Bool} {H : AHeap} : Pure R f_plaitref1_Bool [.bool b] H (.agg [.int .i64 0, u (if b = true then 1 else 0), u 0#64]) := by
  unfold Pure
  rw [e_plaitref1_Bool]
  simp [c_plaitref1_Bool]
  split <;> simp [*]

/-! plaithelp.Bools -/
theorem bools_at {H : AHeap} {v : AV} {bs : List Bool} {n : Nat} (h : Reads H v 1 n (bs.map .bool)) {i : Nat} (hi : i < bs.length) :
    aindexAddr Go.Proofs.Try.prog T_s_bool v (i : Int) = some (ixp v 1 i) ∧ aload Go.Proofs.Try.prog H T_bool (ixp v 1 i) = some (.bool (bs.getD i false)) := by
  have hs := h.size
  simp at hs
  refine ⟨h.addr (by simp) (by omega), ?_⟩
  rw [h.at (by simp) rfl (by omega)]
  simp [List.getD_eq_getElem?_getD, hi]

theorem bools_loop {H : AHeap} {v w : AV} {bs cs : List Bool} (hv : Reads H v 1 bs.length (bs.map .bool)) (hw : Reads H w 1 cs.length (cs.map .bool)) (hl : bs.length = cs.length) (hm : bs.length ≤ 9223372036854775807) :
    ∀ (k i : Nat) (e : Env), bs.length - i = k → i ≤ bs.length → e 0 = some v → e 1 = some w → e 5 = some (.int .i64 i) →
      ∃ e', (loopL Go.Proofs.Try.prog KT R l_plaithelp_Bools_0 e H = some (.exit 0, e', H) ∧ bs.drop i = cs.drop i) ∨ (loopL Go.Proofs.Try.prog KT R l_plaithelp_Bools_0 e H = some (.ret, e'.put 4 (.bool false), H) ∧ bs.drop i ≠ cs.drop i) := by
  intro k
  induction k with
  | zero =>
    intro i e hk hi h0 h1 h5
    have : i = bs.length := by omega
    subst this
    rw [loopL_un l_plaithelp_Bools_0.eq_1]
    simp [h0, h1, h5, hv.len]
    omega
  | succ k ih =>
    intro i e hk hi h0 h1 h5
    have hlt : i < bs.length := by omega
    have hlc : i < cs.length := by omega
    obtain ⟨a1, a2⟩ := bools_at hv hlt
    obtain ⟨b1, b2⟩ := bools_at hw hlc
    have hwr := i64w (n := (i : Int) + 1) (by omega) (by omega)
    have d1 : bs.drop i = bs.getD i false :: bs.drop (i + 1) := by rw [List.drop_eq_getElem_cons hlt]; simp [hlt]
    have d2 : cs.drop i = cs.getD i false :: cs.drop (i + 1) := by rw [List.drop_eq_getElem_cons hlc]; simp [hlc]
    rw [d1, d2]
    generalize bs.getD i false = x at *
    generalize cs.getD i false = y at *
    rw [loopL_un l_plaithelp_Bools_0.eq_1]
    by_cases hxy : x = y
    · subst hxy
      simp [h0, h1, h5, hv.len, hlt, a1, a2, b1, b2, hwr]
      exact ih (i + 1) _ (by omega) (by omega) (by simp [h0]) (by simp [h1]) (by simp)
    · simp [h0, h1, h5, hv.len, hlt, a1, a2, b1, b2, hwr, hxy]
      exact ⟨_, rfl⟩

theorem bools_run {H : AHeap} {v w : AV} {bs cs : List Bool} (hv : Reads H v 1 bs.length (bs.map .bool)) (hw : Reads H w 1 cs.length (cs.map .bool)) (hm : bs.length ≤ 9223372036854775807) :
    R f_plaithelp_Bools [v, w] H = some (.bool (decide (bs = cs)), H) := by
  rw [e_plaithelp_Bools]
  by_cases hl : bs.length = cs.length
  · by_cases hb : bs = cs
    · have L : ∀ e : Env, e 0 = some v → e 1 = some w → e 5 = some (.int .i64 0) → loopL Go.Proofs.Try.prog KT R l_plaithelp_Bools_0 e H = some (.exit 0, lenv Go.Proofs.Try.prog KT R l_plaithelp_Bools_0 e H, H) := by
        intro e h0 h1 h5
        obtain ⟨e', h | h⟩ := bools_loop hv hw hl hm _ 0 e rfl (Nat.zero_le _) h0 h1 h5
        · obtain ⟨a, b, c⟩ := loop_of h.1; rw [c] at a; exact a
        · exact absurd (by simpa using hb) h.2
      simp [c_plaithelp_Bools, hv.len, hw.len, hl, L, hb]
    · have L : ∀ e : Env, e 0 = some v → e 1 = some w → e 5 = some (.int .i64 0) → loopL Go.Proofs.Try.prog KT R l_plaithelp_Bools_0 e H = some (.ret, lenv Go.Proofs.Try.prog KT R l_plaithelp_Bools_0 e H, H) ∧ lenv Go.Proofs.Try.prog KT R l_plaithelp_Bools_0 e H 4 = some (.bool false) := by
        intro e h0 h1 h5
        obtain ⟨e', h | h⟩ := bools_loop hv hw hl hm _ 0 e rfl (Nat.zero_le _) h0 h1 h5
        · exact absurd (by simpa using h.2) hb
        · obtain ⟨a, b, c⟩ := loop_of h.1; rw [c] at a; exact ⟨a, by rw [b]; simp⟩
      simp [c_plaithelp_Bools, hv.len, hw.len, hl, L, hb]
  · have : bs ≠ cs := fun e => hl (by rw [e])
    have hl' : ¬ (bs.length : Int) = cs.length := by omega
    simp [c_plaithelp_Bools, hv.len, hw.len, hl', this]

/-! plaitref1.Word -/
theorem word_loop {H0 : AHeap} {v : AV} {bs : List Bool} (hv : Reads H0 v 1 bs.length (bs.map .bool)) (hm : bs.length ≤ 128) {o : Nat} (ho : H0.size ≤ o) :
    ∀ (k i : Nat) (e : Env) (H : AHeap) (p : Wd), bs.length - i = k → i ≤ bs.length → Keeps H0 H → o < H.size → H.obj o = .cells [.int .i64 bs.length, u p.1, u p.2] → e 0 = some v → e 3 = some (.ptr o 0) → e 4 = some (.int .i64 i) →
      ∃ e' H', loopL Go.Proofs.Try.prog KT R l_plaitref1_Word_0 e H = some (.exit 0, e', H') ∧ Upd o H H' ∧ H'.obj o = .cells [.int .i64 bs.length, u (wordF p i (bs.drop i)).1, u (wordF p i (bs.drop i)).2] ∧ e' 3 = e 3 ∧ e' 2 = e 2 := by
  intro k
  induction k with
  | zero =>
    intro i e H p hk hi hH hoH hobj h0 h3 h4
    have : i = bs.length := by omega
    subst this
    rw [loopL_un l_plaitref1_Word_0.eq_1]
    simp [h0, h3, h4, hv.len, wordF]
    exact ⟨_, _, ⟨rfl, rfl⟩, Upd.refl _ _, hobj, by simp [h3], by simp⟩
  | succ k ih =>
    intro i e H p hk hi hH hoH hobj h0 h3 h4
    have hlt : i < bs.length := by omega
    have hv' := hv.keep hH
    obtain ⟨a1, a2⟩ := bools_at hv' hlt
    have hwr := i64w (n := (i : Int) + 1) (by omega) (by omega)
    have d1 : bs.drop i = bs.getD i false :: bs.drop (i + 1) := by rw [List.drop_eq_getElem_cons hlt]; simp [hlt]
    rw [d1]
    generalize hx : bs.getD i false = x at *
    rw [loopL_un l_plaitref1_Word_0.eq_1, wordF]
    have a3 : ∀ X, aload Go.Proofs.Try.prog (H.set o X) T_bool (ixp v 1 i) = some (.bool x) := by
      intro X
      have := (bools_at (hv.keep (hH.set ho X)) hlt).2
      rw [this, ← hx]
    have c1 : (i : Int) < 64 ↔ i < 64 := by omega
    have c2 : (64 : Int) ≤ i ↔ ¬ i < 64 := by omega
    cases x with
    | false =>
      simp [h0, h3, h4, hv.len, hlt, a1, a2, hwr, setB]
      refine (ih (i + 1) _ _ p (by omega) (by omega) hH hoH hobj (by simp [h0]) (by simp [h3]) (by simp)).elim fun e' h => h.elim fun H' h => ⟨e', H', h.1, h.2.1, h.2.2.1, ?_, ?_⟩
      · rw [h.2.2.2.1]; simp [h3]
      · rw [h.2.2.2.2]; simp
    | true =>
      by_cases h64 : i < 64
      · simp [h0, h3, h4, hv.len, hlt, a1, a2, a3, hwr, setB, h64, c1, c2, hobj]
        refine (ih (i + 1) _ _ (p.1 ||| 1#64 <<< i, p.2) (by omega) (by omega) (hH.set ho _) hoH (by simp) (by simp [h0]) (by simp [h3]) (by simp)).elim fun e' h => h.elim fun H' h => ⟨e', H', h.1, ((Upd.refl o H).set _).trans h.2.1, h.2.2.1, ?_, ?_⟩
        · rw [h.2.2.2.1]; simp [h3]
        · rw [h.2.2.2.2]; simp
      · have hw2 := i64w (n := (i : Int) - 64) (by omega) (by omega)
        have t1 : ((i : Int) - 64).toNat = i - 64 := by omega
        simp [h0, h3, h4, hv.len, hlt, a1, a2, a3, hwr, hw2, t1, setB, h64, c1, c2, hobj]
        refine (ih (i + 1) _ _ (p.1, p.2 ||| 1#64 <<< (i - 64)) (by omega) (by omega) (hH.set ho _) hoH (by simp) (by simp [h0]) (by simp [h3]) (by simp)).elim fun e' h => h.elim fun H' h => ⟨e', H', h.1, ((Upd.refl o H).set _).trans h.2.1, h.2.2.1, ?_, ?_⟩
        · rw [h.2.2.2.1]; simp [h3]
        · rw [h.2.2.2.2]; simp

theorem word_run {H : AHeap} {v : AV} {bs : List Bool} (hv : Reads H v 1 bs.length (bs.map .bool)) (hm : bs.length ≤ 128) :
    Pure R f_plaitref1_Word [v] H (.agg [.int .i64 bs.length, u (wordF (0#64, 0#64) 0 bs).1, u (wordF (0#64, 0#64) 0 bs).2]) := by
  have L : ∀ (e : Env) (H1 : AHeap), Keeps H H1 → H.size + 1 < H1.size → H1.obj (H.size + 1) = .cells [.int .i64 bs.length, u 0#64, u 0#64] → e 0 = some v → e 3 = some (.ptr (H.size + 1) 0) → e 4 = some (.int .i64 0) →
      loopL Go.Proofs.Try.prog KT R l_plaitref1_Word_0 e H1 = some (.exit 0, lenv Go.Proofs.Try.prog KT R l_plaitref1_Word_0 e H1, lheap Go.Proofs.Try.prog KT R l_plaitref1_Word_0 e H1) ∧
      (∀ k, k ≠ H.size + 1 → (lheap Go.Proofs.Try.prog KT R l_plaitref1_Word_0 e H1).obj k = H1.obj k) ∧ Keeps H (lheap Go.Proofs.Try.prog KT R l_plaitref1_Word_0 e H1) ∧
      (lheap Go.Proofs.Try.prog KT R l_plaitref1_Word_0 e H1).obj (H.size + 1) = .cells [.int .i64 bs.length, u (wordF (0#64, 0#64) 0 bs).1, u (wordF (0#64, 0#64) 0 bs).2] ∧
      lenv Go.Proofs.Try.prog KT R l_plaitref1_Word_0 e H1 3 = e 3 ∧ lenv Go.Proofs.Try.prog KT R l_plaitref1_Word_0 e H1 2 = e 2 := by
    intro e H1 k1 k2 k3 k4 k5 k6
    obtain ⟨e', H', q1, q2, q3, q4, q5⟩ := word_loop hv hm (o := H.size + 1) (by omega) _ 0 e H1 (0#64, 0#64) rfl (Nat.zero_le _) k1 k2 k3 k4 k5 k6
    obtain ⟨a, b, c⟩ := loop_of q1
    subst b c
    exact ⟨a, q2.obj, q2.keeps k1 (by omega), q3, q4, q5⟩
  unfold Pure
  rw [e_plaitref1_Word]
  simp (maxDischargeDepth := 9) [c_plaitref1_Word, hv.len, L]

/-! plaitref1.Bits -/
theorem cells_done {p : Wd} {n : Nat} {cs : List AV} (hl : cs.length = n) (h : ∀ j, j < n → cs[j]? = some (.bool (wbit p j))) : cs = (bitsF p n).map .bool := by
  apply List.ext_getElem?
  intro j
  by_cases hj : j < n
  · rw [h j hj]; simp [bitsF, hj]
  · rw [List.getElem?_eq_none (by omega), List.getElem?_eq_none (by simp [bitsF]; omega)]

theorem cells_more {p : Wd} {i : Nat} {cs : List AV} (hi : i < cs.length) (h : ∀ j, j < i → cs[j]? = some (.bool (wbit p j))) {b : Bool} (hb : b = wbit p i) : ∀ j, j < i + 1 → (cs.set i (.bool b))[j]? = some (.bool (wbit p j)) := by
  intro j hj
  rw [List.getElem?_set]
  by_cases e : i = j
  · subst e; simp [hi, hb]
  · rw [if_neg e]; exact h j (by omega)

theorem bits_loop {p : Wd} {n o1 o3 : Nat} (hn : n ≤ 128) (hne : o1 ≠ o3) :
    ∀ (k i : Nat) (e : Env) (H : AHeap) (cs : List AV), n - i = k → i ≤ n → H.obj o1 = .cells [.int .i64 n, u p.1, u p.2] → H.obj o3 = .cells cs → cs.length = n → (∀ j, j < i → cs[j]? = some (.bool (wbit p j))) →
      e 1 = some (.ptr o1 0) → e 3 = some (.row o3 0 1 n true) → e 4 = some (.int .i64 i) →
      ∃ e' H', loopL Go.Proofs.Try.prog KT R l_plaitref1_Bits_0 e H = some (.exit 0, e', H') ∧ Upd o3 H H' ∧ H'.obj o3 = .cells ((bitsF p n).map .bool) ∧ e' 3 = e 3 := by
  intro k
  induction k with
  | zero =>
    intro i e H cs hk hi ho1 ho3 hl hcs h1 h3 h4
    have : i = n := by omega
    subst this
    rw [loopL_un l_plaitref1_Bits_0.eq_1]
    simp [h1, h3, h4, ho1]
    exact ⟨_, _, ⟨rfl, rfl⟩, Upd.refl _ _, by rw [ho3, cells_done hl hcs], by simp [h3]⟩
  | succ k ih =>
    intro i e H cs hk hi ho1 ho3 hl hcs h1 h3 h4
    have hlt : i < n := by omega
    have hwr := i64w (n := (i : Int) + 1) (by omega) (by omega)
    have c1 : (i : Int) < 64 ↔ i < 64 := by omega
    have c2 : (64 : Int) ≤ i ↔ ¬ i < 64 := by omega
    rw [loopL_un l_plaitref1_Bits_0.eq_1]
    by_cases h64 : i < 64
    · have hb : decide (p.1 >>> i &&& 1#64 = 1#64) = wbit p i := by rw [shr_one]; simp [wbit, h64]
      simp [h1, h3, h4, ho1, ho3, hlt, hwr, c1, c2, h64, hl, hb]
      refine (ih (i + 1) _ _ (cs.set i (.bool (wbit p i))) (by omega) (by omega) (by simp [hne, ho1]) (by simp) (by simp [hl]) (cells_more (by omega) hcs rfl) (by simp [h1]) (by simp [h3]) (by simp)).elim fun e' h => h.elim fun H' h => ⟨e', H', h.1, ((Upd.refl o3 H).set _).trans h.2.1, h.2.2.1, ?_⟩
      rw [h.2.2.2]; simp [h3]
    · have hw2 := i64w (n := (i : Int) - 64) (by omega) (by omega)
      have t1 : ((i : Int) - 64).toNat = i - 64 := by omega
      have hb : decide (p.2 >>> (i - 64) &&& 1#64 = 1#64) = wbit p i := by rw [shr_one]; simp [wbit, h64]
      simp [h1, h3, h4, ho1, ho3, hlt, hwr, hw2, t1, c1, c2, h64, hl, hb]
      refine (ih (i + 1) _ _ (cs.set i (.bool (wbit p i))) (by omega) (by omega) (by simp [hne, ho1]) (by simp) (by simp [hl]) (cells_more (by omega) hcs rfl) (by simp [h1]) (by simp [h3]) (by simp)).elim fun e' h => h.elim fun H' h => ⟨e', H', h.1, ((Upd.refl o3 H).set _).trans h.2.1, h.2.2.1, ?_⟩
      rw [h.2.2.2]; simp [h3]

theorem bits_run {p : Wd} {n : Nat} (hn : n ≤ 128) {H : AHeap} :
    ∃ H', R f_plaitref1_Bits [.agg [.int .i64 n, u p.1, u p.2]] H = some (.row (H.size + 1) 0 1 n true, H') ∧ Keeps H H' ∧ H.size + 1 < H'.size ∧ H'.obj (H.size + 1) = .cells ((bitsF p n).map .bool) := by
  have L : ∀ (e : Env) (H1 : AHeap), Keeps H H1 → H1.size = H.size + 2 → H1.obj H.size = .cells [.int .i64 n, u p.1, u p.2] → H1.obj (H.size + 1) = .cells (List.replicate n (.bool false)) → e 1 = some (.ptr H.size 0) → e 3 = some (.row (H.size + 1) 0 1 n true) → e 4 = some (.int .i64 0) →
      loopL Go.Proofs.Try.prog KT R l_plaitref1_Bits_0 e H1 = some (.exit 0, lenv Go.Proofs.Try.prog KT R l_plaitref1_Bits_0 e H1, lheap Go.Proofs.Try.prog KT R l_plaitref1_Bits_0 e H1) ∧ Keeps H (lheap Go.Proofs.Try.prog KT R l_plaitref1_Bits_0 e H1) ∧ H.size + 1 < (lheap Go.Proofs.Try.prog KT R l_plaitref1_Bits_0 e H1).size ∧ (lheap Go.Proofs.Try.prog KT R l_plaitref1_Bits_0 e H1).obj (H.size + 1) = .cells ((bitsF p n).map .bool) ∧ lenv Go.Proofs.Try.prog KT R l_plaitref1_Bits_0 e H1 3 = some (.row (H.size + 1) 0 1 n true) := by
    intro e H1 k1 k2 k3 k4 k6 k7 k8
    obtain ⟨e', H', q1, q2, q3, q4⟩ := bits_loop hn (o1 := H.size) (o3 := H.size + 1) (by omega) _ 0 e H1 _ rfl (Nat.zero_le _) k3 k4 (by simp) (fun j hj => absurd hj (Nat.not_lt_zero _)) k6 k7 k8
    obtain ⟨a, b, c⟩ := loop_of q1
    subst b c
    exact ⟨a, q2.keeps k1 (by omega), by rw [q2.size]; omega, q3, by rw [q4, k7]⟩
  rw [e_plaitref1_Bits]
  have c1 : (n : Int) ≤ 140737488355328 := by omega
  have c2 : (n : Int) ≤ 9223372036854775807 := by omega
  simp (maxDischargeDepth := 9) [c_plaitref1_Bits, c1, c2, L]

theorem of_run {a : AV} {p : Wd} {H : AHeap} : Pure R f_bv_of [.agg [a, u p.1, u p.2]] H (.agg [u p.1, u p.2]) := by
  unfold Pure
  rw [e_bv_of]
  simp (maxDischargeDepth := 9) [c_bv_of]

theorem not_run {a b : BitVec 64} {H : AHeap} : Pure R f_plait_bv_number_not [.agg [u a, u b]] H (.agg [u (~~~a), u (~~~b)]) := by
  unfold Pure
  rw [e_plait_bv_number_not]
  simp (maxDischargeDepth := 9) [c_plait_bv_number_not]

theorem right_run {a b : BitVec 64} {m : Nat} (hm : m ≤ 128) {H : AHeap} : Pure R f_plait_bv_number_right [.agg [u a, u b], .int .i64 m] H (.agg [u (rightP (a, b) m).1, u (rightP (a, b) m).2]) := by
  unfold Pure
  rw [e_plait_bv_number_right]
  have c2 : (64 : Int) ≤ m ↔ 64 ≤ m := by omega
  have hw2 := i64w (n := (m : Int) - 64) (by omega) (by omega)
  have hw3 := i64w (n := 64 - (m : Int)) (by omega) (by omega)
  have t3 : (m : Int).toNat % 18446744073709551616 = m := by omega
  by_cases h64 : 64 ≤ m
  · have t1 : (BitVec.ofInt 64 ((m : Int) - 64)).toNat = m - 64 := by rw [BitVec.toNat_ofInt]; omega
    simp (maxDischargeDepth := 9) [c_plait_bv_number_right, c2, h64, hw2, t1, rightP]
  · have t1 : (BitVec.ofInt 64 (64 - (m : Int))).toNat = 64 - m := by rw [BitVec.toNat_ofInt]; omega
    have t2 : (BitVec.ofInt 64 (m : Int)).toNat = m := by rw [BitVec.toNat_ofInt]; omega
    have t4 : m % 18446744073709551616 = m := by omega
    simp (maxDischargeDepth := 9) [c_plait_bv_number_right, c2, h64, hw3, t1, t4, rightP]

theorem mask_run {n : Nat} (hn : n ≤ 128) {H : AHeap} : Pure R f_bv_mask [.int .i64 n] H (.agg [u (maskP (128 - n)).1, u (maskP (128 - n)).2]) := by
  unfold Pure
  rw [e_bv_mask]
  have hw : IntKind.i64.wrap (128 - (n : Int)) = ((128 - n : Nat) : Int) := by rw [i64w (by omega) (by omega)]; omega
  have r1 := fun H => (not_run (a := 0#64) (b := 0#64) (H := H)).run
  have k1 := fun H => (not_run (a := 0#64) (b := 0#64) (H := H)).kp
  have r2 := fun H => (right_run (a := 18446744073709551615#64) (b := 18446744073709551615#64) (m := 128 - n) (by omega) (H := H)).run
  have k2 := fun H => (right_run (a := 18446744073709551615#64) (b := 18446744073709551615#64) (m := 128 - n) (by omega) (H := H)).kp
  simp only [show ~~~0#64 = 18446744073709551615#64 from by decide] at r1 k1
  simp (maxDischargeDepth := 9) [c_bv_mask, hw, r1, k1, r2, k2, maskP]

theorem cut_run {p : Wd} {n : Nat} (hn : n ≤ 128) {H : AHeap} : Pure R f_bv_cut [.int .i64 n, .agg [u p.1, u p.2]] H (.agg [.int .i64 n, u (p.1 &&& (maskP (128 - n)).1), u (p.2 &&& (maskP (128 - n)).2)]) := by
  unfold Pure
  rw [e_bv_cut]
  have r1 := fun H => (mask_run hn (H := H)).run
  have k1 := fun H => (mask_run hn (H := H)).kp
  simp (maxDischargeDepth := 9) [c_bv_cut, r1, k1]

/-- May there be such a value? -/
def rightV (w : Int) (p : Wd) : Bool := if w = 0 then decide (p.1 ≤ 1#64) && decide (p.2 = 0#64) else decide (0 < w) && decide (w ≤ 128) && decide (Below128 p w.toNat)

theorem bvright_run {p : Wd} {w : Int} {H : AHeap} : Pure R f_bv_Right [.agg [.int .i64 w, u p.1, u p.2]] H (.bool (rightV w p)) := by
  unfold Pure
  rw [e_bv_Right]
  by_cases h0 : w = 0
  · subst h0
    by_cases hp : p.1 ≤ 1#64 <;> simp (maxDischargeDepth := 9) [c_bv_Right, rightV, hp]
  · by_cases h1 : 0 < w
    · by_cases h2 : w ≤ 128
      · obtain ⟨n, rfl⟩ : ∃ n : Nat, w = n := ⟨w.toNat, by omega⟩
        have r1 := fun H => (of_run (a := .int .i64 n) (p := p) (H := H)).run
        have k1 := fun H => (of_run (a := .int .i64 n) (p := p) (H := H)).kp
        have r2 := fun H => (cut_run (p := p) (n := n) (by omega) (H := H)).run
        have k2 := fun H => (cut_run (p := p) (n := n) (by omega) (H := H)).kp
        have hc : decide (Below128 p n) = decide (p.1 &&& (maskP (128 - n)).1 = p.1 ∧ p.2 &&& (maskP (128 - n)).2 = p.2) := by rw [decide_eq_decide]; exact (cut_same (by omega)).symm
        have h0' : ¬ n = 0 := by omega
        have h1' : 0 < n := by omega
        simp (maxDischargeDepth := 9) [c_bv_Right, rightV, h0', h1', h2, r1, k1, r2, k2, hc]
      · simp (maxDischargeDepth := 9) [c_bv_Right, rightV, h0, h1, h2]
    · simp (maxDischargeDepth := 9) [c_bv_Right, rightV, h0, h1]

theorem rightV_nat {p : Wd} {n : Nat} (h : 0 < n) (hn : n ≤ 128) : rightV n p = decide (Below128 p n) := by
  have h0 : ¬ (n : Int) = 0 := by omega
  have h1 : (0 : Int) < n := by omega
  have h2 : (n : Int) ≤ 128 := by omega
  simp only [rightV, if_neg h0, h1, h2, decide_true, Bool.true_and, Int.toNat_natCast]

theorem refright_run {p : Wd} {w : Int} {H : AHeap} : Pure R f_plaitref1_Right [.agg [.int .i64 w, u p.1, u p.2]] H (.bool (rightV w p)) := by
  unfold Pure
  rw [e_plaitref1_Right]
  by_cases hneg : w < 0
  · have h0 : ¬ w = 0 := by omega
    have h1 : ¬ 0 < w := by omega
    simp (maxDischargeDepth := 9) [c_plaitref1_Right, rightV, hneg, h0, h1]
  by_cases hbig : 128 < w
  · have h0 : ¬ w = 0 := by omega
    have h1 : ¬ w ≤ 128 := by omega
    simp (maxDischargeDepth := 9) [c_plaitref1_Right, rightV, hneg, h0, h1, hbig]
  by_cases h0 : w = 0
  · subst h0
    by_cases hp : p.1 ≤ 1#64 <;> simp (maxDischargeDepth := 9) [c_plaitref1_Right, rightV, hp]
  · obtain ⟨n, rfl⟩ : ∃ n : Nat, w = n := ⟨w.toNat, by omega⟩
    have hn : n ≤ 128 := by omega
    have h0' : ¬ n = 0 := by omega
    have h1' : ¬ (128 : Int) < n := by omega
    rw [rightV_nat (by omega) hn]
    have r1 : ∀ H, R f_plaitref1_Bits [.agg [.int .i64 n, u p.1, u p.2]] H = some (.row (H.size + 1) 0 1 n true, aft R f_plaitref1_Bits [.agg [.int .i64 n, u p.1, u p.2]] H) := by
      intro H; obtain ⟨H', q, _⟩ := bits_run (p := p) hn (H := H); exact (aft_of q).1
    have k1 : ∀ H, Kp R f_plaitref1_Bits [.agg [.int .i64 n, u p.1, u p.2]] H := by
      intro H; obtain ⟨H', q, k, _⟩ := bits_run (p := p) hn (H := H); unfold Kp; rw [(aft_of q).2]; exact k
    have d1 : ∀ H, Reads (aft R f_plaitref1_Bits [.agg [.int .i64 n, u p.1, u p.2]] H) (.row (H.size + 1) 0 1 n true) 1 (bitsF p n).length ((bitsF p n).map .bool) := by
      intro H; obtain ⟨H', q, k, q2, q3⟩ := bits_run (p := p) hn (H := H); rw [(aft_of q).2, bitsF_length]; exact Reads.row' q2 q3 (by simp [bitsF_length])
    have r2 := (word_run (d1 (H.new (.cells [.int .i64 n, u p.1, u p.2]))) (by rw [bitsF_length]; exact hn)).run
    have k2 := (word_run (d1 (H.new (.cells [.int .i64 n, u p.1, u p.2]))) (by rw [bitsF_length]; exact hn)).kp
    simp only [new_size] at r2 k2
    have hc : decide (Below128 p n) = decide ((wordF (0#64, 0#64) 0 (bitsF p n)).1 = p.1 ∧ (wordF (0#64, 0#64) 0 (bitsF p n)).2 = p.2) := by
      rw [decide_eq_decide, ← wordF_bitsF hn]
      exact Prod.ext_iff
    simp (maxDischargeDepth := 9) [c_plaitref1_Right, hneg, h0', h1', r1, k1, r2, k2, hc, bitsF_length]

/-! lift.BitsOf -/
theorem bitsof_loop {p : Wd} {w : Int} {n o1 o3 : Nat} (hn : n ≤ 128) (hne : o1 ≠ o3) :
    ∀ (k i : Nat) (e : Env) (H : AHeap) (cs : List AV), n - i = k → i ≤ n → H.obj o1 = .cells [.int .i64 w, u p.1, u p.2] → H.obj o3 = .cells cs → cs.length = n → (∀ j, j < i → cs[j]? = some (.bool (wbit p j))) →
      e 1 = some (.ptr o1 0) → e 3 = some (.row o3 0 1 n true) → e 14 = some (.int .i64 n) → e 15 = some (.int .i64 i) →
      ∃ e' H', loopL Go.Proofs.Try.prog KT R l_lift_BitsOf_0 e H = some (.exit 0, e', H') ∧ Upd o3 H H' ∧ H'.obj o3 = .cells ((bitsF p n).map .bool) ∧ e' 3 = e 3 := by
  intro k
  induction k with
  | zero =>
    intro i e H cs hk hi ho1 ho3 hl hcs h1 h3 h14 h15
    have : i = n := by omega
    subst this
    rw [loopL_un l_lift_BitsOf_0.eq_1]
    simp [h1, h3, h14, h15]
    exact ⟨_, _, ⟨rfl, rfl⟩, Upd.refl _ _, by rw [ho3, cells_done hl hcs], by simp [h3]⟩
  | succ k ih =>
    intro i e H cs hk hi ho1 ho3 hl hcs h1 h3 h14 h15
    have hlt : i < n := by omega
    have hwr := i64w (n := (i : Int) + 1) (by omega) (by omega)
    have c1 : (63 : Int) < i ↔ ¬ i < 64 := by omega
    have t4 : lo6 i % 18446744073709551616 = lo6 i := by unfold lo6; omega
    rw [loopL_un l_lift_BitsOf_0.eq_1]
    by_cases h64 : i < 64
    · have t5 : lo6 i = i := by unfold lo6; omega
      have t6 : i % 18446744073709551616 = i := by omega
      have hb : decide (p.1 >>> i &&& 1#64 = 1#64) = wbit p i := by rw [shr_one]; simp [wbit, h64]
      simp [h1, h3, h14, h15, ho1, ho3, hlt, hwr, c1, h64, hl, hb, t6, t5]
      refine (ih (i + 1) _ _ (cs.set i (.bool (wbit p i))) (by omega) (by omega) (by simp [hne, ho1]) (by simp) (by simp [hl]) (cells_more (by omega) hcs rfl) (by simp [h1]) (by simp [h3]) (by simp [h14]) (by simp)).elim fun e' h => h.elim fun H' h => ⟨e', H', h.1, ((Upd.refl o3 H).set _).trans h.2.1, h.2.2.1, ?_⟩
      rw [h.2.2.2]; simp [h3]
    · have t5 : lo6 i = i - 64 := by unfold lo6; omega
      have t6 : (i - 64) % 18446744073709551616 = i - 64 := by omega
      have hb : decide (p.2 >>> (i - 64) &&& 1#64 = 1#64) = wbit p i := by rw [shr_one]; simp [wbit, h64]
      simp [h1, h3, h14, h15, ho1, ho3, hlt, hwr, c1, h64, hl, hb, t6, t5]
      refine (ih (i + 1) _ _ (cs.set i (.bool (wbit p i))) (by omega) (by omega) (by simp [hne, ho1]) (by simp) (by simp [hl]) (cells_more (by omega) hcs rfl) (by simp [h1]) (by simp [h3]) (by simp [h14]) (by simp)).elim fun e' h => h.elim fun H' h => ⟨e', H', h.1, ((Upd.refl o3 H).set _).trans h.2.1, h.2.2.1, ?_⟩
      rw [h.2.2.2]; simp [h3]

theorem bitsof_run {p : Wd} {w : Int} (hr : rightV w p = true) {H : AHeap} :
    ∃ o H', R f_lift_BitsOf [.agg [.int .i64 w, u p.1, u p.2]] H = some (.row o 0 1 (max w 1).toNat true, H') ∧ Keeps H H' ∧ o < H'.size ∧ H'.obj o = .cells ((bitsF p (max w 1).toNat).map .bool) := by
  have hw : 0 ≤ w ∧ w ≤ 128 := by
    unfold rightV at hr
    split at hr
    · omega
    · simp at hr; omega
  obtain ⟨n, hn⟩ : ∃ n : Nat, max w 1 = n := ⟨(max w 1).toNat, by omega⟩
  have hn1 : n ≤ 128 := by omega
  rw [hn, Int.toNat_natCast]
  have r1 := fun H => (bvright_run (p := p) (w := w) (H := H)).run
  have k1 := fun H => (bvright_run (p := p) (w := w) (H := H)).kp
  rw [hr] at r1
  generalize hA : aft R f_bv_Right [.agg [.int .i64 w, u p.1, u p.2]] (H.new (.cells [.int .i64 w, u p.1, u p.2])) = A
  have hk := k1 (H.new (.cells [.int .i64 w, u p.1, u p.2]))
  unfold Kp at hk
  rw [hA] at hk
  have r1' := r1 (H.new (.cells [.int .i64 w, u p.1, u p.2]))
  rw [hA] at r1'
  have hsz := hk.size
  simp only [new_size] at hsz
  have hob : A.obj H.size = .cells [.int .i64 w, u p.1, u p.2] := by rw [hk.obj _ (by simp)]; simp
  have hne : ¬ H.size = A.size := by omega
  have L : ∀ (e : Env) (H1 : AHeap), Keeps H H1 → A.size < H1.size → H1.obj H.size = .cells [.int .i64 w, u p.1, u p.2] → H1.obj A.size = .cells (List.replicate n (.bool false)) → e 1 = some (.ptr H.size 0) → e 3 = some (.row A.size 0 1 n true) → e 14 = some (.int .i64 n) → e 15 = some (.int .i64 0) →
      loopL Go.Proofs.Try.prog KT R l_lift_BitsOf_0 e H1 = some (.exit 0, lenv Go.Proofs.Try.prog KT R l_lift_BitsOf_0 e H1, lheap Go.Proofs.Try.prog KT R l_lift_BitsOf_0 e H1) ∧ Keeps H (lheap Go.Proofs.Try.prog KT R l_lift_BitsOf_0 e H1) ∧ A.size < (lheap Go.Proofs.Try.prog KT R l_lift_BitsOf_0 e H1).size ∧ (lheap Go.Proofs.Try.prog KT R l_lift_BitsOf_0 e H1).obj A.size = .cells ((bitsF p n).map .bool) ∧ lenv Go.Proofs.Try.prog KT R l_lift_BitsOf_0 e H1 3 = some (.row A.size 0 1 n true) := by
    intro e H1 k1 k2 k3 k4 k6 k7 k8 k9
    obtain ⟨e', H', q1, q2, q3, q4⟩ := bitsof_loop hn1 (o1 := H.size) (o3 := A.size) hne _ 0 e H1 _ rfl (Nat.zero_le _) k3 k4 (by simp) (fun j hj => absurd hj (Nat.not_lt_zero _)) k6 k7 k8 k9
    obtain ⟨a, b, c⟩ := loop_of q1
    subst b c
    exact ⟨a, q2.keeps k1 (by omega), by rw [q2.size]; omega, q3, by rw [q4, k7]⟩
  refine ⟨A.size, ?_⟩
  rw [e_lift_BitsOf]
  have c1 : (n : Int) ≤ 140737488355328 := by omega
  have c2 : (n : Int) ≤ 9223372036854775807 := by omega
  have hkH : Keeps H A := (Keeps.new H _).trans hk
  simp (maxDischargeDepth := 9) [c_lift_BitsOf, c1, c2, L, r1', hn, hob, hne, hkH]

theorem bitsof_none {p : Wd} {w : Int} (hr : rightV w p = false) {H : AHeap} : Pure R f_lift_BitsOf [.agg [.int .i64 w, u p.1, u p.2]] H .nils := by
  unfold Pure
  have r1 := fun H => (bvright_run (p := p) (w := w) (H := H)).run
  have k1 := fun H => (bvright_run (p := p) (w := w) (H := H)).kp
  rw [hr] at r1
  rw [e_lift_BitsOf]
  simp (maxDischargeDepth := 9) [c_lift_BitsOf, r1, k1]

/-! lift.Value -/
theorem value_loop {H0 : AHeap} {v : AV} {bs : List Bool} (hv : Reads H0 v 1 bs.length (bs.map .bool)) (hm : bs.length ≤ 128) {o : Nat} (ho : H0.size ≤ o) :
    ∀ (k i : Nat) (e : Env) (H : AHeap) (p : Wd), bs.length - i = k → i ≤ bs.length → Keeps H0 H → o < H.size → H.obj o = .cells [u p.1, u p.2] → e 1 = some v → e 6 = some (.ptr o 0) → e 23 = some (.int .i64 bs.length) → e 24 = some (.int .i64 i) →
      ∃ e' H', loopL Go.Proofs.Try.prog KT R l_lift_Value_0 e H = some (.exit 0, e', H') ∧ Upd o H H' ∧ H'.obj o = .cells [u (wordF p i (bs.drop i)).1, u (wordF p i (bs.drop i)).2] ∧ e' 6 = e 6 ∧ e' 4 = e 4 ∧ e' 0 = e 0 := by
  intro k
  induction k with
  | zero =>
    intro i e H p hk hi hH hoH hobj h1 h6 h23 h24
    have : i = bs.length := by omega
    subst this
    rw [loopL_un l_lift_Value_0.eq_1]
    simp [h1, h6, h23, h24, wordF]
    exact ⟨_, _, ⟨rfl, rfl⟩, Upd.refl _ _, hobj, by simp [h6], by simp, by simp⟩
  | succ k ih =>
    intro i e H p hk hi hH hoH hobj h1 h6 h23 h24
    have hlt : i < bs.length := by omega
    have hv' := hv.keep hH
    obtain ⟨a1, a2⟩ := bools_at hv' hlt
    have hwr := i64w (n := (i : Int) + 1) (by omega) (by omega)
    have d1 : bs.drop i = bs.getD i false :: bs.drop (i + 1) := by rw [List.drop_eq_getElem_cons hlt]; simp [hlt]
    rw [d1]
    generalize hx : bs.getD i false = x at *
    rw [loopL_un l_lift_Value_0.eq_1, wordF]
    cases x with
    | false =>
      simp [h1, h6, h23, h24, hlt, a1, a2, hwr, setB]
      refine (ih (i + 1) _ _ p (by omega) (by omega) hH hoH hobj (by simp [h1]) (by simp [h6]) (by simp [h23]) (by simp)).elim fun e' h => h.elim fun H' h => ⟨e', H', h.1, h.2.1, h.2.2.1, ?_, ?_, ?_⟩
      · rw [h.2.2.2.1]; simp [h6]
      · rw [h.2.2.2.2.1]; simp
      · rw [h.2.2.2.2.2]; simp
    | true =>
      by_cases h64 : i < 64
      · have t5 : lo6 i = i := by unfold lo6; omega
        have t6 : i % 18446744073709551616 = i := by omega
        have t7 : (i : Int).fdiv 64 = 0 := by rw [Int.fdiv_eq_ediv_of_nonneg _ (by omega)]; omega
        simp [h1, h6, h23, h24, hlt, a1, a2, hwr, setB, h64, hobj, t5, t6, t7]
        refine (ih (i + 1) _ _ (p.1 ||| 1#64 <<< i, p.2) (by omega) (by omega) (hH.set ho _) hoH (by simp) (by simp [h1]) (by simp [h6]) (by simp [h23]) (by simp)).elim fun e' h => h.elim fun H' h => ⟨e', H', h.1, ((Upd.refl o H).set _).trans h.2.1, h.2.2.1, ?_, ?_, ?_⟩
        · rw [h.2.2.2.1]; simp [h6]
        · rw [h.2.2.2.2.1]; simp
        · rw [h.2.2.2.2.2]; simp
      · have t5 : lo6 i = i - 64 := by unfold lo6; omega
        have t6 : (i - 64) % 18446744073709551616 = i - 64 := by omega
        have t7 : (i : Int).fdiv 64 = 1 := by rw [Int.fdiv_eq_ediv_of_nonneg _ (by omega)]; omega
        simp [h1, h6, h23, h24, hlt, a1, a2, hwr, setB, h64, hobj, t5, t6, t7]
        refine (ih (i + 1) _ _ (p.1, p.2 ||| 1#64 <<< (i - 64)) (by omega) (by omega) (hH.set ho _) hoH (by simp) (by simp [h1]) (by simp [h6]) (by simp [h23]) (by simp)).elim fun e' h => h.elim fun H' h => ⟨e', H', h.1, ((Upd.refl o H).set _).trans h.2.1, h.2.2.1, ?_, ?_, ?_⟩
        · rw [h.2.2.2.1]; simp [h6]
        · rw [h.2.2.2.2.1]; simp
        · rw [h.2.2.2.2.2]; simp

/-- What lift.Value answers. -/
def valueW (n : Int) (bs : List Bool) : List AV := if 0 ≤ n ∧ n ≤ 128 ∧ (bs.length : Int) = max n 1 then [.agg [.int .i64 n, u (wordF (0#64, 0#64) 0 bs).1, u (wordF (0#64, 0#64) 0 bs).2], .int .i64 0] else [.agg [.int .i64 0, u 0#64, u 0#64], .int .i64 160]

theorem value_run {H : AHeap} {v : AV} {bs : List Bool} (hv : Reads H v 1 bs.length (bs.map .bool)) {n : Int} : Pure R f_lift_Value [.int .i64 n, v] H (.tup (valueW n bs)) := by
  unfold Pure
  rw [e_lift_Value]
  by_cases h0 : 0 ≤ n
  · have h0' : ¬ n < 0 := by omega
    by_cases h1 : n ≤ 128
    · have h1' : ¬ 128 < n := by omega
      by_cases h2 : (bs.length : Int) = max n 1
      · have hm : bs.length ≤ 128 := by omega
        have L : ∀ (e : Env) (H1 : AHeap), Keeps H H1 → H.size + 1 < H1.size → H1.obj (H.size + 1) = .cells [u 0#64, u 0#64] → e 1 = some v → e 6 = some (.ptr (H.size + 1) 0) → e 23 = some (.int .i64 bs.length) → e 24 = some (.int .i64 0) →
            loopL Go.Proofs.Try.prog KT R l_lift_Value_0 e H1 = some (.exit 0, lenv Go.Proofs.Try.prog KT R l_lift_Value_0 e H1, lheap Go.Proofs.Try.prog KT R l_lift_Value_0 e H1) ∧ (∀ k, k ≠ H.size + 1 → (lheap Go.Proofs.Try.prog KT R l_lift_Value_0 e H1).obj k = H1.obj k) ∧ Keeps H (lheap Go.Proofs.Try.prog KT R l_lift_Value_0 e H1) ∧
            (lheap Go.Proofs.Try.prog KT R l_lift_Value_0 e H1).obj (H.size + 1) = .cells [u (wordF (0#64, 0#64) 0 bs).1, u (wordF (0#64, 0#64) 0 bs).2] ∧ lenv Go.Proofs.Try.prog KT R l_lift_Value_0 e H1 6 = some (.ptr (H.size + 1) 0) ∧ lenv Go.Proofs.Try.prog KT R l_lift_Value_0 e H1 4 = e 4 ∧ lenv Go.Proofs.Try.prog KT R l_lift_Value_0 e H1 0 = e 0 := by
          intro e H1 k1 k2 k3 k4 k5 k6 k7
          obtain ⟨e', H', q1, q2, q3, q4, q5, q6⟩ := value_loop hv hm (o := H.size + 1) (by omega) _ 0 e H1 (0#64, 0#64) rfl (Nat.zero_le _) k1 k2 k3 k4 k5 k6 k7
          obtain ⟨a, b, c⟩ := loop_of q1
          subst b c
          exact ⟨a, q2.obj, q2.keeps k1 (by omega), q3, by rw [q4, k5], q5, q6⟩
        simp (maxDischargeDepth := 9) [c_lift_Value, h0, h0', h1, h1', h2, hv.len, valueW, L]
      · simp (maxDischargeDepth := 9) [c_lift_Value, h0, h0', h1, h1', h2, hv.len, valueW]
    · have h1' : 128 < n := by omega
      simp (maxDischargeDepth := 9) [c_lift_Value, h0, h0', h1, h1', valueW]
  · have h0' : n < 0 := by omega
    simp (maxDischargeDepth := 9) [c_lift_Value, h0, h0', valueW]

theorem bitsof_res {p : Wd} {w : Int} (hr : rightV w p = true) (H : AHeap) :
    R f_lift_BitsOf [.agg [.int .i64 w, u p.1, u p.2]] H = some (res R f_lift_BitsOf [.agg [.int .i64 w, u p.1, u p.2]] H, aft R f_lift_BitsOf [.agg [.int .i64 w, u p.1, u p.2]] H) ∧
    Kp R f_lift_BitsOf [.agg [.int .i64 w, u p.1, u p.2]] H ∧
    Reads (aft R f_lift_BitsOf [.agg [.int .i64 w, u p.1, u p.2]] H) (res R f_lift_BitsOf [.agg [.int .i64 w, u p.1, u p.2]] H) 1 (max w 1).toNat ((bitsF p (max w 1).toNat).map .bool) := by
  obtain ⟨o, H', q1, q2, q3, q4⟩ := bitsof_run hr (H := H)
  obtain ⟨a, b, c⟩ := res_of q1
  refine ⟨a, ?_, ?_⟩
  · unfold Kp; rw [c]; exact q2
  · rw [b, c]; exact Reads.row' q3 q4 (by simp [bitsF_length])

theorem known_run {H : AHeap} : Pure R f_plaitlaw16_known [] H (.bool true) := by
  unfold Pure
  rw [e_plaitlaw16_known]
  have v2 : ∀ o H, o < H.size → H.obj o = .cells [.bool true, .bool false] → R f_lift_Value [.int .i64 2, .row o 0 1 2 true] H = some (.tup [.agg [.int .i64 2, u 1#64, u 0#64], .int .i64 0], aft R f_lift_Value [.int .i64 2, .row o 0 1 2 true] H) ∧ Kp R f_lift_Value [.int .i64 2, .row o 0 1 2 true] H := by
    intro o H h1 h2
    have := value_run (bs := [true, false]) (n := 2) (Reads.row' (full := true) (n := 2) (sz := 1) h1 h2 (by simp))
    exact ⟨this.run, this.kp⟩
  have v1 : ∀ o H, o < H.size → H.obj o = .cells [.bool true] → R f_lift_Value [.int .i64 0, .row o 0 1 1 true] H = some (.tup [.agg [.int .i64 0, u 1#64, u 0#64], .int .i64 0], aft R f_lift_Value [.int .i64 0, .row o 0 1 1 true] H) ∧ Kp R f_lift_Value [.int .i64 0, .row o 0 1 1 true] H := by
    intro o H h1 h2
    have := value_run (bs := [true]) (n := 0) (Reads.row' (full := true) (n := 1) (sz := 1) h1 h2 (by simp))
    exact ⟨this.run, this.kp⟩
  have v3 : ∀ o H, o < H.size → H.obj o = .cells [.bool true] → R f_lift_Value [.int .i64 3, .row o 0 1 1 true] H = some (.tup [.agg [.int .i64 0, u 0#64, u 0#64], .int .i64 160], aft R f_lift_Value [.int .i64 3, .row o 0 1 1 true] H) ∧ Kp R f_lift_Value [.int .i64 3, .row o 0 1 1 true] H := by
    intro o H h1 h2
    have := value_run (bs := [true]) (n := 3) (Reads.row' (full := true) (n := 1) (sz := 1) h1 h2 (by simp))
    exact ⟨this.run, this.kp⟩
  have rb := bitsof_res (p := (1#64, 0#64)) (w := 2) (by decide)
  have rB : ∀ H v w, Reads H v 1 2 [.bool true, .bool false] → Reads H w 1 2 [.bool true, .bool false] → R f_plaithelp_Bools [v, w] H = some (.bool true, H) := by
    intro H v w h1 h2
    exact bools_run (bs := [true, false]) (cs := [true, false]) h1 h2 (by decide)
  simp only [show (max (2 : Int) 1).toNat = 2 from by decide, show bitsF (1#64, 0#64) 2 = [true, false] from by decide, List.map] at rb
  simp (maxDischargeDepth := 60) [c_plaitlaw16_known, v1, v2, v3, rb, rB]

theorem allOne_bools : ∀ bs : List Bool, allOne (bs.map .bool) = true
  | [] => rfl
  | b :: bs => by simp [allOne_bools bs]

theorem rightV_bits {p : Wd} {w : Int} (h : rightV w p = true) : 0 ≤ w ∧ w ≤ 128 ∧ wordF (0#64, 0#64) 0 (bitsF p (max w 1).toNat) = p := by
  unfold rightV at h
  split at h
  · rename_i h0
    subst h0
    simp only [Bool.and_eq_true, decide_eq_true_eq] at h
    refine ⟨by omega, by omega, (wordF_bitsF (by decide)).2 ?_⟩
    intro j h1 h2
    have e1 : p.1 = 0#64 ∨ p.1 = 1#64 := by
      have := h.1
      rw [BitVec.le_def] at this
      have h3 : p.1.toNat ≤ 1 := by simpa using this
      rcases Nat.le_one_iff_eq_zero_or_eq_one.1 h3 with h4 | h4
      · left; exact BitVec.eq_of_toNat_eq (by simpa using h4)
      · right; exact BitVec.eq_of_toNat_eq (by simpa using h4)
    have hj : ¬ j = 0 := by
      have : (max (0 : Int) 1).toNat = 1 := by decide
      omega
    unfold wbit
    rw [h.2]
    rcases e1 with e | e <;> rw [e] <;> by_cases h64 : j < 64 <;> simp [h64, BitVec.getLsbD_one, hj]
  · simp only [Bool.and_eq_true, decide_eq_true_eq] at h
    have : (max w 1) = w := by omega
    rw [this]
    exact ⟨by omega, by omega, (wordF_bitsF (by omega)).2 h.2⟩

set_option maxHeartbeats 4000000 in
theorem law_run {n w : Int} {bs : List Bool} {p : Wd} (hm : bs.length ≤ 9223372036854775807) {H : AHeap} :
    Pure R f_plaitlaw16_LiftValues [.int .i64 n, .lst 1 bs.length (bs.map .bool), .agg [.int .i64 w, u p.1, u p.2]] H (.bool true) := by
  unfold Pure
  rw [e_plaitlaw16_LiftValues]
  have hk := (known_run (H := H.new (.cells [.int .i64 w, u p.1, u p.2]))).run
  have hA := (known_run (H := H.new (.cells [.int .i64 w, u p.1, u p.2]))).keeps
  generalize aft R f_plaitlaw16_known [] (H.new (.cells [.int .i64 w, u p.1, u p.2])) = A at hk hA
  have kA : Keeps H A := (Keeps.new H _).trans hA
  by_cases hb : 200 < (bs.length : Int)
  · simp [c_plaitlaw16_LiftValues, hk, hb, kA]
  have hAz := hA.size
  simp only [new_size] at hAz
  have oA : A.obj H.size = .cells [.int .i64 w, u p.1, u p.2] := by rw [hA.obj _ (by simp)]; simp
  obtain ⟨v, B, hap, hAB, hv, -⟩ := app_nils (H := A) (by_ := 1) (z := [.bool false]) (Reads.lst (sz := 1) (n := bs.length) (cs := bs.map .bool) (by simp)) rfl (by omega) (by omega) (by omega) (allOne_bools bs)
  have hval := (value_run hv (n := n)).run
  have hBC := (value_run hv (n := n)).keeps
  generalize aft R f_lift_Value [.int .i64 n, v] B = E at hval hBC
  have kAE : Keeps A E := hAB.trans hBC
  have kE : Keeps H E := kA.trans kAE
  have hEz := kAE.size
  have oE : E.obj H.size = .cells [.int .i64 w, u p.1, u p.2] := by rw [kAE.obj _ (by omega)]; exact oA
  have hne : ¬ H.size = E.size := by omega
  have hlt : H.size < E.size := by omega
  have hle : H.size ≤ E.size := by omega
  have hvE := hv.keep hBC
  have hbools : ∀ G, Keeps E G → R f_plaithelp_Bools [v, .lst 1 bs.length (bs.map .bool)] G = some (.bool true, G) := by
    intro G hG
    have := bools_run (hvE.keep hG) (Reads.lst (H := G) (sz := 1) (n := bs.length) (cs := bs.map .bool) (by simp)) hm
    simpa using this
  have hright := fun G => (refright_run (p := p) (w := w) (H := G)).run
  have kright := fun G => (refright_run (p := p) (w := w) (H := G)).kp
  have hword := fun G (h : bs.length ≤ 128) => (word_run (H := G) (Reads.lst (H := G) (sz := 1) (n := bs.length) (cs := bs.map .bool) (by simp)) h).run
  have kword := fun G (h : bs.length ≤ 128) => (word_run (H := G) (Reads.lst (H := G) (sz := 1) (n := bs.length) (cs := bs.map .bool) (by simp)) h).kp
  have hbit := fun b G => (bool_run (b := b) (H := G)).run
  have kbit := fun b G => (bool_run (b := b) (H := G)).kp
  by_cases hrv : rightV w p = true
  · rw [hrv] at hright
    obtain ⟨m, hmw⟩ : ∃ m : Nat, max w 1 = m := ⟨(max w 1).toNat, by omega⟩
    obtain ⟨w0, w1, w2⟩ := rightV_bits hrv
    have rb := bitsof_res hrv
    rw [hmw, Int.toNat_natCast] at rb w2
    have hlen := fun G => (rb G).2.2.len
    have rv : ∀ G H', Reads H' (res R f_lift_BitsOf [.agg [.int .i64 w, u p.1, u p.2]] G) 1 m ((bitsF p m).map .bool) →
        R f_lift_Value [.int .i64 w, res R f_lift_BitsOf [.agg [.int .i64 w, u p.1, u p.2]] G] H' = some (.tup [.agg [.int .i64 w, u p.1, u p.2], .int .i64 0], aft R f_lift_Value [.int .i64 w, res R f_lift_BitsOf [.agg [.int .i64 w, u p.1, u p.2]] G] H') ∧ Kp R f_lift_Value [.int .i64 w, res R f_lift_BitsOf [.agg [.int .i64 w, u p.1, u p.2]] G] H' := by
      intro G H' h
      have := value_run (bs := bitsF p m) (n := w) (by rw [bitsF_length]; exact h)
      have e : valueW w (bitsF p m) = [.agg [.int .i64 w, u p.1, u p.2], .int .i64 0] := by
        rw [valueW, if_pos ⟨w0, w1, by rw [bitsF_length, hmw]⟩, w2]
      rw [e] at this
      exact ⟨this.run, this.kp⟩
    by_cases hr : 0 ≤ n ∧ n ≤ 128 ∧ (bs.length : Int) = max n 1
    · rw [valueW, if_pos hr] at hval
      obtain ⟨h0, h1, h2⟩ := hr
      have hword' := fun G => hword G (by omega)
      have kword' := fun G => kword G (by omega)
      by_cases h3 : 0 < n
      · have h4 : max n 1 = n := by omega
        have h5 : ¬ n = 0 := by omega
        have hb' : ¬ 200 < n := by omega
        rw [h4] at h2
        simp (maxDischargeDepth := 60) [c_plaitlaw16_LiftValues, hk, hb', hap, hval, is_run, h0, h1, h2, h3, h4, h5, hbools, hword', kword', oE, hlt, hne, kE, hle, hright, kright, rb, rv, hlen, hmw]
      · have hn : n = 0 := by omega
        subst hn
        have h6 : bs.length = 1 := by omega
        have h6' : (bs.length = 1) = True := eq_true h6
        have h6i : ((bs.length : Int) = 1) = True := eq_true (by omega)
        have hmx : max (0 : Int) 1 = 1 := by decide
        have h7 : 0 < bs.length := by omega
        obtain ⟨b0, hb0⟩ := len_one h6
        have hg : bs[0]? = some b0 := by rw [hb0]; rfl
        have hg' : bs[0] = b0 := by simp [hb0]
        have hw1 : (wordF (0#64, 0#64) 0 bs).1 = if b0 = true then 1#64 else 0#64 := by rw [hb0]; cases b0 <;> decide
        have hw2 : (wordF (0#64, 0#64) 0 bs).2 = 0#64 := by rw [hb0]; cases b0 <;> decide
        simp (maxDischargeDepth := 60) [c_plaitlaw16_LiftValues, hk, hb, hap, hval, is_run, h6', h6i, hmx, h7, hg, hg', hw1, hw2, hbools, hbit, kbit, oE, hlt, hne, kE, hle, hright, kright, rb, rv, hlen, hmw]
    · rw [valueW, if_neg hr] at hval
      by_cases h0 : 0 ≤ n
      · by_cases h1 : n ≤ 128
        · have h2 : ¬ (bs.length : Int) = max n 1 := fun e => hr ⟨h0, h1, e⟩
          simp (maxDischargeDepth := 60) [c_plaitlaw16_LiftValues, hk, hb, hap, hval, is_run, h0, h1, h2, hbools, oE, hlt, hne, kE, hle, hright, kright, rb, rv, hlen, hmw]
        · simp (maxDischargeDepth := 60) [c_plaitlaw16_LiftValues, hk, hb, hap, hval, is_run, h0, h1, hbools, oE, hlt, hne, kE, hle, hright, kright, rb, rv, hlen, hmw]
      · simp (maxDischargeDepth := 60) [c_plaitlaw16_LiftValues, hk, hb, hap, hval, is_run, h0, hbools, oE, hlt, hne, kE, hle, hright, kright, rb, rv, hlen, hmw]
  · have hrf : rightV w p = false := by simpa using hrv
    rw [hrf] at hright
    have rb := fun G => (bitsof_none hrf (H := G)).run
    have kb := fun G => (bitsof_none hrf (H := G)).kp
    by_cases hr : 0 ≤ n ∧ n ≤ 128 ∧ (bs.length : Int) = max n 1
    · rw [valueW, if_pos hr] at hval
      obtain ⟨h0, h1, h2⟩ := hr
      have hword' := fun G => hword G (by omega)
      have kword' := fun G => kword G (by omega)
      by_cases h3 : 0 < n
      · have h4 : max n 1 = n := by omega
        have h5 : ¬ n = 0 := by omega
        have hb' : ¬ 200 < n := by omega
        rw [h4] at h2
        simp (maxDischargeDepth := 60) [c_plaitlaw16_LiftValues, hk, hb', hap, hval, is_run, h0, h1, h2, h3, h4, h5, hbools, hword', kword', oE, hlt, hne, kE, hle, hright, kright, rb, kb]
      · have hn : n = 0 := by omega
        subst hn
        have h6 : bs.length = 1 := by omega
        have h6' : (bs.length = 1) = True := eq_true h6
        have h6i : ((bs.length : Int) = 1) = True := eq_true (by omega)
        have hmx : max (0 : Int) 1 = 1 := by decide
        have h7 : 0 < bs.length := by omega
        obtain ⟨b0, hb0⟩ := len_one h6
        have hg : bs[0]? = some b0 := by rw [hb0]; rfl
        have hg' : bs[0] = b0 := by simp [hb0]
        have hw1 : (wordF (0#64, 0#64) 0 bs).1 = if b0 = true then 1#64 else 0#64 := by rw [hb0]; cases b0 <;> decide
        have hw2 : (wordF (0#64, 0#64) 0 bs).2 = 0#64 := by rw [hb0]; cases b0 <;> decide
        simp (maxDischargeDepth := 60) [c_plaitlaw16_LiftValues, hk, hb, hap, hval, is_run, h6', h6i, hmx, h7, hg, hg', hw1, hw2, hbools, hbit, kbit, oE, hlt, hne, kE, hle, hright, kright, rb, kb]
    · rw [valueW, if_neg hr] at hval
      by_cases h0 : 0 ≤ n
      · by_cases h1 : n ≤ 128
        · have h2 : ¬ (bs.length : Int) = max n 1 := fun e => hr ⟨h0, h1, e⟩
          simp (maxDischargeDepth := 60) [c_plaitlaw16_LiftValues, hk, hb, hap, hval, is_run, h0, h1, h2, hbools, oE, hlt, hne, kE, hle, hright, kright, rb, kb]
        · simp (maxDischargeDepth := 60) [c_plaitlaw16_LiftValues, hk, hb, hap, hval, is_run, h0, h1, hbools, oE, hlt, hne, kE, hle, hright, kright, rb, kb]
      · simp (maxDischargeDepth := 60) [c_plaitlaw16_LiftValues, hk, hb, hap, hval, is_run, h0, hbools, oE, hlt, hne, kE, hle, hright, kright, rb, kb]

end Go.Proofs.Ytphkkcocimmmfaa
