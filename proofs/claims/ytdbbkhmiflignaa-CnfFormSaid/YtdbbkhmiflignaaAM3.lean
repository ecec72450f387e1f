/- And-inverter graphs as lists: what was made once is found, the order of operands, how much a call makes, that no two nodes are the same (no program in sight). -/
import Derived.Test.YtdbbkhmiflignaaAM2
namespace Go.Proofs.Ytdbbkhmiflignaa

theorem findK_app {a b : Int} {t : Kd} : ∀ {ks : Kd} {j i : Nat}, findK a b ks j = some i → findK a b (ks ++ t) j = some i
  | [], j, i, h => by simp [findK] at h
  | k :: ks, j, i, h => by
    simp only [List.cons_append, findK] at h ⊢
    split
    · rename_i hk; rw [if_pos hk] at h; exact h
    · rename_i hk; rw [if_neg hk] at h; exact findK_app h
theorem findK_end {a b : Int} {t : Kd} : ∀ {ks : Kd} {j : Nat}, findK a b ks j = none → findK a b (ks ++ (a, b) :: t) j = some (j + ks.length)
  | [], j, _ => by simp [findK]
  | k :: ks, j, h => by
    simp only [List.cons_append, findK] at h ⊢
    split at h
    · cases h
    · rename_i hk
      rw [if_neg hk, findK_end h]
      simp; omega

theorem and2_again {m : Int} {ks : Kd} {a b : Int} (he : (and2 m ks a b).e = 0) (t : Kd) : and2 m ((and2 m ks a b).ks ++ t) a b = ⟨(and2 m ks a b).l, 0, (and2 m ks a b).ks ++ t⟩ := by
  unfold and2 at he ⊢
  split
  · rfl
  · rename_i h1
    rw [if_neg h1] at he
    split
    · rfl
    · rename_i h2
      rw [if_neg h2] at he
      cases hf : findK a b ks 0 with
      | some i => simp only [findK_app hf]
      | none =>
        rw [hf] at he
        simp only [putF] at he ⊢
        by_cases hfull : m ≤ ks.length
        · rw [if_pos hfull] at he; cases he
        · simp only [if_neg hfull, List.append_assoc, List.singleton_append, findK_end hf]
          congr 2
          omega
theorem and_lits {m : Int} {ks : Kd} {a b : Int} (he : (andF m ks a b).e = 0) : isL ks.length a ∧ isL ks.length b := by
  unfold andF at he
  split at he
  · assumption
  · cases he
theorem and_again {m : Int} {ks : Kd} (hr : Rt m ks) {a b : Int} (he : (andF m ks a b).e = 0) (t : Kd) : andF m ((andF m ks a b).ks ++ t) a b = ⟨(andF m ks a b).l, 0, (andF m ks a b).ks ++ t⟩ := by
  have hl := (hr.and a b).len
  obtain ⟨la, lb⟩ := and_lits he
  have la' : isL ((andF m ks a b).ks ++ t).length a := isL_mono la (by rw [List.length_append]; omega)
  have lb' : isL ((andF m ks a b).ks ++ t).length b := isL_mono lb (by rw [List.length_append]; omega)
  generalize hX : andF m ks a b = X at *
  unfold andF at hX ⊢
  rw [if_pos ⟨la, lb⟩] at hX
  rw [if_pos ⟨la', lb'⟩]
  split at hX
  · rename_i h; rw [if_pos h, ← hX]; exact and2_again (by rw [hX]; exact he) t
  · rename_i h; rw [if_neg h, ← hX]; exact and2_again (by rw [hX]; exact he) t
theorem and_comm (m : Int) (ks : Kd) (a b : Int) : andF m ks a b = andF m ks b a := by
  unfold andF
  by_cases h : isL ks.length a ∧ isL ks.length b
  · rw [if_pos h, if_pos h.symm]
    by_cases h1 : b < a
    · rw [if_pos h1, if_neg (by omega)]
    · rw [if_neg h1]
      by_cases h2 : a < b
      · rw [if_pos h2]
      · have : a = b := by omega
        subst this
        rw [if_neg h2]
  · rw [if_neg h, if_neg (fun e => h e.symm)]
theorem or_lits {m : Int} {ks : Kd} {a b : Int} (he : (orF m ks a b).e = 0) : isL ks.length a ∧ isL ks.length b ∧ (andF m ks (flip1 a) (flip1 b)).e = 0 ∧ orF m ks a b = ⟨flip1 (andF m ks (flip1 a) (flip1 b)).l, 0, (andF m ks (flip1 a) (flip1 b)).ks⟩ := by
  unfold orF turnF at *
  split at he
  · rename_i hl
    split at he
    · rename_i h0; exact ⟨hl.1, hl.2, h0, by rw [if_pos hl, if_pos h0]⟩
    · rename_i h0; exact absurd he h0
  · cases he
theorem or_again {m : Int} {ks : Kd} (hr : Rt m ks) {a b : Int} (he : (orF m ks a b).e = 0) (t : Kd) : orF m ((orF m ks a b).ks ++ t) a b = ⟨(orF m ks a b).l, 0, (orF m ks a b).ks ++ t⟩ := by
  obtain ⟨la, lb, h0, heq⟩ := or_lits he
  have hl := (hr.and (flip1 a) (flip1 b)).len
  rw [heq]
  have la' : isL ((andF m ks (flip1 a) (flip1 b)).ks ++ t).length a := isL_mono la (by rw [List.length_append]; omega)
  have lb' : isL ((andF m ks (flip1 a) (flip1 b)).ks ++ t).length b := isL_mono lb (by rw [List.length_append]; omega)
  simp only
  unfold orF
  rw [if_pos ⟨la', lb'⟩, and_again hr h0 t]
  simp [turnF]
theorem or_comm (m : Int) (ks : Kd) (a b : Int) : orF m ks a b = orF m ks b a := by
  unfold orF
  rw [and_comm m ks (flip1 a)]
  by_cases h : isL ks.length a ∧ isL ks.length b
  · rw [if_pos h, if_pos h.symm]
  · rw [if_neg h, if_neg (fun e => h e.symm)]
/-- What an either is made of. -/
theorem either_parts {m : Int} {ks : Kd} {a b c d : Int} (he : (eitherF m ks a b c d).e = 0) :
    (andF m ks a b).e = 0 ∧ (andF m (andF m ks a b).ks c d).e = 0 ∧ (orF m (andF m (andF m ks a b).ks c d).ks (andF m ks a b).l (andF m (andF m ks a b).ks c d).l).e = 0 ∧
    eitherF m ks a b c d = orF m (andF m (andF m ks a b).ks c d).ks (andF m ks a b).l (andF m (andF m ks a b).ks c d).l := by
  unfold eitherF at *
  simp only at *
  split at he
  · rename_i h1
    split at he
    · rename_i h2; exact ⟨h1, h2, he, by rw [if_pos h1, if_pos h2]⟩
    · rename_i h2; exact absurd he h2
  · rename_i h1; exact absurd he h1
/-- Both ands, in either order, are found again, and so is their or. -/
theorem either_again {m : Int} {ks : Kd} (hr : Rt m ks) {a b c d : Int} (he : (eitherF m ks a b c d).e = 0) (t : Kd) :
    eitherF m ((eitherF m ks a b c d).ks ++ t) a b c d = ⟨(eitherF m ks a b c d).l, 0, (eitherF m ks a b c d).ks ++ t⟩ ∧ eitherF m ((eitherF m ks a b c d).ks ++ t) c d a b = ⟨(eitherF m ks a b c d).l, 0, (eitherF m ks a b c d).ks ++ t⟩ := by
  obtain ⟨h1, h2, h3, heq⟩ := either_parts he
  have f1 := hr.and a b
  have f2 := f1.rt.and c d
  have f3 := f2.rt.or (andF m ks a b).l (andF m (andF m ks a b).ks c d).l
  obtain ⟨t2, e2⟩ := f2.more
  obtain ⟨t3, e3⟩ := f3.more
  rw [heq]
  have o3 := or_again f2.rt h3 t
  generalize hZ : orF m (andF m (andF m ks a b).ks c d).ks (andF m ks a b).l (andF m (andF m ks a b).ks c d).l = Z at *
  have a1 : andF m (Z.ks ++ t) a b = ⟨(andF m ks a b).l, 0, Z.ks ++ t⟩ := by
    have := and_again hr h1 (t2 ++ t3 ++ t)
    rw [show (andF m ks a b).ks ++ (t2 ++ t3 ++ t) = Z.ks ++ t from by rw [e3, e2]; simp] at this
    exact this
  have a2 : andF m (Z.ks ++ t) c d = ⟨(andF m (andF m ks a b).ks c d).l, 0, Z.ks ++ t⟩ := by
    have := and_again f1.rt h2 (t3 ++ t)
    rw [show (andF m (andF m ks a b).ks c d).ks ++ (t3 ++ t) = Z.ks ++ t from by rw [e3]; simp] at this
    exact this
  constructor
  · simp [eitherF, a1, a2, o3]
  · rw [or_comm] at o3
    simp [eitherF, a1, a2, o3]

/-! How much a call makes. -/
theorem and2_len (m : Int) (ks : Kd) (a b : Int) : (and2 m ks a b).ks.length ≤ ks.length + 1 := by
  unfold and2
  split
  · simp
  split
  · simp
  split
  · simp
  · unfold putF
    split <;> simp
theorem and_len (m : Int) (ks : Kd) (a b : Int) : (andF m ks a b).ks.length ≤ ks.length + 1 := by
  unfold andF
  split
  · split <;> exact and2_len ..
  · simp
theorem or_len (m : Int) (ks : Kd) (a b : Int) : (orF m ks a b).ks.length ≤ ks.length + 1 := by
  unfold orF
  split
  · have := and_len m ks (flip1 a) (flip1 b)
    unfold turnF
    split <;> exact this
  · simp
theorem either_len (m : Int) (ks : Kd) (a b c d : Int) : (eitherF m ks a b c d).ks.length ≤ ks.length + 3 := by
  have h1 := and_len m ks a b
  have h2 := and_len m (andF m ks a b).ks c d
  have h3 := or_len m (andF m (andF m ks a b).ks c d).ks (andF m ks a b).l (andF m (andF m ks a b).ks c d).l
  unfold eitherF
  simp only
  split
  · split
    · omega
    · simp only; omega
  · simp only; omega
theorem xor_len (m : Int) (ks : Kd) (a b : Int) : (xorF m ks a b).ks.length ≤ ks.length + 3 := by
  unfold xorF
  split
  · exact either_len ..
  · simp
theorem mux_len (m : Int) (ks : Kd) (c a b : Int) : (muxF m ks c a b).ks.length ≤ ks.length + 3 := by
  unfold muxF
  split
  · exact either_len ..
  · simp
theorem does_len (m : Int) (ks : Kd) (w a b c : Int) : (doesF m ks w a b c).ks.length ≤ ks.length + 3 := by
  unfold doesF
  split
  · unfold putF; split <;> simp
  split
  · have := and_len m ks a b; omega
  split
  · have := or_len m ks a b; omega
  split
  · exact xor_len ..
  split
  · exact mux_len ..
  · simp
theorem and2_room {m : Int} {ks : Kd} {a b : Int} (h : (ks.length : Int) < m) : (and2 m ks a b).e = 0 := by
  unfold and2
  split
  · rfl
  split
  · rfl
  split
  · rfl
  · rw [putF, if_neg (by omega)]
theorem and_room {m : Int} {ks : Kd} {a b : Int} (ha : isL ks.length a) (hb : isL ks.length b) (h : (ks.length : Int) < m) : (andF m ks a b).e = 0 := by
  unfold andF
  rw [if_pos ⟨ha, hb⟩]
  split <;> exact and2_room h
theorem or_room {m : Int} {ks : Kd} {a b : Int} (ha : isL ks.length a) (hb : isL ks.length b) (h : (ks.length : Int) < m) : (orF m ks a b).e = 0 := by
  unfold orF
  rw [if_pos ⟨ha, hb⟩, turnF, if_pos (and_room (flip_bounds ha) (flip_bounds hb) h)]
theorem either_room {m : Int} {ks : Kd} (hr : Rt m ks) {a b c d : Int} (ha : isL ks.length a) (hb : isL ks.length b) (hc : isL ks.length c) (hd : isL ks.length d) (h : (ks.length : Int) + 3 ≤ m) : (eitherF m ks a b c d).e = 0 := by
  have f1 := hr.and a b
  have l1 := and_len m ks a b
  have f2 := f1.rt.and c d
  have l2 := and_len m (andF m ks a b).ks c d
  have hl := f1.len
  have hl2 := f2.len
  unfold eitherF
  simp only
  rw [if_pos (and_room ha hb (by omega)), if_pos (and_room (isL_mono hc hl) (isL_mono hd hl) (by omega))]
  exact or_room (isL_mono f1.lit hl2) f2.lit (by omega)
theorem xor_room {m : Int} {ks : Kd} (hr : Rt m ks) {a b : Int} (ha : isL ks.length a) (hb : isL ks.length b) (h : (ks.length : Int) + 3 ≤ m) : (xorF m ks a b).e = 0 := by
  unfold xorF
  rw [if_pos ⟨ha, hb⟩]
  exact either_room hr ha (flip_bounds hb) (flip_bounds ha) hb h
theorem mux_room {m : Int} {ks : Kd} (hr : Rt m ks) {c a b : Int} (hc : isL ks.length c) (ha : isL ks.length a) (hb : isL ks.length b) (h : (ks.length : Int) + 3 ≤ m) : (muxF m ks c a b).e = 0 := by
  unfold muxF
  rw [if_pos ⟨hc, ha, hb⟩]
  exact either_room hr hc ha (flip_bounds hc) hb h

/-- All that AigTurns asks for. -/
theorem turns {m : Int} {ks : Kd} (hr : Rt m ks) {a b c : Int} (ha : isL ks.length a) (hb : isL ks.length b) (hc : isL ks.length c) (hroom : (ks.length : Int) + 20 ≤ m) :
    let A := andF m ks a b
    let O := orF m A.ks a b
    let X := xorF m O.ks a b
    let M := muxF m X.ks c a b
    A.e = 0 ∧ O.e = 0 ∧ X.e = 0 ∧ M.e = 0 ∧ Rt m A.ks ∧ Rt m O.ks ∧ Rt m X.ks ∧ Rt m M.ks ∧
    andF m M.ks b a = ⟨A.l, 0, M.ks⟩ ∧ orF m M.ks b a = ⟨O.l, 0, M.ks⟩ ∧ xorF m M.ks b a = ⟨X.l, 0, M.ks⟩ ∧ muxF m M.ks (flip1 c) b a = ⟨M.l, 0, M.ks⟩ ∧ ∃ v, andF m M.ks (flip1 a) (flip1 b) = ⟨v, 0, M.ks⟩ ∧ flip1 v = O.l ∧ isL M.ks.length v := by
  intro A O X M
  have fA : Fit m ks A := hr.and a b
  have lA : A.ks.length ≤ ks.length + 1 := and_len m ks a b
  have eA : A.e = 0 := and_room ha hb (by omega)
  have hlA := fA.len
  have fO : Fit m A.ks O := fA.rt.or a b
  have lO : O.ks.length ≤ A.ks.length + 1 := or_len m A.ks a b
  have hlO := fO.len
  have eO : O.e = 0 := or_room (isL_mono ha hlA) (isL_mono hb hlA) (by omega)
  have fX : Fit m O.ks X := fO.rt.xor a b
  have lX : X.ks.length ≤ O.ks.length + 3 := xor_len m O.ks a b
  have hlX := fX.len
  have haO : isL O.ks.length a := isL_mono ha (by omega)
  have hbO : isL O.ks.length b := isL_mono hb (by omega)
  have eX : X.e = 0 := xor_room fO.rt haO hbO (by omega)
  have fM : Fit m X.ks M := fX.rt.mux c a b
  have lM : M.ks.length ≤ X.ks.length + 3 := mux_len m X.ks c a b
  have hlM := fM.len
  have haX : isL X.ks.length a := isL_mono ha (by omega)
  have hbX : isL X.ks.length b := isL_mono hb (by omega)
  have hcX : isL X.ks.length c := isL_mono hc (by omega)
  have eM : M.e = 0 := mux_room fX.rt hcX haX hbX (by omega)
  have haM : isL M.ks.length a := isL_mono ha (by omega)
  have hbM : isL M.ks.length b := isL_mono hb (by omega)
  have hcM : isL M.ks.length c := isL_mono hc (by omega)
  obtain ⟨tO, hO⟩ := fO.more
  obtain ⟨tX, hX⟩ := fX.more
  obtain ⟨tM, hM⟩ := fM.more
  refine ⟨eA, eO, eX, eM, fA.rt, fO.rt, fX.rt, fM.rt, ?_, ?_, ?_, ?_, ?_⟩
  · have := and_again hr eA (tO ++ tX ++ tM)
    rw [show (andF m ks a b).ks ++ (tO ++ tX ++ tM) = M.ks from by rw [hM, hX, hO]; simp; rfl] at this
    rw [and_comm]; exact this
  · have := or_again fA.rt eO (tX ++ tM)
    rw [show (orF m A.ks a b).ks ++ (tX ++ tM) = M.ks from by rw [hM, hX]; simp; rfl] at this
    rw [or_comm]; exact this
  · have hx : xorF m O.ks a b = eitherF m O.ks a (flip1 b) (flip1 a) b := by rw [xorF, if_pos ⟨haO, hbO⟩]
    have hX' : X = eitherF m O.ks a (flip1 b) (flip1 a) b := hx
    have := (either_again fO.rt (by rw [← hX']; exact eX) tM).2
    rw [← hX', show X.ks ++ tM = M.ks from hM.symm] at this
    rw [xorF, if_pos ⟨hbM, haM⟩]
    have c1 : eitherF m M.ks b (flip1 a) (flip1 b) a = eitherF m M.ks (flip1 a) b a (flip1 b) := by
      unfold eitherF
      rw [and_comm m M.ks b (flip1 a)]
      simp only
      rw [and_comm m _ (flip1 b) a]
    rw [c1]; exact this
  · have hx : muxF m X.ks c a b = eitherF m X.ks c a (flip1 c) b := by rw [muxF, if_pos ⟨hcX, haX, hbX⟩]
    have hM' : M = eitherF m X.ks c a (flip1 c) b := hx
    have := (either_again fX.rt (by rw [← hM']; exact eM) []).2
    rw [← hM', List.append_nil] at this
    rw [muxF, if_pos ⟨flip_bounds hcM, hbM, haM⟩, flip_flip]
    exact this
  · obtain ⟨_, _, h0, heq⟩ := or_lits eO
    have f := fA.rt.and (flip1 a) (flip1 b)
    have := and_again fA.rt h0 (tX ++ tM)
    have hOk : O.ks = (andF m A.ks (flip1 a) (flip1 b)).ks := by
      show (orF m A.ks a b).ks = _
      rw [heq]
    rw [show (andF m A.ks (flip1 a) (flip1 b)).ks ++ (tX ++ tM) = M.ks from by rw [← hOk, hM, hX]; simp] at this
    refine ⟨_, this, ?_, isL_mono f.lit (by rw [← hOk]; omega)⟩
    show _ = (orF m A.ks a b).l
    rw [heq]

/-! No two ands are the same. -/
def Uq (ks : Kd) : Prop := ∀ (i j : Nat) (k : Int × Int), ks[i]? = some k → ks[j]? = some k → k ≠ (0, 0) → i = j
theorem Uq.put {m : Int} {ks : Kd} (h : Uq ks) {k : Int × Int} (hk : k ≠ (0, 0) → findK k.1 k.2 ks 0 = none) : Uq (putF m ks k).ks := by
  unfold putF
  split
  · exact h
  · intro i j x hi hj hx
    simp only [List.getElem?_append] at hi hj
    have last : ∀ n : Nat, [k][n - ks.length]? = some x → n - ks.length = 0 ∧ x = k := by
      intro n hn
      cases hc : n - ks.length with
      | zero => rw [hc] at hn; simp at hn; exact ⟨rfl, hn.symm⟩
      | succ p => rw [hc] at hn; simp at hn
    split at hi
    · split at hj
      · exact h i j x hi hj hx
      · obtain ⟨h1, h2⟩ := last j hj
        subst h2
        exact absurd hi (findK_none (hk hx) i)
    · obtain ⟨h1, h2⟩ := last i hi
      subst h2
      split at hj
      · exact absurd hj (findK_none (hk hx) j)
      · obtain ⟨h3, h4⟩ := last j hj; omega
theorem Uq.and {m : Int} {ks : Kd} (h : Uq ks) (a b : Int) : Uq (andF m ks a b).ks := by
  have h2 : ∀ a b, Uq (and2 m ks a b).ks := by
    intro a b
    unfold and2
    split
    · exact h
    split
    · exact h
    split
    · exact h
    · rename_i hn; exact h.put fun _ => hn
  unfold andF
  split
  · split <;> exact h2 _ _
  · exact h
theorem Uq.or {m : Int} {ks : Kd} (h : Uq ks) (a b : Int) : Uq (orF m ks a b).ks := by
  unfold orF
  split
  · have := h.and (m := m) (flip1 a) (flip1 b)
    unfold turnF
    split <;> exact this
  · exact h
theorem Uq.either {m : Int} {ks : Kd} (h : Uq ks) (a b c d : Int) : Uq (eitherF m ks a b c d).ks := by
  have h1 := h.and (m := m) a b
  have h2 := h1.and (m := m) c d
  unfold eitherF
  simp only
  split
  · split
    · exact h2.or _ _
    · exact h2
  · exact h1
theorem Uq.does {m : Int} {ks : Kd} (h : Uq ks) (w a b c : Int) : Uq (doesF m ks w a b c).ks := by
  unfold doesF
  split
  · exact h.put fun hn => absurd rfl hn
  split
  · exact h.and _ _
  split
  · exact h.or _ _
  split
  · unfold xorF
    split
    · exact h.either _ _ _ _
    · exact h
  split
  · unfold muxF
    split
    · exact h.either _ _ _ _
    · exact h
  · exact h
/-- What is refused makes nothing. -/
theorem does_refused {m : Int} {ks : Kd} {w a b c : Int} (he : (doesF m ks w a b c).e ≠ 0) (hw : w < 4) : (doesF m ks w a b c).ks = ks := by
  unfold doesF at *
  split
  · rename_i h
    rw [if_pos h] at he
    unfold putF at *
    split
    · rfl
    · rename_i hf; rw [if_neg hf] at he; exact absurd rfl he
  · rename_i h
    rw [if_neg h] at he
    split
    · rename_i h1
      rw [if_pos h1] at he
      have h2 : ∀ a b, (and2 m ks a b).e ≠ 0 → (and2 m ks a b).ks = ks := by
        intro a b he
        unfold and2 at *
        split
        · rfl
        · rename_i g1
          rw [if_neg g1] at he
          split
          · rfl
          · rename_i g2
            rw [if_neg g2] at he
            split
            · rfl
            · rename_i hn
              rw [hn] at he
              simp only [putF] at *
              split
              · rfl
              · rename_i hf; rw [if_neg hf] at he; exact absurd rfl he
      unfold andF at *
      split
      · rename_i g
        rw [if_pos g] at he
        split
        · rename_i g1; rw [if_pos g1] at he; exact h2 _ _ he
        · rename_i g1; rw [if_neg g1] at he; exact h2 _ _ he
      · rfl
    · rename_i h1
      rw [if_neg h1] at he
      rw [if_neg (by omega), if_neg (by omega), if_neg (by omega)]

end Go.Proofs.Ytdbbkhmiflignaa
