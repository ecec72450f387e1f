/- Values as texts, plain: a text read again. -/
import Derived.Test.YtghjglnebcpcmaaBTA
namespace Go.Proofs.Ytghjglnebcpcmaa
set_option maxRecDepth 100000
set_option maxHeartbeats 1000000

/-- The signs of a word. -/
def signL (w : Nat) (x : W128) : List Int := [35, 98] ++ (List.range w).map fun j => if x.getLsbD (w - 1 - j) = true then 49 else 48
def textF (w : Int) (x : W128) : ByteArray := if rightF w (lo x) (hi x) = false then .empty else if w = 0 then (if x = 1#128 then pT else pF) else pushN (signL w.toNat x)
theorem bts_push1 {s : ByteArray} {b : UInt8} : bts (s.push b) = bts s ++ [b] := by
  unfold bts
  rw [ByteArray.data_push, Array.toList_push]
theorem bts_fold : ∀ (ns : List Int) (s : ByteArray), bts (ns.foldl (fun r n => r.push (UInt8.ofNat n.toNat)) s) = bts s ++ ns.map fun n => UInt8.ofNat n.toNat
  | [], s => by simp
  | n :: ns, s => by
    rw [List.foldl_cons, bts_fold ns, bts_push1]
    simp
theorem bts_pushN (ns : List Int) : bts (pushN ns) = ns.map fun n => UInt8.ofNat n.toNat := by
  unfold pushN
  rw [bts_fold]
  rfl
theorem pushN_snoc (ns : List Int) (n : Int) : pushN (ns ++ [n]) = (pushN ns).push (UInt8.ofNat n.toNat) := by
  unfold pushN
  rw [List.foldl_append]
  rfl
/-- The signs of a word's bits, the highest first. -/
def sgn (x : W128) : Nat → List UInt8
  | 0 => []
  | w + 1 => (if x.getLsbD w = true then 49 else 48) :: sgn x w
theorem sgn_len (x : W128) : ∀ w, (sgn x w).length = w
  | 0 => rfl
  | w + 1 => by simp [sgn, sgn_len x w]
theorem sgn_dv (x : W128) : ∀ w c, c ∈ sgn x w → dvN c < 2 ^ 1
  | 0, c, h => by cases h
  | w + 1, c, h => by
    unfold sgn at h
    rcases List.mem_cons.1 h with rfl | h
    · split <;> decide
    · exact sgn_dv x w c h
theorem bn_succ (w : Nat) (x : W128) : bn (w + 1) x = bn w x ++ [x.getLsbD w] := by
  unfold bn
  rw [List.range_succ, List.map_append]
  rfl
theorem sgn_bits (x : W128) : ∀ w, dlist 1 (sgn x w) = bn w x
  | 0 => rfl
  | w + 1 => by
    unfold sgn
    rw [dlist_cons, sgn_bits x w, bn_succ]
    congr 1
    cases x.getLsbD w <;> decide
theorem signL_eq (x : W128) : ∀ w, (signL w x).map (fun n => UInt8.ofNat n.toNat) = 35 :: 98 :: sgn x w := by
  have key : ∀ w, ((List.range w).map fun j => if x.getLsbD (w - 1 - j) = true then (49 : Int) else 48).map (fun n => UInt8.ofNat n.toNat) = sgn x w := by
    intro w
    induction w with
    | zero => rfl
    | succ w ih =>
      unfold sgn
      rw [List.range_succ_eq_map, List.map_cons, List.map_cons, List.map_map, ← ih]
      congr 1
      · simp only [Nat.add_sub_cancel, Nat.sub_zero]
        cases x.getLsbD w <;> rfl
      · rw [List.map_map, List.map_map]
        refine List.map_congr_left fun j _ => ?_
        simp only [Function.comp, Nat.succ_eq_add_one]
        rw [show w + 1 - 1 - (j + 1) = w - 1 - j by omega]
  intro w
  unfold signL
  rw [List.map_append, key w]
  rfl
theorem text_bts (w : Nat) (x : W128) : bts (pushN (signL w x)) = 35 :: 98 :: sgn x w := by rw [bts_pushN, signL_eq]
/-- What was told is read. -/
theorem parse_text {w : Int} {x : W128} (h : rightF w (lo x) (hi x) = true) : parseF (textF w x) = some (w.toNat, x) := by
  unfold textF
  rw [h, if_neg (by simp)]
  by_cases c : w = 0
  · subst c
    rw [if_pos rfl]
    unfold rightF at h
    rw [if_pos rfl] at h
    have h := of_decide_eq_true h
    have hx : x = mkN (lo x) (hi x) := pair_ext (by rw [lo_mk]) (by rw [hi_mk])
    have h2 : lo x = 0#64 ∨ lo x = 1#64 := by
      have h1 := h.1
      rw [BitVec.le_def] at h1
      have e1 : (1#64).toNat = 1 := rfl
      rw [e1] at h1
      rcases (by omega : (lo x).toNat = 0 ∨ (lo x).toNat = 1) with q | q
      · exact .inl (BitVec.eq_of_toNat_eq q)
      · exact .inr (BitVec.eq_of_toNat_eq q)
    rcases h2 with q | q
    · have hx0 : x = 0#128 := by rw [hx, q, h.2]; decide
      subst hx0
      rw [if_neg (by decide)]
      unfold parseF
      rw [if_neg (by decide), if_pos rfl]
      rfl
    · have hx1 : x = 1#128 := by rw [hx, q, h.2]; decide
      subst hx1
      rw [if_pos rfl]
      unfold parseF
      rw [if_pos rfl]
      rfl
  · rw [if_neg c]
    unfold rightF at h
    rw [if_neg c, Bool.and_eq_true] at h
    have hw := of_decide_eq_true h.1
    have hm := of_decide_eq_true h.2
    have hx : mkN (lo x) (hi x) = x := pair_ext (by rw [lo_mk]) (by rw [hi_mk])
    rw [hx] at hm
    obtain ⟨n, hn⟩ : ∃ n : Nat, n = w.toNat := ⟨_, rfl⟩
    rw [← hn] at hm ⊢
    have hb := text_bts n x
    have n1 : ¬ pushN (signL n x) = pT := fun e => by
      rw [e] at hb
      have := congrArg List.head? hb
      rw [show (bts pT).head? = some 116 from rfl] at this
      simp at this
    have n2 : ¬ pushN (signL n x) = pF := fun e => by
      rw [e] at hb
      have := congrArg List.head? hb
      rw [show (bts pF).head? = some 102 from rfl] at this
      simp at this
    unfold parseF
    rw [if_neg n1, if_neg n2, hb]
    show (if (35 : UInt8) = 35 ∧ (98 : UInt8) = 98 then digitsF 1 (sgn x n) else if (35 : UInt8) = 35 ∧ (98 : UInt8) = 120 then digitsF 4 (sgn x n) else none) = _
    rw [if_pos ⟨rfl, rfl⟩]
    unfold digitsF
    have hl := sgn_len x n
    have hne : ¬ sgn x n = [] := fun e => by rw [e] at hl; simp at hl; omega
    rw [if_neg (by rw [hl]; intro q; rcases q with q | q; exact hne q; omega)]
    obtain ⟨m, hm2⟩ := digs_some (e := 1) (n := 0#128) (sgn_dv x n)
    have := digs_wv (by rw [hl]; omega) hm2
    rw [sgn_bits, hl, wv_bn (by omega), ← cut_E (by omega), Nat.one_mul, hm] at this
    rw [hm2, hl]
    simp only [Option.map_some, Nat.one_mul]
    rw [← this]
end Go.Proofs.Ytghjglnebcpcmaa
