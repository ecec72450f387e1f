/- Values as texts, plain. -/
import Derived.Test.YtghjglnebcpcmaaBRT
namespace Go.Proofs.Ytghjglnebcpcmaa
set_option maxRecDepth 100000
set_option maxHeartbeats 1000000

/-- The bytes of a string. -/
def bts (s : ByteArray) : List UInt8 := s.data.toList
theorem bts_len (s : ByteArray) : (bts s).length = s.size := Array.length_toList
theorem bts_inj {s t : ByteArray} (h : bts s = bts t) : s = t := ByteArray.ext (Array.toList_inj.1 h)
theorem bts_cut {s : ByteArray} {a b : Nat} : bts (s.extract a b) = ((bts s).drop a).take (b - a) := by
  unfold bts
  rw [ByteArray.data_extract, Array.toList_extract]
theorem bts_add {s t : ByteArray} : bts (s ++ t) = bts s ++ bts t := by
  unfold bts
  rw [ByteArray.data_append, Array.toList_append]
def pT : ByteArray := ⟨#[116, 114, 117, 101]⟩
def pF : ByteArray := ⟨#[102, 97, 108, 115, 101]⟩
/-- What a digit counts; 16: it is none. -/
def dvN (c : UInt8) : Nat := if 48 ≤ c.toNat ∧ c.toNat ≤ 57 then c.toNat - 48 else if 97 ≤ c.toNat ∧ c.toNat ≤ 102 then c.toNat - 87 else if 65 ≤ c.toNat ∧ c.toNat ≤ 70 then c.toNat - 55 else 16
theorem dvN_le (c : UInt8) : dvN c ≤ 16 := by
  unfold dvN
  repeat' split
  all_goals omega
def digs (e : Nat) : W128 → List UInt8 → Option W128
  | n, [] => some n
  | n, c :: r => if dvN c < 2 ^ e then digs e (n <<< e ||| BitVec.ofNat 128 (dvN c)) r else none
def dbits (e : Nat) (c : UInt8) : List Bool := bn e (BitVec.ofNat 128 (dvN c))
/-- The bits of digits, the last digit's first. -/
def dlist (e : Nat) (l : List UInt8) : List Bool := l.reverse.flatMap (dbits e)
theorem dlist_cons (e : Nat) (c : UInt8) (l : List UInt8) : dlist e (c :: l) = dlist e l ++ dbits e c := by
  unfold dlist
  rw [List.reverse_cons, List.flatMap_append]
  simp
theorem dlist_len (e : Nat) : ∀ l : List UInt8, (dlist e l).length = e * l.length
  | [] => by simp [dlist]
  | c :: l => by
    rw [dlist_cons, List.length_append, dlist_len e l]
    simp [dbits, Nat.mul_add]
theorem bn_step {e k : Nat} {n : W128} {d : Nat} (hd : d < 2 ^ e) (hk : k + e ≤ 128) : bn (k + e) (n <<< e ||| BitVec.ofNat 128 d) = bn e (BitVec.ofNat 128 d) ++ bn k n := by
  apply list_ext
  · simp [Nat.add_comm]
  · intro i hi
    rw [bn_length] at hi
    rw [bn_getD, decide_eq_true hi, Bool.true_and, BitVec.getLsbD_or, BitVec.getLsbD_shiftLeft]
    by_cases c : i < e
    · rw [List.getD_eq_getElem?_getD, List.getElem?_append_left (by simpa using c), ← List.getD_eq_getElem?_getD, bn_getD]
      simp [c]
    · rw [List.getD_eq_getElem?_getD, List.getElem?_append_right (by simp; omega), bn_length, ← List.getD_eq_getElem?_getD, bn_getD]
      have h1 : (BitVec.ofNat 128 d).getLsbD i = false := by
        rw [BitVec.getLsbD_ofNat]
        have : d.testBit i = false := Nat.testBit_lt_two_pow (Nat.lt_of_lt_of_le hd (Nat.pow_le_pow_right (by decide) (by omega)))
        simp [this]
      have h2 : i < 128 := by omega
      have h3 : i - e < k := by omega
      rw [h1, decide_eq_true h2, decide_eq_true h3, decide_eq_false c]
      simp
theorem digs_bits {e : Nat} : ∀ {l : List UInt8} {k : Nat} {n0 n : W128}, k + e * l.length ≤ 128 → digs e n0 l = some n → bn (k + e * l.length) n = dlist e l ++ bn k n0
  | [], k, n0, n, _, h => by
    simp [digs] at h
    subst h
    simp [dlist]
  | c :: l, k, n0, n, hk, h => by
    unfold digs at h
    split at h
    · rename_i hd
      simp only [List.length_cons, Nat.mul_add, Nat.mul_one] at hk ⊢
      have := digs_bits (l := l) (k := k + e) (by omega) h
      rw [show k + (e * l.length + e) = k + e + e * l.length by omega, this, bn_step hd (by omega), dlist_cons, List.append_assoc]
      rfl
    · cases h
theorem digs_wv {e : Nat} {l : List UInt8} {n : W128} (hk : e * l.length ≤ 128) (h : digs e 0#128 l = some n) : wv (dlist e l) = n &&& maskN (e * l.length) := by
  have := digs_bits (k := 0) (by omega) h
  simp only [Nat.zero_add] at this
  rw [show bn 0 (0#128 : W128) = [] from rfl, List.append_nil] at this
  rw [← this, wv_bn hk, cut_E hk]
def digitsF (e : Nat) (l : List UInt8) : Option (Nat × W128) := if l = [] ∨ 128 / e < l.length then none else (digs e 0#128 l).map fun n => (e * l.length, n &&& maskN (e * l.length))
def formF : List UInt8 → Option (Nat × W128)
  | a :: b :: r => if a = 35 ∧ b = 98 then digitsF 1 r else if a = 35 ∧ b = 120 then digitsF 4 r else none
  | _ => none
def parseF (s : ByteArray) : Option (Nat × W128) := if s = pT then some (0, 1#128) else if s = pF then some (0, 0#128) else formF (bts s)
theorem digs_some {e : Nat} : ∀ {l : List UInt8} {n : W128}, (∀ c, c ∈ l → dvN c < 2 ^ e) → ∃ m, digs e n l = some m
  | [], n, _ => ⟨n, rfl⟩
  | c :: l, n, h => by
    unfold digs
    rw [if_pos (h c (by simp))]
    exact digs_some fun d hd => h d (by simp [hd])
theorem digs_all {e : Nat} : ∀ {l : List UInt8} {n m : W128}, digs e n l = some m → ∀ c, c ∈ l → dvN c < 2 ^ e
  | [], _, _, _, c, hc => by cases hc
  | d :: l, n, m, h, c, hc => by
    unfold digs at h
    split at h
    · rename_i hd
      rcases List.mem_cons.1 hc with rfl | hc
      · exact hd
      · exact digs_all h c hc
    · cases h
end Go.Proofs.Ytghjglnebcpcmaa
