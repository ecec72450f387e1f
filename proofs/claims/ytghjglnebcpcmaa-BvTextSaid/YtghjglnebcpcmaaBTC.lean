/- Values as texts: slices of bytes, digits. -/
import Derived.Test.YtghjglnebcpcmaaBTB
import Derived.Test.YtghjglnebcpcmaaOC
import Derived.Test.YtghjglnebcpcmaaBR2
namespace Go.Proofs.Ytghjglnebcpcmaa
set_option maxRecDepth 100000
set_option maxHeartbeats 4000000

theorem byteN_map : ∀ ns : List Int, byteN (ns.map (AV.int .u8)) = some ns
  | [] => rfl
  | n :: ns => by simp [byteN, byteN_map ns]
theorem strOf_reads {H : AHeap} {v : AV} {ns : List Int} (h : Reads H v 1 ns.length (ns.map (.int .u8))) : strOf H v = some (pushN ns) := by
  unfold strOf
  rw [h.cells, h.len]
  simp [byteN_map]
theorem cv_bytes {H : AHeap} {v : AV} {ns : List Int} (h : Reads H v 1 ns.length (ns.map (.int .u8))) (g : grows v) : cvK H v .bytes = some (.str (pushN ns), H) := by
  have hs := strOf_reads h
  cases v <;> first | (exact g.elim) | skip
  · have := h.len
    simp [sliceLen] at this
    have : ns = [] := List.eq_nil_of_length_eq_zero this.symm
    subst this
    rfl
  · simp [hs]
/-- The digits' table. -/
def hexS : ByteArray := ⟨#[48, 49, 50, 51, 52, 53, 54, 55, 56, 57, 97, 98, 99, 100, 101, 102]⟩
theorem hex_at : ∀ c : Fin 256, firstIdx hexS (UInt8.ofNat c) = if (48 ≤ (c : Nat) ∧ (c : Nat) ≤ 57) then (c : Int) - 48 else if (97 ≤ (c : Nat) ∧ (c : Nat) ≤ 102) then (c : Int) - 87 else -1 := by decide +kernel
theorem hex_idx (c : UInt8) : firstIdx hexS c = if 48 ≤ c.toNat ∧ c.toNat ≤ 57 then (c.toNat : Int) - 48 else if 97 ≤ c.toNat ∧ c.toNat ≤ 102 then (c.toNat : Int) - 87 else -1 := by
  have h := hex_at ⟨c.toNat, c.toNat_lt⟩
  simp only [UInt8.ofNat_toNat] at h
  exact h
end Go.Proofs.Ytghjglnebcpcmaa
