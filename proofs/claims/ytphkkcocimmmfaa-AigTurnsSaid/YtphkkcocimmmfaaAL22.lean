/- Slices that grow, and small numbers: helpers for stepwise proofs. -/
import Derived.Test.YtphkkcocimmmfaaAL21
namespace Go.Proofs.Ytphkkcocimmmfaa

section
variable {P : Program} {K : TypeId → Option (List Sc)} {C : Calling}

/-- The objects that a slice lies in. -/
def objs : AV → List Nat
  | .row o _ _ _ _ => [o]
  | _ => []
/-- A slice that may grow. -/
def grows : AV → Prop
  | .nils => True
  | .row .. => True
  | _ => False
@[simp] theorem objs_row {o a b c : Nat} {f : Bool} : objs (.row o a b c f) = [o] := nr rfl
@[simp] theorem objs_nils : objs .nils = [] := nr rfl
@[simp] theorem objs_lst {a b : Nat} {cs : List AV} : objs (.lst a b cs) = [] := nr rfl
@[simp] theorem grows_row {o a b c : Nat} {f : Bool} : grows (.row o a b c f) := trivial
@[simp] theorem grows_nils : grows .nils := trivial

theorem Reads.lt {H : AHeap} {v : AV} {sz n : Nat} {cs : List AV} (h : Reads H v sz n cs) {o : Nat} (ho : o ∈ objs v) : o < H.size := by
  have h4 := h.own
  cases v <;> first | (simp [objs] at ho; done) | skip
  simp at ho
  subst ho; exact h4.2

/-- A slice reads as it did where its objects were let be. -/
theorem Reads.frO {F : List Nat} {A B : AHeap} {v : AV} {sz n : Nat} {cs : List AV} (h : Reads A v sz n cs) (k : Fr F A B) (hF : ∀ o, o ∈ objs v → o ∉ F) : Reads B v sz n cs := by
  refine h.fr k ?_
  cases v <;> simp
  exact hF _ (by simp)

/-- Appended: something to what may grow. -/
theorem app_of {H : AHeap} {v w : AV} {sz by_ n m : Nat} {z cs new : List AV} {r : Option (AV × AHeap)} (hr : appU H v w (some (sz, by_, z)) = r) (h : Reads H v sz n cs) (hg : grows v) (hw : Reads H w sz m new) (hm : 0 < m) (hz : z.length = sz) (hs : 0 < sz) (h1 : (n + m) * by_ ≤ 140737488355328) (h2 : n + m ≤ 9223372036854775807) (h3 : allOne new = true) :
    ∃ H', r = some (.row H.size 0 sz (n + m) false, H') ∧ Fr (objs v) H H' ∧ H'.size = H.size + 1 ∧ H'.obj H.size = .cells (cs ++ new) ∧ Reads H' (.row H.size 0 sz (n + m) false) sz (n + m) (cs ++ new) := by
  obtain ⟨g1, g2, g3, g4⟩ := h
  obtain ⟨w1, w2, w3, w4⟩ := hw
  have hsz : (cs ++ new).length = (n + m) * sz := by rw [List.length_append, g3, w3, Nat.add_mul]
  subst hr
  simp only [appU, g1, g2, w1, w2, Option.bind_some]
  rw [if_neg (by omega), if_pos ⟨hz, w3, hs, g3, h1, h2, h3⟩]
  cases v <;> first | (exact hg.elim) | skip
  · simp [sliceLen] at g1
    simp [sliceCells] at g2
    subst g1; subst g2
    simp only [Nat.zero_add] at hsz ⊢
    exact ⟨_, rfl, (Keeps.new H _).fr _, rfl, by simp, Reads.row' (by simp) (by simp) (by simpa using hsz)⟩
  · obtain ⟨rfl, g4⟩ := g4
    rename_i o off n' full
    simp only [if_true]
    cases full with
    | true =>
      simp only [if_true]
      exact ⟨_, rfl, (Keeps.new H _).fr _, rfl, by simp, Reads.row' (by simp) (by simp) hsz⟩
    | false =>
      simp only [Bool.false_eq_true, if_false]
      refine ⟨_, rfl, ((Fr.refl _ H).set (.inl (by simp)) _).new _, rfl, ?_, Reads.row' (by simp) ?_ hsz⟩
      · simp
      · simp

/-- Appended: something, or nothing, to what may grow. -/
theorem app_any {H : AHeap} {v w : AV} {sz by_ n m : Nat} {z cs new : List AV} {r : Option (AV × AHeap)} (hr : appU H v w (some (sz, by_, z)) = r) (h : Reads H v sz n cs) (hg : grows v) (hw : Reads H w sz m new) (hz : z.length = sz) (hs : 0 < sz) (h1 : (n + m) * by_ ≤ 140737488355328) (h2 : n + m ≤ 9223372036854775807) (h3 : allOne new = true) :
    ∃ v' H', r = some (v', H') ∧ grows v' ∧ Fr (objs v) H H' ∧ (∀ o, o ∈ objs v' → o ∈ objs v ∨ o = H.size ∧ H'.size = H.size + 1) ∧ Reads H' v' sz (n + m) (cs ++ new) := by
  by_cases hm : m = 0
  · subst hm
    have : new = [] := List.eq_nil_of_length_eq_zero (by simpa using hw.size)
    subst this
    refine ⟨v, H, ?_, hg, Fr.refl _ _, fun o ho => .inl ho, by simpa using h⟩
    rw [← hr]
    simp only [appU, h.len, h.cells, hw.len, hw.cells, Option.bind_some]
    simp
  · obtain ⟨H', h1, h2, h3, h4, h5⟩ := app_of hr h hg hw (by omega) hz hs h1 h2 h3
    exact ⟨_, H', h1, by simp, h2, fun o ho => .inr ⟨by simpa using ho, h3⟩, h5⟩

/-- An element of several cells. -/
theorem Reads.atN {H : AHeap} {v : AV} {sz n : Nat} {cs : List AV} (h : Reads H v sz n cs) {t : TypeId} (hl : ldS P t = some (some sz)) {i : Nat} (hi : i < n) : aload P H t (ixp v sz i) = some (.agg ((cs.drop (i * sz)).take sz)) := by
  obtain ⟨h1, h2, h3, h4⟩ := h
  have hb : i * sz + sz ≤ n * sz := by
    have : (i + 1) * sz ≤ n * sz := Nat.mul_le_mul_right _ hi
    rw [Nat.add_mul] at this; omega
  cases v <;> first | (exact h4.elim) | skip
  · simp [sliceLen] at h1; omega
  · obtain ⟨rfl, _⟩ := h4
    simp [sliceLen] at h1
    subst h1
    unfold sliceCells at h2
    simp only at h2
    split at h2 <;> first | (cases h2; done) | skip
    rename_i all ho
    split at h2 <;> first | (cases h2; done) | skip
    rename_i hle
    cases h2
    simp only [ixp, aload_ptr, ho, loadO_cells, hl, ldK_many]
    rw [if_pos (by omega)]
    congr 2
    rw [List.drop_take, List.take_take, List.drop_drop, Nat.min_eq_left (by omega)]
  · have h4 : _ = sz := h4
    subst h4
    simp [sliceLen] at h1
    subst h1
    simp [sliceCells] at h2
    subst h2
    simp only [ixp, aload_ptrl, hl, ldK_many]
    rw [if_pos (by omega)]

/-- A field of an element. -/
theorem Reads.fld {H : AHeap} {v : AV} {sz n : Nat} {cs : List AV} (h : Reads H v sz n cs) {t : TypeId} (hl : ldS P t = some none) {i : Nat} (hi : i < n) {j : Nat} (hj : j < sz) :
    (match ixp v sz i with
      | .ptr o off => aload P H t (.ptr o (off + j))
      | .ptrl cs off => aload P H t (.ptrl cs (off + j))
      | _ => none) = cs[i * sz + j]? := by
  obtain ⟨h1, h2, h3, h4⟩ := h
  have hb : i * sz + sz ≤ n * sz := by
    have : (i + 1) * sz ≤ n * sz := Nat.mul_le_mul_right _ hi
    rw [Nat.add_mul] at this; omega
  cases v <;> first | (exact h4.elim) | skip
  · simp [sliceLen] at h1; omega
  · obtain ⟨rfl, _⟩ := h4
    simp [sliceLen] at h1
    subst h1
    unfold sliceCells at h2
    simp only at h2
    split at h2 <;> first | (cases h2; done) | skip
    rename_i all ho
    split at h2 <;> first | (cases h2; done) | skip
    cases h2
    simp only [ixp, aload_ptr, ho, loadO_cells, hl, ldK_one]
    rw [List.getElem?_take_of_lt (by omega), List.getElem?_drop, Nat.add_assoc]
  · have h4 : _ = sz := h4
    subst h4
    simp [sliceLen] at h1
    subst h1
    simp [sliceCells] at h2
    subst h2
    simp only [ixp, aload_ptrl, hl, ldK_one]

@[simp] theorem ne_size {H : AHeap} {o : Nat} (h : o < H.size) : (o = H.size) = False := by simp; omega
@[simp] theorem ne_size' {H : AHeap} {o : Nat} (h : o < H.size) : (H.size = o) = False := by simp; omega
@[simp] theorem ne_size1 {H : AHeap} {o n : Nat} (h : o < H.size) : (o = H.size + n) = False := by simp; omega
@[simp] theorem ne_size1' {H : AHeap} {o n : Nat} (h : o < H.size) : (H.size + n = o) = False := by simp; omega

@[simp] theorem fits_many {s : List Sc} {l : List AV} : (KSh.many s).fits (.agg l) = conf s l := nr rfl
@[simp] theorem fits_one {c : Sc} {a : AV} : (KSh.one c).fits a = c.fits a := nr rfl
@[simp] theorem lookU_some {ok : Bool} {z : AV} {x : AEnt} : lookU ok z (some x) = if ok = true then .tup [x.val, .bool true] else x.val := nr rfl
@[simp] theorem lookU_none {ok : Bool} {z : AV} : lookU ok z none = if ok = true then .tup [z, .bool false] else z := nr rfl

@[simp] theorem eqU_rn {o a b c : Nat} {f : Bool} : eqU .slice (.row o a b c f) .nils = some false := nr rfl
@[simp] theorem eqU_nr {o a b c : Nat} {f : Bool} : eqU .slice .nils (.row o a b c f) = some false := nr rfl
@[simp] theorem eqU_pn {o a : Nat} : eqU .ptr (.ptr o a) .nilp = some false := nr rfl
@[simp] theorem eqU_np {o a : Nat} : eqU .ptr .nilp (.ptr o a) = some false := nr rfl
@[simp] theorem eqU_pp : eqU .ptr .nilp .nilp = some true := nr rfl
@[simp] theorem eqU_mn {o : Nat} : eqU .map (.map o) .nilm = some false := nr rfl
@[simp] theorem eqU_mm : eqU .map .nilm .nilm = some true := nr rfl
@[simp] theorem eqU_fn {f : Fn} {a b : List AV} : eqU .func (.fn f a b) .nilf = some false := nr rfl
@[simp] theorem eqU_ff : eqU .func .nilf .nilf = some true := nr rfl
@[simp] theorem eqU_nn : eqU .slice .nils .nils = some true := nr rfl

@[simp] theorem nat_neg {n : Nat} : ((n : Int) < 0) = False := by simp
@[simp] theorem add_nn {a b : Int} (ha : 0 ≤ a) (hb : 0 ≤ b) : 0 ≤ a + b := by omega

/-! Small numbers. -/
@[simp high] theorem shr1 {t : TypeId} {k : IntKind} {a : Int} (hk : 1 ≤ k.bits) : abin P K .shr t (.int k a) (u 1#64) = some (.int k (a / 2)) := by
  rw [bin_shrU]
  have : min (1#64 : BitVec 64).toNat k.bits = 1 := by
    have : (1#64 : BitVec 64).toNat = 1 := by decide
    omega
  rw [this, Int.fdiv_eq_ediv_of_nonneg _ (by decide)]
  rfl

/-- A number with its lowest bit turned. -/
def flip1 (a : Int) : Int := if a % 2 = 0 then a + 1 else a - 1
theorem flip_nat (n : Nat) : n ^^^ 1 = if n % 2 = 0 then n + 1 else n - 1 := by
  have h1 : (n ^^^ 1) / 2 = n / 2 := by rw [Nat.xor_div_two]; simp
  have h2 : (n ^^^ 1) % 2 = (n + 1) % 2 := by
    have := Nat.xor_mod_two_pow (a := n) (b := 1) (n := 1)
    simp only [Nat.pow_one] at this
    rw [this]
    rcases Nat.mod_two_eq_zero_or_one n with h | h
    · rw [h, show (0 ^^^ 1 % 2 : Nat) = 1 from by decide]; omega
    · rw [h, show (1 ^^^ 1 % 2 : Nat) = 0 from by decide]; omega
  split <;> omega
theorem i64_toNat {a : Int} (h0 : -9223372036854775808 ≤ a) (h1 : a ≤ 9223372036854775807) : (BitVec.ofInt 64 a).toNat = (if 0 ≤ a then a.toNat else (a + 18446744073709551616).toNat) := by
  rw [BitVec.toNat_ofInt]
  split <;> omega
@[simp high] theorem xor1 {t : TypeId} {a : Int} (h0 : -9223372036854775808 ≤ a) (h1 : a ≤ 9223372036854775807) : abin P K .xor t (.int .i64 a) (.int .i64 1) = some (.int .i64 (flip1 a)) := by
  rw [bin_xor]
  have e : (BitVec.ofInt 64 a ^^^ BitVec.ofInt 64 1).toNat = (BitVec.ofInt 64 a).toNat ^^^ 1 := by rw [BitVec.toNat_xor]; rfl
  have e2 : IntKind.i64.wrap (((BitVec.ofInt IntKind.i64.bits a ^^^ BitVec.ofInt IntKind.i64.bits 1).toNat : Nat) : Int) = flip1 a := by
    show IntKind.i64.wrap (((BitVec.ofInt 64 a ^^^ BitVec.ofInt 64 1).toNat : Nat) : Int) = flip1 a
    rw [e, flip_nat, i64_toNat h0 h1, IntKind.wrap_i64]
    unfold flip1
    repeat' split
    all_goals omega
  rw [e2]
theorem and1_nat (n : Nat) : n &&& 1 = n % 2 := Nat.and_one_is_mod n
@[simp high] theorem and1 {t : TypeId} {a : Int} (h0 : -9223372036854775808 ≤ a) (h1 : a ≤ 9223372036854775807) : abin P K .and t (.int .i64 a) (.int .i64 1) = some (.int .i64 (a % 2)) := by
  rw [bin_and]
  have e : (BitVec.ofInt 64 a &&& BitVec.ofInt 64 1).toNat = (BitVec.ofInt 64 a).toNat &&& 1 := by rw [BitVec.toNat_and]; rfl
  have e2 : IntKind.i64.wrap (((BitVec.ofInt IntKind.i64.bits a &&& BitVec.ofInt IntKind.i64.bits 1).toNat : Nat) : Int) = a % 2 := by
    show IntKind.i64.wrap (((BitVec.ofInt 64 a &&& BitVec.ofInt 64 1).toNat : Nat) : Int) = a % 2
    rw [e, and1_nat, i64_toNat h0 h1, IntKind.wrap_i64]
    split <;> omega
  rw [e2]

end
end Go.Proofs.Ytphkkcocimmmfaa
