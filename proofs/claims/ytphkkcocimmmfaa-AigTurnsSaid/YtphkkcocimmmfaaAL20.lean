/- Helpers for a function's word: what a call keeps, slices that are read, words of 64 bits, small numbers. -/
import Derived.Test.YtphkkcocimmmfaaAL19
import Derived.IntWalk
import Derived.Laws.Bits64
namespace Go.Proofs.Ytphkkcocimmmfaa

section
variable {P : Program} {K : TypeId → Option (List Sc)} {C : Calling}

/-- A call that answers 'v' and keeps what was there. -/
def Pure (C : Calling) (f : FuncId) (vs : List AV) (H : AHeap) (v : AV) : Prop := ∃ H', C f vs H = some (v, H') ∧ Keeps H H'
theorem Pure.run {f : FuncId} {vs : List AV} {H : AHeap} {v : AV} (h : Pure C f vs H v) : C f vs H = some (v, aft C f vs H) := by
  obtain ⟨H', h, _⟩ := h; exact (aft_of h).1
theorem Pure.keeps {f : FuncId} {vs : List AV} {H : AHeap} {v : AV} (h : Pure C f vs H v) : Keeps H (aft C f vs H) := by
  obtain ⟨H', h, k⟩ := h; rw [(aft_of h).2]; exact k

@[simp] theorem lt_step {a b : Nat} (h : a < b) : a < b + 1 := by omega
@[simp] theorem le_step {a b : Nat} (h : a ≤ b) : a ≤ b + 1 := by omega
@[simp] theorem eq_step {a b : Nat} (h : a ≤ b) : (a = b + 1) = False := by simp; omega
@[simp] theorem eq_step' {a b : Nat} (h : a ≤ b) : (b + 1 = a) = False := by simp; omega

/-- What a call keeps, as a fact of its own. -/
def Kp (C : Calling) (f : FuncId) (vs : List AV) (H : AHeap) : Prop := Keeps H (aft C f vs H)
theorem Pure.kp {f : FuncId} {vs : List AV} {H : AHeap} {v : AV} (h : Pure C f vs H v) : Kp C f vs H := h.keeps
@[simp] theorem aft_obj {f : FuncId} {vs : List AV} {H : AHeap} {o : Nat} (k : Kp C f vs H) (ho : o < H.size) : (aft C f vs H).obj o = H.obj o := Keeps.obj k o ho
@[simp] theorem aft_lt {f : FuncId} {vs : List AV} {H : AHeap} {o : Nat} (k : Kp C f vs H) (ho : o < H.size) : o < (aft C f vs H).size := Keeps.lt k ho
@[simp] theorem aft_le {f : FuncId} {vs : List AV} {H : AHeap} {n : Nat} (k : Kp C f vs H) (h : n ≤ H.size) : n ≤ (aft C f vs H).size := Nat.le_trans h (Keeps.size k)
@[simp] theorem aft_keeps {f : FuncId} {vs : List AV} {H H0 : AHeap} (k : Kp C f vs H) (h : Keeps H0 H) : Keeps H0 (aft C f vs H) := h.trans k

@[simp] theorem aft_ne {f : FuncId} {vs : List AV} {H : AHeap} {o : Nat} (k : Kp C f vs H) (ho : o < H.size) : (o = (aft C f vs H).size) = False := by
  have := Keeps.lt k ho
  simp; omega
@[simp] theorem aft_ne' {f : FuncId} {vs : List AV} {H : AHeap} {o : Nat} (k : Kp C f vs H) (ho : o < H.size) : ((aft C f vs H).size = o) = False := by
  have := Keeps.lt k ho
  simp; omega
@[simp] theorem aft_ne1 {f : FuncId} {vs : List AV} {H : AHeap} {o n : Nat} (k : Kp C f vs H) (ho : o < H.size) : (o = (aft C f vs H).size + n) = False := by
  have := Keeps.lt k ho
  simp; omega
@[simp] theorem aft_ne1' {f : FuncId} {vs : List AV} {H : AHeap} {o n : Nat} (k : Kp C f vs H) (ho : o < H.size) : ((aft C f vs H).size + n = o) = False := by
  have := Keeps.lt k ho
  simp; omega

variable (P K C) in
/-- The slots and the heap behind a loop. -/
noncomputable def lenv (b : LCode) (e : Env) (H : AHeap) : Env := ((loopL P K C b e H).map fun x => x.2.1).getD e
variable (P K C) in
noncomputable def lheap (b : LCode) (e : Env) (H : AHeap) : AHeap := ((loopL P K C b e H).map fun x => x.2.2).getD H
theorem loop_of {b : LCode} {e : Env} {H : AHeap} {x : AX} {e' : Env} {H' : AHeap} (h : loopL P K C b e H = some (x, e', H')) :
    loopL P K C b e H = some (x, lenv P K C b e H, lheap P K C b e H) ∧ lenv P K C b e H = e' ∧ lheap P K C b e H = H' := by simp [lenv, lheap, h]

@[simp] theorem putCells_at {cs new : List AV} {off : Nat} : putCells cs off new = cs.take off ++ new ++ cs.drop (off + new.length) := nr rfl
@[simp] theorem keeps_refl {H : AHeap} : Keeps H H := Keeps.refl H
@[simp] theorem keeps_new {H H' : AHeap} {x : AObj} (h : Keeps H H') : Keeps H (H'.new x) := h.new' x
@[simp] theorem keeps_set {H H' : AHeap} {o : Nat} {x : AObj} (h : Keeps H H') (ho : H.size ≤ o) : Keeps H (H'.set o x) := h.set ho x
@[simp] theorem quiet_of {H H' : AHeap} (h : Keeps H H') : H.Quiet H' := h.quiet

@[simp] theorem new_obj {H : AHeap} {x : AObj} {o : Nat} : (H.new x).obj o = if o = H.size then x else H.obj o := nr rfl
@[simp] theorem set_obj {H : AHeap} {x : AObj} {o k : Nat} : (H.set o x).obj k = if k = o then x else H.obj k := nr rfl

/-- Only one object was written. -/
structure Upd (o : Nat) (H H' : AHeap) : Prop where
  size : H'.size = H.size
  obj : ∀ k, k ≠ o → H'.obj k = H.obj k
  wr : ∀ k, k ≠ o → H'.wr k = H.wr k
theorem Upd.refl (o : Nat) (H : AHeap) : Upd o H H := ⟨rfl, fun _ _ => rfl, fun _ _ => rfl⟩
theorem Upd.set {o : Nat} {H H' : AHeap} (h : Upd o H H') (x : AObj) : Upd o H (H'.set o x) :=
  ⟨h.size, fun k hk => by rw [set_old hk]; exact h.obj k hk, fun k hk => by simp only [AHeap.set]; rw [if_neg hk]; exact h.wr k hk⟩
theorem Upd.trans {o : Nat} {A B E : AHeap} (h : Upd o A B) (k : Upd o B E) : Upd o A E :=
  ⟨k.size.trans h.size, fun j hj => (k.obj j hj).trans (h.obj j hj), fun j hj => (k.wr j hj).trans (h.wr j hj)⟩
theorem Upd.keeps {o : Nat} {H0 H H' : AHeap} (h : Upd o H H') (k : Keeps H0 H) (ho : H0.size ≤ o) : Keeps H0 H' :=
  ⟨by rw [h.size]; exact k.size, fun j hj => (h.obj j (by omega)).trans (k.obj j hj), fun j hj => (h.wr j (by omega)).trans (k.wr j hj)⟩

/-- A slice that reads as the given cells. -/
structure Reads (H : AHeap) (v : AV) (sz n : Nat) (cs : List AV) : Prop where
  len : sliceLen v = some n
  cells : sliceCells H v = some cs
  size : cs.length = n * sz
  own : match v with
    | .row o _ s _ _ => s = sz ∧ o < H.size
    | .lst s _ _ => s = sz
    | .nils => True
    | _ => False

/-- Where an element of a slice lies. -/
def ixp (v : AV) (sz : Nat) (i : Nat) : AV :=
  match v with
  | .row o off _ _ _ => .ptr o (off + i * sz)
  | .lst _ _ cs => .ptrl cs (i * sz)
  | _ => .nilp

theorem Reads.lst {H : AHeap} {sz n : Nat} {cs : List AV} (h : cs.length = n * sz) : Reads H (.lst sz n cs) sz n cs := ⟨rfl, rfl, h, rfl⟩
theorem Reads.nils {H : AHeap} {sz : Nat} : Reads H .nils sz 0 [] := ⟨rfl, rfl, by simp, trivial⟩
theorem Reads.row {H : AHeap} {o off sz n : Nat} {full : Bool} {all : List AV} (ho : o < H.size) (h : H.obj o = .cells all) (hl : off + n * sz ≤ all.length) : Reads H (.row o off sz n full) sz n ((all.drop off).take (n * sz)) :=
  ⟨rfl, by simp [sliceCells, h, hl], by simp; omega, rfl, ho⟩
theorem Reads.row' {H : AHeap} {o sz n : Nat} {full : Bool} {all : List AV} (ho : o < H.size) (h : H.obj o = .cells all) (hl : all.length = n * sz) : Reads H (.row o 0 sz n full) sz n all := by
  have := Reads.row (full := full) (off := 0) (n := n) (sz := sz) ho h (by omega)
  simpa [← hl] using this
theorem Reads.keep {H H' : AHeap} {v : AV} {sz n : Nat} {cs : List AV} (h : Reads H v sz n cs) (k : Keeps H H') : Reads H' v sz n cs := by
  obtain ⟨h1, h2, h3, h4⟩ := h
  refine ⟨h1, ?_, h3, ?_⟩
  · cases v <;> try exact h2
    rw [← h2]
    simp only [sliceCells, k.obj _ h4.2]
  · cases v <;> try exact h4
    exact ⟨h4.1, Nat.lt_of_lt_of_le h4.2 k.size⟩
theorem Reads.addr {H : AHeap} {v : AV} {sz n : Nat} {cs : List AV} (h : Reads H v sz n cs) {t : TypeId} (ht : eszS P t = some sz) {i : Nat} (hi : i < n) : aindexAddr P t v (i : Int) = some (ixp v sz i) := by
  obtain ⟨h1, h2, h3, h4⟩ := h
  cases v <;> first | (exact h4.elim) | skip
  · simp [sliceLen] at h1; omega
  · obtain ⟨rfl, _⟩ := h4
    simp [sliceLen] at h1
    subst h1
    simp [ht, ixp, hi]
  · have h4 : _ = sz := h4
    subst h4
    simp [sliceLen] at h1
    subst h1
    simp [ht, ixp, hi]
theorem Reads.at {H : AHeap} {v : AV} {sz n : Nat} {cs : List AV} (h : Reads H v sz n cs) {t : TypeId} (hl : ldS P t = some none) (hsz : sz = 1) {i : Nat} (hi : i < n) : aload P H t (ixp v sz i) = cs[i]? := by
  obtain ⟨h1, h2, h3, h4⟩ := h
  subst hsz
  cases v <;> first | (exact h4.elim) | skip
  · simp [sliceLen] at h1; omega
  · obtain ⟨rfl, _⟩ := h4
    simp [sliceLen] at h1
    subst h1
    unfold sliceCells at h2
    simp only at h2
    split at h2 <;> first | (cases h2; done) | skip
    rename_i all ho
    split at h2 <;> first | (cases h2; done) | skip
    cases h2
    simp only [ixp, aload_ptr, ho, loadO_cells, hl, ldK_one, Nat.mul_one]
    rw [List.getElem?_take_of_lt hi, List.getElem?_drop]
  · have h4 : _ = 1 := h4
    subst h4
    simp [sliceLen] at h1
    subst h1
    simp [sliceCells] at h2
    subst h2
    simp [ixp, hl]

@[simp] theorem reads_new {H : AHeap} {x : AObj} {v : AV} {sz n : Nat} {cs : List AV} (h : Reads H v sz n cs) : Reads (H.new x) v sz n cs := h.keep (Keeps.new H x)
@[simp] theorem reads_row {H : AHeap} {o sz n : Nat} {f : Bool} {cs : List AV} (ho : o < H.size) (h : H.obj o = .cells cs) (hl : cs.length = n * sz) : Reads H (.row o 0 sz n f) sz n cs := Reads.row' ho h hl
@[simp] theorem reads_aft {f : FuncId} {vs : List AV} {H : AHeap} {v : AV} {sz n : Nat} {cs : List AV} (k : Kp C f vs H) (h : Reads H v sz n cs) : Reads (aft C f vs H) v sz n cs := h.keep k
@[simp] theorem reads_nils {H : AHeap} {sz : Nat} : Reads H .nils sz 0 [] := Reads.nils
/-- What a call answers. -/
def res (C : Calling) (f : FuncId) (vs : List AV) (H : AHeap) : AV := ((C f vs H).map (·.1)).getD .nilp
theorem res_of {f : FuncId} {vs : List AV} {H : AHeap} {v : AV} {H' : AHeap} (h : C f vs H = some (v, H')) : C f vs H = some (res C f vs H, aft C f vs H) ∧ res C f vs H = v ∧ aft C f vs H = H' := by simp [aft, res, h]

/-- Appended to nothing. -/
theorem app_nils {H : AHeap} {b : AV} {sz by_ n : Nat} {z cs : List AV} (h : Reads H b sz n cs) (hz : z.length = sz) (hs : 0 < sz) (h1 : n * by_ ≤ 140737488355328) (h2 : n ≤ 9223372036854775807) (h3 : allOne cs = true) :
    ∃ v H', appU H .nils b (some (sz, by_, z)) = some (v, H') ∧ Keeps H H' ∧ Reads H' v sz n cs ∧ v = (if n = 0 then .nils else .row H.size 0 sz n false) := by
  obtain ⟨g1, g2, g3, g4⟩ := h
  simp only [appU, g1, g2, Option.bind_some]
  by_cases h0 : n = 0
  · subst h0
    have : cs = [] := List.eq_nil_of_length_eq_zero (by simpa using g3)
    subst this
    exact ⟨.nils, H, by simp [sliceCells], Keeps.refl H, Reads.nils, by simp⟩
  · refine ⟨.row H.size 0 sz n false, H.new (.cells cs), ?_, Keeps.new H _, Reads.row' (by simp) (by simp) g3, by simp [h0]⟩
    have e : sliceCells H .nils = some [] := rfl
    simp [h0, e, hz, g3, hs, h1, h2, h3]

/-! Words of 64 bits. -/
def u (x : BitVec 64) : AV := .int .u64 (x.toNat : Int)
theorem u_ofInt {n : Int} (h0 : 0 ≤ n) (h1 : n < 18446744073709551616) : AV.int .u64 n = u (BitVec.ofInt 64 n) := by
  unfold u
  congr 1
  rw [BitVec.toNat_ofInt]
  omega
theorem u_wrap {n : Int} : AV.int .u64 (IntKind.u64.wrap n) = u (BitVec.ofInt 64 n) := by
  unfold u
  congr 1
  rw [BitVec.toNat_ofInt, IntKind.wrap_u64]
  omega
theorem ofInt_toNat (x : BitVec 64) : BitVec.ofInt 64 (x.toNat : Int) = x := by
  rw [BitVec.ofInt_natCast]; simp
theorem u_wrapN {x : BitVec 64} : IntKind.u64.wrap (x.toNat : Int) = (x.toNat : Int) := by
  rw [IntKind.wrap_u64]; have := x.isLt; omega
@[simp] theorem u_or {t : TypeId} {x y : BitVec 64} : abin P K .or t (u x) (u y) = some (u (x ||| y)) := by
  simp only [u, bin_or, IntKind.bits, ofInt_toNat, u_wrapN]; rfl
@[simp] theorem u_and {t : TypeId} {x y : BitVec 64} : abin P K .and t (u x) (u y) = some (u (x &&& y)) := by
  simp only [u, bin_and, IntKind.bits, ofInt_toNat, u_wrapN]; rfl
@[simp] theorem u_xor {t : TypeId} {x y : BitVec 64} : abin P K .xor t (u x) (u y) = some (u (x ^^^ y)) := by
  simp only [u, bin_xor, IntKind.bits, ofInt_toNat, u_wrapN]; rfl
@[simp] theorem u_andNot {t : TypeId} {x y : BitVec 64} : abin P K .andNot t (u x) (u y) = some (u (x &&& ~~~y)) := by
  simp only [u, bin_andNot, IntKind.bits, ofInt_toNat, u_wrapN]; rfl
@[simp] theorem u_add {t : TypeId} {x y : BitVec 64} : abin P K .add t (u x) (u y) = some (u (x + y)) := by
  simp only [u, bin_add]; congr 2
@[simp] theorem u_sub {t : TypeId} {x y : BitVec 64} : abin P K .sub t (u x) (u y) = some (u (x - y)) := by
  simp only [u, bin_sub]; congr 2; rw [IntKind.wrap_u64, BitVec.toNat_sub]; have := x.isLt; have := y.isLt; omega
@[simp] theorem u_mul {t : TypeId} {x y : BitVec 64} : abin P K .mul t (u x) (u y) = some (u (x * y)) := by
  simp only [u, bin_mul]; congr 2
@[simp] theorem u_shl {t : TypeId} {x : BitVec 64} {k : IntKind} {s : Int} (hs : 0 ≤ s) : abin P K .shl t (u x) (.int k s) = some (u (x <<< s.toNat)) := by
  simp only [u, bin_shl]
  rw [if_neg (by omega)]
  congr 2
  rw [IntKind.wrap_u64, BitVec.toNat_shiftLeft, Nat.shiftLeft_eq]
  simp only [IntKind.bits]
  have hmin : ((x.toNat : Int) * 2 ^ (min s.toNat 64)) % 18446744073709551616 = ((x.toNat * 2 ^ s.toNat % 2 ^ 64 : Nat) : Int) := by
    by_cases h : s.toNat ≤ 64
    · rw [Nat.min_eq_left h]
      have e : (x.toNat : Int) * 2 ^ s.toNat = ((x.toNat * 2 ^ s.toNat : Nat) : Int) := by rw [Int.natCast_mul, Int.natCast_pow]; rfl
      rw [e]
      generalize x.toNat * 2 ^ s.toNat = m
      rw [show (2 : Nat) ^ 64 = 18446744073709551616 from rfl]
      omega
    · rw [Nat.min_eq_right (by omega)]
      have e : 2 ^ s.toNat = 2 ^ 64 * 2 ^ (s.toNat - 64) := by rw [← Nat.pow_add]; congr 1; omega
      rw [e, show x.toNat * (2 ^ 64 * 2 ^ (s.toNat - 64)) = 2 ^ 64 * (x.toNat * 2 ^ (s.toNat - 64)) from by rw [Nat.mul_left_comm], Nat.mul_mod_right]
      omega
  exact hmin
@[simp] theorem u_shlU {t : TypeId} {x y : BitVec 64} : abin P K .shl t (u x) (u y) = some (u (x <<< y.toNat)) := by
  rw [u, show u y = .int .u64 (y.toNat : Int) from rfl]
  have := u_shl (P := P) (K := K) (t := t) (x := x) (k := .u64) (s := (y.toNat : Int)) (by omega)
  rw [u] at this
  rw [this]; simp
@[simp] theorem u_shr {t : TypeId} {x : BitVec 64} {k : IntKind} {s : Int} (hs : 0 ≤ s) : abin P K .shr t (u x) (.int k s) = some (u (x >>> s.toNat)) := by
  simp only [u, bin_shr]
  rw [if_neg (by omega)]
  congr 2
  simp only [IntKind.bits]
  rw [BitVec.toNat_ushiftRight, Nat.shiftRight_eq_div_pow, Int.fdiv_eq_ediv_of_nonneg _ (by exact Int.le_of_lt (Int.pow_pos (by omega)))]
  by_cases h : s.toNat ≤ 64
  · rw [Nat.min_eq_left h]; push_cast; rfl
  · rw [Nat.min_eq_right (by omega)]
    have hx := x.isLt
    have e1 : x.toNat / 2 ^ s.toNat = 0 := Nat.div_eq_of_lt (Nat.lt_of_lt_of_le hx (Nat.pow_le_pow_right (by omega) (by omega)))
    rw [e1]
    have : (2 : Int) ^ 64 = 18446744073709551616 := by decide
    rw [this]; omega
@[simp] theorem u_shrU {t : TypeId} {x y : BitVec 64} : abin P K .shr t (u x) (u y) = some (u (x >>> y.toNat)) := by
  rw [u, show u y = .int .u64 (y.toNat : Int) from rfl]
  have := u_shr (P := P) (K := K) (t := t) (x := x) (k := .u64) (s := (y.toNat : Int)) (by omega)
  rw [u] at this
  rw [this]; simp
@[simp] theorem bin_shrU {t : TypeId} {k : IntKind} {a : Int} {y : BitVec 64} : abin P K .shr t (.int k a) (u y) = some (.int k (a.fdiv (2 ^ (min y.toNat k.bits)))) := by
  rw [u, bin_shr, if_neg (by omega)]; simp
@[simp] theorem bin_shlU {t : TypeId} {k : IntKind} {a : Int} {y : BitVec 64} : abin P K .shl t (.int k a) (u y) = some (.int k (k.wrap (a * 2 ^ (min y.toNat k.bits)))) := by
  rw [u, bin_shl, if_neg (by omega)]; simp
@[simp] theorem un_xorU {x : BitVec 64} : aun .xor (u x) = some (u (~~~x)) := by
  rw [u, un_xor]
  simp only [IntKind.bits, IntKind.signed, IntKind.max, ofInt_toNat, Bool.false_eq_true, if_false]
  rw [u_wrapN]
  have : BitVec.ofInt 64 (2 ^ 64 - 1) ^^^ x = ~~~x := by
    rw [show BitVec.ofInt 64 (2 ^ 64 - 1) = BitVec.allOnes 64 from by decide, BitVec.allOnes_xor]
  exact congrArg (fun y : BitVec 64 => some (AV.int .u64 (y.toNat : Int))) this
@[simp] theorem un_negU {x : BitVec 64} : aun .neg (u x) = some (u (-x)) := by
  rw [u, un_neg]
  congr 2
  rw [IntKind.wrap_u64, BitVec.toNat_neg]
  have := x.isLt
  omega
@[simp] theorem u_eql {t : TypeId} {x y : BitVec 64} : abin P K .eql t (u x) (u y) = some (.bool (decide (x = y))) := by
  simp only [u, bin_eql]; congr 2; simp [BitVec.toNat_eq]; omega
@[simp] theorem u_neq {t : TypeId} {x y : BitVec 64} : abin P K .neq t (u x) (u y) = some (.bool (!decide (x = y))) := by
  simp only [u, bin_neq]; congr 3; simp [BitVec.toNat_eq]; omega
@[simp] theorem u_lss {t : TypeId} {x y : BitVec 64} : abin P K .lss t (u x) (u y) = some (.bool (decide (x < y))) := by
  simp only [u, bin_lss]; congr 2; simp [BitVec.lt_def]
@[simp] theorem u_leq {t : TypeId} {x y : BitVec 64} : abin P K .leq t (u x) (u y) = some (.bool (decide (x ≤ y))) := by
  simp only [u, bin_leq]; congr 2; simp [BitVec.le_def]
@[simp] theorem u_gtr {t : TypeId} {x y : BitVec 64} : abin P K .gtr t (u x) (u y) = some (.bool (decide (y < x))) := by
  simp only [u, bin_gtr]; congr 2; simp [BitVec.lt_def]
@[simp] theorem u_geq {t : TypeId} {x y : BitVec 64} : abin P K .geq t (u x) (u y) = some (.bool (decide (y ≤ x))) := by
  simp only [u, bin_geq]; congr 2; simp [BitVec.le_def]
@[simp] theorem u_one {x : BitVec 64} : (u x).one = true := nr rfl
@[simp] theorem u_cells {x : BitVec 64} : (u x).cells = [u x] := nr rfl
@[simp] theorem u_fits {x : BitVec 64} : (Sc.i .u64).fits (u x) = true := nr rfl
@[simp] theorem u_scEq {x y : BitVec 64} : scEq (u x) (u y) = decide (x = y) := by
  simp only [u, scEq]
  by_cases h : x = y
  · simp [h]
  · have : ¬ x.toNat = y.toNat := fun e => h (BitVec.eq_of_toNat_eq e)
    simp [h]; omega
@[simp] theorem ofv_u64 {n : Int} (h0 : 0 ≤ n) (h1 : n < 18446744073709551616) : ofValue (.int .u64 n) = some (u (BitVec.ofInt 64 n)) := by rw [← u_ofInt h0 h1]; rfl
@[simp] theorem cvK_u64 {H : AHeap} {k : IntKind} {n : Int} : cvK H (.int k n) (some (some .u64)) = some (u (BitVec.ofInt 64 n), H) := by rw [cvK_int, u_wrap]
@[simp] theorem cvK_uu {H : AHeap} {x : BitVec 64} : cvK H (u x) (some (some .u64)) = some (u x, H) := by
  rw [u, cvK_u64, ofInt_toNat]; rfl
@[simp] theorem cvK_ui8 {H : AHeap} {x : BitVec 64} : cvK H (u x) (some (some .i8)) = some (.int .i8 (IntKind.i8.wrap (x.toNat : Int)), H) := nr rfl
@[simp] theorem cvK_i8 {H : AHeap} {k : IntKind} {n : Int} : cvK H (.int k n) (some (some .i8)) = some (.int .i8 (IntKind.i8.wrap n), H) := nr rfl
@[simp] theorem cvK_ui16 {H : AHeap} {x : BitVec 64} : cvK H (u x) (some (some .i16)) = some (.int .i16 (IntKind.i16.wrap (x.toNat : Int)), H) := nr rfl
@[simp] theorem cvK_i16 {H : AHeap} {k : IntKind} {n : Int} : cvK H (.int k n) (some (some .i16)) = some (.int .i16 (IntKind.i16.wrap n), H) := nr rfl
@[simp] theorem cvK_ui32 {H : AHeap} {x : BitVec 64} : cvK H (u x) (some (some .i32)) = some (.int .i32 (IntKind.i32.wrap (x.toNat : Int)), H) := nr rfl
@[simp] theorem cvK_i32 {H : AHeap} {k : IntKind} {n : Int} : cvK H (.int k n) (some (some .i32)) = some (.int .i32 (IntKind.i32.wrap n), H) := nr rfl
@[simp] theorem cvK_ui64 {H : AHeap} {x : BitVec 64} : cvK H (u x) (some (some .i64)) = some (.int .i64 (IntKind.i64.wrap (x.toNat : Int)), H) := nr rfl
@[simp] theorem cvK_i64 {H : AHeap} {k : IntKind} {n : Int} : cvK H (.int k n) (some (some .i64)) = some (.int .i64 (IntKind.i64.wrap n), H) := nr rfl
@[simp] theorem cvK_uu8 {H : AHeap} {x : BitVec 64} : cvK H (u x) (some (some .u8)) = some (.int .u8 (IntKind.u8.wrap (x.toNat : Int)), H) := nr rfl
@[simp] theorem cvK_u8 {H : AHeap} {k : IntKind} {n : Int} : cvK H (.int k n) (some (some .u8)) = some (.int .u8 (IntKind.u8.wrap n), H) := nr rfl
@[simp] theorem cvK_uu16 {H : AHeap} {x : BitVec 64} : cvK H (u x) (some (some .u16)) = some (.int .u16 (IntKind.u16.wrap (x.toNat : Int)), H) := nr rfl
@[simp] theorem cvK_u16 {H : AHeap} {k : IntKind} {n : Int} : cvK H (.int k n) (some (some .u16)) = some (.int .u16 (IntKind.u16.wrap n), H) := nr rfl
@[simp] theorem cvK_uu32 {H : AHeap} {x : BitVec 64} : cvK H (u x) (some (some .u32)) = some (.int .u32 (IntKind.u32.wrap (x.toNat : Int)), H) := nr rfl
@[simp] theorem cvK_u32 {H : AHeap} {k : IntKind} {n : Int} : cvK H (.int k n) (some (some .u32)) = some (.int .u32 (IntKind.u32.wrap n), H) := nr rfl
@[simp] theorem one_int {k : IntKind} {n : Int} : (AV.int k n).one = true := nr rfl
@[simp] theorem one_bool {b : Bool} : (AV.bool b).one = true := nr rfl
@[simp] theorem one_str {b : ByteArray} : (AV.str b).one = true := nr rfl
@[simp] theorem one_ptr {o k : Nat} : (AV.ptr o k).one = true := nr rfl
@[simp] theorem one_row {o a b c : Nat} {f : Bool} : (AV.row o a b c f).one = true := nr rfl
@[simp] theorem one_nils : AV.nils.one = true := nr rfl
@[simp] theorem one_map {o : Nat} : (AV.map o).one = true := nr rfl
@[simp] theorem allOne_nil : allOne [] = true := nr rfl
@[simp] theorem allOne_cons {a : AV} {l : List AV} : allOne (a :: l) = (a.one && allOne l) := nr rfl
@[simp] theorem cells_agg {l : List AV} : (AV.agg l).cells = l := nr rfl
@[simp] theorem cells_int {k : IntKind} {n : Int} : (AV.int k n).cells = [.int k n] := nr rfl
@[simp] theorem cells_bool {b : Bool} : (AV.bool b).cells = [.bool b] := nr rfl
@[simp] theorem cells_str {b : ByteArray} : (AV.str b).cells = [.str b] := nr rfl
@[simp] theorem cells_ptr {o k : Nat} : (AV.ptr o k).cells = [.ptr o k] := nr rfl
@[simp] theorem cells_row {o a b c : Nat} {f : Bool} : (AV.row o a b c f).cells = [.row o a b c f] := nr rfl
@[simp] theorem cells_nils : AV.nils.cells = [.nils] := nr rfl
@[simp] theorem cells_map {o : Nat} : (AV.map o).cells = [.map o] := nr rfl
@[simp] theorem conf_nil : conf [] [] = true := nr rfl
@[simp] theorem conf_cons {c : Sc} {s : List Sc} {a : AV} {l : List AV} : conf (c :: s) (a :: l) = (c.fits a && conf s l) := nr rfl
@[simp] theorem fits_int {k k' : IntKind} {n : Int} : (Sc.i k).fits (.int k' n) = decide (k = k') := nr rfl
@[simp] theorem fits_str {s : ByteArray} : Sc.s.fits (.str s) = true := nr rfl
@[simp] theorem fits_bool {b : Bool} : Sc.b.fits (.bool b) = true := nr rfl
@[simp] theorem scsEq_nil : scsEq [] [] = true := nr rfl
@[simp] theorem scsEq_cons {a b : AV} {l m : List AV} : scsEq (a :: l) (b :: m) = (scEq a b && scsEq l m) := nr rfl
@[simp] theorem scEq_int {k k' : IntKind} {a b : Int} : scEq (.int k a) (.int k' b) = decide (a = b) := by simp [scEq]; rfl
@[simp] theorem scEq_bool {a b : Bool} : scEq (.bool a) (.bool b) = (a == b) := nr rfl
@[simp] theorem scEq_str {a b : ByteArray} : scEq (.str a) (.str b) = decide (a = b) := nr rfl

/-- A small number's low bits. -/
theorem i64_and63 {i : Nat} : IntKind.i64.wrap (((BitVec.ofInt 64 (i : Int) &&& BitVec.ofInt 64 63).toNat : Nat) : Int) = ((i % 64 : Nat) : Int) := by
  have e : (BitVec.ofInt 64 (i : Int) &&& BitVec.ofInt 64 63).toNat = i % 64 := by
    rw [BitVec.toNat_and, BitVec.ofInt_natCast, show (BitVec.ofInt 64 63).toNat = 2 ^ 6 - 1 from by decide, BitVec.toNat_ofNat, Nat.and_two_pow_sub_one_eq_mod]
    omega
  rw [e, IntWalk.i64_in _ (by omega)]

/-- The low six bits. -/
def lo6 (i : Nat) : Nat := i % 64
@[simp high] theorem and63 {t : TypeId} {i : Nat} : abin P K .and t (.int .i64 (i : Int)) (.int .i64 63) = some (.int .i64 (lo6 i : Int)) := by
  rw [bin_and]
  exact congrArg (fun n => some (AV.int .i64 n)) i64_and63
@[simp] theorem bits_i64 : IntKind.i64.bits = 64 := nr rfl
@[simp] theorem bits_u64 : IntKind.u64.bits = 64 := nr rfl
@[simp] theorem bits_u8 : IntKind.u8.bits = 8 := nr rfl
@[simp] theorem bits_i32 : IntKind.i32.bits = 32 := nr rfl
@[simp] theorem bits_u32 : IntKind.u32.bits = 32 := nr rfl

@[simp] theorem i64w {n : Int} (h0 : -9223372036854775808 ≤ n) (h1 : n ≤ 9223372036854775807) : IntKind.i64.wrap n = n := IntWalk.i64_in n ⟨h0, h1⟩

end
end Go.Proofs.Ytphkkcocimmmfaa
