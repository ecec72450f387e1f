/- Abstract values and an abstract heap without tape, and what it means that a world holds them. -/
import Derived.Calls
import Derived.Below
import Derived.Laws.Sem
import Derived.Laws.AppendOwn
namespace Go.Proofs.Ytphkkcocimmmfaa
open Go.RowKit

/-- Abstract values. 'ptr o off', 'row o off sz n full': into object o of the abstract heap (offsets in cells; sz cells an element; full: the capacity is the length).
'lst sz n cs': a slice whose cells are never written any more; 'ptrl cs off': a pointer into such cells. -/
inductive AV where
  | bool (b : Bool)
  | int (k : IntKind) (n : Int)
  | str (s : ByteArray)
  | nilp
  | ptr (o off : Nat)
  | ptrl (cs : List AV) (off : Nat)
  | nils
  | row (o off sz n : Nat) (full : Bool)
  | lst (sz n : Nat) (cs : List AV)
  | nilm
  | map (o : Nat)
  | nilf
  | fn (f : Fn) (first captured : List AV)
  | nili
  | ifc (t : TypeId) (v : AV)
  | agg (cs : List AV)
  | tup (vs : List AV)

/-- Scalars that a key or a compared struct is made of. -/
inductive Sc where
  | i (k : IntKind) | s | b
  deriving DecidableEq
inductive KSh where
  | one (c : Sc)
  | many (cs : List Sc)
  deriving DecidableEq

/-- An entry of a map, with its stamp. -/
structure AEnt where
  key : AV
  val : AV
  born : Nat

inductive AObj where
  | dead
  | cells (cs : List AV)
  | map (sh : KSh) (es : List AEnt) (clock : Nat)
  | iter (s : ByteArray) (pos : Nat)

def Sc.fits : Sc → AV → Bool
  | .i k, .int k' _ => decide (k = k')
  | .s, .str _ => true
  | .b, .bool _ => true
  | _, _ => false
def conf : List Sc → List AV → Bool
  | [], [] => true
  | c :: cs, a :: as => c.fits a && conf cs as
  | _, _ => false
def KSh.fits : KSh → AV → Bool
  | .one c, a => c.fits a
  | .many cs, .agg as => conf cs as
  | _, _ => false

structure AHeap where
  size : Nat
  obj : Nat → AObj
  wr : Nat → Nat

def AHeap.new (H : AHeap) (x : AObj) : AHeap := ⟨H.size + 1, fun o => if o = H.size then x else H.obj o, H.wr⟩
def AHeap.set (H : AHeap) (o : Nat) (x : AObj) : AHeap := ⟨H.size, fun o' => if o' = o then x else H.obj o', fun o' => if o' = o then H.wr o' + 1 else H.wr o'⟩
/-- What H' keeps of H: no object of H was written. -/
def AHeap.Quiet (H H' : AHeap) : Prop := ∀ o, o < H.size → H'.wr o = H.wr o
instance (H H' : AHeap) : Decidable (H.Quiet H') := inferInstanceAs (Decidable (∀ o, o < H.size → H'.wr o = H.wr o))
def AObj.live : AObj → Prop
  | .dead => False
  | _ => True

structure St where
  ι : Nat → Nat × Nat
  H : AHeap
  w : World

/-- A block of the world that some live object stands for. -/
def St.owned (S : St) (b : Nat) : Prop := ∃ o, o < S.H.size ∧ (S.H.obj o).live ∧ (S.ι o).1 = b
def cellsAt (w : World) (b : Nat) (n : Nat) : Prop := ∃ c e fr, w.heap[b]? = some (.cells c e fr) ∧ c.size = n

mutual
/-- A value of the machine stands for an abstract one. -/
inductive VR (S : St) : AV → Value → Prop
  | bool (b : Bool) : VR S (.bool b) (.bool b)
  | int (k : IntKind) (n : Int) : VR S (.int k n) (.int k n)
  | str (s : ByteArray) : VR S (.str s) (.string s)
  | nilp : VR S .nilp (.pointer none)
  | ptr (o off m : Nat) : o < S.H.size → cellsAt S.w (S.ι o).1 m → VR S (.ptr o off) (.pointer (some ⟨(S.ι o).1, (S.ι o).2 + off, none⟩))
  | ptrl (cs : List AV) (b off i : Nat) (xs : List Value) : VRs S cs xs → b < S.w.heap.size → ¬ S.owned b → (∀ j x, xs[j]? = some x → S.w.cell? ⟨b, off + j, none⟩ = some x) →
      VR S (.ptrl cs i) (.pointer (some ⟨b, off + i, none⟩))
  | nils : VR S .nils (.slice none 0 0)
  | row (o off sz n cap m : Nat) (full : Bool) : o < S.H.size → cellsAt S.w (S.ι o).1 m → (S.ι o).2 + off + cap * sz ≤ m → n ≤ cap → cap ≤ 9223372036854775807 → (full = true → cap = n) →
      VR S (.row o off sz n full) (.slice (some ⟨(S.ι o).1, (S.ι o).2 + off, none⟩) n cap)
  | row0 (o off sz off' m : Nat) (full : Bool) : o < S.H.size → cellsAt S.w (S.ι o).1 m → VR S (.row o off sz 0 full) (.slice (some ⟨(S.ι o).1, off', none⟩) 0 0)
  | lst0 (sz cap : Nat) (a : Option Addr) : VR S (.lst sz 0 []) (.slice a 0 cap)
  | lst (sz n cap : Nat) (cs : List AV) (b off : Nat) (xs : List Value) : VRs S cs xs → cs.length = n * sz → b < S.w.heap.size → ¬ S.owned b →
      (∀ j x, xs[j]? = some x → S.w.cell? ⟨b, off + j, none⟩ = some x) → n ≤ cap → VR S (.lst sz n cs) (.slice (some ⟨b, off, none⟩) n cap)
  | nilm : VR S .nilm (.map none)
  | map (o : Nat) : o < S.H.size → VR S (.map o) (.map (some (S.ι o).1))
  | nilf : VR S .nilf .nilFunc
  | fn (f : Fn) (as bs : List AV) (xs ys : List Value) : VRs S as xs → VRs S bs ys → VR S (.fn f as bs) (.func f xs.toArray ys.toArray)
  | nili : VR S .nili .nilIface
  | ifc (t : TypeId) (v : AV) (x : Value) : VR S v x → VR S (.ifc t v) (.iface t x)
  | agg (cs : List AV) (xs : List Value) : VRs S cs xs → VR S (.agg cs) (.agg xs.toArray)
  | tup (cs : List AV) (xs : List Value) : VRs S cs xs → VR S (.tup cs) (.tuple xs.toArray)
inductive VRs (S : St) : List AV → List Value → Prop
  | nil : VRs S [] []
  | cons (a : AV) (x : Value) (as : List AV) (xs : List Value) : VR S a x → VRs S as xs → VRs S (a :: as) (x :: xs)
end

/-- Entries of a map: keys and values in the order in which the machine keeps them. -/
inductive EntR (S : St) (sh : KSh) : List AEnt → List MapEntry → Prop
  | nil : EntR S sh [] []
  | cons (e : AEnt) (es : List AEnt) (m : MapEntry) (ms : List MapEntry) : VR S e.key m.key → VR S e.val m.val → e.born = m.born → sh.fits e.key = true → EntR S sh es ms → EntR S sh (e :: es) (m :: ms)

inductive ObjR (S : St) (o : Nat) : AObj → Prop
  | dead : ObjR S o .dead
  | cells (cs : List AV) (c : Array Value) (e : TypeId) (xs : List Value) : S.w.heap[(S.ι o).1]? = some (.cells c e (0, 0)) →
      VRs S cs xs → (S.ι o).2 + xs.length ≤ c.size → (∀ j x, xs[j]? = some x → c[(S.ι o).2 + j]? = some x) → ObjR S o (.cells cs)
  | map (sh : KSh) (es : List AEnt) (ms : List MapEntry) (clock : Nat) : S.w.heap[(S.ι o).1]? = some (.map ms.toArray clock) → EntR S sh es ms → ObjR S o (.map sh es clock)
  | iter (s : ByteArray) (pos : Nat) : S.w.heap[(S.ι o).1]? = some (.stringIter s pos) → ObjR S o (.iter s pos)

structure Sim (S : St) : Prop where
  objs : ∀ o, o < S.H.size → ObjR S o (S.H.obj o)
  inj : ∀ o o', o < S.H.size → o' < S.H.size → (S.H.obj o).live → (S.H.obj o').live → (S.ι o).1 = (S.ι o').1 → o = o'
  below : ∀ o, o < S.H.size → (S.ι o).1 < S.w.heap.size

/-- From S to T: what the later state keeps of the elder one. -/
structure Ext (S T : St) : Prop where
  os : T.w.os = S.w.os
  tape : T.w.tape = S.w.tape
  output : T.w.output = S.w.output
  size : S.w.heap.size ≤ T.w.heap.size
  objs : S.H.size ≤ T.H.size
  ι : ∀ o, o < S.H.size → T.ι o = S.ι o
  cells : ∀ b m, cellsAt S.w b m → cellsAt T.w b m
  other : ∀ b, b < S.w.heap.size → ¬ S.owned b → T.w.heap[b]? = S.w.heap[b]? ∧ ¬ T.owned b
  wr : ∀ o, S.H.wr o ≤ T.H.wr o
  quiet : ∀ o, o < S.H.size → T.H.wr o = S.H.wr o → T.H.obj o = S.H.obj o

theorem Ext.refl (S : St) : Ext S S := ⟨rfl, rfl, rfl, Nat.le_refl _, Nat.le_refl _, fun _ _ => rfl, fun _ _ h => h, fun _ _ h => ⟨rfl, h⟩, fun _ => Nat.le_refl _, fun _ _ _ => rfl⟩

theorem Ext.trans {S T U : St} (h : Ext S T) (k : Ext T U) : Ext S U := by
  refine ⟨k.os.trans h.os, k.tape.trans h.tape, k.output.trans h.output, Nat.le_trans h.size k.size, Nat.le_trans h.objs k.objs, fun o ho => (k.ι o (Nat.lt_of_lt_of_le ho h.objs)).trans (h.ι o ho),
    fun b m hb => k.cells b m (h.cells b m hb), fun b hb ho => ?_, fun o => Nat.le_trans (h.wr o) (k.wr o), fun o ho hw => ?_⟩
  · obtain ⟨h1, h2⟩ := h.other b hb ho
    obtain ⟨k1, k2⟩ := k.other b (Nat.lt_of_lt_of_le hb h.size) h2
    exact ⟨k1.trans h1, k2⟩
  · have h1 := h.wr o
    have k1 := k.wr o
    exact (k.quiet o (Nat.lt_of_lt_of_le ho h.objs) (by omega)).trans (h.quiet o ho (by omega))

theorem Ext.cell {S T : St} (h : Ext S T) {b off : Nat} (hb : b < S.w.heap.size) (ho : ¬ S.owned b) : T.w.cell? ⟨b, off, none⟩ = S.w.cell? ⟨b, off, none⟩ := by
  unfold World.cell?
  rw [(h.other b hb ho).1]

mutual
theorem VR.ext {S T : St} (h : Ext S T) : ∀ {a : AV} {x : Value}, VR S a x → VR T a x
  | _, _, .bool b => .bool b
  | _, _, .int k n => .int k n
  | _, _, .str s => .str s
  | _, _, .nilp => .nilp
  | _, _, .ptr o off m ho hm => by
    rw [← h.ι o ho]
    exact .ptr o off m (Nat.lt_of_lt_of_le ho h.objs) (by rw [h.ι o ho]; exact h.cells _ _ hm)
  | _, _, .ptrl cs b off i xs hs hb ho hc =>
    .ptrl cs b off i xs (VRs.ext h hs) (Nat.lt_of_lt_of_le hb h.size) (h.other b hb ho).2 (fun j x hj => by rw [h.cell hb ho]; exact hc j x hj)
  | _, _, .nils => .nils
  | _, _, .row o off sz n cap m full ho hm h1 h2 h3 h4 => by
    rw [← h.ι o ho] at h1 ⊢
    exact .row o off sz n cap m full (Nat.lt_of_lt_of_le ho h.objs) (by rw [h.ι o ho]; exact h.cells _ _ hm) h1 h2 h3 h4
  | _, _, .row0 o off sz off' m full ho hm => by
    rw [← h.ι o ho]
    exact .row0 o off sz off' m full (Nat.lt_of_lt_of_le ho h.objs) (by rw [h.ι o ho]; exact h.cells _ _ hm)
  | _, _, .lst0 sz cap a => .lst0 sz cap a
  | _, _, .lst sz n cap cs b off xs hs hl hb ho hc hn =>
    .lst sz n cap cs b off xs (VRs.ext h hs) hl (Nat.lt_of_lt_of_le hb h.size) (h.other b hb ho).2 (fun j x hj => by rw [h.cell hb ho]; exact hc j x hj) hn
  | _, _, .nilm => .nilm
  | _, _, .map o ho => by
    rw [← h.ι o ho]
    exact .map o (Nat.lt_of_lt_of_le ho h.objs)
  | _, _, .nilf => .nilf
  | _, _, .fn f as bs xs ys ha hb => .fn f as bs xs ys (VRs.ext h ha) (VRs.ext h hb)
  | _, _, .nili => .nili
  | _, _, .ifc t v x hv => .ifc t v x (VR.ext h hv)
  | _, _, .agg cs xs hs => .agg cs xs (VRs.ext h hs)
  | _, _, .tup cs xs hs => .tup cs xs (VRs.ext h hs)
theorem VRs.ext {S T : St} (h : Ext S T) : ∀ {as : List AV} {xs : List Value}, VRs S as xs → VRs T as xs
  | _, _, .nil => .nil
  | _, _, .cons a x as xs ha hs => .cons a x as xs (VR.ext h ha) (VRs.ext h hs)
end

theorem EntR.ext {S T : St} (h : Ext S T) {sh : KSh} {es : List AEnt} {ms : List MapEntry} (he : EntR S sh es ms) : EntR T sh es ms := by
  induction he with
  | nil => exact .nil
  | cons e es m ms hk hv hb hf _ ih => exact .cons e es m ms (hk.ext h) (hv.ext h) hb hf ih

theorem VRs.length {S : St} : ∀ {as : List AV} {xs : List Value}, VRs S as xs → as.length = xs.length
  | _, _, .nil => rfl
  | _, _, .cons _ _ _ _ _ hs => by simp [hs.length]

theorem VRs.get {S : St} : ∀ {as : List AV} {xs : List Value}, VRs S as xs → ∀ {i : Nat} {a : AV}, as[i]? = some a → ∃ x, xs[i]? = some x ∧ VR S a x
  | _, _, .nil, i, a, h => by simp at h
  | _, _, .cons a x as xs ha hs, 0, _, h => by simp at h; subst h; exact ⟨x, by simp, ha⟩
  | _, _, .cons a x as xs ha hs, i + 1, b, h => by
    simp at h
    obtain ⟨y, hy, hv⟩ := hs.get h
    exact ⟨y, by simpa using hy, hv⟩

theorem VRs.append {S : St} : ∀ {as : List AV} {xs : List Value} {bs : List AV} {ys : List Value}, VRs S as xs → VRs S bs ys → VRs S (as ++ bs) (xs ++ ys)
  | _, _, _, _, .nil, h => h
  | _, _, _, _, .cons a x as xs ha hs, h => .cons a x _ _ ha (hs.append h)

theorem VRs.drop {S : St} : ∀ {as : List AV} {xs : List Value}, VRs S as xs → ∀ n, VRs S (as.drop n) (xs.drop n)
  | _, _, h, 0 => h
  | _, _, .nil, n + 1 => by simp; exact .nil
  | _, _, .cons a x as xs ha hs, n + 1 => by simpa using hs.drop n

theorem VRs.take {S : St} : ∀ {as : List AV} {xs : List Value}, VRs S as xs → ∀ n, VRs S (as.take n) (xs.take n)
  | _, _, _, 0 => by simp; exact .nil
  | _, _, .nil, n + 1 => by simp; exact .nil
  | _, _, .cons a x as xs ha hs, n + 1 => by simpa using VRs.cons a x _ _ ha (hs.take n)

theorem VRs.replicate {S : St} {a : AV} {x : Value} (h : VR S a x) : ∀ n, VRs S (List.replicate n a) (List.replicate n x)
  | 0 => .nil
  | n + 1 => .cons a x _ _ h (VRs.replicate h n)

theorem VRs.set {S : St} : ∀ {as : List AV} {xs : List Value}, VRs S as xs → ∀ (i : Nat) {a : AV} {x : Value}, VR S a x → VRs S (as.set i a) (xs.set i x)
  | _, _, .nil, _, _, _, _ => by simp; exact .nil
  | _, _, .cons a x as xs ha hs, 0, b, y, h => by simpa using VRs.cons b y as xs h hs
  | _, _, .cons a x as xs ha hs, i + 1, b, y, h => by simpa using VRs.cons a x _ _ ha (hs.set i h)

end Go.Proofs.Ytphkkcocimmmfaa
