/- Abstract values and an abstract heap without tape, and what it means that a world holds them. The interpreter on abstract values and the abstract heap: what an operation, a region, a body does. The interpreter, second part: operations, regions, bodies, calls; calls without a number of rounds. What a -/
import Derived.Calls
import Derived.Below
import Derived.Laws.Sem
import Derived.Laws.AppendOwn
import Derived.Orders
import Derived.Laws.Externs
import Derived.Laws.CopyRow
import Derived.Laws.BytesString
import Derived.Laws.Tables
import Derived.Tactics
import Derived.Laws.Entries
import Derived.Laws.Slices
import Derived.Laws.Strings
import Derived.Laws.Append
/-! Abstract values and an abstract heap without tape, and what it means that a world holds them. -/
namespace Go.Proofs.Ytghjglnebcpcmaa
open Go.RowKit

/-- Abstract values. 'ptr o off', 'row o off sz n full': into object o of the abstract heap (offsets in cells; sz cells an element; full: the capacity is the length).
'lst sz n cs': a slice whose cells are never written any more; 'ptrl cs off': a pointer into such cells. -/
inductive AV where
  | bool (b : Bool)
  | int (k : IntKind) (n : Int)
  | str (s : ByteArray)
  | nilp
  | ptr (o off : Nat)
  | ptrl (cs : List AV) (off : Nat)
  | nils
  | row (o off sz n : Nat) (full : Bool)
  | lst (sz n : Nat) (cs : List AV)
  | nilm
  | map (o : Nat)
  | nilf
  | fn (f : Fn) (first captured : List AV)
  | nili
  | ifc (t : TypeId) (v : AV)
  | agg (cs : List AV)
  | tup (vs : List AV)

/-- Scalars that a key or a compared struct is made of. -/
inductive Sc where
  | i (k : IntKind) | s | b
  deriving DecidableEq
inductive KSh where
  | one (c : Sc)
  | many (cs : List Sc)
  deriving DecidableEq

/-- An entry of a map, with its stamp. -/
structure AEnt where
  key : AV
  val : AV
  born : Nat

inductive AObj where
  | dead
  | cells (cs : List AV)
  | map (sh : KSh) (es : List AEnt) (clock : Nat)
  | iter (s : ByteArray) (pos : Nat)

def Sc.fits : Sc → AV → Bool
  | .i k, .int k' _ => decide (k = k')
  | .s, .str _ => true
  | .b, .bool _ => true
  | _, _ => false
def conf : List Sc → List AV → Bool
  | [], [] => true
  | c :: cs, a :: as => c.fits a && conf cs as
  | _, _ => false
def KSh.fits : KSh → AV → Bool
  | .one c, a => c.fits a
  | .many cs, .agg as => conf cs as
  | _, _ => false

structure AHeap where
  size : Nat
  obj : Nat → AObj
  wr : Nat → Nat

def AHeap.new (H : AHeap) (x : AObj) : AHeap := ⟨H.size + 1, fun o => if o = H.size then x else H.obj o, H.wr⟩
def AHeap.set (H : AHeap) (o : Nat) (x : AObj) : AHeap := ⟨H.size, fun o' => if o' = o then x else H.obj o', fun o' => if o' = o then H.wr o' + 1 else H.wr o'⟩
/-- What H' keeps of H: no object of H was written. -/
def AHeap.Quiet (H H' : AHeap) : Prop := ∀ o, o < H.size → H'.wr o = H.wr o
instance (H H' : AHeap) : Decidable (H.Quiet H') := inferInstanceAs (Decidable (∀ o, o < H.size → H'.wr o = H.wr o))
def AObj.live : AObj → Prop
  | .dead => False
  | _ => True

structure St where
  ι : Nat → Nat × Nat
  H : AHeap
  w : World
  /-- Blocks that are never written any more. -/
  fz : Nat → Prop

/-- A block of the world that some live object stands for. -/
def St.owned (S : St) (b : Nat) : Prop := ∃ o, o < S.H.size ∧ (S.H.obj o).live ∧ (S.ι o).1 = b
def cellsAt (w : World) (b : Nat) (n : Nat) : Prop := ∃ c e fr, w.heap[b]? = some (.cells c e fr) ∧ c.size = n

/-- A row of cells; what is frozen of it lies behind all its cells. -/
def Held (x : Option Obj) (c : Array Value) (e : TypeId) : Prop := ∃ fr : Nat × Nat, x = some (.cells c e fr) ∧ (fr = (0, 0) ∨ c.size ≤ fr.1)
theorem Held.z {x : Option Obj} {c : Array Value} {e : TypeId} (h : x = some (.cells c e (0, 0))) : Held x c e := ⟨_, h, .inl rfl⟩

mutual
/-- A value of the machine stands for an abstract one. -/
inductive VR (S : St) : AV → Value → Prop
  | bool (b : Bool) : VR S (.bool b) (.bool b)
  | int (k : IntKind) (n : Int) : VR S (.int k n) (.int k n)
  | str (s : ByteArray) : VR S (.str s) (.string s)
  | nilp : VR S .nilp (.pointer none)
  | ptr (o off m : Nat) : o < S.H.size → cellsAt S.w (S.ι o).1 m → VR S (.ptr o off) (.pointer (some ⟨(S.ι o).1, (S.ι o).2 + off, none⟩))
  | ptrl (cs : List AV) (b off i : Nat) (xs : List Value) : VRs S cs xs → S.fz b → ¬ S.owned b → (∀ j x, xs[j]? = some x → S.w.cell? ⟨b, off + j, none⟩ = some x) →
      VR S (.ptrl cs i) (.pointer (some ⟨b, off + i, none⟩))
  | nils : VR S .nils (.slice none 0 0)
  | row (o off sz n cap m : Nat) (full : Bool) : o < S.H.size → cellsAt S.w (S.ι o).1 m → (S.ι o).2 + off + cap * sz ≤ m → n ≤ cap → cap ≤ 9223372036854775807 → (full = true → cap = n) →
      VR S (.row o off sz n full) (.slice (some ⟨(S.ι o).1, (S.ι o).2 + off, none⟩) n cap)
  | row0 (o off sz off' m : Nat) (full : Bool) : o < S.H.size → cellsAt S.w (S.ι o).1 m → VR S (.row o off sz 0 full) (.slice (some ⟨(S.ι o).1, off', none⟩) 0 0)
  | lst0 (sz cap : Nat) (a : Option Addr) : VR S (.lst sz 0 []) (.slice a 0 cap)
  | lst (sz n cap : Nat) (cs : List AV) (b off : Nat) (xs : List Value) : VRs S cs xs → cs.length = n * sz → S.fz b → ¬ S.owned b →
      (∀ j x, xs[j]? = some x → S.w.cell? ⟨b, off + j, none⟩ = some x) → n ≤ cap → VR S (.lst sz n cs) (.slice (some ⟨b, off, none⟩) n cap)
  | nilm : VR S .nilm (.map none)
  | map (o : Nat) : o < S.H.size → VR S (.map o) (.map (some (S.ι o).1))
  | nilf : VR S .nilf .nilFunc
  | fn (f : Fn) (as bs : List AV) (xs ys : List Value) : VRs S as xs → VRs S bs ys → VR S (.fn f as bs) (.func f xs.toArray ys.toArray)
  | nili : VR S .nili .nilIface
  | ifc (t : TypeId) (v : AV) (x : Value) : VR S v x → VR S (.ifc t v) (.iface t x)
  | agg (cs : List AV) (xs : List Value) : VRs S cs xs → VR S (.agg cs) (.agg xs.toArray)
  | tup (cs : List AV) (xs : List Value) : VRs S cs xs → VR S (.tup cs) (.tuple xs.toArray)
inductive VRs (S : St) : List AV → List Value → Prop
  | nil : VRs S [] []
  | cons (a : AV) (x : Value) (as : List AV) (xs : List Value) : VR S a x → VRs S as xs → VRs S (a :: as) (x :: xs)
end

/-- Entries of a map: keys and values in the order in which the machine keeps them. -/
inductive EntR (S : St) (sh : KSh) : List AEnt → List MapEntry → Prop
  | nil : EntR S sh [] []
  | cons (e : AEnt) (es : List AEnt) (m : MapEntry) (ms : List MapEntry) : VR S e.key m.key → VR S e.val m.val → e.born = m.born → sh.fits e.key = true → EntR S sh es ms → EntR S sh (e :: es) (m :: ms)

inductive ObjR (S : St) (o : Nat) : AObj → Prop
  | dead : ObjR S o .dead
  | cells (cs : List AV) (c : Array Value) (e : TypeId) (xs : List Value) : Held S.w.heap[(S.ι o).1]? c e →
      VRs S cs xs → (S.ι o).2 + xs.length ≤ c.size → (∀ j x, xs[j]? = some x → c[(S.ι o).2 + j]? = some x) → ObjR S o (.cells cs)
  | map (sh : KSh) (es : List AEnt) (ms : List MapEntry) (clock : Nat) : S.w.heap[(S.ι o).1]? = some (.map ms.toArray clock) → EntR S sh es ms → ObjR S o (.map sh es clock)
  | iter (s : ByteArray) (pos : Nat) : S.w.heap[(S.ι o).1]? = some (.stringIter s pos) → ObjR S o (.iter s pos)

structure Sim (S : St) : Prop where
  objs : ∀ o, o < S.H.size → ObjR S o (S.H.obj o)
  inj : ∀ o o', o < S.H.size → o' < S.H.size → (S.H.obj o).live → (S.H.obj o').live → (S.ι o).1 = (S.ι o').1 → o = o'
  below : ∀ o, o < S.H.size → (S.ι o).1 < S.w.heap.size
  lo : ∀ b, S.fz b → b < S.w.heap.size

/-- From S to T: what the later state keeps of the elder one; of blocks that no object stands for, those below m. -/
structure ExtB (m : Nat) (S T : St) : Prop where
  os : T.w.os = S.w.os
  tape : T.w.tape = S.w.tape
  output : T.w.output = S.w.output
  size : S.w.heap.size ≤ T.w.heap.size
  objs : S.H.size ≤ T.H.size
  ι : ∀ o, o < S.H.size → T.ι o = S.ι o
  cells : ∀ b m, cellsAt S.w b m → cellsAt T.w b m
  other : ∀ b, S.fz b ∨ b < m → ¬ S.owned b → T.w.heap[b]? = S.w.heap[b]? ∧ ¬ T.owned b
  wr : ∀ o, S.H.wr o ≤ T.H.wr o
  quiet : ∀ o, o < S.H.size → T.H.wr o = S.H.wr o → T.H.obj o = S.H.obj o
  fz : ∀ b, S.fz b → T.fz b
  fzn : ∀ b, T.fz b → S.fz b ∨ S.owned b ∨ m ≤ b
abbrev Ext (S T : St) : Prop := ExtB S.w.heap.size S T

theorem Ext.refl (S : St) : Ext S S := ⟨rfl, rfl, rfl, Nat.le_refl _, Nat.le_refl _, fun _ _ => rfl, fun _ _ h => h, fun _ _ h => ⟨rfl, h⟩, fun _ => Nat.le_refl _, fun _ _ _ => rfl, fun _ h => h, fun _ h => .inl h⟩

theorem ExtB.trans {m : Nat} {S T U : St} (h : ExtB m S T) (k : ExtB m T U) : ExtB m S U := by
  refine ⟨k.os.trans h.os, k.tape.trans h.tape, k.output.trans h.output, Nat.le_trans h.size k.size, Nat.le_trans h.objs k.objs, fun o ho => (k.ι o (Nat.lt_of_lt_of_le ho h.objs)).trans (h.ι o ho),
    fun b m hb => k.cells b m (h.cells b m hb), fun b hb ho => ?_, fun o => Nat.le_trans (h.wr o) (k.wr o), fun o ho hw => ?_, fun b hb => k.fz b (h.fz b hb), fun b hb => ?_⟩
  · obtain ⟨h1, h2⟩ := h.other b hb ho
    obtain ⟨k1, k2⟩ := k.other b (hb.imp (h.fz b) id) h2
    exact ⟨k1.trans h1, k2⟩
  · have h1 := h.wr o
    have k1 := k.wr o
    exact (k.quiet o (Nat.lt_of_lt_of_le ho h.objs) (by omega)).trans (h.quiet o ho (by omega))
  · rcases k.fzn b hb with h1 | h1 | h1
    · exact h.fzn b h1
    · by_cases hm : m ≤ b
      · exact .inr (.inr hm)
      · by_cases ho : S.owned b
        · exact .inr (.inl ho)
        · exact absurd h1 (h.other b (.inr (by omega)) ho).2
    · exact .inr (.inr h1)
theorem ExtB.less {m n : Nat} {S T : St} (h : ExtB m S T) (hn : n ≤ m) : ExtB n S T := ⟨h.os, h.tape, h.output, h.size, h.objs, h.ι, h.cells, fun b hb => h.other b (hb.imp id fun hb => Nat.lt_of_lt_of_le hb hn), h.wr, h.quiet, h.fz, fun b hb => (h.fzn b hb).imp id fun h' => h'.imp id fun h' => Nat.le_trans hn h'⟩
theorem Ext.trans {S T U : St} (h : Ext S T) (k : Ext T U) : Ext S U := ExtB.trans h (k.less h.size)

theorem ExtB.cell {m : Nat} {S T : St} (h : ExtB m S T) {b off : Nat} (hb : S.fz b) (ho : ¬ S.owned b) : T.w.cell? ⟨b, off, none⟩ = S.w.cell? ⟨b, off, none⟩ := by
  unfold World.cell?
  rw [(h.other b (.inl hb) ho).1]

mutual
theorem VR.ext {m : Nat} {S T : St} (h : ExtB m S T) : ∀ {a : AV} {x : Value}, VR S a x → VR T a x
  | _, _, .bool b => .bool b
  | _, _, .int k n => .int k n
  | _, _, .str s => .str s
  | _, _, .nilp => .nilp
  | _, _, .ptr o off m ho hm => by
    rw [← h.ι o ho]
    exact .ptr o off m (Nat.lt_of_lt_of_le ho h.objs) (by rw [h.ι o ho]; exact h.cells _ _ hm)
  | _, _, .ptrl cs b off i xs hs hb ho hc =>
    .ptrl cs b off i xs (VRs.ext h hs) (h.fz b hb) (h.other b (.inl hb) ho).2 (fun j x hj => by rw [h.cell hb ho]; exact hc j x hj)
  | _, _, .nils => .nils
  | _, _, .row o off sz n cap m full ho hm h1 h2 h3 h4 => by
    rw [← h.ι o ho] at h1 ⊢
    exact .row o off sz n cap m full (Nat.lt_of_lt_of_le ho h.objs) (by rw [h.ι o ho]; exact h.cells _ _ hm) h1 h2 h3 h4
  | _, _, .row0 o off sz off' m full ho hm => by
    rw [← h.ι o ho]
    exact .row0 o off sz off' m full (Nat.lt_of_lt_of_le ho h.objs) (by rw [h.ι o ho]; exact h.cells _ _ hm)
  | _, _, .lst0 sz cap a => .lst0 sz cap a
  | _, _, .lst sz n cap cs b off xs hs hl hb ho hc hn =>
    .lst sz n cap cs b off xs (VRs.ext h hs) hl (h.fz b hb) (h.other b (.inl hb) ho).2 (fun j x hj => by rw [h.cell hb ho]; exact hc j x hj) hn
  | _, _, .nilm => .nilm
  | _, _, .map o ho => by
    rw [← h.ι o ho]
    exact .map o (Nat.lt_of_lt_of_le ho h.objs)
  | _, _, .nilf => .nilf
  | _, _, .fn f as bs xs ys ha hb => .fn f as bs xs ys (VRs.ext h ha) (VRs.ext h hb)
  | _, _, .nili => .nili
  | _, _, .ifc t v x hv => .ifc t v x (VR.ext h hv)
  | _, _, .agg cs xs hs => .agg cs xs (VRs.ext h hs)
  | _, _, .tup cs xs hs => .tup cs xs (VRs.ext h hs)
theorem VRs.ext {m : Nat} {S T : St} (h : ExtB m S T) : ∀ {as : List AV} {xs : List Value}, VRs S as xs → VRs T as xs
  | _, _, .nil => .nil
  | _, _, .cons a x as xs ha hs => .cons a x as xs (VR.ext h ha) (VRs.ext h hs)
end

theorem EntR.ext {m : Nat} {S T : St} (h : ExtB m S T) {sh : KSh} {es : List AEnt} {ms : List MapEntry} (he : EntR S sh es ms) : EntR T sh es ms := by
  induction he with
  | nil => exact .nil
  | cons e es m ms hk hv hb hf _ ih => exact .cons e es m ms (hk.ext h) (hv.ext h) hb hf ih

theorem VRs.length {S : St} : ∀ {as : List AV} {xs : List Value}, VRs S as xs → as.length = xs.length
  | _, _, .nil => rfl
  | _, _, .cons _ _ _ _ _ hs => by simp [hs.length]

theorem VRs.get {S : St} : ∀ {as : List AV} {xs : List Value}, VRs S as xs → ∀ {i : Nat} {a : AV}, as[i]? = some a → ∃ x, xs[i]? = some x ∧ VR S a x
  | _, _, .nil, i, a, h => by simp at h
  | _, _, .cons a x as xs ha hs, 0, _, h => by simp at h; subst h; exact ⟨x, by simp, ha⟩
  | _, _, .cons a x as xs ha hs, i + 1, b, h => by
    simp at h
    obtain ⟨y, hy, hv⟩ := hs.get h
    exact ⟨y, by simpa using hy, hv⟩

theorem VRs.append {S : St} : ∀ {as : List AV} {xs : List Value} {bs : List AV} {ys : List Value}, VRs S as xs → VRs S bs ys → VRs S (as ++ bs) (xs ++ ys)
  | _, _, _, _, .nil, h => h
  | _, _, _, _, .cons a x as xs ha hs, h => .cons a x _ _ ha (hs.append h)

theorem VRs.drop {S : St} : ∀ {as : List AV} {xs : List Value}, VRs S as xs → ∀ n, VRs S (as.drop n) (xs.drop n)
  | _, _, h, 0 => h
  | _, _, .nil, n + 1 => by simp; exact .nil
  | _, _, .cons a x as xs ha hs, n + 1 => by simpa using hs.drop n

theorem VRs.take {S : St} : ∀ {as : List AV} {xs : List Value}, VRs S as xs → ∀ n, VRs S (as.take n) (xs.take n)
  | _, _, _, 0 => by simp; exact .nil
  | _, _, .nil, n + 1 => by simp; exact .nil
  | _, _, .cons a x as xs ha hs, n + 1 => by simpa using VRs.cons a x _ _ ha (hs.take n)

theorem VRs.replicate {S : St} {a : AV} {x : Value} (h : VR S a x) : ∀ n, VRs S (List.replicate n a) (List.replicate n x)
  | 0 => .nil
  | n + 1 => .cons a x _ _ h (VRs.replicate h n)

theorem VRs.set {S : St} : ∀ {as : List AV} {xs : List Value}, VRs S as xs → ∀ (i : Nat) {a : AV} {x : Value}, VR S a x → VRs S (as.set i a) (xs.set i x)
  | _, _, .nil, _, _, _, _ => by simp; exact .nil
  | _, _, .cons a x as xs ha hs, 0, b, y, h => by simpa using VRs.cons b y as xs h hs
  | _, _, .cons a x as xs ha hs, i + 1, b, y, h => by simpa using VRs.cons a x _ _ ha (hs.set i h)

end Go.Proofs.Ytghjglnebcpcmaa
/-! The interpreter on abstract values and the abstract heap: what an operation, a region, a body does. -/
namespace Go.Proofs.Ytghjglnebcpcmaa

def scEq : AV → AV → Bool
  | .int _ a, .int _ b => a == b
  | .str a, .str b => decide (a = b)
  | .bool a, .bool b => a == b
  | _, _ => false
def scsEq : List AV → List AV → Bool
  | [], [] => true
  | a :: as, b :: bs => scEq a b && scsEq as bs
  | _, _ => false
def keyEq : AV → AV → Bool
  | .agg as, .agg bs => scsEq as bs
  | a, b => scEq a b

def ofCell : Value → Option AV
  | .bool b => some (.bool b)
  | .int k n => some (.int k n)
  | .string s => some (.str s)
  | .pointer none => some .nilp
  | .slice none 0 0 => some .nils
  | .map none => some .nilm
  | .nilFunc => some .nilf
  | .nilIface => some .nili
  | _ => none
def ofCells : List Value → Option (List AV)
  | [] => some []
  | v :: vs => (ofCell v).bind fun a => (ofCells vs).map (a :: ·)
def ofValue : Value → Option AV
  | .agg cs => (ofCells cs.toList).map .agg
  | v => ofCell v

abbrev Env := Nat → Option AV
def Env.nil : Env := fun _ => none
def Env.put (e : Env) (t : Nat) (v : AV) : Env := fun s => if s = t then some v else e s
def Env.putO (e : Env) (t : Option Nat) (v : Option AV) : Env := fun s => if t = some s then v else e s
def Env.args : List AV → Nat → Env
  | [], _ => Env.nil
  | v :: vs, k => fun s => if s = k then some v else Env.args vs (k + 1) s

def evalOpd (e : Env) : Operand → Option AV
  | .tmp t => e t
  | .const v => ofValue v
  | .global _ => none
  | .func f => some (.fn (.func f) [] [])
def evalOpds (e : Env) : List Operand → Option (List AV)
  | [] => some []
  | x :: xs => (evalOpd e x).bind fun a => (evalOpds e xs).map (a :: ·)
def evalOpt (e : Env) : Option Operand → Option (Option AV)
  | none => some none
  | some x => (evalOpd e x).map some

def AV.cells : AV → List AV
  | .agg cs => cs
  | v => [v]
def AV.one : AV → Bool
  | .agg _ => false
  | .tup _ => false
  | _ => true

section
variable (P : Program) (K : TypeId → Option (List Sc))

def keySh (t : TypeId) : Option KSh :=
  match P.underlying t with
  | some (.int k) => some (.one (.i k))
  | some .string => some (.one .s)
  | some .bool => some (.one .b)
  | some (.struct _) => (K t).map .many
  | some (.array _ _) => (K t).map .many
  | _ => none

def isAggT (t : TypeId) : Option Bool :=
  match P.underlying t with
  | some (.struct _) => some true
  | some (.array _ _) => some true
  | some _ => some false
  | none => none
def tS (t : TypeId) : Option Nat := (P.info? t).map (·.size)
def tB (t : TypeId) : Option Nat := (P.info? t).map (·.bytes)
def tZ (t : TypeId) : Option (List AV) := (P.info? t).bind fun i => i.zero.bind fun z => ofCells z.cells.toList
def tZV (t : TypeId) : Option AV := (P.info? t).bind fun i => i.zero.bind ofValue

/-- What lies at a place in a row of cells, read as a type says. -/
def loadC (t : TypeId) (cs : List AV) (off : Nat) : Option AV :=
  match isAggT P t with
  | some true => (tS P t).bind fun n => if off + n ≤ cs.length then some (.agg ((cs.drop off).take n)) else none
  | some false => cs[off]?
  | none => none

def aload (H : AHeap) (t : TypeId) : AV → Option AV
  | .ptr o off => match H.obj o with
    | .cells cs => loadC P t cs off
    | _ => none
  | .ptrl cs off => loadC P t cs off
  | _ => none

def allOne : List AV → Bool
  | [] => true
  | a :: as => a.one && allOne as

def putCells (cs : List AV) (off : Nat) (new : List AV) : List AV := cs.take off ++ new ++ cs.drop (off + new.length)

def astore (H : AHeap) (t : TypeId) (a v : AV) : Option AHeap :=
  match a with
  | .ptr o off => match H.obj o with
    | .cells cs => match v with
      | .agg new => if tS P t = some new.length ∧ off + new.length ≤ cs.length ∧ allOne new = true then some (H.set o (.cells (putCells cs off new))) else none
      | v => if tS P t = some 1 ∧ off < cs.length ∧ v.one = true then some (H.set o (.cells (cs.set off v))) else none
    | _ => none
  | _ => none

def fieldAt (s : TypeId) (f : Nat) : Option Field :=
  match P.underlying s with
  | some (.struct fs) => fs[f]?
  | _ => none

def arith (op : BinOp) (k : IntKind) (a b : Int) : Option AV :=
  match op with
  | .add => some (.int k (k.wrap (a + b)))
  | .sub => some (.int k (k.wrap (a - b)))
  | .mul => some (.int k (k.wrap (a * b)))
  | .quo => if b = 0 then none else some (.int k (k.wrap (a.tdiv b)))
  | .rem => if b = 0 then none else some (.int k (a.tmod b))
  | .and => some (.int k (k.wrap (BitVec.ofInt k.bits a &&& BitVec.ofInt k.bits b).toNat))
  | .or => some (.int k (k.wrap (BitVec.ofInt k.bits a ||| BitVec.ofInt k.bits b).toNat))
  | .xor => some (.int k (k.wrap (BitVec.ofInt k.bits a ^^^ BitVec.ofInt k.bits b).toNat))
  | .andNot => some (.int k (k.wrap (BitVec.ofInt k.bits a &&& ~~~BitVec.ofInt k.bits b).toNat))
  | .eql => some (.bool (a == b))
  | .neq => some (.bool (a != b))
  | .lss => some (.bool (decide (a < b)))
  | .leq => some (.bool (decide (a ≤ b)))
  | .gtr => some (.bool (decide (a > b)))
  | .geq => some (.bool (decide (a ≥ b)))
  | _ => none

def strOp (op : BinOp) (x y : ByteArray) : Option AV :=
  match op with
  | .add => if ((x.size + y.size : Nat) : Int) ≤ 9223372036854775807 then some (.str (x ++ y)) else none
  | .eql => some (.bool (decide (x = y)))
  | .neq => some (.bool (!(decide (x = y))))
  | .lss => some (.bool (Op.bytesLess x.toList y.toList))
  | .leq => some (.bool (Op.bytesLess x.toList y.toList || decide (x = y)))
  | .gtr => some (.bool (!(Op.bytesLess x.toList y.toList || decide (x = y))))
  | .geq => some (.bool (!Op.bytesLess x.toList y.toList))
  | _ => none

/-- '==' at a type, of what is no number and no text. -/
def aeqS (t : TypeId) (x y : AV) : Option Bool :=
  match P.underlying t, x, y with
  | some .bool, .bool a, .bool b => some (a == b)
  | some (.pointer _), .nilp, .nilp => some true
  | some (.pointer _), .nilp, .ptr _ _ => some false
  | some (.pointer _), .ptr _ _, .nilp => some false
  | some (.slice _), .nils, .nils => some true
  | some (.slice _), .nils, .row .. => some false
  | some (.slice _), .row .., .nils => some false
  | some (.map _ _), .nilm, .nilm => some true
  | some (.map _ _), .nilm, .map _ => some false
  | some (.map _ _), .map _, .nilm => some false
  | some (.func ..), .nilf, .nilf => some true
  | some (.func ..), .nilf, .fn .. => some false
  | some (.func ..), .fn .., .nilf => some false
  | _, _, _ => none
def aeq (t : TypeId) (x y : AV) : Option Bool :=
  match x, y with
  | .agg xs, .agg ys => (K t).bind fun sh => if conf sh xs = true ∧ conf sh ys = true then some (scsEq xs ys) else none
  | x, y => aeqS P t x y

def abin (op : BinOp) (t : TypeId) (x y : AV) : Option AV :=
  match op, x, y with
  | .shl, .int k a, .int _ b => if b < 0 then none else some (.int k (k.wrap (a * 2 ^ (min b.toNat k.bits))))
  | .shr, .int k a, .int _ b => if b < 0 then none else some (.int k (a.fdiv (2 ^ (min b.toNat k.bits))))
  | op, .int k a, .int k' b => if k = k' then arith op k a b else none
  | op, .str a, .str b => strOp op a b
  | .eql, x, y => (aeq P K t x y).map .bool
  | .neq, x, y => (aeq P K t x y).map fun b => .bool (!b)
  | _, _, _ => none

def aun (op : UnOp) (x : AV) : Option AV :=
  match op, x with
  | .neg, .int k n => some (.int k (k.wrap (0 - n)))
  | .xor, .int k n => some (.int k (k.wrap (BitVec.ofInt k.bits (if k.signed then -1 else k.max) ^^^ BitVec.ofInt k.bits n).toNat))
  | .not, .bool b => some (.bool (!b))
  | _, _ => none

/-- The cells of a slice, as many as its elements take. -/
def sliceCells (H : AHeap) : AV → Option (List AV)
  | .nils => some []
  | .row o off sz n _ => match H.obj o with
    | .cells cs => if off + n * sz ≤ cs.length then some ((cs.drop off).take (n * sz)) else none
    | _ => none
  | .lst _ _ cs => some cs
  | _ => none
def sliceLen : AV → Option Nat
  | .nils => some 0
  | .row _ _ _ n _ => some n
  | .lst _ n _ => some n
  | _ => none

/-- The bytes of a string, as cells. -/
def byteC (s : ByteArray) : List AV := s.data.toList.map fun b => .int .u8 b.toNat
def byteN : List AV → Option (List Int)
  | [] => some []
  | .int .u8 n :: r => (byteN r).map (n :: ·)
  | _ => none
def pushN (ns : List Int) : ByteArray := ns.foldl (fun r n => r.push (UInt8.ofNat n.toNat)) ByteArray.empty
def isCStr : Operand → Bool
  | .const (.string _) => true
  | _ => false
/-- The string of a slice of bytes. -/
def strOf (H : AHeap) (x : AV) : Option ByteArray :=
  (sliceCells H x).bind fun cs => (sliceLen x).bind fun n => (byteN cs).bind fun ns => if cs.length = n then some (pushN ns) else none
def aconvert (H : AHeap) (src dst : TypeId) (x : AV) : Option (AV × AHeap) :=
  match P.underlying src, P.underlying dst, x with
  | some _, some (.int k), .int _ n => some (.int k (k.wrap n), H)
  | some _, some .string, .str s => some (.str s, H)
  | some (.slice e), some .string, x => match P.underlying e with
    | some (.int .u8) => (strOf H x).map fun s => (.str s, H)
    | _ => none
  | _, _, _ => none
/-- A slice of bytes that is marked as a string's: what it was. -/
def amark (H : AHeap) (src dst : TypeId) (x : AV) : Option AV :=
  match P.underlying src, P.underlying dst, x with
  | some (.slice e), some (.slice _), .row o off sz n full => if src = dst then
      match P.underlying e with
      | some (.int .u8) => (sliceCells H (.row o off sz n full)).map fun _ => .row o off sz n full
      | _ => none
    else none
  | _, _, _ => none
def aconv (H : AHeap) (src dst : TypeId) (x : AV) : Option (AV × AHeap) :=
  match amark P H src dst x with
  | some v => some (v, H)
  | none => aconvert P H src dst x
/-- The bytes of a constant string, in memory of their own. -/
def abytes (H : AHeap) (src dst : TypeId) (x : AV) : Option (AV × AHeap) :=
  match P.underlying src, P.underlying dst, x with
  | some .string, some (.slice e), .str s => match P.underlying e with
    | some (.int .u8) => if s.size ≤ 9223372036854775807 then some (.row H.size 0 1 s.size false, H.new (.cells (byteC s))) else none
    | _ => none
  | _, _, _ => none

def aindexAddr (t : TypeId) (x : AV) (i : Int) : Option AV :=
  match P.underlying t, x with
  | some (.array len e), .ptr o off => (tS P e).bind fun sz => if 0 ≤ i ∧ i < len then some (.ptr o (off + i.toNat * sz)) else none
  | some (.array len e), .ptrl cs off => (tS P e).bind fun sz => if 0 ≤ i ∧ i < len then some (.ptrl cs (off + i.toNat * sz)) else none
  | some (.slice e), .row o off sz n _ => if tS P e = some sz ∧ 0 ≤ i ∧ i < n then some (.ptr o (off + i.toNat * sz)) else none
  | some (.slice e), .lst sz n cs => if tS P e = some sz ∧ 0 ≤ i ∧ i < n then some (.ptrl cs (i.toNat * sz)) else none
  | _, _ => none

def aindex (t : TypeId) (x : AV) (i : Int) : Option AV :=
  match P.underlying t, x with
  | some (.array len e), .agg cs => (tS P e).bind fun sz => if 0 ≤ i ∧ i < len then loadC P e cs (i.toNat * sz) else none
  | some .string, .str s => if 0 ≤ i then (s.toList[i.toNat]?).map fun b => .int .u8 b.toNat else none
  | _, _ => none

def bound (d : Nat) : Option AV → Option Int
  | none => some d
  | some (.int _ i) => some i
  | _ => none

def aslice (H : AHeap) (t : TypeId) (x : AV) (lo hi mx : Option AV) : Option AV :=
  match P.underlying t, x, mx with
  | some .string, .str s, none => (bound 0 lo).bind fun l => (bound s.size hi).bind fun h => if 0 ≤ l ∧ l ≤ h ∧ h ≤ s.size then some (.str (s.extract l.toNat h.toNat)) else none
  | some (.slice e), .row o off sz n full, none => (bound 0 lo).bind fun l => (bound n hi).bind fun h =>
      if tS P e = some sz ∧ 0 ≤ l ∧ l ≤ h ∧ h ≤ n then some (.row o (off + l.toNat * sz) sz (h - l).toNat (full && decide (h = n))) else none
  | some (.slice e), .row o off sz n _full, some (.int _ m) => (bound 0 lo).bind fun l => (bound n hi).bind fun h =>
      if tS P e = some sz ∧ hi.isSome = true ∧ 0 ≤ l ∧ l ≤ h ∧ h ≤ m ∧ m ≤ n then some (.row o (off + l.toNat * sz) sz (h - l).toNat (decide (h = m))) else none
  | some (.slice e), .lst sz n cs, none => (bound 0 lo).bind fun l => (bound n hi).bind fun h =>
      if tS P e = some sz ∧ 0 ≤ l ∧ l ≤ h ∧ h ≤ n then some (.lst sz (h - l).toNat ((cs.drop (l.toNat * sz)).take ((h - l).toNat * sz))) else none
  | some (.slice e), .nils, none => (tS P e).bind fun _ => (bound 0 lo).bind fun l => (bound 0 hi).bind fun h => if l = 0 ∧ h = 0 then some .nils else none
  | some (.array n e), .ptr o off, none => (tS P e).bind fun sz => (bound 0 lo).bind fun l => (bound n hi).bind fun h =>
      match H.obj o with
      | .cells cs => if 0 ≤ l ∧ l ≤ h ∧ h ≤ n ∧ off + n * sz ≤ cs.length ∧ n ≤ 9223372036854775807 then some (.row o (off + l.toNat * sz) sz (h - l).toNat (decide (h = n))) else none
      | _ => none
  | _, _, _ => none

def amake (H : AHeap) (t : TypeId) (l c : Int) : Option (AV × AHeap) :=
  match P.underlying t with
  | some (.slice e) => (tS P e).bind fun sz => (tB P e).bind fun by_ => (tZ P e).bind fun z =>
      if 0 ≤ l ∧ l ≤ c ∧ c * by_ ≤ 140737488355328 ∧ z.length = sz ∧ 0 < sz ∧ c ≤ 9223372036854775807 then
        some (.row H.size 0 sz l.toNat (decide (l = c)), H.new (.cells ((List.replicate c.toNat z).flatten)))
      else none
  | _ => none

/-- append: nothing, or into memory of its own; where the capacity may bear it the elder row is dead behind it. -/
def appC (H : AHeap) (s : AV) (sz by_ : Nat) (z new : List AV) (m : Nat) : Option (AV × AHeap) :=
  (sliceCells H s).bind fun old => (sliceLen s).bind fun n =>
    if m = 0 then some (s, H) else
    if z.length = sz ∧ new.length = m * sz ∧ 0 < sz ∧ old.length = n * sz ∧ (n + m) * by_ ≤ 140737488355328 ∧ n + m ≤ 9223372036854775807 ∧ allOne new = true then
      match s with
      | .nils => some (.row H.size 0 sz m false, H.new (.cells new))
      | .row o _ sz' _ full => if sz' = sz then
          if full = true then some (.row H.size 0 sz (n + m) false, H.new (.cells (old ++ new)))
          else some (.row H.size 0 sz (n + m) false, (H.set o .dead).new (.cells (old ++ new)))
        else none
      | _ => none
    else none
def aappend (H : AHeap) (t : TypeId) (s x : AV) : Option (AV × AHeap) :=
  match P.underlying t with
  | some (.slice e) => (tS P e).bind fun sz => (tB P e).bind fun by_ => (tZ P e).bind fun z => (sliceCells H x).bind fun new => (sliceLen x).bind fun m => appC H s sz by_ z new m
  | _ => none
/-- append: so many zeros. -/
def aextend (H : AHeap) (t : TypeId) (s : AV) (k : Int) : Option (AV × AHeap) :=
  match P.underlying t with
  | some (.slice e) => (tS P e).bind fun sz => (tB P e).bind fun by_ => (tZ P e).bind fun z => if 0 ≤ k ∧ k * by_ ≤ 140737488355328 ∧ k ≤ 9223372036854775807 ∧ z.length = sz ∧ 0 < sz then appC H s sz by_ z ((List.replicate k.toNat z).flatten) k.toNat else none
  | _ => none

def findE (k : AV) : List AEnt → Option AEnt
  | [] => none
  | e :: es => if keyEq k e.key = true then some e else findE k es
def setE (k v : AV) : List AEnt → List AEnt
  | [] => []
  | e :: es => if keyEq k e.key = true then { e with key := k, val := v } :: es else e :: setE k v es
def dropE (k : AV) : List AEnt → List AEnt
  | [] => []
  | e :: es => if keyEq k e.key = true then es else e :: dropE k es
def stampE (n : Int) (v : AV) : List AEnt → List AEnt
  | [] => []
  | e :: es => if (e.born : Int) == n then { e with val := v } :: es else e :: stampE n v es

def alookup (H : AHeap) (t : TypeId) (m k : AV) (ok : Bool) : Option AV :=
  match P.underlying t with
  | some (.map kt e) => (keySh P K kt).bind fun sh => (tZV P e).bind fun z =>
    if sh.fits k = true then
      match m with
      | .nilm => some (if ok then .tup [z, .bool false] else z)
      | .map o => match H.obj o with
        | .map sh' es _ => if sh' = sh then
            match findE k es with
            | some x => some (if ok then .tup [x.val, .bool true] else x.val)
            | none => some (if ok then .tup [z, .bool false] else z)
          else none
        | _ => none
      | _ => none
    else none
  | _ => none

def amapUpdate (H : AHeap) (t : TypeId) (m k v : AV) : Option AHeap :=
  match P.underlying t with
  | some (.map kt _) => (keySh P K kt).bind fun sh =>
    if sh.fits k = true then
      match m with
      | .map o => match H.obj o with
        | .map sh' es clock => if sh' = sh then
            match findE k es with
            | some _ => some (H.set o (.map sh (setE k v es) clock))
            | none => some (H.set o (.map sh (es ++ [⟨k, v, clock⟩]) (clock + 1)))
          else none
        | _ => none
      | _ => none
    else none
  | _ => none

def amapEntry (H : AHeap) (t : TypeId) (m k : AV) : Option (AV × AHeap) :=
  match P.underlying t with
  | some (.map kt e) => (keySh P K kt).bind fun sh => (tZV P e).bind fun z =>
    if sh.fits k = true then
      match m with
      | .map o => match H.obj o with
        | .map sh' es clock => if sh' = sh then
            match findE k es with
            | some x => some (.tup [x.val, .int .i64 x.born], H.set o (.map sh (setE k x.val es) clock))
            | none => some (.tup [z, .int .i64 clock], H.set o (.map sh (es ++ [⟨k, z, clock⟩]) (clock + 1)))
          else none
        | _ => none
      | _ => none
    else none
  | _ => none

def aentryStore (H : AHeap) (m : AV) (n : Int) (v : AV) : Option AHeap :=
  match m with
  | .map o => match H.obj o with
    | .map sh es clock => if es.any (fun e => (e.born : Int) == n) = true then some (H.set o (.map sh (stampE n v es) clock)) else none
    | _ => none
  | _ => none

def adelete (H : AHeap) (t : TypeId) (m k : AV) : Option AHeap :=
  match P.underlying t with
  | some (.map kt _) => (keySh P K kt).bind fun sh =>
    if sh.fits k = true then
      match m with
      | .map o => match H.obj o with
        | .map sh' es clock => if sh' = sh then some (H.set o (.map sh (dropE k es) clock)) else none
        | _ => none
      | _ => none
    else none
  | _ => none

def fillC (place : Nat → Option (Nat × Nat)) (cs : List AV) : List (Nat × AV) → Option (List AV)
  | [] => some cs
  | (i, v) :: rest => (place i).bind fun (off, sz) => if v.cells.length = sz ∧ off + sz ≤ cs.length then fillC place (putCells cs off v.cells) rest else none

def evalParts (e : Env) : List (Nat × Operand) → Option (List (Nat × AV))
  | [] => some []
  | (i, x) :: xs => (evalOpd e x).bind fun a => (evalParts e xs).map ((i, a) :: ·)

def places : List Field → Option (List (Nat × Nat))
  | [] => some []
  | f :: fs => (tS P f.type).bind fun s => (places fs).map ((f.offset, s) :: ·)

def abuild (t : TypeId) (ps : List (Nat × AV)) : Option AV :=
  (tZ P t).bind fun z => match P.underlying t with
  | some (.struct fs) => (places P fs.toList).bind fun pl => (fillC (fun i => pl[i]?) z ps).map .agg
  | some (.array _ e) => (tS P e).bind fun s => (fillC (fun i => some (i * s, s)) z ps).map .agg
  | _ => none

def abuildSlice (H : AHeap) (t : TypeId) (len : Nat) (ps : List (Nat × AV)) : Option (AV × AHeap) :=
  match P.underlying t with
  | some (.slice e) => (tS P e).bind fun s => (tZ P e).bind fun z =>
      if len * s ≤ 16777216 ∧ z.length = s ∧ 0 < s then
        (fillC (fun i => some (i * s, s)) ((List.replicate len z).flatten) ps).map fun cs => (.row H.size 0 s len true, H.new (.cells cs))
      else none
  | _ => none

def alen (H : AHeap) (t : TypeId) (x : AV) : Option AV :=
  match P.underlying t, x with
  | some .string, .str s => some (.int .i64 s.size)
  | some (.array n _), _ => some (.int .i64 n)
  | some (.slice _), x => (sliceLen x).map fun n => .int .i64 n
  | some (.map _ _), .nilm => some (.int .i64 0)
  | some (.map _ _), .map o => match H.obj o with
    | .map _ es _ => some (.int .i64 es.length)
    | _ => none
  | _, _ => none

def foldMin : AV → List AV → Option AV
  | x, [] => some x
  | .int k x, .int k' y :: r => if k = k' then foldMin (.int k (if y < x then y else x)) r else none
  | _, _ => none
def foldMax : AV → List AV → Option AV
  | x, [] => some x
  | .int k x, .int k' y :: r => if k = k' then foldMax (.int k (if x < y then y else x)) r else none
  | _, _ => none

end

/-! Which regions that draw their order are let by. -/
/-- 0: computes alone; 1: reads memory; 2: makes memory, or calls; 3: writes memory. -/
def cls : Op → Nat
  | .move _ | .assign _ | .pick .. | .unOp .. | .binOp .. | .fieldAddr .. | .field .. | .extract .. | .nilCheck _ | .makeInterface .. | .makeFunc .. | .indexAddr .. | .index .. | .build .. => 0
  | .load .. | .lookup .. | .slice .. => 1
  | .convert _ _ x => if isCStr x = true then 2 else 1
  | .alloc _ | .box .. | .buildSlice .. | .makeMap .. | .makeSlice .. => 2
  | .call { callee := .builtin b, .. } => match b with
    | .len => 1
    | .min | .max => 0
    | _ => 3
  | .call _ => 2
  | _ => 3

def isCall : Op → Bool
  | .call { callee := .builtin _, .. } => false
  | .call _ => true
  | _ => false

def isLoad : Op → Bool
  | .load .. => true
  | _ => false
def isStore : Op → Bool
  | .store .. => true
  | _ => false
def isApp : Op → Bool
  | .call { callee := .builtin .append, .. } => true
  | _ => false
/-- The object that an address lies in. -/
def objOf : Option AV → Option Nat
  | some (.ptr o _) => some o
  | _ => none
/-- The object that a slot's address or row lies in. -/
def objOfS : Option AV → Option Nat
  | some (.ptr o _) => some o
  | some (.row o ..) => some o
  | _ => none
/-- A mark of 1000 and more names a slot: what is loaded lies in an elder object than the one that the slot points into, what is written in no elder one. -/
def sepT (q : List Nat) : Option Nat := (q.find? fun k => decide (1000 ≤ k ∧ k < 5000)).map (· - 1000)
def sepA (q : List Nat) (x : Oper) : Bool :=
  match sepT q with
  | none => true
  | some s => x.dst != some s
/-- On which side of a slot's object a marked load lies; a mark of 999 turns the sides round; with a mark of 998 it lies in the very object. -/
def sepL (q : List Nat) (o os : Nat) : Bool := if q.contains 998 = true then decide (o = os) else if q.contains 999 = true then decide (os ≤ o) else decide (o < os)
/-- What a marked operation is held to: a load tells a number, a store lays a bool where a bool lies (or both are parted by a slot's object); else nothing that there is is written. -/
def plainV : AV → Bool
  | .bool _ | .int _ _ | .str _ => true
  | _ => false
def plainO : AObj → Bool
  | .cells cs => cs.all plainV
  | _ => false
/-- A marked append leaves alone what lies on the other side of the slot's object. -/
noncomputable def markApp (q : List Nat) (e : Env) (H H' : AHeap) : Bool :=
  match sepT q with
  | none => decide (H.Quiet H')
  | some s => match objOfS (e s) with
    | some os => @decide (∀ o, sepL q o os = true → H'.obj o = H.obj o) (Classical.propDecidable _)
    | none => false
/-- With a mark of 997: a marked call leaves the very cell alone that a slot points at; a marked load reads just that one; what is cut or counted is a slice. -/
def cellO (x : AObj) (off : Nat) : Option AV := match x with
  | .cells cs => cs[off]?
  | _ => none
def rowW : Option AV → Bool
  | some (.row ..) | some .nils | some (.lst ..) => true
  | _ => false
def oneW : AV → Bool
  | .agg _ => false
  | _ => true
/-- A mark of 800 and more: how many cells behind the slot's place. -/
def sepD (q : List Nat) : Nat := ((q.find? fun k => decide (800 ≤ k ∧ k < 997)).map (· - 800)).getD 0
noncomputable def markCl (q : List Nat) (e : Env) (H H' : AHeap) : Bool :=
  match sepT q with
  | none => true
  | some s => match e s with
    | some (.ptr o off) => @decide (cellO (H'.obj o) (off + sepD q) = cellO (H.obj o) (off + sepD q)) (Classical.propDecidable _)
    | _ => false
def markLd (q : List Nat) (e : Env) (a : Operand) (v : AV) : Bool :=
  match sepT q with
  | none => false
  | some s => match evalOpd e a, e s with
    | some (.ptr o off), some (.ptr o' off') => decide (o = o' ∧ off = off' + sepD q) && oneW v
    | _, _ => false
def isLen : Op → Bool
  | .call { callee := .builtin .len, .. } => true
  | _ => false
noncomputable def markOK (q : List Nat) (o : Op) (e : Env) (H : AHeap) (v : AV) (H' : AHeap) : Bool :=
  match o with
  | .call c => if isApp (.call c) = true then markApp q e H H' else if q.contains 997 = true then (if isLen (.call c) = true then rowW ((c.args.toList.head?).bind (evalOpd e)) else if isCall (.call c) = true then markCl q e H H' else true) else decide (H.Quiet H')
  | .slice _ x _ _ _ => if q.contains 997 = true then rowW (evalOpd e x) else true
  | .buildSlice _ _ _ => decide (H.Quiet H') && plainO (H'.obj H.size)
  | .load _ a => if q.contains 997 = true then markLd q e a v else match sepT q with
    | none => match v with
      | .int _ _ => true
      | _ => false
    | some s => match objOf (evalOpd e a), objOfS (e s) with
      | some o1, some os => sepL q o1 os
      | _, _ => false
  | .store _ a x => match sepT q with
    | none => match evalOpd e a, evalOpd e x with
      | some (.ptr o off), some (.bool _) => match H.obj o with
        | .cells cs => match cs[off]? with
          | some (.bool _) => true
          | _ => false
        | _ => false
      | _, _ => false
    | some s => match objOf (evalOpd e a), objOfS (e s) with
      | some o2, some os => !sepL q o2 os
      | _, _ => false
  | _ => decide (H.Quiet H')

def isW (D : List Nat) (o : Op) : Bool := isStore o || (isApp o && (sepT D).isSome)
def isSl : Op → Bool
  | .slice .. => true
  | _ => false
def isRd (o : Op) : Bool := isLoad o || isSl o || isLen o
/-- A lookup reads a map, a store writes no map. -/
def isLook : Op → Bool
  | .lookup .. => true
  | _ => false
def pairOK (ops : Array Oper) (D : List Nat) (i j : Nat) (x y : Oper) : Bool :=
  Oper.apart ops x y && sepA D x && sepA D y && (cls x.op == 0 || cls y.op == 0 || (cls x.op == 1 && cls y.op == 1) || (cls x.op == 1 && cls y.op == 2 && (!isCall y.op || (D.contains j && !D.contains 997))) || (cls x.op == 2 && cls y.op == 1 && (!isCall x.op || (D.contains i && !D.contains 997))) || (D.contains i && D.contains j && !D.contains 997 && ((isLoad x.op && isW D y.op) || (isW D x.op && isLoad y.op))) || (D.contains i && D.contains j && D.contains 997 && ((isRd x.op && isCall y.op) || (isCall x.op && isRd y.op))) || (isLook x.op && isStore y.op) || (isStore x.op && isLook y.op))

def isAlloc : Op → Bool
  | .alloc _ => true
  | .makeSlice .. => true
  | .buildSlice .. => true
  | _ => false
/-- It doesn't look at the slot that it writes. -/
def ownOK (y : Oper) : Bool := y.op.operands.toList.all fun x => match x with
  | .tmp t => y.dst != some t
  | _ => true
/-- A marked operation that makes a variable: the machine may carry it out ahead of its turn. -/
def flt (D : List Nat) (y : Oper) (j : Nat) : Bool := D.contains j && isAlloc y.op && y.guard.isNone && y.dst.isSome && ownOK y && sepA D y

def lowOK (o : Oper) (i : Nat) : Bool := o.after.all fun e => !Region.binds .any e || decide (e.on < i)
def betw (ops : Array Oper) (D : List Nat) (y : Oper) (j : Nat) (x : Oper) (i : Nat) : Bool := !decide (i < j) || ((Region.before ops).getD j 0).testBit i || pairOK ops D i j x y || (flt D y j && Oper.apart ops x y)
/-- What is marked so is apart from what else is; what comes behind one of them comes behind all that is ahead of it, but for what computes alone. -/
def fltOK (ops : Array Oper) (D : List Nat) : Bool :=
  ops.toList.zipIdx.all fun y => !flt D y.1 y.2 || (ops.toList.zipIdx.all fun x => (!(decide (x.2 < y.2) && flt D x.1 x.2) || Oper.apart ops x.1 y.1) &&
    (!(decide (y.2 < x.2) && ((Region.before ops).getD x.2 0).testBit y.2) || (ops.toList.zipIdx.all fun z => !decide (z.2 < y.2) || ((Region.before ops).getD x.2 0).testBit z.2 || (cls z.1.op == 0 && Oper.apart ops z.1 y.1 && sepA D z.1))))

def drawOK (ops : Array Oper) (D : List Nat) : Bool :=
  (ops.toList.zipIdx.all fun x => lowOK x.1 x.2) && (ops.toList.zipIdx.all fun y => ops.toList.zipIdx.all fun x => betw ops D y.1 y.2 x.1 x.2) && fltOK ops D

/-- A mark of 5000 + 100 i + j: the region's operation i is looked at behind the operation j. -/
def permM (q : List Nat) : Option Nat := (q.find? fun k => decide (5000 ≤ k)).map (· - 5000)
def permL (m n : Nat) : List Nat := (List.range n).flatMap fun k => if k = m / 100 then [] else if k = m % 100 then [k, m / 100] else [k]
def remap (L : List Nat) (o : Oper) : Oper := { o with after := o.after.map fun e => { e with on := L.idxOf e.on }, guard := o.guard.map fun g => (L.idxOf g.1, g.2) }
def permA (L : List Nat) (ops : Array Oper) : Array Oper := (L.map fun k => remap L (ops.getD k default)).toArray
def permGood (L : List Nat) (n : Nat) : Bool := L.length == n && (List.range n).all fun k => decide (L.idxOf k < n) && L.getD (L.idxOf k) n == k && L.idxOf (L.getD k n) == k && decide (L.getD k n < n)
def permOps (q : List Nat) (ops : Array Oper) : Array Oper :=
  match permM q with
  | none => ops
  | some m => permA (permL m ops.size) ops
def permOK (q : List Nat) (n : Nat) : Bool :=
  match permM q with
  | none => true
  | some m => permGood (permL m n) n
/-- A region's operations in the order in which they are looked at. -/
def ordOps (draw : Bool) (q : List Nat) (ops : Array Oper) : Array Oper := if draw = true then permOps q ops else ops

def dstOK (N : Nat) (ops : Array Oper) : Bool := ops.all fun o => match o.dst with | some d => decide (d < N) | none => true

/-- What is asked of a body's text: its slots lie in the frame, and its regions that draw are of the kind that may change places. -/
def codeOK (N : Nat) (D : Nat → List Nat) : Code → Bool
  | .region id ops draw => dstOK N (ordOps draw (D id) ops) && (!draw || (permOK (D id) ops.size && drawOK (permOps (D id) ops) (D id)))
  | .seq a b => codeOK N D a && codeOK N D b
  | .cond _ a b => codeOK N D a && codeOK N D b
  | .block _ b => codeOK N D b
  | .loop b => codeOK N D b
  | _ => true

end Go.Proofs.Ytghjglnebcpcmaa
/-! The interpreter, second part: operations, regions, bodies, calls; calls without a number of rounds. -/
namespace Go.Proofs.Ytghjglnebcpcmaa

inductive Stp where
  | pr (r : Option (AV × AHeap))
  | cl (f : FuncId) (as : List AV)

section
variable (P : Program) (K : TypeId → Option (List Sc))

/-- The function behind a method's name at a dynamic type: its number, the path, whether it takes a pointer. -/
def mth (t : TypeId) (name : String) : Option (FuncId × Bool × List FieldStep) :=
  (P.info? t).bind fun i => (i.methods.find? (·.name == name)).bind fun m => m.func.map fun (f, p) => (f, p, m.path.toList)

def recvAt (xt : TypeId) (ptr : Bool) (v : AV) : Option AV :=
  match P.underlying xt, ptr with
  | some (.pointer _), true => some v
  | some (.pointer _), false => none
  | some _, true => none
  | some _, false => some v
  | none, _ => none

def ainvoke (name : String) (r : AV) : Option (FuncId × AV) :=
  match r with
  | .ifc t v => (mth P t name).bind fun (f, ptr, path) =>
    match path with
    | [] => (recvAt P t ptr v).map fun x => (f, x)
    | [s] => match s.deref, v with
      | false, .agg cs => (fieldAt P s.struct s.index).bind fun fd => (loadC P fd.type cs fd.offset).bind fun x => (recvAt P fd.type ptr x).map fun y => (f, y)
      | _, _ => none
    | _ => none
  | _ => none

def clOf : Option (FuncId × List AV) → Stp
  | some (f, as) => .cl f as
  | none => .pr none

def abuiltin (e : Env) (H : AHeap) (b : Builtin) (ts : List TypeId) (args : List Operand) : Option (AV × AHeap) :=
  (evalOpds e args).bind fun as =>
  match b, ts, as with
  | .len, t :: _, [x] => (alen P H t x).map fun v => (v, H)
  | .append, [t, t'], [s, x] => if t' = t then aappend P H t s x else
    match P.underlying t', x with
    | some (.int .i64), .int .i64 k => aextend P H t s k
    | _, _ => none
  | .delete, t :: _, [m, k] => (adelete P K H t m k).map fun H' => (.tup [], H')
  | .clear, t :: _, [.map o] => match P.underlying t, H.obj o with
    | some (.map _ _), .map sh _ clock => some (.tup [], H.set o (.map sh [] clock))
    | _, _ => none
  | .min, _, x :: r => (foldMin x r).map fun v => (v, H)
  | .max, _, x :: r => (foldMax x r).map fun v => (v, H)
  | _, _, _ => none

/-- What one operation does: by itself, or the call that it makes. -/
def step1 (o : Op) (e : Env) (H : AHeap) : Stp :=
  match o with
  | .move x => .pr ((evalOpd e x).map fun v => (v, H))
  | .assign x => .pr ((evalOpd e x).map fun v => (v, H))
  | .pick c a b => .pr (match evalOpd e c with
    | some (.bool t) => (if t = true then evalOpd e a else evalOpd e b).map fun v => (v, H)
    | _ => none)
  | .alloc t => .pr ((tZ P t).map fun z => (.ptr H.size 0, H.new (.cells z)))
  | .box _ x => .pr ((evalOpd e x).map fun v => (.ptr H.size 0, H.new (.cells v.cells)))
  | .build t ps => .pr ((evalParts e ps.toList).bind fun l => (abuild P t l).map fun v => (v, H))
  | .buildSlice t n ps => .pr ((evalParts e ps.toList).bind fun l => abuildSlice P H t n l)
  | .load t a => .pr ((evalOpd e a).bind fun x => (aload P H t x).map fun v => (v, H))
  | .store t a x => .pr ((evalOpd e a).bind fun p => (evalOpd e x).bind fun v => (astore P H t p v).map fun H' => (.tup [], H'))
  | .nilCheck x => .pr (match evalOpd e x with
    | some (.ptr o off) => some (.ptr o off, H)
    | some (.ptrl cs off) => some (.ptrl cs off, H)
    | some (.ifc t v) => some (.ifc t v, H)
    | some (.fn (.func f) a b) => some (.fn (.func f) a b, H)
    | _ => none)
  | .binOp op t x y _ => .pr ((evalOpd e x).bind fun a => (evalOpd e y).bind fun b => (abin P K op t a b).map fun v => (v, H))
  | .unOp op _ x => .pr ((evalOpd e x).bind fun a => (aun op a).map fun v => (v, H))
  | .convert s d x => .pr ((evalOpd e x).bind fun a => if isCStr x = true then abytes P H s d a else aconv P H s d a)
  | .makeInterface t x => .pr ((evalOpd e x).bind fun a => match P.underlying t with
    | some (.interface _) => none
    | some _ => some (.ifc t a, H)
    | none => none)
  | .makeFunc f first cap => .pr ((evalOpds e first.toList).bind fun a => (evalOpds e cap.toList).map fun b => (.fn f a b, H))
  | .makeMap t none => .pr (match P.underlying t with
    | some (.map kt _) => (keySh P K kt).map fun sh => (.map H.size, H.new (.map sh [] 0))
    | _ => none)
  | .makeSlice t l c => .pr (match evalOpd e l, evalOpd e c with
    | some (.int _ n), some (.int _ m) => amake P H t n m
    | _, _ => none)
  | .slice t x lo hi mx => .pr ((evalOpd e x).bind fun a => (evalOpt e lo).bind fun l => (evalOpt e hi).bind fun h => (evalOpt e mx).bind fun m => (aslice P H t a l h m).map fun v => (v, H))
  | .fieldAddr t x f => .pr ((fieldAt P t f).bind fun fd => (tS P fd.type).bind fun n => if 0 < n then match evalOpd e x with
      | some (.ptr o off) => some (.ptr o (off + fd.offset), H)
      | some (.ptrl cs off) => some (.ptrl cs (off + fd.offset), H)
      | _ => none
    else none)
  | .field t x f => .pr ((fieldAt P t f).bind fun fd => match evalOpd e x with
    | some (.agg cs) => (loadC P fd.type cs fd.offset).map fun v => (v, H)
    | _ => none)
  | .indexAddr t x i => .pr ((evalOpd e x).bind fun a => match evalOpd e i with
    | some (.int _ n) => (aindexAddr P t a n).map fun v => (v, H)
    | _ => none)
  | .index t x i => .pr ((evalOpd e x).bind fun a => match evalOpd e i with
    | some (.int _ n) => (aindex P t a n).map fun v => (v, H)
    | _ => none)
  | .lookup t m k ok => .pr ((evalOpd e m).bind fun a => (evalOpd e k).bind fun b => (alookup P K H t a b ok).map fun v => (v, H))
  | .mapUpdate t m k v => .pr ((evalOpd e m).bind fun a => (evalOpd e k).bind fun b => (evalOpd e v).bind fun c => (amapUpdate P K H t a b c).map fun H' => (.tup [], H'))
  | .insert t m k v => .pr ((evalOpd e m).bind fun a => (evalOpd e k).bind fun b => (evalOpd e v).bind fun c => (amapUpdate P K H t a b c).map fun H' => (.tup [], H'))
  | .mapEntry t m k => .pr ((evalOpd e m).bind fun a => (evalOpd e k).bind fun b => amapEntry P K H t a b)
  | .entryStore _ m s v => .pr ((evalOpd e m).bind fun a => (evalOpd e v).bind fun c => match evalOpd e s with
    | some (.int _ n) => (aentryStore H a n c).map fun H' => (.tup [], H')
    | _ => none)
  | .extract t i => .pr (match evalOpd e t with
    | some (.tup vs) => (vs[i]?).map fun v => (v, H)
    | _ => none)
  | .call c => match c.callee with
    | .builtin b => .pr (abuiltin P K e H b c.argTypes.toList c.args.toList)
    | .value f => clOf ((evalOpds e c.args.toList).bind fun as => match evalOpd e f with
      | some (.fn (.func f) first cap) => some (f, first ++ as ++ cap)
      | _ => none)
    | .invoke _ _ => .pr none
  | _ => .pr none

abbrev Calling := FuncId → List AV → AHeap → Option (AV × AHeap)

def evalOp (C : Calling) (o : Op) (e : Env) (H : AHeap) : Option (AV × AHeap) :=
  match step1 P K o e H with
  | .pr r => r
  | .cl f as => C f as H

def wants (e : Env) (ops : Array Oper) (o : Oper) : Option Bool :=
  match o.guard with
  | none => some true
  | some (j, want) => match ((ops[j]?).bind (·.dst)).bind e with
    | some (.bool b) => some (b == want)
    | some (.tup []) => some false
    | _ => none

noncomputable def evalOps (C : Calling) (q : List Nat) (ops : Array Oper) : Nat → List Oper → Env → AHeap → Option (Env × AHeap)
  | _, [], e, H => some (e, H)
  | k, o :: r, e, H => (wants e ops o).bind fun w =>
    if w = true then (evalOp P K C o.op e H).bind fun (v, H') => if q.contains k = true ∧ markOK q o.op e H v H' = false then none else evalOps C q ops (k + 1) r (e.putO o.dst (some v)) H'
    else evalOps C q ops (k + 1) r (e.putO o.dst (some (.tup []))) H

/-- What a later heap keeps of an elder one. -/
structure Keeps (H H' : AHeap) : Prop where
  size : H.size ≤ H'.size
  obj : ∀ o, o < H.size → H'.obj o = H.obj o
  wr : ∀ o, o < H.size → H'.wr o = H.wr o

mutual
/-- Nothing in a value points at or beyond object n. -/
def closed (n : Nat) : AV → Bool
  | .ptr o _ => decide (o < n)
  | .ptrl cs _ => closedL n cs
  | .row o _ _ _ _ => decide (o < n)
  | .lst _ _ cs => closedL n cs
  | .map o => decide (o < n)
  | .fn _ a b => closedL n a && closedL n b
  | .ifc _ v => closed n v
  | .agg cs => closedL n cs
  | .tup vs => closedL n vs
  | _ => true
def closedL (n : Nat) : List AV → Bool
  | [] => true
  | a :: as => closed n a && closedL n as
end
def closedO (n : Nat) : AObj → Bool
  | .cells cs => closedL n cs
  | .map _ es _ => es.all fun e => closed n e.key && closed n e.val
  | _ => true
/-- What is new in a value is taken as never written any more, so many levels deep. -/
def frz (H : AHeap) (n : Nat) : List Nat → AV → AV
  | [], v => v
  | _ :: z, .row o off sz m full => if o < n then .row o off sz m full else match H.obj o with
    | .cells cs => if off + m * sz ≤ cs.length then .lst sz m (((cs.drop off).take (m * sz)).map (frz H n z)) else .row o off sz m full
    | _ => .row o off sz m full
  | _ :: z, .ptr o off => if o < n then .ptr o off else match H.obj o with
    | .cells cs => .ptrl (cs.map (frz H n z)) off
    | _ => .ptr o off
  | _ :: z, .agg cs => .agg (cs.map (frz H n z))
  | _ :: z, .tup cs => .tup (cs.map (frz H n z))
  | _ :: z, .ifc t v => .ifc t (frz H n z v)
  | _ :: _, v => v
/-- A heap, as far as an elder one went. -/
def AHeap.cut (H H' : AHeap) : AHeap := ⟨H.size, fun o => if o < H.size then H'.obj o else H.obj o, fun o => if o < H.size then H'.wr o else H.wr o⟩
/-- What was written points at nothing new. -/
structure Shut (H H' : AHeap) : Prop where
  size : H.size ≤ H'.size
  obj : ∀ o, o < H.size → H'.obj o = H.obj o ∨ closedO H.size (H'.obj o) = true
open Classical in
/-- What a call leaves: where its word points at nothing new, what is new is forgotten. -/
noncomputable def back (z : List Nat) (H : AHeap) (v : AV) (H' : AHeap) : AV × AHeap :=
  if closed H.size (frz H' H.size z v) = true ∧ Shut H H' then (frz H' H.size z v, H.cut H') else (v, H')

inductive AX where
  | normal
  | exit (id : Nat)
  | ret

abbrev Rn := Option (AX × Env × AHeap)

def iter (F : Env → AHeap → Rn) : Nat → Env → AHeap → Rn
  | 0, _, _ => none
  | n + 1, e, H => match F e H with
    | some (.normal, e', H') => iter F n e' H'
    | r => r

open Classical in
noncomputable def loopLim (F : Env → AHeap → Rn) (e : Env) (H : AHeap) : Rn :=
  if h : ∃ n, iter F n e H ≠ none then iter F (Classical.choose h) e H else none

/-- Which operations of a region that draws its order must leave memory as it is: by the function and the region. -/
abbrev Quiets := FuncId → Nat → List Nat

noncomputable def evalCode (C : Calling) (D : Quiets) (f : FuncId) : Code → Env → AHeap → Rn
  | .skip, e, H => some (.normal, e, H)
  | .region id ops draw, e, H => (evalOps P K C (if draw = true then D f id else []) (ordOps draw (D f id) ops) 0 (ordOps draw (D f id) ops).toList e H).map fun (e', H') => (.normal, e', H')
  | .seq a b, e, H => (evalCode C D f a e H).bind fun
    | (.normal, e', H') => evalCode C D f b e' H'
    | (.exit id, e', H') => some (.exit id, e', H')
    | (.ret, e', H') => some (.ret, e', H')
  | .cond c a b, e, H => match evalOpd e c with
    | some (.bool t) => if t = true then evalCode C D f a e H else evalCode C D f b e H
    | _ => none
  | .block id b, e, H => (evalCode C D f b e H).map fun
    | (.exit id', e', H') => (if id' = id then .normal else .exit id', e', H')
    | (.normal, e', H') => (.normal, e', H')
    | (.ret, e', H') => (.ret, e', H')
  | .loop b, e, H => loopLim (evalCode C D f b) e H
  | .exit id, e, H => some (.exit id, e, H)
  | .ret, e, H => some (.ret, e, H)
  | _, _, _ => none

def evalResult (e : Env) (H : AHeap) : ResultVar → Option AV
  | .tmp t => e t
  | .cell a t => (e a).bind fun x => aload P H t x
def evalResults (e : Env) (H : AHeap) : List ResultVar → Option (List AV)
  | [] => some []
  | r :: rs => (evalResult P e H r).bind fun a => (evalResults e H rs).map (a :: ·)
def tupled : List AV → AV
  | [v] => v
  | vs => .tup vs

/-- Where it stands which of a function's words are taken as never written any more. -/
def frzAt : Nat := 1000000
noncomputable def evalFn0 (D : Quiets) (C : Calling) (f : FuncId) (as : List AV) (H : AHeap) : Option (AV × AHeap) :=
  (P.funcs[f]?).bind fun fn => fn.body.bind fun c =>
    if as.length ≤ fn.ntmps ∧ codeOK fn.ntmps (D f) c = true ∧ (fn.name == "runtime.NumGoroutine") = false then (evalCode P K C D f c (Env.args as 0) H).bind fun
      | (.exit _, _, _) => none
      | (_, e, H') => (evalResults P e H' fn.results.toList).map fun vs => back (D f frzAt) H (tupled vs) H'
    else none

open Classical in
/-- What the model's own functions answer: sums of words with a carry, a byte's first place in a text. -/
noncomputable def evalExt (fn : Func) (as : List AV) : Option AV :=
  if (fn.name == "runtime.NumGoroutine") = false ∧ Extern.findNext fn = none then
    if fn.name = "math/bits.Add64" ∧ Extern.find fn = some add64Entry then
      match as with
      | [.int .u64 x, .int .u64 y, .int .u64 c] => if 0 ≤ x ∧ 0 ≤ y ∧ 0 ≤ c ∧ c ≤ 1 then some (.tup [.int .u64 ((x + y + c) % 18446744073709551616), .int .u64 ((x + y + c) / 18446744073709551616)]) else none
      | _ => none
    else if fn.name = "internal/bytealg.IndexByteString" ∧ Extern.find fn = some Extern.BytealgIndexByte.indexByte then
      match as with
      | [.str s, .int .u8 c] => some (.int .i64 (firstIdx s c.toNat.toUInt8))
      | _ => none
    else none
  else none
noncomputable def evalX (f : FuncId) (as : List AV) (H : AHeap) : Option (AV × AHeap) := (P.funcs[f]?).bind fun fn => if fn.body.isNone = true then (evalExt fn as).map fun v => (v, H) else none
noncomputable def evalFn (D : Quiets) (C : Calling) (f : FuncId) (as : List AV) (H : AHeap) : Option (AV × AHeap) :=
  match evalX P f as H with
  | some r => some r
  | none => evalFn0 P K D C f as H

noncomputable def run (D : Quiets) : Nat → Calling
  | 0 => fun _ _ _ => none
  | n + 1 => evalFn P K D (run D n)

open Classical in
noncomputable def runs (D : Quiets) : Calling := fun f as H => if h : ∃ n, run P K D n f as H ≠ none then run P K D (Classical.choose h) f as H else none
end

theorem iter_mono {F : Env → AHeap → Rn} : ∀ {n : Nat} {e : Env} {H : AHeap} {r}, iter F n e H = some r → ∀ {m}, n ≤ m → iter F m e H = some r
  | 0, _, _, _, h, _, _ => by simp [iter] at h
  | n + 1, e, H, r, h, 0, hm => by omega
  | n + 1, e, H, r, h, m + 1, hm => by
    simp only [iter] at h ⊢
    cases hF : F e H with
    | none => rw [hF] at h; cases h
    | some x =>
      rw [hF] at h
      obtain ⟨x, e', H'⟩ := x
      cases x with
      | normal => exact iter_mono h (by omega)
      | exit id => exact h
      | ret => exact h

theorem iter_fun {F : Env → AHeap → Rn} {n m : Nat} {e : Env} {H : AHeap} {r s} (h : iter F n e H = some r) (k : iter F m e H = some s) : r = s := by
  have h1 := iter_mono h (Nat.le_max_left n m)
  have k1 := iter_mono k (Nat.le_max_right n m)
  rw [h1] at k1
  exact Option.some.inj k1

theorem loopLim_iff {F : Env → AHeap → Rn} {e : Env} {H : AHeap} {r} : loopLim F e H = some r ↔ ∃ n, iter F n e H = some r := by
  unfold loopLim
  split
  · rename_i h
    have hc := Classical.choose_spec h
    constructor
    · intro k; exact ⟨_, k⟩
    · rintro ⟨n, hn⟩
      cases hx : iter F (Classical.choose h) e H with
      | none => exact absurd hx hc
      | some s => rw [iter_fun hx hn]
  · rename_i h
    simp only [reduceCtorEq, false_iff]
    rintro ⟨n, hn⟩
    exact h ⟨n, by simp [hn]⟩

theorem loopLim_eq (F : Env → AHeap → Rn) (e : Env) (H : AHeap) : loopLim F e H = match F e H with
    | some (.normal, e', H') => loopLim F e' H'
    | r => r := by
  cases hF : F e H with
  | none =>
    simp only
    cases h : loopLim F e H with
    | none => rfl
    | some r =>
      obtain ⟨n, hn⟩ := loopLim_iff.1 h
      cases n <;> simp [iter, hF] at hn
  | some x =>
    obtain ⟨x, e', H'⟩ := x
    cases x with
    | normal =>
      simp only
      cases h : loopLim F e' H' with
      | none =>
        cases h2 : loopLim F e H with
        | none => rfl
        | some r =>
          obtain ⟨n, hn⟩ := loopLim_iff.1 h2
          cases n with
          | zero => simp [iter] at hn
          | succ n =>
            simp [iter, hF] at hn
            rw [loopLim_iff.2 ⟨n, hn⟩] at h
            cases h
      | some r =>
        obtain ⟨n, hn⟩ := loopLim_iff.1 h
        exact loopLim_iff.2 ⟨n + 1, by simp [iter, hF, hn]⟩
    | exit id => exact loopLim_iff.2 ⟨1, by simp [iter, hF]⟩
    | ret => exact loopLim_iff.2 ⟨1, by simp [iter, hF]⟩

section
variable {P : Program} {K : TypeId → Option (List Sc)} {D : Quiets}

def CLe (C C' : Calling) : Prop := ∀ f as H r, C f as H = some r → C' f as H = some r

theorem evalOp_mono {C C' : Calling} (h : CLe C C') {o : Op} {e : Env} {H : AHeap} {r} (k : evalOp P K C o e H = some r) : evalOp P K C' o e H = some r := by
  unfold evalOp at *
  split at k
  · exact k
  · exact h _ _ _ _ k

theorem evalOps_mono {C C' : Calling} (h : CLe C C') {q : List Nat} {ops : Array Oper} : ∀ {l : List Oper} {k : Nat} {e : Env} {H : AHeap} {r}, evalOps P K C q ops k l e H = some r → evalOps P K C' q ops k l e H = some r
  | [], _, _, _, _, hk => hk
  | o :: l, k, e, H, r, hk => by
    simp only [evalOps] at hk ⊢
    cases hw : wants e ops o with
    | none => rw [hw] at hk; cases hk
    | some w =>
      rw [hw] at hk
      simp only [Option.bind_some] at hk ⊢
      cases w with
      | true =>
        simp only [if_true] at hk ⊢
        cases ho : evalOp P K C o.op e H with
        | none => rw [ho] at hk; cases hk
        | some x =>
          rw [ho] at hk
          rw [evalOp_mono h ho]
          simp only [Option.bind_some] at hk ⊢
          split at hk
          · cases hk
          · rename_i hn
            rw [if_neg hn]
            exact evalOps_mono h hk
      | false =>
        simp only [Bool.false_eq_true, if_false] at hk ⊢
        exact evalOps_mono h hk

theorem iter_le {F F' : Env → AHeap → Rn} (h : ∀ e H r, F e H = some r → F' e H = some r) : ∀ {n : Nat} {e : Env} {H : AHeap} {r}, iter F n e H = some r → iter F' n e H = some r
  | 0, _, _, _, hk => by simp [iter] at hk
  | n + 1, e, H, r, hk => by
    simp only [iter] at hk ⊢
    cases hF : F e H with
    | none => rw [hF] at hk; cases hk
    | some x =>
      rw [hF] at hk
      rw [h _ _ _ hF]
      obtain ⟨x, e', H'⟩ := x
      cases x with
      | normal => exact iter_le h hk
      | exit id => exact hk
      | ret => exact hk

theorem evalCode_mono {C C' : Calling} (h : CLe C C') {f : FuncId} : ∀ {c : Code} {e : Env} {H : AHeap} {r}, evalCode P K C D f c e H = some r → evalCode P K C' D f c e H = some r
  | .skip, _, _, _, hk => hk
  | .region id ops draw, e, H, r, hk => by
    simp only [evalCode, Option.map_eq_some_iff] at hk ⊢
    obtain ⟨x, hx, rfl⟩ := hk
    exact ⟨x, evalOps_mono h hx, rfl⟩
  | .seq a b, e, H, r, hk => by
    simp only [evalCode, Option.bind_eq_some_iff] at hk ⊢
    obtain ⟨x, hx, hk⟩ := hk
    refine ⟨x, evalCode_mono h hx, ?_⟩
    obtain ⟨x, e', H'⟩ := x
    cases x with
    | normal => exact evalCode_mono h hk
    | exit id => exact hk
    | ret => exact hk
  | .cond c a b, e, H, r, hk => by
    simp only [evalCode] at hk ⊢
    split at hk
    · split at hk
      · rename_i ht; simp only [ht, if_true]; exact evalCode_mono h hk
      · rename_i ht; rw [if_neg ht]; exact evalCode_mono h hk
    · cases hk
  | .block id b, e, H, r, hk => by
    simp only [evalCode, Option.map_eq_some_iff] at hk ⊢
    obtain ⟨x, hx, rfl⟩ := hk
    exact ⟨x, evalCode_mono h hx, rfl⟩
  | .loop b, e, H, r, hk => by
    simp only [evalCode] at hk ⊢
    obtain ⟨n, hn⟩ := loopLim_iff.1 hk
    exact loopLim_iff.2 ⟨n, iter_le (fun _ _ _ hh => evalCode_mono h hh) hn⟩
  | .exit id, _, _, _, hk => hk
  | .ret, _, _, _, hk => hk
  | .scope _, _, _, _, hk => by simp [evalCode] at hk
  | .label _, _, _, _, hk => by simp [evalCode] at hk
  | .goto _, _, _, _, hk => by simp [evalCode] at hk
  | .refuse _, _, _, _, hk => by simp [evalCode] at hk
  | .rangeFunc .., _, _, _, hk => by simp [evalCode] at hk

theorem evalFn0_mono {C C' : Calling} (h : CLe C C') : CLe (evalFn0 P K D C) (evalFn0 P K D C') := by
  intro f as H r hk
  simp only [evalFn0, Option.bind_eq_some_iff] at hk ⊢
  obtain ⟨fn, hf, c, hc, hk⟩ := hk
  refine ⟨fn, hf, c, hc, ?_⟩
  split at hk
  · rename_i hl
    rw [if_pos hl]
    simp only [Option.bind_eq_some_iff] at hk ⊢
    obtain ⟨x, hx, hk⟩ := hk
    exact ⟨x, evalCode_mono h hx, hk⟩
  · cases hk

theorem evalFn_mono {C C' : Calling} (h : CLe C C') : CLe (evalFn P K D C) (evalFn P K D C') := by
  intro f as H r hk
  unfold evalFn at *
  cases hx : evalX P f as H with
  | some y => rw [hx] at hk; exact hk
  | none => rw [hx] at hk; exact evalFn0_mono h _ _ _ _ hk

theorem run_mono : ∀ {n m : Nat}, n ≤ m → CLe (run P K D n) (run P K D m)
  | 0, _, _ => fun _ _ _ _ h => by simp [run] at h
  | n + 1, 0, h => by omega
  | n + 1, m + 1, h => evalFn_mono (run_mono (by omega))

theorem runs_iff {f : FuncId} {as : List AV} {H : AHeap} {r} : runs P K D f as H = some r ↔ ∃ n, run P K D n f as H = some r := by
  unfold runs
  split
  · rename_i h
    have hc := Classical.choose_spec h
    constructor
    · intro k; exact ⟨_, k⟩
    · rintro ⟨n, hn⟩
      cases hx : run P K D (Classical.choose h) f as H with
      | none => exact absurd hx hc
      | some s =>
        have h1 := run_mono (P := P) (K := K) (D := D) (Nat.le_max_left (Classical.choose h) n) _ _ _ _ hx
        have h2 := run_mono (P := P) (K := K) (D := D) (Nat.le_max_right (Classical.choose h) n) _ _ _ _ hn
        rw [h1] at h2
        exact h2
  · rename_i h
    simp only [reduceCtorEq, false_iff]
    rintro ⟨n, hn⟩
    exact h ⟨n, by simp [hn]⟩

theorem run_le_runs (n : Nat) : CLe (run P K D n) (runs P K D) := fun _ _ _ _ h => runs_iff.2 ⟨n, h⟩

/-- What is told with all calls is told with some number of rounds. -/
theorem evalOps_cont {q : List Nat} {ops : Array Oper} : ∀ {l : List Oper} {k : Nat} {e : Env} {H : AHeap} {r}, evalOps P K (runs P K D) q ops k l e H = some r → ∃ n, evalOps P K (run P K D n) q ops k l e H = some r
  | [], _, _, _, _, hk => ⟨0, hk⟩
  | o :: l, k, e, H, r, hk => by
    simp only [evalOps] at hk
    cases hw : wants e ops o with
    | none => rw [hw] at hk; cases hk
    | some w =>
      rw [hw] at hk
      simp only [Option.bind_some] at hk
      cases w with
      | true =>
        simp only [if_true] at hk
        cases ho : evalOp P K (runs P K D) o.op e H with
        | none => rw [ho] at hk; cases hk
        | some x =>
          rw [ho] at hk
          simp only [Option.bind_some] at hk
          have h1 : ∃ n, evalOp P K (run P K D n) o.op e H = some x := by
            unfold evalOp at ho ⊢
            split at ho
            · exact ⟨0, ho⟩
            · exact runs_iff.1 ho
          obtain ⟨n, hn⟩ := h1
          split at hk
          · cases hk
          · rename_i hq
            obtain ⟨m, hm⟩ := evalOps_cont hk
            refine ⟨max n m, ?_⟩
            simp only [evalOps, hw, Option.bind_some, if_true]
            rw [evalOp_mono (run_mono (Nat.le_max_left n m)) hn]
            simp only [Option.bind_some]
            rw [if_neg hq]
            exact evalOps_mono (run_mono (Nat.le_max_right n m)) hm
      | false =>
        simp only [Bool.false_eq_true, if_false] at hk
        obtain ⟨m, hm⟩ := evalOps_cont hk
        exact ⟨m, by simp only [evalOps, hw, Option.bind_some, Bool.false_eq_true, if_false]; exact hm⟩

theorem iter_cont {F : Env → AHeap → Rn} {G : Nat → Env → AHeap → Rn} (hm : ∀ n m, n ≤ m → ∀ e H r, G n e H = some r → G m e H = some r) (h : ∀ e H r, F e H = some r → ∃ n, G n e H = some r) :
    ∀ {i : Nat} {e : Env} {H : AHeap} {r}, iter F i e H = some r → ∃ n, iter (G n) i e H = some r
  | 0, _, _, _, hk => by simp [iter] at hk
  | i + 1, e, H, r, hk => by
    simp only [iter] at hk
    cases hF : F e H with
    | none => rw [hF] at hk; cases hk
    | some x =>
      rw [hF] at hk
      obtain ⟨n, hn⟩ := h _ _ _ hF
      obtain ⟨x, e', H'⟩ := x
      cases x with
      | normal =>
        obtain ⟨m, hmm⟩ := iter_cont hm h hk
        refine ⟨max n m, ?_⟩
        simp only [iter, hm _ _ (Nat.le_max_left n m) _ _ _ hn]
        exact iter_le (fun e H r hh => hm _ _ (Nat.le_max_right n m) e H r hh) hmm
      | exit id => exact ⟨n, by simp only [iter, hn]; exact hk⟩
      | ret => exact ⟨n, by simp only [iter, hn]; exact hk⟩

theorem evalCode_cont {f : FuncId} : ∀ {c : Code} {e : Env} {H : AHeap} {r}, evalCode P K (runs P K D) D f c e H = some r → ∃ n, evalCode P K (run P K D n) D f c e H = some r
  | .skip, _, _, _, hk => ⟨0, hk⟩
  | .region id ops draw, e, H, r, hk => by
    simp only [evalCode, Option.map_eq_some_iff] at hk ⊢
    obtain ⟨x, hx, rfl⟩ := hk
    obtain ⟨n, hn⟩ := evalOps_cont hx
    exact ⟨n, x, hn, rfl⟩
  | .seq a b, e, H, r, hk => by
    simp only [evalCode, Option.bind_eq_some_iff] at hk ⊢
    obtain ⟨x, hx, hk⟩ := hk
    obtain ⟨n, hn⟩ := evalCode_cont hx
    obtain ⟨x, e', H'⟩ := x
    cases x with
    | normal =>
      obtain ⟨m, hm⟩ := evalCode_cont hk
      exact ⟨max n m, _, evalCode_mono (run_mono (Nat.le_max_left n m)) hn, evalCode_mono (run_mono (Nat.le_max_right n m)) hm⟩
    | exit id => exact ⟨n, _, hn, hk⟩
    | ret => exact ⟨n, _, hn, hk⟩
  | .cond c a b, e, H, r, hk => by
    simp only [evalCode] at hk ⊢
    split at hk
    · split at hk
      · rename_i h1; simp only [h1, if_true]; exact evalCode_cont hk
      · rename_i h1; simp only [if_neg h1]; exact evalCode_cont hk
    · cases hk
  | .block id b, e, H, r, hk => by
    simp only [evalCode, Option.map_eq_some_iff] at hk ⊢
    obtain ⟨x, hx, rfl⟩ := hk
    obtain ⟨n, hn⟩ := evalCode_cont hx
    exact ⟨n, x, hn, rfl⟩
  | .loop b, e, H, r, hk => by
    simp only [evalCode] at hk ⊢
    obtain ⟨i, hi⟩ := loopLim_iff.1 hk
    obtain ⟨n, hn⟩ := iter_cont (G := fun n => evalCode P K (run P K D n) D f b) (fun n m h e H r hh => evalCode_mono (run_mono h) hh) (fun e H r hh => evalCode_cont hh) hi
    exact ⟨n, loopLim_iff.2 ⟨i, hn⟩⟩
  | .exit id, _, _, _, hk => ⟨0, hk⟩
  | .ret, _, _, _, hk => ⟨0, hk⟩
  | .scope _, _, _, _, hk => by simp [evalCode] at hk
  | .label _, _, _, _, hk => by simp [evalCode] at hk
  | .goto _, _, _, _, hk => by simp [evalCode] at hk
  | .refuse _, _, _, _, hk => by simp [evalCode] at hk
  | .rangeFunc .., _, _, _, hk => by simp [evalCode] at hk

/-- A call is its body, its calls being calls. -/
theorem runs_eq (f : FuncId) (as : List AV) (H : AHeap) : runs P K D f as H = evalFn P K D (runs P K D) f as H := by
  apply Option.ext
  intro r
  constructor
  · intro h
    obtain ⟨n, hn⟩ := runs_iff.1 h
    cases n with
    | zero => simp [run] at hn
    | succ n => exact evalFn_mono (run_le_runs n) _ _ _ _ hn
  · intro h
    unfold evalFn at h
    cases hx : evalX P f as H with
    | some y => rw [hx] at h; exact runs_iff.2 ⟨1, by simp only [run, evalFn, hx]; exact h⟩
    | none =>
    rw [hx] at h
    simp only [evalFn0, Option.bind_eq_some_iff] at h
    obtain ⟨fn, hf, c, hc, h⟩ := h
    split at h
    · rename_i hl
      simp only [Option.bind_eq_some_iff] at h
      obtain ⟨x, hx2, h⟩ := h
      obtain ⟨n, hn⟩ := evalCode_cont hx2
      refine runs_iff.2 ⟨n + 1, ?_⟩
      simp only [run, evalFn, hx, evalFn0, Option.bind_eq_some_iff]
      exact ⟨fn, hf, c, hc, by rw [if_pos hl]; simp only [Option.bind_eq_some_iff]; exact ⟨x, hn, h⟩⟩
    · cases h
end
end Go.Proofs.Ytghjglnebcpcmaa
/-! What a new block, a written block, a killed object do to the relation between the abstract heap and the world. -/
namespace Go.Proofs.Ytghjglnebcpcmaa
open Go.RowKit

theorem World.cell?_heap {w w' : World} {b off : Nat} (h : w'.heap[b]? = w.heap[b]?) : w'.cell? ⟨b, off, none⟩ = w.cell? ⟨b, off, none⟩ := by
  unfold World.cell?
  rw [h]

theorem Sim.lt {S : St} (h : Sim S) {b : Nat} (ho : S.owned b) : b < S.w.heap.size := by
  obtain ⟨o, h1, _, rfl⟩ := ho
  exact h.below o h1

/-- An object whose block is as it was is what it was. -/
theorem ObjR.same {m : Nat} {S T : St} (hE : ExtB m S T) {o : Nat} (ho : o < S.H.size) {x : AObj} (hb : T.w.heap[(S.ι o).1]? = S.w.heap[(S.ι o).1]?) (h : ObjR S o x) : ObjR T o x := by
  cases h with
  | dead => exact .dead
  | cells cs c e xs h1 h2 h3 h4 =>
    rw [← hE.ι o ho] at h3 h4
    exact .cells cs c e xs (by rw [hE.ι o ho, hb]; exact h1) (h2.ext hE) h3 h4
  | map sh es ms clock h1 h2 => exact .map sh es ms clock (by rw [hE.ι o ho, hb]; exact h1) (h2.ext hE)
  | iter s pos h1 => exact .iter s pos (by rw [hE.ι o ho, hb]; exact h1)

def St.alloc (S : St) (x : AObj) (w' : World) : St := ⟨fun o => if o = S.H.size then (S.w.heap.size, 0) else S.ι o, S.H.new x, w', S.fz⟩

/-- A world with one block more. -/
structure Grew (w w' : World) (o : Obj) : Prop where
  os : w'.os = w.os
  tape : w'.tape = w.tape
  output : w'.output = w.output
  heap : w'.heap = w.heap.push o

theorem Grew.old {w w' : World} {o : Obj} (h : Grew w w' o) {b : Nat} (hb : b < w.heap.size) : w'.heap[b]? = w.heap[b]? := by
  rw [h.heap, Array.getElem?_push, if_neg (by omega)]
theorem Grew.new {w w' : World} {o : Obj} (h : Grew w w' o) : w'.heap[w.heap.size]? = some o := by
  rw [h.heap]; simp
theorem Grew.alloc (w : World) (o : Obj) : Grew w (w.alloc o) o := ⟨rfl, rfl, rfl, rfl⟩
theorem Grew.drew (w : World) (o : Obj) : Grew w (w.drew.alloc o) o := ⟨rfl, rfl, rfl, rfl⟩

theorem cellsAt_lt {w : World} {b m : Nat} (h : cellsAt w b m) : b < w.heap.size := by
  obtain ⟨c, e, fr, h, _⟩ := h
  exact (Array.getElem?_eq_some_iff.1 h).1

theorem alloc_ext {S : St} (hS : Sim S) {x : AObj} {w' : World} {o : Obj} (hg : Grew S.w w' o) : Ext S (S.alloc x w') := by
  refine ⟨hg.os, hg.tape, hg.output, by simp [St.alloc, hg.heap], by simp [St.alloc, AHeap.new], fun o ho => ?_, fun b m hb => ?_, fun b hb ho => ⟨hg.old (hb.elim (hS.lo b) id), ?_⟩, fun _ => Nat.le_refl _, fun o ho _ => ?_, fun _ h => h, fun _ h => .inl h⟩
  · simp only [St.alloc]; rw [if_neg (by omega)]
  · obtain ⟨c, e, fr, h1, h2⟩ := hb
    exact ⟨c, e, fr, by rw [show (S.alloc x w').w = w' from rfl, hg.old (Array.getElem?_eq_some_iff.1 h1).1]; exact h1, h2⟩
  · replace hb : b < S.w.heap.size := hb.elim (hS.lo b) id
    rintro ⟨o', h1, h2, h3⟩
    simp only [St.alloc, AHeap.new] at h1 h2 h3
    by_cases he : o' = S.H.size
    · rw [if_pos he] at h3; simp only at h3; omega
    · rw [if_neg he] at h2 h3
      exact ho ⟨o', by omega, h2, h3⟩
  · simp only [St.alloc, AHeap.new]; rw [if_neg (by omega)]

theorem alloc_sim {S : St} (hS : Sim S) {x : AObj} {w' : World} {o : Obj} (hg : Grew S.w w' o) (hx : ObjR (S.alloc x w') S.H.size x) : Sim (S.alloc x w') := by
  have hE := alloc_ext hS (x := x) hg
  have hsz : w'.heap.size = S.w.heap.size + 1 := by simp [hg.heap]
  refine ⟨fun o ho => ?_, fun o o' ho ho' hl hl' he => ?_, fun o ho => ?_, fun b hb => by show b < w'.heap.size; rw [hsz]; exact Nat.lt_succ_of_lt (hS.lo b hb)⟩
  · simp only [St.alloc, AHeap.new] at ho
    by_cases h : o = S.H.size
    · subst h
      simpa [St.alloc, AHeap.new] using hx
    · have h1 : o < S.H.size := by omega
      have := (hS.objs o h1).same hE h1 (hg.old (hS.below o h1))
      simpa [St.alloc, AHeap.new, h] using this
  · simp only [St.alloc, AHeap.new] at ho ho' hl hl' he
    by_cases h : o = S.H.size <;> by_cases h' : o' = S.H.size
    · omega
    · rw [if_pos h, if_neg h'] at he
      have := hS.below o' (by omega)
      simp only at he; omega
    · rw [if_neg h, if_pos h'] at he
      have := hS.below o (by omega)
      simp only at he; omega
    · rw [if_neg h, if_neg h'] at he
      rw [if_neg h] at hl
      rw [if_neg h'] at hl'
      exact hS.inj o o' (by omega) (by omega) hl hl' he
  · simp only [St.alloc, AHeap.new] at ho ⊢
    by_cases h : o = S.H.size
    · rw [if_pos h, hsz]; simp
    · rw [if_neg h, hsz]
      have := hS.below o (by omega)
      omega

/-- A new row of cells; the machine may lay spare cells behind it. -/
theorem alloc_cellsF {S : St} (hS : Sim S) {cs : List AV} {xs : List Value} (hv : VRs S cs xs) {c : Array Value} {e : TypeId} {fr : Nat × Nat} (hfr : fr = (0, 0) ∨ c.size ≤ fr.1) (extra : List Value) (hc : c.toList = xs ++ extra) {w' : World} (hg : Grew S.w w' (.cells c e fr)) :
    Sim (S.alloc (.cells cs) w') ∧ Ext S (S.alloc (.cells cs) w') ∧ (S.alloc (.cells cs) w').ι S.H.size = (S.w.heap.size, 0) ∧ cellsAt w' S.w.heap.size c.size := by
  have hE := alloc_ext hS (x := .cells cs) hg
  have hι : (S.alloc (.cells cs) w').ι S.H.size = (S.w.heap.size, 0) := by simp [St.alloc]
  have hsz : xs.length + extra.length = c.size := by rw [← Array.length_toList, hc]; simp
  refine ⟨alloc_sim hS hg (.cells cs c e xs ?_ (hv.ext hE) ?_ ?_), hE, hι, ⟨c, e, _, hg.new, rfl⟩⟩
  · rw [hι]; exact ⟨fr, hg.new, hfr⟩
  · rw [hι]; simp only; omega
  · intro j x hj
    rw [hι]
    simp only [Nat.zero_add]
    rw [← Array.getElem?_toList, hc, List.getElem?_append_left (List.getElem?_eq_some_iff.1 hj).1]
    exact hj

theorem alloc_cells {S : St} (hS : Sim S) {cs : List AV} {xs : List Value} (hv : VRs S cs xs) {c : Array Value} {e : TypeId} (extra : List Value) (hc : c.toList = xs ++ extra) {w' : World} (hg : Grew S.w w' (.cells c e (0, 0))) :
    Sim (S.alloc (.cells cs) w') ∧ Ext S (S.alloc (.cells cs) w') ∧ (S.alloc (.cells cs) w').ι S.H.size = (S.w.heap.size, 0) ∧ cellsAt w' S.w.heap.size c.size := alloc_cellsF hS hv (.inl rfl) extra hc hg

theorem alloc_obj {S : St} (hS : Sim S) {x : AObj} {o : Obj} {w' : World} (hg : Grew S.w w' o) (hx : ∀ T : St, T.w = w' → (T.ι S.H.size).1 = S.w.heap.size → ObjR T S.H.size x) :
    Sim (S.alloc x w') ∧ Ext S (S.alloc x w') ∧ (S.alloc x w').ι S.H.size = (S.w.heap.size, 0) :=
  ⟨alloc_sim hS hg (hx _ rfl (by simp [St.alloc])), alloc_ext hS hg, by simp [St.alloc]⟩

/-- A world in which one block was put in another's place. -/
structure Wrote (w w' : World) (b : Nat) (o : Obj) : Prop where
  os : w'.os = w.os
  tape : w'.tape = w.tape
  output : w'.output = w.output
  size : w'.heap.size = w.heap.size
  here : w'.heap[b]? = some o
  other : ∀ k, k ≠ b → w'.heap[k]? = w.heap[k]?

theorem Wrote.setRow {w : World} {b : Nat} {old cs : Array Value} {t : TypeId} {fr : Nat × Nat} (h : w.heap[b]? = some (.cells old t fr)) : Wrote w (w.setRow b cs) b (.cells cs t fr) :=
  ⟨rfl, rfl, rfl, by simp [World.setRow], setRow_heap w b old cs t fr h, fun k hk => setRow_other w b k cs hk⟩

theorem Wrote.setObj {w : World} {b : Nat} (h : b < w.heap.size) (o : Obj) : Wrote w { w with heap := w.heap.setIfInBounds b o } b o :=
  ⟨rfl, rfl, rfl, by simp, by simp [h], fun k hk => by simp [Array.getElem?_setIfInBounds_ne (Ne.symm hk)]⟩

def St.put (S : St) (o : Nat) (x : AObj) (w' : World) : St := ⟨S.ι, S.H.set o x, w', S.fz⟩

theorem put_ext {S : St} {o : Nat} (ho : o < S.H.size) (hl : (S.H.obj o).live) {x : AObj} {w' : World} {ob : Obj} (hw : Wrote S.w w' (S.ι o).1 ob)
    (hc : ∀ m, cellsAt S.w (S.ι o).1 m → cellsAt w' (S.ι o).1 m) : Ext S (S.put o x w') := by
  refine ⟨hw.os, hw.tape, hw.output, Nat.le_of_eq hw.size.symm, Nat.le_refl _, fun _ _ => rfl, fun b m hb => ?_, fun b hb hn => ⟨?_, ?_⟩, fun k => by simp only [St.put, AHeap.set]; split <;> omega, fun k _ h => by simp only [St.put, AHeap.set] at h ⊢; split at h <;> first | omega | (rename_i hn; rw [if_neg hn]), fun _ h => h, fun _ h => .inl h⟩
  · by_cases h : b = (S.ι o).1
    · subst h; exact hc m hb
    · obtain ⟨c, e, fr, h1, h2⟩ := hb
      exact ⟨c, e, fr, by rw [show (S.put o x w').w = w' from rfl, hw.other b h]; exact h1, h2⟩
  · exact hw.other b fun e => hn ⟨o, ho, hl, e.symm⟩
  · rintro ⟨o', h1, h2, h3⟩
    simp only [St.put, AHeap.set] at h1 h2 h3
    by_cases he : o' = o
    · subst he; exact hn ⟨o', ho, hl, h3⟩
    · rw [if_neg he] at h2; exact hn ⟨o', h1, h2, h3⟩

theorem put_sim {S : St} (hS : Sim S) {o : Nat} (ho : o < S.H.size) (hl : (S.H.obj o).live) {x : AObj} {w' : World} {ob : Obj} (hw : Wrote S.w w' (S.ι o).1 ob)
    (hc : ∀ m, cellsAt S.w (S.ι o).1 m → cellsAt w' (S.ι o).1 m) (hx : ObjR (S.put o x w') o x) : Sim (S.put o x w') := by
  have hE := put_ext (x := x) ho hl hw hc
  refine ⟨fun p hp => ?_, fun p p' hp hp' h h' he => ?_, fun p hp => ?_, fun b hb => by show b < w'.heap.size; rw [hw.size]; exact hS.lo b hb⟩
  · by_cases h : p = o
    · subst h; simpa [St.put, AHeap.set] using hx
    · have hp' : p < S.H.size := hp
      by_cases hlive : (S.H.obj p).live
      · have := (hS.objs p hp').same hE hp' (hw.other _ fun e => h (hS.inj p o hp' ho hlive hl e))
        simpa [St.put, AHeap.set, h] using this
      · have hd : S.H.obj p = .dead := by
          cases hx : S.H.obj p <;> simp [hx, AObj.live] at hlive ⊢
        simp only [St.put, AHeap.set, if_neg h, hd]
        exact .dead
  · have g : ∀ q, ((S.put o x w').H.obj q).live → (S.H.obj q).live := by
      intro q hq
      by_cases h : q = o
      · subst h; exact hl
      · simpa [St.put, AHeap.set, h] using hq
    exact hS.inj p p' hp hp' (g p h) (g p' h') he
  · show (S.ι p).1 < w'.heap.size
    rw [hw.size]
    exact hS.below p hp

/-- Cells are written within an object. -/
theorem put_cells {S : St} (hS : Sim S) {o : Nat} (ho : o < S.H.size) {cs : List AV} (hobj : S.H.obj o = .cells cs) {c : Array Value} {e : TypeId} {fr : Nat × Nat} (hb : S.w.heap[(S.ι o).1]? = some (.cells c e fr)) (ht : fr = (0, 0) ∨ c.size ≤ fr.1)
    {cs' : List AV} {xs' : List Value} (hv : VRs S cs' xs') {c' : Array Value} (hsz : c'.size = c.size) (hfit : (S.ι o).2 + xs'.length ≤ c.size) (hget : ∀ j x, xs'[j]? = some x → c'[(S.ι o).2 + j]? = some x) {w' : World} (hw : Wrote S.w w' (S.ι o).1 (.cells c' e fr)) :
    Sim (S.put o (.cells cs') w') ∧ Ext S (S.put o (.cells cs') w') := by
  have hl : (S.H.obj o).live := by rw [hobj]; trivial
  have hc : ∀ m, cellsAt S.w (S.ι o).1 m → cellsAt w' (S.ι o).1 m := by
    rintro m ⟨c1, e1, fr1, h1, h2⟩
    rw [hb] at h1
    cases h1
    exact ⟨c', e, _, hw.here, by omega⟩
  have hE := put_ext (x := .cells cs') ho hl hw hc
  refine ⟨put_sim hS ho hl hw hc (.cells cs' c' e xs' ?_ (hv.ext hE) ?_ ?_), hE⟩
  · exact ⟨fr, hw.here, by rw [hsz]; exact ht⟩
  · show (S.ι o).2 + xs'.length ≤ c'.size; omega
  · exact hget

/-- A map is put in the place of a map. -/
theorem put_map {S : St} (hS : Sim S) {o : Nat} (ho : o < S.H.size) {sh : KSh} {es : List AEnt} {clock : Nat} (hobj : S.H.obj o = .map sh es clock) {ms0 : Array MapEntry} {c0 : Nat} (hb : S.w.heap[(S.ι o).1]? = some (.map ms0 c0))
    {es' : List AEnt} {clock' : Nat} {ms' : List MapEntry} (hv : EntR S sh es' ms') :
    Sim (S.put o (.map sh es' clock') { S.w with heap := S.w.heap.setIfInBounds (S.ι o).1 (.map ms'.toArray clock') }) ∧ Ext S (S.put o (.map sh es' clock') { S.w with heap := S.w.heap.setIfInBounds (S.ι o).1 (.map ms'.toArray clock') }) := by
  have hl : (S.H.obj o).live := by rw [hobj]; trivial
  have hw := Wrote.setObj (hS.below o ho) (.map ms'.toArray clock')
  have hc : ∀ m, cellsAt S.w (S.ι o).1 m → cellsAt { S.w with heap := S.w.heap.setIfInBounds (S.ι o).1 (.map ms'.toArray clock') } (S.ι o).1 m := by
    rintro m ⟨c1, e1, fr1, h1, h2⟩
    rw [hb] at h1
    cases h1
  have hE := put_ext (x := .map sh es' clock') ho hl hw hc
  exact ⟨put_sim hS ho hl hw hc (.map sh es' ms' clock' hw.here (hv.ext hE)), hE⟩

def St.kill (S : St) (o : Nat) (x : AObj) (p : Nat × Nat) (w' : World) : St := ⟨fun k => if k = S.H.size then p else S.ι k, (S.H.set o .dead).new x, w', S.fz⟩

/-- An object dies, and a new one has its block, or one of its own. -/
theorem kill_cells {S : St} (hS : Sim S) {o : Nat} (ho : o < S.H.size) (hl : (S.H.obj o).live) {cs' : List AV} {xs' : List Value} (hv : VRs S cs' xs') {p : Nat × Nat} {c' : Array Value} {e : TypeId} {w' : World}
    (hos : w'.os = S.w.os) (ht : w'.tape = S.w.tape) (hout : w'.output = S.w.output) (hsize : S.w.heap.size ≤ w'.heap.size)
    (hp : p.1 = (S.ι o).1 ∨ S.w.heap.size ≤ p.1) (hhere' : Held w'.heap[p.1]? c' e) (hother : ∀ k, k < S.w.heap.size → k ≠ p.1 → w'.heap[k]? = S.w.heap[k]?)
    (hc : ∀ m, cellsAt S.w p.1 m → m = c'.size) (hfit : p.2 + xs'.length ≤ c'.size) (hget : ∀ j x, xs'[j]? = some x → c'[p.2 + j]? = some x) :
    Sim (S.kill o (.cells cs') p w') ∧ Ext S (S.kill o (.cells cs') p w') ∧ (S.kill o (.cells cs') p w').ι S.H.size = p ∧ cellsAt w' p.1 c'.size := by
  obtain ⟨fr, hhere, hfr⟩ := hhere'
  have hpl : p.1 < w'.heap.size := (Array.getElem?_eq_some_iff.1 hhere).1
  have hobj : ∀ k, (S.kill o (.cells cs') p w').H.obj k = if k = S.H.size then .cells cs' else if k = o then .dead else S.H.obj k := fun _ => rfl
  have hι : ∀ k, (S.kill o (.cells cs') p w').ι k = if k = S.H.size then p else S.ι k := fun _ => rfl
  have hsz : (S.kill o (.cells cs') p w').H.size = S.H.size + 1 := rfl
  have hE : Ext S (S.kill o (.cells cs') p w') := by
    refine ⟨hos, ht, hout, hsize, by simp [St.kill, AHeap.new, AHeap.set], fun k hk => ?_, fun b m hb => ?_, fun b hb hn => ⟨?_, ?_⟩, fun k => by simp only [St.kill, AHeap.new, AHeap.set]; split <;> omega, fun k hk h => by rw [hobj, if_neg (Nat.ne_of_lt hk)]; simp only [St.kill, AHeap.new, AHeap.set] at h; split at h <;> first | omega | (rename_i hn; rw [if_neg hn]), fun _ h => h, fun _ h => .inl h⟩
    · simp only [St.kill]; rw [if_neg (by omega)]
    · have hlt := cellsAt_lt hb
      by_cases h : b = p.1
      · subst h; exact ⟨c', e, _, hhere, (hc m hb).symm⟩
      · obtain ⟨c1, e1, fr1, h1, h2⟩ := hb
        exact ⟨c1, e1, fr1, by rw [show (S.kill o (.cells cs') p w').w = w' from rfl, hother b hlt h]; exact h1, h2⟩
    · replace hb : b < S.w.heap.size := hb.elim (hS.lo b) id
      exact hother b hb fun h => by
        rcases hp with hp | hp
        · exact hn ⟨o, ho, hl, by rw [← hp, h]⟩
        · omega
    · replace hb : b < S.w.heap.size := hb.elim (hS.lo b) id
      rintro ⟨o', h1, h2, h3⟩
      rw [hsz] at h1; rw [hobj] at h2; rw [hι] at h3
      by_cases he : o' = S.H.size
      · rw [if_pos he] at h3
        rcases hp with hp | hp
        · exact hn ⟨o, ho, hl, by rw [← hp, h3]⟩
        · omega
      · rw [if_neg he] at h2 h3
        by_cases he2 : o' = o
        · rw [if_pos he2] at h2; exact h2
        · rw [if_neg he2] at h2; exact hn ⟨o', by omega, h2, h3⟩
  refine ⟨⟨fun k hk => ?_, fun k k' hk hk' h h' he => ?_, fun k hk => ?_, fun b hb => Nat.lt_of_lt_of_le (hS.lo b hb) hsize⟩, hE, by simp [St.kill], ⟨c', e, _, hhere, rfl⟩⟩
  · by_cases h : k = S.H.size
    · subst h
      have : (S.kill o (.cells cs') p w').H.obj S.H.size = .cells cs' := by simp [St.kill, AHeap.new, AHeap.set]
      rw [this]
      refine .cells cs' c' e xs' ?_ (hv.ext hE) ?_ ?_
      · refine ⟨fr, ?_, hfr⟩
        simpa [St.kill] using hhere
      · simpa [St.kill] using hfit
      · simpa [St.kill] using hget
    · have hk' : k < S.H.size := by simp [St.kill, AHeap.new, AHeap.set] at hk; omega
      by_cases h2 : k = o
      · subst h2
        rw [hobj, if_neg h, if_pos rfl]
        exact .dead
      · by_cases hlive : (S.H.obj k).live
        · have := (hS.objs k hk').same hE hk' (hother _ (hS.below k hk') fun e => by
            rcases hp with hp | hp
            · exact h2 (hS.inj k o hk' ho hlive hl (e.trans hp))
            · have := hS.below k hk'; omega)
          rw [hobj, if_neg h, if_neg h2]
          exact this
        · have hd : S.H.obj k = .dead := by
            cases hx : S.H.obj k <;> simp [hx, AObj.live] at hlive ⊢
          rw [hobj, if_neg h, if_neg h2, hd]
          exact .dead
  · have g : ∀ q, q ≠ S.H.size → q < (S.kill o (.cells cs') p w').H.size → ((S.kill o (.cells cs') p w').H.obj q).live → q < S.H.size ∧ q ≠ o ∧ (S.H.obj q).live := by
      intro q hq hqs hql
      rw [hobj, if_neg hq] at hql
      rw [hsz] at hqs
      by_cases h : q = o
      · rw [if_pos h] at hql; exact hql.elim
      · rw [if_neg h] at hql; exact ⟨by omega, h, hql⟩
    have gι : ∀ q, q ≠ S.H.size → (S.kill o (.cells cs') p w').ι q = S.ι q := by
      intro q hq; simp only [St.kill]; rw [if_neg hq]
    have gn : (S.kill o (.cells cs') p w').ι S.H.size = p := by simp [St.kill]
    have apart : ∀ q, q < S.H.size → q ≠ o → (S.H.obj q).live → (S.ι q).1 ≠ p.1 := by
      intro q hq hqo hql e
      rcases hp with hp | hp
      · exact hqo (hS.inj q o hq ho hql hl (e.trans hp))
      · have := hS.below q hq; omega
    by_cases h1 : k = S.H.size <;> by_cases h2 : k' = S.H.size
    · omega
    · obtain ⟨a1, a2, a3⟩ := g k' h2 hk' h'
      rw [h1, gn, gι k' h2] at he
      exact absurd he.symm (apart k' a1 a2 a3)
    · obtain ⟨a1, a2, a3⟩ := g k h1 hk h
      rw [h2, gn, gι k h1] at he
      exact absurd he (apart k a1 a2 a3)
    · obtain ⟨a1, a2, a3⟩ := g k h1 hk h
      obtain ⟨b1, b2, b3⟩ := g k' h2 hk' h'
      rw [gι k h1, gι k' h2] at he
      exact hS.inj k k' a1 b1 a3 b3 he
  · show ((S.kill o (.cells cs') p w').ι k).1 < w'.heap.size
    by_cases h : k = S.H.size
    · subst h; simp only [St.kill, if_pos]; exact hpl
    · simp only [St.kill]; rw [if_neg h]
      have hk' : k < S.H.size := by simp [St.kill, AHeap.new, AHeap.set] at hk; omega
      exact Nat.lt_of_lt_of_le (hS.below k hk') hsize

end Go.Proofs.Ytghjglnebcpcmaa
/-! The interpreter is right: operations that read and compute. -/
namespace Go.Proofs.Ytghjglnebcpcmaa
open Go.RowKit

/-- What the judgement of '==' and of keys needs of a struct's or an array's type: that it goes scalar by scalar. -/
structure KeyOK (P : Program) (t : TypeId) (sh : List Sc) : Prop where
  eq : ∀ (S : St) (w : World) (as bs : List AV) (xs ys : List Value), conf sh as = true → conf sh bs = true → VRs S as xs → VRs S bs ys → (Op.equal t (.agg xs.toArray) (.agg ys.toArray)).run P w = .ok (scsEq as bs) w
  guard : P.eqGuardType P.depth t = false
  chk : ∀ (S : St) (em : Bool) (w : World) (as : List AV) (xs : List Value), conf sh as = true → VRs S as xs → (Instr.checkKey em 10000 t (.agg xs.toArray)).run P w = .ok () w

def KeysOK (P : Program) (K : TypeId → Option (List Sc)) : Prop := ∀ t sh, K t = some sh → KeyOK P t sh

def EnvR (S : St) (e : Env) (tmps : Array Value) : Prop := ∀ t v, e t = some v → ∃ x, tmps[t]? = some x ∧ VR S v x

theorem EnvR.ext {S T : St} (h : Ext S T) {e : Env} {tmps : Array Value} (hE : EnvR S e tmps) : EnvR T e tmps :=
  fun t v hv => let ⟨x, hx, hr⟩ := hE t v hv; ⟨x, hx, hr.ext h⟩

theorem ofCell_sound (S : St) {v : Value} {a : AV} (h : ofCell v = some a) : VR S a v := by
  unfold ofCell at h
  split at h <;> first | cases h | skip
  all_goals first
    | exact .bool _
    | exact .int _ _
    | exact .str _
    | exact .nilp
    | exact .nils
    | exact .nilm
    | exact .nilf
    | exact .nili

theorem ofCells_sound (S : St) : ∀ {vs : List Value} {as : List AV}, ofCells vs = some as → VRs S as vs
  | [], as, h => by simp [ofCells] at h; subst h; exact .nil
  | v :: vs, as, h => by
    simp only [ofCells, Option.bind_eq_some_iff, Option.map_eq_some_iff] at h
    obtain ⟨a, ha, bs, hb, rfl⟩ := h
    exact .cons a v bs vs (ofCell_sound S ha) (ofCells_sound S hb)

theorem ofValue_sound (S : St) {v : Value} {a : AV} (h : ofValue v = some a) : VR S a v := by
  unfold ofValue at h
  split at h
  · rename_i cs
    simp only [Option.map_eq_some_iff] at h
    obtain ⟨as, ha, rfl⟩ := h
    have := VR.agg (S := S) as cs.toList (ofCells_sound S ha)
    simpa using this
  · exact ofCell_sound S h

theorem evalOpd_sound {S : St} {e : Env} {a : Act} (hE : EnvR S e a.tmps) {x : Operand} {v : AV} (h : evalOpd e x = some v) : VR S v (a.eval x) := by
  cases x with
  | tmp t =>
    obtain ⟨y, hy, hr⟩ := hE t v h
    simp only [Act.eval, Array.getD_eq_getD_getElem?, hy, Option.getD_some]
    exact hr
  | const c => exact ofValue_sound S h
  | global g => cases h
  | func f => simp [evalOpd] at h; subst h; exact .fn (.func f) [] [] [] [] .nil .nil

theorem evalOpds_sound {S : St} {e : Env} {a : Act} (hE : EnvR S e a.tmps) : ∀ {xs : List Operand} {vs : List AV}, evalOpds e xs = some vs → VRs S vs (xs.map a.eval)
  | [], vs, h => by simp [evalOpds] at h; subst h; exact .nil
  | x :: xs, vs, h => by
    simp only [evalOpds, Option.bind_eq_some_iff, Option.map_eq_some_iff] at h
    obtain ⟨v, hv, ws, hw, rfl⟩ := h
    exact .cons v _ ws _ (evalOpd_sound hE hv) (evalOpds_sound hE hw)

theorem VR.cells {S : St} {v : AV} {x : Value} (h : VR S v x) : VRs S v.cells x.cells.toList := by
  cases h <;> first
    | (simp only [AV.cells, Value.cells]; assumption)
    | skip
  all_goals simp only [AV.cells, Value.cells]
  all_goals exact .cons _ _ _ _ (by first | exact .bool _ | exact .int _ _ | exact .str _ | exact .nilp | exact .nils | exact .nilm | exact .nilf | exact .nili | exact .lst0 _ _ _ | exact .ptr _ _ _ ‹_› ‹_› | exact .map _ ‹_› | exact .ptrl _ _ _ _ _ ‹_› ‹_› ‹_› ‹_› | exact .row _ _ _ _ _ _ _ ‹_› ‹_› ‹_› ‹_› ‹_› ‹_› | exact .row0 _ _ _ _ _ _ ‹_› ‹_› | exact .lst _ _ _ _ _ _ _ ‹_› ‹_› ‹_› ‹_› ‹_› ‹_› | exact .fn _ _ _ _ _ ‹_› ‹_› | exact .ifc _ _ _ ‹_› | exact .tup _ _ ‹_›) .nil

theorem VR.one {S : St} {v : AV} {x : Value} (h : VR S v x) (h1 : v.one = true) : x.oneCell' = true := by
  cases h <;> first | rfl | (simp [AV.one] at h1)

theorem VRs.ones {S : St} : ∀ {as : List AV} {xs : List Value}, VRs S as xs → allOne as = true → ∀ x ∈ xs, x.oneCell' = true
  | _, _, .nil, _, x, hx => by simp at hx
  | _, _, .cons a y as ys ha hs, h1, x, hx => by
    simp [allOne] at h1
    rcases List.mem_cons.1 hx with rfl | hx
    · exact ha.one h1.1
    · exact hs.ones h1.2 x hx

section
variable {P : Program} {K : TypeId → Option (List Sc)}

theorem run_typeInfo {t : TypeId} {i : TypeInfo} (h : P.info? t = some i) (w : World) : (typeInfo t).run P w = .ok i w := by simp [typeInfo, h]
theorem tS_some {t : TypeId} {n : Nat} (h : tS P t = some n) : ∃ i, P.info? t = some i ∧ i.size = n := by simpa [tS] using h
theorem run_sizeOf {t : TypeId} {n : Nat} (h : tS P t = some n) (w : World) : (sizeOf t).run P w = .ok n w := by
  obtain ⟨i, hi, rfl⟩ := tS_some h
  simp [sizeOf, run_typeInfo hi]
theorem run_isAgg {t : TypeId} {b : Bool} (h : isAggT P t = some b) (w : World) : (isAgg t).run P w = .ok b w := by
  unfold isAggT at h
  unfold isAgg
  split at h <;> first | cases h | skip
  · rename_i hu; simp [run_underlying hu]
  · rename_i hu; simp [run_underlying hu]
  · rename_i d h1 h2 hu
    simp only [Sem.run_bind, run_underlying hu, Result.andThen_ok]
    cases d <;> first | rfl | exact (h1 _ rfl).elim | exact (h2 _ _ rfl).elim

theorem add_plain (b off n : Nat) : (⟨b, off, none⟩ : Addr).add n = ⟨b, off + n, none⟩ := Addr.add_lit b off n

theorem loadC_sound {S : St} {w : World} {t : TypeId} {cs : List AV} {xs : List Value} {off b base : Nat} {v : AV} (hs : VRs S cs xs) (hc : ∀ j x, xs[j]? = some x → w.cell? ⟨b, base + j, none⟩ = some x)
    (h : loadC P t cs off = some v) : ∃ y, (loadVar t ⟨b, base + off, none⟩).run P w = .ok y w ∧ VR S v y := by
  unfold loadC at h
  split at h
  · rename_i hg
    simp only [Option.bind_eq_some_iff] at h
    obtain ⟨n, hn, h⟩ := h
    split at h
    · rename_i hle
      cases h
      refine ⟨.agg ((xs.drop off).take n).toArray, ?_, .agg _ _ ((hs.drop off).take n)⟩
      have hl := hs.length
      have hlen : ((xs.drop off).take n).length = n := by simp; omega
      have hload := run_loadCells_list (P := P) w ⟨b, base + off, none⟩ ((xs.drop off).take n) (fun j x hj => by
        rw [add_plain, Nat.add_assoc]
        apply hc
        rw [List.getElem?_take] at hj
        split at hj
        · rw [List.getElem?_drop] at hj; exact hj
        · cases hj)
      rw [hlen] at hload
      simp [loadVar, run_isAgg hg, run_sizeOf hn, hload]
    · cases h
  · rename_i hg
    obtain ⟨x, hx, hv⟩ := hs.get h
    refine ⟨x, ?_, hv⟩
    simp [loadVar, run_isAgg hg, hc off x hx]
  · cases h

theorem part_sound {S : St} {w : World} {t : TypeId} {cs : List AV} {xs : List Value} {off : Nat} {v : AV} (hs : VRs S cs xs) (h : loadC P t cs off = some v) :
    ∃ y, (part t xs.toArray off).run P w = .ok y w ∧ VR S v y := by
  unfold loadC at h
  split at h
  · rename_i hg
    simp only [Option.bind_eq_some_iff] at h
    obtain ⟨n, hn, h⟩ := h
    split at h
    · rename_i hle
      cases h
      refine ⟨.agg ((xs.drop off).take n).toArray, ?_, .agg _ _ ((hs.drop off).take n)⟩
      simp only [part, Sem.run_bind, run_isAgg hg, Result.andThen_ok, if_true, run_sizeOf hn, Sem.run_pure]
      congr 2
      apply Array.ext'
      simp [List.extract_eq_take_drop]
    · cases h
  · rename_i hg
    obtain ⟨x, hx, hv⟩ := hs.get h
    refine ⟨x, ?_, hv⟩
    simp [part, run_isAgg hg, hx]
  · cases h

theorem ObjR.cellsOf {S : St} {o : Nat} {cs : List AV} (h : ObjR S o (.cells cs)) : ∃ c e xs, Held S.w.heap[(S.ι o).1]? c e ∧ VRs S cs xs ∧ (S.ι o).2 + xs.length ≤ c.size ∧ (∀ j x, xs[j]? = some x → c[(S.ι o).2 + j]? = some x) ∧
    (∀ j x, xs[j]? = some x → S.w.cell? ⟨(S.ι o).1, (S.ι o).2 + j, none⟩ = some x) := by
  cases h with
  | cells _ c e xs h1 h2 h3 h4 => 
    obtain ⟨fr, h1', -⟩ := id h1
    exact ⟨c, e, xs, h1, h2, h3, h4, fun j x hj => by simp [World.cell?, h1', h4 j x hj]⟩

theorem aload_sound {S : St} (hS : Sim S) {t : TypeId} {a v : AV} {x : Value} (ha : VR S a x) (h : aload P S.H t a = some v) : ∃ y, (Instr.loadAt t x).run P S.w = .ok y S.w ∧ VR S v y := by
  unfold aload at h
  split at h
  · rename_i o off
    split at h
    · rename_i cs hobj
      cases ha with
      | ptr _ _ m ho hm =>
        have hr := hS.objs o ho
        rw [hobj] at hr
        obtain ⟨c, e, xs, _, h2, _, _, h5⟩ := hr.cellsOf
        obtain ⟨y, hy, hv⟩ := loadC_sound h2 h5 h
        exact ⟨y, by simp [Instr.loadAt, Instr.sureAddr, hy], hv⟩
    · cases h
  · rename_i cs off
    cases ha with
    | ptrl _ b base _ xs hs hb hn hc =>
      obtain ⟨y, hy, hv⟩ := loadC_sound hs hc h
      exact ⟨y, by simp [Instr.loadAt, Instr.sureAddr, hy], hv⟩
  · cases h

theorem arith_sound {S : St} {w : World} {op : BinOp} {k : IntKind} {a b : Int} {v : AV} {t : TypeId} (h1 : op ≠ .shl) (h2 : op ≠ .shr) (h : arith op k a b = some v) : ∃ y, (binOp op t (.int k a) (.int k b)).run P w = .ok y w ∧ VR S v y := by
  cases op <;> simp only [arith] at h <;> (try contradiction)
  case quo => split at h <;> cases h; rename_i hb; exact ⟨_, by simp [binOp, Op.intDiv, hb], .int _ _⟩
  case rem => split at h <;> cases h; rename_i hb; exact ⟨_, by simp [binOp, Op.intDiv, hb], .int _ _⟩
  all_goals (try (cases h))
  all_goals refine ⟨_, ?_, by first | exact .int _ _ | exact .bool _⟩
  all_goals simp [binOp, Op.intArith, Op.intBits, Op.intCmp]

theorem ba_eq (a b : ByteArray) : (a == b) = decide (a = b) := by
  rw [Bool.eq_iff_iff]
  simp only [decide_eq_true_eq]
  show (a.data == b.data) = true ↔ _
  rw [beq_iff_eq]
  exact ByteArray.ext_iff.symm

theorem ba_list (a b : ByteArray) : (a.toList == b.toList) = decide (a = b) := by
  rw [Bool.eq_iff_iff]
  simp only [beq_iff_eq, decide_eq_true_eq, ByteArray.toList_eq]
  rw [ByteArray.ext_iff, ← Array.toList_inj]

theorem strOp_sound {S : St} {w : World} {op : BinOp} {a b : ByteArray} {v : AV} {t : TypeId} (h : strOp op a b = some v) : ∃ y, (binOp op t (.string a) (.string b)).run P w = .ok y w ∧ VR S v y := by
  cases op <;> simp only [strOp] at h <;> (try contradiction)
  case add =>
    split at h <;> cases h
    rename_i hb
    have : ¬ (IntKind.i64.max < ((a.size + b.size : Nat) : Int)) := by show ¬ ((9223372036854775807 : Int) < _); omega
    exact ⟨_, by simp only [binOp, Op.stringOp]; rw [if_neg (by simpa using this)]; rfl, .str _⟩
  all_goals (try (cases h))
  all_goals exact ⟨_, by simp [binOp, Op.stringOp, ba_list], .bool _⟩

theorem eqGuard_scalar {op : BinOp} {t : TypeId} {x y : Operand} {a b : Value} (w : World) (h1 : ∀ cs, a ≠ .agg cs) (h2 : a ≠ .nilIface) : (eqGuard op t x y a b).run P w = .ok () w := by
  unfold eqGuard
  cases a <;> first
    | exact absurd rfl h2
    | exact absurd rfl (h1 _)
    | (split <;> simp)

theorem eqGuard_agg (hK : KeysOK P K) {op : BinOp} {t : TypeId} {x y : Operand} {cs : Array Value} {b : Value} (w : World) {sh : List Sc} (h : K t = some sh) : (eqGuard op t x y (.agg cs) b).run P w = .ok () w := by
  unfold eqGuard
  cases b <;> (split <;> simp [(hK t sh h).guard])

theorem aeqS_sound {S : St} {w : World} {t : TypeId} {a b : AV} {x y : Value} {r : Bool} (ha : VR S a x) (hb : VR S b y) (h : aeqS P t a b = some r) :
    (Op.equal t x y).run P w = .ok r w ∧ x ≠ .nilIface ∧ (∀ cs, x ≠ .agg cs) ∧ (∀ k n, x ≠ .int k n) ∧ (∀ s, x ≠ .string s) ∧ (∀ k n, x ≠ .float k n) ∧ (∀ k n m, x ≠ .complex k n m) := by
  have key : (∀ d, (Op.equalIn (d + 1) t x y).run P w = .ok r w) → (Op.equal t x y).run P w = .ok r w := fun h => h 9999
  unfold aeqS at h
  split at h <;> first
    | (cases h; done)
    | (rename_i hu
       cases ha <;> cases hb <;> (cases h; exact ⟨key fun d => by simp [Op.equalIn, run_underlying hu], by simp, by simp, by simp, by simp, by simp, by simp⟩))

theorem aeq_sound (hK : KeysOK P K) {S : St} {w : World} {t : TypeId} {a b : AV} {x y : Value} {r : Bool} (ha : VR S a x) (hb : VR S b y) (h : aeq P K t a b = some r) :
    (Op.equal t x y).run P w = .ok r w ∧ x ≠ .nilIface ∧ ((∃ cs, x = .agg cs) → ∃ sh, K t = some sh) ∧ (∀ k n, x ≠ .int k n) ∧ (∀ s, x ≠ .string s) ∧ (∀ k n, x ≠ .float k n) ∧ (∀ k n m, x ≠ .complex k n m) := by
  unfold aeq at h
  split at h
  · simp only [Option.bind_eq_some_iff] at h
    obtain ⟨sh, hsh, h⟩ := h
    split at h
    · rename_i hc
      cases h
      cases ha with
      | agg as xs hs =>
        cases hb with
        | agg bs ys hs' => exact ⟨(hK t sh hsh).eq S w _ _ xs ys hc.1 hc.2 hs hs', by simp, fun _ => ⟨sh, hsh⟩, by simp, by simp, by simp, by simp⟩
    · cases h
  · obtain ⟨h1, h2, h3, h4⟩ := aeqS_sound (w := w) ha hb h
    exact ⟨h1, h2, fun ⟨cs, e⟩ => absurd e (h3 cs), h4⟩

theorem eqGuard_int {op : BinOp} {t : TypeId} {x y : Operand} {k : IntKind} {n : Int} {b : Value} (w : World) : (eqGuard op t x y (.int k n) b).run P w = .ok () w := eqGuard_scalar w (by simp) (by simp)
theorem eqGuard_str {op : BinOp} {t : TypeId} {x y : Operand} {s : ByteArray} {b : Value} (w : World) : (eqGuard op t x y (.string s) b).run P w = .ok () w := eqGuard_scalar w (by simp) (by simp)

theorem abin_sound (hK : KeysOK P K) {S : St} {w : World} {op : BinOp} {t : TypeId} {ox oy : Operand} {a b v : AV} {x y : Value} (ha : VR S a x) (hb : VR S b y) (h : abin P K op t a b = some v) :
    ∃ z, (do eqGuard op t ox oy x y; binOp op t x y : Sem Value).run P w = .ok z w ∧ VR S v z := by
  unfold abin at h
  split at h
  · rename_i k n k' m
    cases ha; cases hb
    split at h <;> cases h
    rename_i hm
    refine ⟨_, ?_, .int _ _⟩
    simp only [Sem.run_bind, eqGuard_int, Result.andThen_ok, binOp, Op.shift]
    rw [if_neg hm]
    rfl
  · rename_i k n k' m
    cases ha; cases hb
    split at h <;> cases h
    rename_i hm
    refine ⟨_, ?_, .int _ _⟩
    simp only [Sem.run_bind, eqGuard_int, Result.andThen_ok, binOp, Op.shift]
    rw [if_neg hm]
    rfl
  · rename_i op' k n k' m h1 h2
    cases ha; cases hb
    split at h
    · rename_i hk
      subst hk
      obtain ⟨z, hz, hv⟩ := arith_sound (P := P) (S := S) (w := w) (t := t) (fun e => h1 e) (fun e => h2 e) h
      exact ⟨z, by simp only [Sem.run_bind, eqGuard_int, Result.andThen_ok]; exact hz, hv⟩
    · cases h
  · cases ha; cases hb
    obtain ⟨z, hz, hv⟩ := strOp_sound (P := P) (S := S) (w := w) (t := t) h
    exact ⟨z, by simp only [Sem.run_bind, eqGuard_str, Result.andThen_ok]; exact hz, hv⟩
  · simp only [Option.map_eq_some_iff] at h
    obtain ⟨r, hr, rfl⟩ := h
    obtain ⟨h1, h2, h3, h4, h5, h6, h7⟩ := aeq_sound hK (w := w) ha hb hr
    refine ⟨_, ?_, .bool r⟩
    have hg : (eqGuard .eql t ox oy x y).run P w = .ok () w := by
      by_cases hx : ∃ cs, x = .agg cs
      · obtain ⟨sh, hsh⟩ := h3 hx; obtain ⟨cs, rfl⟩ := hx; exact eqGuard_agg hK w hsh
      · exact eqGuard_scalar w (fun cs e => hx ⟨cs, e⟩) h2
    simp only [Sem.run_bind, hg, Result.andThen_ok]
    cases x <;> first
      | (simp at h4; done)
      | (simp at h5; done)
      | (simp at h6; done)
      | (simp at h7; done)
      | simp [binOp, h1]
  · simp only [Option.map_eq_some_iff] at h
    obtain ⟨r, hr, rfl⟩ := h
    obtain ⟨h1, h2, h3, h4, h5, h6, h7⟩ := aeq_sound hK (w := w) ha hb hr
    refine ⟨_, ?_, .bool (!r)⟩
    have hg : (eqGuard .neq t ox oy x y).run P w = .ok () w := by
      by_cases hx : ∃ cs, x = .agg cs
      · obtain ⟨sh, hsh⟩ := h3 hx; obtain ⟨cs, rfl⟩ := hx; exact eqGuard_agg hK w hsh
      · exact eqGuard_scalar w (fun cs e => hx ⟨cs, e⟩) h2
    simp only [Sem.run_bind, hg, Result.andThen_ok]
    cases x <;> first
      | (simp at h4; done)
      | (simp at h5; done)
      | (simp at h6; done)
      | (simp at h7; done)
      | simp [binOp, h1]
  · cases h

theorem aun_sound {S : St} {w : World} {op : UnOp} {a v : AV} {x : Value} (ha : VR S a x) (h : aun op a = some v) : ∃ z, (Op.unary op x).run P w = .ok z w ∧ VR S v z := by
  unfold aun at h
  split at h
  · cases ha; cases h; exact ⟨_, by simp [Op.unary, Op.intArith], .int _ _⟩
  · cases ha; cases h; refine ⟨_, ?_, .int _ _⟩; simp [Op.unary, Op.intBits]
  · cases ha; cases h; exact ⟨_, by simp [Op.unary], .bool _⟩
  · cases h

end
end Go.Proofs.Ytghjglnebcpcmaa
/-! The interpreter is right: slices, stores, new memory. -/
namespace Go.Proofs.Ytghjglnebcpcmaa
open Go.RowKit

section
variable {P : Program} {K : TypeId → Option (List Sc)}

/-- A slice in the world: its cells can be read. -/
def ReadsAt (w : World) (a : Option Addr) (xs : List Value) : Prop := xs = [] ∨ ∃ b off, a = some ⟨b, off, none⟩ ∧ ∀ j x, xs[j]? = some x → w.cell? ⟨b, off + j, none⟩ = some x

theorem VRs.nil_iff {S : St} {as : List AV} {xs : List Value} (h : VRs S as xs) : as = [] ↔ xs = [] := by
  cases h <;> simp

theorem slice_sound {S : St} (hS : Sim S) {s : AV} {y : Value} (hv : VR S s y) {n : Nat} {cs : List AV} (hn : sliceLen s = some n) (hc : sliceCells S.H s = some cs) :
    ∃ a cap xs, y = .slice a n cap ∧ n ≤ cap ∧ VRs S cs xs ∧ ReadsAt S.w a xs := by
  cases hv <;> first
    | (simp [sliceLen] at hn; done)
    | skip
  case nils => simp [sliceLen, sliceCells] at hn hc; subst hn hc; exact ⟨none, 0, [], rfl, Nat.le_refl _, .nil, .inl rfl⟩
  case row o off sz n' cap m full ho hm h1 h2 h3 h4 =>
    simp [sliceLen] at hn
    subst hn
    simp only [sliceCells] at hc
    split at hc
    · rename_i cs' hobj
      split at hc
      · rename_i hle
        cases hc
        have hr := hS.objs o ho
        rw [hobj] at hr
        obtain ⟨c, e, xs, _, g2, _, _, g5⟩ := hr.cellsOf
        refine ⟨_, cap, _, rfl, h2, (g2.drop off).take _, .inr ⟨_, _, rfl, fun j x hj => ?_⟩⟩
        rw [List.getElem?_take] at hj
        split at hj
        · rw [List.getElem?_drop] at hj
          rw [Nat.add_assoc]
          exact g5 _ x hj
        · cases hj
      · cases hc
    · cases hc
  case row0 o off sz off' m full ho hm =>
    simp [sliceLen] at hn
    subst hn
    simp only [sliceCells] at hc
    split at hc
    · split at hc
      · cases hc
        exact ⟨_, 0, [], rfl, Nat.le_refl _, by simp; exact .nil, .inl rfl⟩
      · cases hc
    · cases hc
  case lst0 sz cap a => simp [sliceLen, sliceCells] at hn hc; subst hn hc; exact ⟨a, cap, [], rfl, Nat.zero_le _, .nil, .inl rfl⟩
  case lst sz n' cap cs' b off xs hs hl hb hno hcell hle =>
    simp [sliceLen, sliceCells] at hn hc; subst hn hc
    exact ⟨_, cap, xs, rfl, hle, hs, .inr ⟨b, off, rfl, hcell⟩⟩

theorem reads_loadCells {w w' : World} (hw : w'.heap = w.heap) {a : Addr} {xs : List Value} (h : ReadsAt w (some a) xs) : (loadCells a xs.length).run P w' = .ok xs.toArray w' := by
  rcases h with rfl | ⟨b, off, he, hc⟩
  · rfl
  · cases he
    refine run_loadCells_list (P := P) w' ⟨b, off, none⟩ xs fun j x hj => ?_
    rw [add_plain, World.cell?_heap (w := w) (w' := w') (by rw [hw])]
    exact hc j x hj

theorem firstCells_sound {w w' : World} (hw : w'.heap = w.heap) {a : Option Addr} {n cap sz : Nat} {xs : List Value} (h : ReadsAt w a xs) (hl : xs.length = n * sz) :
    (Builtin.firstCells sz n (.slice a n cap)).run P w' = .ok xs.toArray w' := by
  cases a with
  | none =>
    rcases h with rfl | ⟨b, off, he, _⟩
    · rfl
    · cases he
  | some a => simp only [Builtin.firstCells]; rw [← hl]; exact reads_loadCells hw h

theorem putCells_sound {S : St} {cs : List AV} {xs : List Value} {new : List AV} {ys : List Value} (hs : VRs S cs xs) (hn : VRs S new ys) (off : Nat) : VRs S (putCells cs off new) (xs.take off ++ ys ++ xs.drop (off + ys.length)) := by
  unfold putCells
  rw [hn.length]
  exact ((hs.take off).append hn).append (hs.drop _)

/-- Cells are written into a row whose frozen range lies behind all its cells. -/
theorem run_storeCells_tail {P : Program} (g o : Nat) (t : TypeId) (fz : Nat × Nat) : ∀ (vs : List Value) (i : Nat) (cur : Array Value) (w : World), w.heap[g]? = some (.cells cur t fz) → (fz = (0, 0) ∨ cur.size ≤ fz.1) → o + i + vs.length ≤ cur.size → (∀ v ∈ vs, v.oneCell' = true) →
    (storeCells ⟨g, o, none⟩ vs i).run P w = .ok () (w.setRow g (cur.toList.take (o + i) ++ vs ++ cur.toList.drop (o + i + vs.length)).toArray)
  | [], i, cur, w, hg, _, _, _ => by
    simp only [storeCells, List.append_nil, List.length_nil, Nat.add_zero, List.take_append_drop, Array.toArray_toList]
    rw [setRow_self w g cur t fz hg]
    rfl
  | v :: rest, i, cur, w, hg, hfz, hl, h1 => by
    have hi : o + i < cur.size := by simp at hl; omega
    have hadd : (⟨g, o, none⟩ : Addr).add i = ⟨g, o + i, none⟩ := by unfold Addr.add; split <;> simp_all
    have hcell : w.cell? ⟨g, o + i, none⟩ = some cur[o + i] := by simp [World.cell?, hg, hi]
    have hfro : w.frozen? ⟨g, o + i, none⟩ = false := by
      obtain ⟨lo, hi'⟩ := fz
      simp only [World.frozen?, hg, Bool.and_eq_false_iff, decide_eq_false_iff_not]
      rcases hfz with hfz | hfz
      · cases hfz
        right
        omega
      · left
        simp only at hfz
        omega
    have hst : (store ((⟨g, o, none⟩ : Addr).add i) v).run P w = .ok () (w.setRow g (cur.setIfInBounds (o + i) v)) := by
      rw [hadd, run_store P w _ v _ (h1 v (by simp)), hcell]
      simp [hfro, setCell_eq_setRow w g (o + i) cur t fz v hg]
    have ih := run_storeCells_tail (P := P) g o t fz rest (i + 1) (cur.setIfInBounds (o + i) v) (w.setRow g (cur.setIfInBounds (o + i) v)) (setRow_heap w g cur _ t _ hg) (by simpa using hfz) (by simp at hl ⊢; omega) (fun x hx => h1 x (by simp [hx]))
    simp only [storeCells, Sem.run_bind, hst, Result.andThen_ok, ih, setRow_setRow]
    congr 3
    have e := list_seg_step cur.toList (o + i) v rest (by simp at hl ⊢; omega)
    simpa [Array.toList_setIfInBounds, Nat.add_assoc] using e

/-- Cells of an object are stored. -/
theorem store_cells {S : St} (hS : Sim S) {o : Nat} (ho : o < S.H.size) {cs : List AV} (hobj : S.H.obj o = .cells cs) {off : Nat} {new : List AV} {ys : List Value} (hn : VRs S new ys) (h1 : allOne new = true) (hle : off + new.length ≤ cs.length) :
    ∃ w', (storeCells ⟨(S.ι o).1, (S.ι o).2 + off, none⟩ ys).run P S.w = .ok () w' ∧ Sim (S.put o (.cells (putCells cs off new)) w') ∧ Ext S (S.put o (.cells (putCells cs off new)) w') := by
  have hr := hS.objs o ho
  rw [hobj] at hr
  obtain ⟨c, e, xs, ⟨fr, g1, gt⟩, g2, g3, g4, g5⟩ := hr.cellsOf
  have hl := g2.length
  have hl' := hn.length
  have hst := run_storeCells_tail (P := P) (S.ι o).1 ((S.ι o).2 + off) e fr ys 0 c S.w g1 gt (by omega) (hn.ones h1)
  simp only [Nat.add_zero] at hst
  refine ⟨_, hst, put_cells hS ho hobj g1 gt (putCells_sound g2 hn off) ?_ ?_ ?_ (Wrote.setRow g1)⟩
  · simp; omega
  · simp; omega
  · intro j x hj
    simp only [List.getElem?_toArray]
    by_cases hj1 : j < off
    · rw [List.append_assoc, List.getElem?_append_left (by simp; omega), List.getElem?_take, if_pos hj1] at hj
      rw [List.append_assoc, List.getElem?_append_left (by simp; omega), List.getElem?_take, if_pos (by omega)]
      rw [Array.getElem?_toList]
      exact g4 j x hj
    · rw [List.append_assoc, List.getElem?_append_right (by simp; omega)] at hj
      rw [List.append_assoc, List.getElem?_append_right (by simp; omega)]
      simp only [List.length_take, Array.length_toList] at hj ⊢
      rw [show min off xs.length = off from by omega] at hj
      rw [show min ((S.ι o).2 + off) c.size = (S.ι o).2 + off from by omega]
      rw [show (S.ι o).2 + j - ((S.ι o).2 + off) = j - off from by omega]
      by_cases hj2 : j - off < ys.length
      · rw [List.getElem?_append_left hj2] at hj ⊢
        exact hj
      · rw [List.getElem?_append_right (by omega)] at hj ⊢
        rw [List.getElem?_drop] at hj ⊢
        rw [Array.getElem?_toList]
        have := g4 _ x hj
        rw [show (S.ι o).2 + off + ys.length + (j - off - ys.length) = (S.ι o).2 + (off + ys.length + (j - off - ys.length)) from by omega]
        exact this

theorem putCells_one (cs : List AV) (off : Nat) (v : AV) (h : off < cs.length) : putCells cs off [v] = cs.set off v := by
  unfold putCells
  rw [List.set_eq_take_append_cons_drop, if_pos h]
  simp

theorem run_storeVar {t : TypeId} {n : Nat} (h : tS P t = some n) {v : Value} (hn : v.cells.size = n) (a : Addr) (w : World) : (storeVar t a v).run P w = (storeCells a v.cells.toList).run P w := by
  subst hn
  simp [storeVar, run_sizeOf h]

theorem astore_sound {S : St} (hS : Sim S) {t : TypeId} {a v : AV} {x y : Value} {H' : AHeap} (ha : VR S a x) (hv : VR S v y) (h : astore P S.H t a v = some H') :
    ∃ w', (Instr.storeAt t x y).run P S.w = .ok () w' ∧ ∃ T : St, T.w = w' ∧ T.H = H' ∧ Sim T ∧ Ext S T := by
  unfold astore at h
  split at h <;> first | (cases h; done) | skip
  rename_i o off
  split at h <;> first | (cases h; done) | skip
  rename_i cs hobj
  cases ha with
  | ptr _ _ m ho hm =>
    split at h
    · rename_i new
      split at h
      · rename_i hc
        cases h
        cases hv with
        | agg _ ys hs =>
          obtain ⟨w', h1, h2, h3⟩ := store_cells (P := P) hS ho hobj hs hc.2.2 hc.2.1
          refine ⟨w', ?_, _, rfl, rfl, h2, h3⟩
          simp only [Instr.storeAt, Instr.sureAddr, Sem.run_bind, Sem.run_pure, Result.andThen_ok]
          rw [run_storeVar hc.1 (by simp [Value.cells, hs.length])]
          exact h1
      · cases h
    · split at h
      · rename_i hc
        cases h
        have hcells : v.cells = [v] := by
          cases v <;> first | rfl | (simp [AV.one] at hc)
        have hs := hv.cells
        rw [hcells] at hs
        obtain ⟨w', h1, h2, h3⟩ := store_cells (P := P) hS ho hobj hs (by simp [allOne, hc.2.2]) (off := off) (by have := hc.2.1; simp; omega)
        rw [putCells_one cs off v hc.2.1] at h2 h3
        refine ⟨w', ?_, _, rfl, rfl, h2, h3⟩
        simp only [Instr.storeAt, Instr.sureAddr, Sem.run_bind, Sem.run_pure, Result.andThen_ok]
        rw [run_storeVar hc.1 (by have := hs.length; simp at this; omega)]
        exact h1
      · cases h

theorem VR.row_new {S : St} {H : Nat} (sz n cap m : Nat) (full : Bool) (hH : H < S.H.size) (hm : cellsAt S.w (S.ι H).1 m) (h0 : (S.ι H).2 = 0) (hle : cap * sz ≤ m) (h1 : n ≤ cap) (h2 : cap ≤ 9223372036854775807) (h3 : full = true → cap = n) :
    VR S (.row H 0 sz n full) (.slice (some ⟨(S.ι H).1, 0, none⟩) n cap) := by
  have := VR.row (S := S) H 0 sz n cap m full hH hm (by omega) h1 h2 h3
  rwa [h0] at this

theorem VR.ptr_new {S : St} {H : Nat} {m : Nat} (hH : H < S.H.size) (hm : cellsAt S.w (S.ι H).1 m) (h0 : (S.ι H).2 = 0) : VR S (.ptr H 0) (.pointer (some ⟨(S.ι H).1, 0, none⟩)) := by
  have := VR.ptr (S := S) H 0 m hH hm
  rwa [h0] at this

/-- A new object that holds a value. -/
theorem newVar_sound {S : St} (hS : Sim S) {cs : List AV} {xs : List Value} (hv : VRs S cs xs) (e : TypeId) :
    ∃ T : St, T.w = S.w.alloc (.cells xs.toArray e) ∧ T.H = S.H.new (.cells cs) ∧ Sim T ∧ Ext S T ∧ VR T (.ptr S.H.size 0) (.pointer (some ⟨S.w.heap.size, 0, none⟩)) := by
  obtain ⟨h1, h2, h3, h4⟩ := alloc_cells hS hv (c := xs.toArray) (e := e) [] (by simp) (Grew.alloc S.w _)
  refine ⟨_, rfl, rfl, h1, h2, ?_⟩
  have := VR.ptr_new (S := S.alloc (.cells cs) (S.w.alloc (.cells xs.toArray e))) (H := S.H.size) (m := xs.toArray.size) (by simp [St.alloc, AHeap.new]) (by rw [h3]; exact h4) (by rw [h3])
  rwa [h3] at this

theorem ofCells_length : ∀ {vs : List Value} {as : List AV}, ofCells vs = some as → as.length = vs.length
  | [], as, h => by simp [ofCells] at h; subst h; rfl
  | v :: vs, as, h => by
    simp only [ofCells, Option.bind_eq_some_iff, Option.map_eq_some_iff] at h
    obtain ⟨a, ha, bs, hb, rfl⟩ := h
    simp [ofCells_length hb]

theorem run_zeroValue {t : TypeId} {i : TypeInfo} {z : Value} (h : P.info? t = some i) (hz : i.zero = some z) (w : World) : (zeroValue t).run P w = .ok z w := by
  simp [zeroValue, run_typeInfo h, hz]

theorem tZ_some (S : St) {t : TypeId} {z : List AV} (h : tZ P t = some z) : ∃ i zv, P.info? t = some i ∧ i.zero = some zv ∧ VRs S z zv.cells.toList := by
  simp only [tZ, Option.bind_eq_some_iff] at h
  obtain ⟨i, hi, zv, hz, hc⟩ := h
  exact ⟨i, zv, hi, hz, ofCells_sound S hc⟩

theorem tZV_some (S : St) {t : TypeId} {z : AV} (h : tZV P t = some z) : ∃ zv, (∀ w, (zeroValue t).run P w = .ok zv w) ∧ VR S z zv := by
  simp only [tZV, Option.bind_eq_some_iff] at h
  obtain ⟨i, hi, zv, hz, hc⟩ := h
  exact ⟨zv, fun w => run_zeroValue hi hz w, ofValue_sound S hc⟩

end
end Go.Proofs.Ytghjglnebcpcmaa
/-! The interpreter is right: append. -/
namespace Go.Proofs.Ytghjglnebcpcmaa
open Go.RowKit

section
variable {P : Program} {K : TypeId → Option (List Sc)}

theorem run_append_nothing (w : World) (t ty e : TypeId) (i : TypeInfo) (ht : P.underlying t = some (.slice e)) (hi : P.info? e = some i) (a b : Option Addr) (n c c2 : Nat) (h : n ≤ c) :
    (Builtin.append_ #[t, t] ty #[.slice a n c, .slice b 0 c2]).run P w = .ok (.slice a n c) w := by
  have hf : (Builtin.firstCells i.size 0 (.slice b 0 c2)).run P w = .ok #[] w := by
    cases b with
    | none => rfl
    | some b => simp [Builtin.firstCells, loadCells, loadCellsFrom]
  cases a with
  | none => simp [Builtin.append_, run_underlying ht, sizeOf, typeInfo, hi, Builtin.lenOf, h, hf]
  | some a => simp [Builtin.append_, run_underlying ht, sizeOf, typeInfo, hi, Builtin.lenOf, h, hf, storeCells]

theorem run_append_inplace (w : World) (t ty e e0 : TypeId) (i : TypeInfo) (ht : P.underlying t = some (.slice e)) (hi : P.info? e = some i)
    (g off sLen sCap : Nat) (cur : Array Value) (fz : Nat × Nat) (hg : w.heap[g]? = some (.cells cur e0 fz)) (hfz : fz = (0, 0) ∨ cur.size ≤ fz.1)
    (a : Addr) (m c : Nat) (news : List Value) (hl : news.length = m * i.size) (hnews : ∀ j u, news[j]? = some u → w.cell? (a.add j) = some u) (h1 : ∀ u ∈ news, u.oneCell' = true)
    (hroom : sLen + m ≤ sCap) (hfit : off + sLen * i.size + news.length ≤ cur.size) :
    (Builtin.append_ #[t, t] ty #[.slice (some ⟨g, off, none⟩) sLen sCap, .slice (some a) m c]).run P w =
      .ok (.slice (some ⟨g, off, none⟩) (sLen + m) sCap) (w.setRow g (cur.toList.take (off + sLen * i.size) ++ news ++ cur.toList.drop (off + sLen * i.size + news.length)).toArray) := by
  have hf := run_firstCells_some (P := P) w i.size m a m c news hl hnews
  have hst := run_storeCells_tail (P := P) g (off + sLen * i.size) e0 fz news 0 cur w hg hfz (by simpa using hfit) h1
  simp only [Nat.add_zero] at hst
  simp [Builtin.append_, run_underlying ht, sizeOf, typeInfo, hi, Builtin.lenOf, hroom, hf, Addr.add_lit, hst]

theorem ReadsAt.some {w : World} {a : Option Addr} {xs : List Value} (h : ReadsAt w a xs) (h0 : xs ≠ []) : ∃ b off, a = some ⟨b, off, none⟩ ∧ ∀ j x, xs[j]? = some x → w.cell? ((⟨b, off, none⟩ : Addr).add j) = some x := by
  rcases h with h | ⟨b, off, he, hc⟩
  · exact absurd h h0
  · exact ⟨b, off, he, fun j x hj => by rw [add_plain]; exact hc j x hj⟩

theorem grown_cells {_e : TypeId} (olds news : List Value) (z : Array Value) (k : Nat) : (olds.toArray ++ news.toArray ++ Builtin.zeroCells z k).toList = (olds ++ news) ++ (Builtin.zeroCells z k).toList := by
  simp

theorem VRs.append_length {S : St} {as bs : List AV} {xs ys : List Value} (h : VRs S as xs) (k : VRs S bs ys) : (xs ++ ys).length = as.length + bs.length := by
  simp [h.length, k.length]

theorem appC_sound {S : St} (hS : Sim S) {t t2 ty e : TypeId} {i : TypeInfo} {zv : Value} {s v : AV} {y zp : Value} {zz new : List AV} {m : Nat} {news : List Value} {H' : AHeap} (hs : VR S s y)
    (hvz : VRs S zz zv.cells.toList) (hvn : VRs S new news)
    (r0 : ∀ (a : Option Addr) (n c : Nat), m = 0 → n ≤ c → (Builtin.append_ #[t, t2] ty #[.slice a n c, zp]).run P S.w = .ok (.slice a n c) S.w)
    (r1 : ∀ (g off sLen sCap : Nat) (cur : Array Value) (e0 : TypeId) (fz : Nat × Nat), S.w.heap[g]? = some (.cells cur e0 fz) → (fz = (0, 0) ∨ cur.size ≤ fz.1) → 0 < m → news.length = m * i.size → 0 < i.size → (∀ u ∈ news, u.oneCell' = true) → sLen + m ≤ sCap → off + sLen * i.size + news.length ≤ cur.size →
      (Builtin.append_ #[t, t2] ty #[.slice (some ⟨g, off, none⟩) sLen sCap, zp]).run P S.w = .ok (.slice (some ⟨g, off, none⟩) (sLen + m) sCap) (S.w.setRow g (cur.toList.take (off + sLen * i.size) ++ news ++ cur.toList.drop (off + sLen * i.size + news.length)).toArray))
    (r2 : 0 < m → news.length = m * i.size → 0 < i.size → (m : Int) ≤ 9223372036854775807 → m * i.bytes ≤ 281474976710656 →
      (Builtin.append_ #[t, t2] ty #[.slice none 0 0, zp]).run P S.w = .ok (.slice (some ⟨S.w.heap.size, 0, none⟩) m (grownCap S.w m 0 e)) (S.w.drew.alloc (.cells (news.toArray ++ Builtin.zeroCells zv.cells (grownCap S.w m 0 e - m)) e)))
    (r3 : ∀ (b : Addr) (sLen sCap : Nat) (olds : List Value), olds.length = sLen * i.size → (∀ j v, olds[j]? = some v → S.w.cell? (b.add j) = some v) → 0 < m → news.length = m * i.size → 0 < i.size → sCap < sLen + m → ((sLen + m : Nat) : Int) ≤ 9223372036854775807 → Builtin.nextslicecap (sLen + m) sCap * i.bytes ≤ 281474976710656 →
      (Builtin.append_ #[t, t2] ty #[.slice (some b) sLen sCap, zp]).run P S.w = .ok (.slice (some ⟨S.w.heap.size, 0, none⟩) (sLen + m) (grownCap S.w (sLen + m) sCap e)) (S.w.drew.alloc (.cells (olds.toArray ++ news.toArray ++ Builtin.zeroCells zv.cells (grownCap S.w (sLen + m) sCap e - (sLen + m))) e)))
    (h : appC S.H s i.size i.bytes zz new m = some (v, H')) :
    ∃ (T : St) (r : Value), (Builtin.append_ #[t, t2] ty #[y, zp]).run P S.w = .ok r T.w ∧ T.H = H' ∧ Sim T ∧ Ext S T ∧ VR T v r := by
  unfold appC at h
  simp only [Option.bind_eq_some_iff] at h
  obtain ⟨old, hold, n, hn, h⟩ := h
  obtain ⟨as, caps, olds, rfl, hcs, hvo, hro⟩ := slice_sound hS hs hn hold
  split at h
  · rename_i hm0
    subst hm0
    cases h
    exact ⟨S, _, r0 as n caps rfl hcs, rfl, hS, Ext.refl S, hs⟩
  · rename_i hm0
    split at h <;> first | (cases h; done) | skip
    rename_i hc
    obtain ⟨hzl, hnl, hpos, hol, hb47, h63, hone⟩ := hc
    have hnl' : news.length = m * i.size := by rw [← hvn.length]; exact hnl
    have hol' : olds.length = n * i.size := by rw [← hvo.length]; exact hol
    have hm1 : 0 < m := by omega
    have hzs : zv.cells.size = i.size := by
      have := hvz.length
      simp at this
      omega
    have hcap := grownCap_ge S.w (n + m) caps e
    have hcapm : grownCap S.w (n + m) caps e ≤ 9223372036854775807 := by
      have := grownCap_le_maxLen S.w (n + m) caps e (by simp only [maxLen]; omega)
      simpa only [maxLen] using this
    have hsize : (olds.toArray ++ news.toArray ++ Builtin.zeroCells zv.cells (grownCap S.w (n + m) caps e - (n + m))).size = grownCap S.w (n + m) caps e * i.size := by
      simp only [Array.size_append, List.size_toArray, size_zeroCells, hzs, hol', hnl', ← Nat.add_mul]
      congr 1
      omega
    have hall := hvo.append hvn
    split at h
    · -- nil
      cases h
      cases hs
      clear hn
      have ho : olds = [] := List.eq_nil_of_length_eq_zero (by simpa using hol')
      subst ho
      have hr := r2 hm1 hnl' hpos (by omega) (by have hb := hb47; simp only [Nat.zero_add] at hb; omega)
      simp only [Nat.zero_add] at hsize hcap hcapm
      have hsize' : (news.toArray ++ Builtin.zeroCells zv.cells (grownCap S.w m 0 e - m)).size = grownCap S.w m 0 e * i.size := by simpa using hsize
      obtain ⟨h1, h2, h3, h4⟩ := alloc_cells hS hvn (c := news.toArray ++ Builtin.zeroCells zv.cells (grownCap S.w m 0 e - m)) (e := e) (Builtin.zeroCells zv.cells (grownCap S.w m 0 e - m)).toList (by simp) (Grew.drew S.w _)
      refine ⟨_, _, hr, rfl, h1, h2, ?_⟩
      have := VR.row_new (S := S.alloc (.cells new) (S.w.drew.alloc (.cells (news.toArray ++ Builtin.zeroCells zv.cells (grownCap S.w m 0 e - m)) e))) (H := S.H.size) i.size m (grownCap S.w m 0 e) _ false
        (by simp [St.alloc, AHeap.new]) (by rw [h3]; exact h4) (by rw [h3]) (by omega) (by omega) hcapm (by simp)
      rwa [h3] at this
    · rename_i o off sz' n' full
      simp [sliceLen] at hn
      subst hn
      split at h <;> first | (cases h; done) | skip
      rename_i hszz
      subst hszz
      obtain ⟨offY, M, heo, ho, hM, g1, g3, g4⟩ : ∃ offY M, as = some ⟨(S.ι o).1, offY, none⟩ ∧ o < S.H.size ∧ cellsAt S.w (S.ι o).1 M ∧ (0 < caps → offY = (S.ι o).2 + off ∧ (S.ι o).2 + off + caps * i.size ≤ M) ∧ caps ≤ 9223372036854775807 ∧ (full = true → caps = n') := by
        cases hs with
        | row _ _ _ _ _ M _ ho hM g1 g2 g3 g4 => exact ⟨_, M, rfl, ho, hM, fun _ => ⟨rfl, g1⟩, g3, g4⟩
        | row0 _ _ _ offY M _ ho hM => exact ⟨offY, M, rfl, ho, hM, fun h => absurd h (Nat.lt_irrefl 0), by omega, fun _ => rfl⟩
      subst heo
      · -- the rest
        have hgrow : caps < n' + m → (Builtin.append_ #[t, t2] ty #[.slice (some ⟨(S.ι o).1, offY, none⟩) n' caps, zp]).run P S.w =
            .ok (.slice (some ⟨S.w.heap.size, 0, none⟩) (n' + m) (grownCap S.w (n' + m) caps e)) (S.w.drew.alloc (.cells (olds.toArray ++ news.toArray ++ Builtin.zeroCells zv.cells (grownCap S.w (n' + m) caps e - (n' + m))) e)) := by
          intro hlt
          by_cases h0 : olds = []
          · subst h0
            exact r3 ⟨(S.ι o).1, offY, none⟩ n' caps [] hol' (fun j v hj => by simp at hj) hm1 hnl' hpos hlt (by omega) (growslice_fits hlt hb47)
          · obtain ⟨bo, offo, heo, hco⟩ := hro.some h0
            cases heo
            exact r3 _ n' caps olds hol' hco hm1 hnl' hpos hlt (by omega) (growslice_fits hlt hb47)
        split at h
        · rename_i hfull
          cases h
          have hlt : caps < n' + m := by have := g4 hfull; omega
          obtain ⟨h1, h2, h3, h4⟩ := alloc_cells hS hall (c := olds.toArray ++ news.toArray ++ Builtin.zeroCells zv.cells (grownCap S.w (n' + m) caps e - (n' + m))) (e := e) (Builtin.zeroCells zv.cells (grownCap S.w (n' + m) caps e - (n' + m))).toList (by simp) (Grew.drew S.w _)
          refine ⟨_, _, hgrow hlt, rfl, h1, h2, ?_⟩
          have := VR.row_new (S := S.alloc (.cells (old ++ new)) (S.w.drew.alloc (.cells (olds.toArray ++ news.toArray ++ Builtin.zeroCells zv.cells (grownCap S.w (n' + m) caps e - (n' + m))) e))) (H := S.H.size) i.size (n' + m) (grownCap S.w (n' + m) caps e) _ false
            (by simp [St.alloc, AHeap.new]) (by rw [h3]; exact h4) (by rw [h3]) (by omega) hcap hcapm (by simp)
          rwa [h3] at this
        · cases h
          have hobj : ∃ cs, S.H.obj o = .cells cs := by
            simp only [sliceCells] at hold
            split at hold
            · rename_i cs hh; exact ⟨cs, hh⟩
            · cases hold
          obtain ⟨cs, hobj⟩ := hobj
          have hl : (S.H.obj o).live := by rw [hobj]; trivial
          have hr := hS.objs o ho
          rw [hobj] at hr
          obtain ⟨c, e0, xs0, ⟨frk, k1, kt⟩, k2, k3, k4, k5⟩ := hr.cellsOf
          obtain ⟨c1, e1, fr1, q1, q2⟩ := hM
          rw [k1] at q1
          cases q1
          by_cases hroom : n' + m ≤ caps
          · -- in place
            obtain ⟨rfl, g1⟩ := g1 (by omega)
            have hfit : (S.ι o).2 + off + n' * i.size + news.length ≤ c.size := by
              have : (n' + m) * i.size ≤ caps * i.size := Nat.mul_le_mul_right _ hroom
              rw [Nat.add_mul] at this
              omega
            have hrun := r1 (S.ι o).1 ((S.ι o).2 + off) n' caps c e0 frk k1 kt hm1 hnl' hpos (hvn.ones hone) hroom hfit
            have hW := Wrote.setRow (w := S.w) (cs := (c.toList.take ((S.ι o).2 + off + n' * i.size) ++ news ++ c.toList.drop ((S.ι o).2 + off + n' * i.size + news.length)).toArray) k1
            have hcs : (c.toList.take ((S.ι o).2 + off + n' * i.size) ++ news ++ c.toList.drop ((S.ι o).2 + off + n' * i.size + news.length)).toArray.size = c.size := by simp; omega
            obtain ⟨h1, h2, h3, h4⟩ := kill_cells hS ho hl hall (p := ((S.ι o).1, (S.ι o).2 + off)) (w' := S.w.setRow (S.ι o).1 (c.toList.take ((S.ι o).2 + off + n' * i.size) ++ news ++ c.toList.drop ((S.ι o).2 + off + n' * i.size + news.length)).toArray)
              hW.os hW.tape hW.output (Nat.le_of_eq hW.size.symm) (.inl rfl) ⟨frk, hW.here, by rw [hcs]; exact kt⟩ (fun k _ hk => hW.other k hk)
              (by rintro M2 ⟨c2, e2, fr2, r1, r2⟩; simp only at r1; rw [k1] at r1; cases r1; omega) (by simp only; rw [hcs, List.length_append]; omega)
              (by
                intro j u hj
                simp only [List.getElem?_toArray]
                by_cases hj1 : j < olds.length
                · rw [List.getElem?_append_left hj1] at hj
                  rw [List.append_assoc, List.getElem?_append_left (by simp; omega), List.getElem?_take, if_pos (by omega), Array.getElem?_toList]
                  rcases hro with h0 | ⟨bo, offo, heo, hco⟩
                  · rw [h0] at hj1; simp at hj1
                  · cases heo
                    have := hco j u hj
                    simpa [World.cell?, k1] using this
                · rw [List.getElem?_append_right (by omega)] at hj
                  have hj2 : j - olds.length < news.length := (List.getElem?_eq_some_iff.1 hj).1
                  rw [List.append_assoc, List.getElem?_append_right (by simp; omega)]
                  simp only [List.length_take, Array.length_toList]
                  rw [show min ((S.ι o).2 + off + n' * i.size) c.size = (S.ι o).2 + off + n' * i.size from by omega]
                  rw [show (S.ι o).2 + off + j - ((S.ι o).2 + off + n' * i.size) = j - olds.length from by omega]
                  rw [List.getElem?_append_left hj2]
                  exact hj)
            refine ⟨_, _, hrun, rfl, h1, h2, ?_⟩
            have := VR.row (S := S.kill o (.cells (old ++ new)) ((S.ι o).1, (S.ι o).2 + off) (S.w.setRow (S.ι o).1 (c.toList.take ((S.ι o).2 + off + n' * i.size) ++ news ++ c.toList.drop ((S.ι o).2 + off + n' * i.size + news.length)).toArray)) S.H.size 0 i.size (n' + m) caps c.size false
              (by simp [St.kill, AHeap.new, AHeap.set]) (by rw [h3, ← hcs]; exact h4) (by rw [h3]; simp only; omega) (by omega) g3 (by simp)
            rw [h3] at this
            exact this
          · have hlt : caps < n' + m := by omega
            have hG := Grew.drew S.w (.cells (olds.toArray ++ news.toArray ++ Builtin.zeroCells zv.cells (grownCap S.w (n' + m) caps e - (n' + m))) e)
            obtain ⟨h1, h2, h3, h4⟩ := kill_cells hS ho hl hall (p := (S.w.heap.size, 0)) (e := e) (c' := olds.toArray ++ news.toArray ++ Builtin.zeroCells zv.cells (grownCap S.w (n' + m) caps e - (n' + m)))
              (w' := S.w.drew.alloc (.cells (olds.toArray ++ news.toArray ++ Builtin.zeroCells zv.cells (grownCap S.w (n' + m) caps e - (n' + m))) e))
              hG.os hG.tape hG.output (by rw [hG.heap]; simp) (.inr (Nat.le_refl _)) (.z hG.new) (fun k hk _ => hG.old hk)
              (fun M2 hM2 => by have := cellsAt_lt hM2; simp at this) (by simp only; rw [hsize, List.length_append, hol', hnl', ← Nat.add_mul]; have := Nat.mul_le_mul_right i.size hcap; omega)
              (by
                intro j u hj
                simp only [Nat.zero_add]
                rw [← Array.getElem?_toList, grown_cells (_e := e), List.getElem?_append_left (List.getElem?_eq_some_iff.1 hj).1]
                exact hj)
            refine ⟨_, _, hgrow hlt, rfl, h1, h2, ?_⟩
            have := VR.row_new (S := S.kill o (.cells (old ++ new)) (S.w.heap.size, 0) (S.w.drew.alloc (.cells (olds.toArray ++ news.toArray ++ Builtin.zeroCells zv.cells (grownCap S.w (n' + m) caps e - (n' + m))) e))) (H := S.H.size) i.size (n' + m) (grownCap S.w (n' + m) caps e) _ false
              (by simp [St.kill, AHeap.new, AHeap.set]) (by rw [h3]; exact h4) (by rw [h3]) (by omega) hcap hcapm (by simp)
            rwa [h3] at this
    · cases h
theorem aappend_sound {S : St} (hS : Sim S) {t ty : TypeId} {s x v : AV} {y z : Value} {H' : AHeap} (hs : VR S s y) (hx : VR S x z) (h : aappend P S.H t s x = some (v, H')) :
    ∃ (T : St) (r : Value), (Builtin.append_ #[t, t] ty #[y, z]).run P S.w = .ok r T.w ∧ T.H = H' ∧ Sim T ∧ Ext S T ∧ VR T v r := by
  unfold aappend at h
  split at h <;> first | (cases h; done) | skip
  rename_i e hu
  simp only [Option.bind_eq_some_iff] at h
  obtain ⟨sz, hsz, by_, hby, zz, hzz, new, hnew, m, hm, h⟩ := h
  obtain ⟨ax, capx, news, rfl, hcx, hvn, hrn⟩ := slice_sound hS hx hm hnew
  obtain ⟨i, zv, hi, hz, hvz⟩ := tZ_some S hzz
  obtain ⟨i', hi', rfl⟩ := tS_some hsz
  rw [hi] at hi'
  cases hi'
  have hby' : i.bytes = by_ := by simpa [tB, hi] using hby
  subst hby'
  have some' : 0 < m → news.length = m * i.size → 0 < i.size → ∃ bx offx, ax = some ⟨bx, offx, none⟩ ∧ ∀ j x, news[j]? = some x → S.w.cell? ((⟨bx, offx, none⟩ : Addr).add j) = some x := fun h1 h2 h3 => hrn.some (by
    intro e0
    rw [e0] at h2
    have : 0 < m * i.size := Nat.mul_pos h1 h3
    simp at h2; omega)
  refine appC_sound (e := e) hS hs hvz hvn (fun a n c h0 hc => ?_) (fun g off sLen sCap cur e0 fz hg hfz h1 h2 h3 hone hroom hfit => ?_) (fun h1 h2 h3 h4 h5 => ?_) (fun b sLen sCap olds hlo hol h1 h2 h3 h4 h5 h6 => ?_) h
  · subst h0
    exact run_append_nothing S.w t ty e i hu hi a ax n c capx hc
  · obtain ⟨bx, offx, rfl, hcell⟩ := some' h1 h2 h3
    exact run_append_inplace (P := P) S.w t ty e e0 i hu hi g off sLen sCap cur fz hg hfz ⟨bx, offx, none⟩ m capx news h2 hcell hone hroom hfit
  · obtain ⟨bx, offx, rfl, hcell⟩ := some' h1 h2 h3
    exact run_append_nil (P := P) S.w t ty e i zv hu hi hz ⟨bx, offx, none⟩ m capx news h2 hcell h1 h4 h5
  · obtain ⟨bx, offx, rfl, hcell⟩ := some' h1 h2 h3
    exact run_append_grow (P := P) S.w t ty e i zv hu hi hz b sLen sCap olds hlo hol ⟨bx, offx, none⟩ m capx news h2 hcell h4 h5 h6

end
end Go.Proofs.Ytghjglnebcpcmaa
/-! The interpreter is right: maps. -/
namespace Go.Proofs.Ytghjglnebcpcmaa
open Go.RowKit

section
variable {P : Program} {K : TypeId → Option (List Sc)}

def scV : Value → Value → Bool
  | .int _ a, .int _ b => a == b
  | .string a, .string b => a == b
  | .bool a, .bool b => a == b
  | _, _ => false

theorem sameNow_sc {S : St} {t : TypeId} {c : Sc} (h : keySh P K t = some (.one c)) {a b : AV} {x y : Value} (ha : VR S a x) (hb : VR S b y) (fa : c.fits a = true) (fb : c.fits b = true) :
    ∃ d, P.underlying t = some d ∧ Instr.sameNow d x y = some (scEq a b) := by
  unfold keySh at h
  split at h
  · rename_i k hu
    cases h
    cases a <;> simp [Sc.fits] at fa
    cases b <;> simp [Sc.fits] at fb
    subst fa; subst fb
    cases ha; cases hb
    exact ⟨_, hu, by simp [Instr.sameNow, scEq]⟩
  · rename_i hu
    cases h
    cases a <;> simp [Sc.fits] at fa
    cases b <;> simp [Sc.fits] at fb
    cases ha; cases hb
    exact ⟨_, hu, by simp [Instr.sameNow, scEq, ba_eq]⟩
  · rename_i hu
    cases h
    cases a <;> simp [Sc.fits] at fa
    cases b <;> simp [Sc.fits] at fb
    cases ha; cases hb
    exact ⟨_, hu, by simp [Instr.sameNow, scEq]⟩
  · rename_i hu; cases hk : K t <;> simp [hk] at h
  · rename_i hu; cases hk : K t <;> simp [hk] at h
  · cases h

theorem keySh_many {t : TypeId} {cs : List Sc} (h : keySh P K t = some (.many cs)) : K t = some cs ∧ ∃ d, P.underlying t = some d ∧ (∀ x y, Instr.sameNow d (.agg x) y = none) ∧ (∀ k, d ≠ .int k) ∧ d ≠ .string ∧ d ≠ .bool := by
  unfold keySh at h
  split at h
  · cases h
  · cases h
  · cases h
  · rename_i hu
    simp at h
    exact ⟨h, _, hu, fun x y => by simp [Instr.sameNow], by simp, by simp, by simp⟩
  · rename_i hu
    simp at h
    exact ⟨h, _, hu, fun x y => by simp [Instr.sameNow], by simp, by simp, by simp⟩
  · cases h

/-- What a search comes to: the first entry whose key is equal. -/
inductive Find (k : AV) : List AEnt → List MapEntry → Option (Nat × Value) → Prop
  | nil : Find k [] [] none
  | here (e : AEnt) (es : List AEnt) (m : MapEntry) (ms : List MapEntry) : keyEq k e.key = true → Find k (e :: es) (m :: ms) (some (0, m.val))
  | miss (e : AEnt) (es : List AEnt) (m : MapEntry) (ms : List MapEntry) : keyEq k e.key = false → Find k es ms none → Find k (e :: es) (m :: ms) none
  | later (e : AEnt) (es : List AEnt) (m : MapEntry) (ms : List MapEntry) (i : Nat) (v : Value) : keyEq k e.key = false → Find k es ms (some (i, v)) → Find k (e :: es) (m :: ms) (some (i + 1, v))

theorem EntR.find {S : St} {sh : KSh} (k : AV) {es : List AEnt} {ms : List MapEntry} (h : EntR S sh es ms) : ∃ r, Find k es ms r := by
  induction h with
  | nil => exact ⟨_, .nil⟩
  | cons e es m ms _ _ _ _ _ ih =>
    obtain ⟨r, hr⟩ := ih
    cases hk : keyEq k e.key with
    | true => exact ⟨_, .here e es m ms hk⟩
    | false =>
      cases r with
      | none => exact ⟨_, .miss e es m ms hk hr⟩
      | some r => exact ⟨_, .later e es m ms r.1 r.2 hk hr⟩

theorem findNow_of {S : St} {sh : KSh} {c : Sc} (hsh : sh = .one c) {t : TypeId} (h : keySh P K t = some sh) {k : AV} {x : Value} (hk : VR S k x) (fk : sh.fits k = true) {d : TypeDesc} (hd : P.underlying t = some d) {es : List AEnt} {ms : List MapEntry} (hE : EntR S sh es ms) {r} (hf : Find k es ms r) :
    ∀ i, Instr.findNow d x ms i = some (r.map fun (j, v) => (i + j, v)) := by
  subst hsh
  induction hf with
  | nil => intro i; rfl
  | here e es m ms hk' =>
    intro i
    cases hE with
    | cons _ _ _ _ h1 h2 h3 h4 h5 =>
      obtain ⟨d', hd', hs⟩ := sameNow_sc h hk h1 fk h4
      rw [hd] at hd'; cases hd'
      have : scEq k e.key = true := by
        cases k <;> cases hc : e.key <;> rw [hc] at hk' h4 <;> simp [keyEq, KSh.fits, Sc.fits] at hk' fk h4 ⊢ <;> (try exact hk') <;> (cases c <;> simp [Sc.fits] at fk h4)
      simp [Instr.findNow, hs, this]
  | miss e es m ms hk' _ ih =>
    intro i
    cases hE with
    | cons _ _ _ _ h1 h2 h3 h4 h5 =>
      obtain ⟨d', hd', hs⟩ := sameNow_sc h hk h1 fk h4
      rw [hd] at hd'; cases hd'
      have : scEq k e.key = false := by
        cases k <;> cases hc : e.key <;> rw [hc] at hk' h4 <;> simp [keyEq, KSh.fits, Sc.fits] at hk' fk h4 ⊢ <;> (try exact hk') <;> (cases c <;> simp [Sc.fits] at fk h4)
      simp only [Instr.findNow, hs, this]
      rw [ih h5 (i + 1)]
      rfl
  | later e es m ms j v hk' _ ih =>
    intro i
    cases hE with
    | cons _ _ _ _ h1 h2 h3 h4 h5 =>
      obtain ⟨d', hd', hs⟩ := sameNow_sc h hk h1 fk h4
      rw [hd] at hd'; cases hd'
      have : scEq k e.key = false := by
        cases k <;> cases hc : e.key <;> rw [hc] at hk' h4 <;> simp [keyEq, KSh.fits, Sc.fits] at hk' fk h4 ⊢ <;> (try exact hk') <;> (cases c <;> simp [Sc.fits] at fk h4)
      simp only [Instr.findNow, hs, this]
      rw [ih h5 (i + 1)]
      simp only [Option.map_some]
      rw [show i + 1 + j = i + (j + 1) from by omega]

theorem findAsking_of (hK : KeysOK P K) {S : St} {cs : List Sc} {t : TypeId} (h : K t = some cs) {k : List AV} {x : List Value} (hk : VRs S k x) (fk : conf cs k = true) (w : World) {es : List AEnt} {ms : List MapEntry} (hE : EntR S (.many cs) es ms) {r} (hf : Find (.agg k) es ms r) :
    ∀ i, (Instr.findAsking t (.agg x.toArray) ms i).run P w = .ok (r.map fun (j, v) => (i + j, v)) w := by
  induction hf with
  | nil => intro i; rfl
  | here e es m ms hk' =>
    intro i
    cases hE with
    | cons _ _ _ _ h1 h2 h3 h4 h5 =>
      cases hc : e.key <;> rw [hc] at h4 h1 hk' <;> simp [KSh.fits] at h4
      cases hm : m.key <;> rw [hm] at h1 <;> cases h1
      rename_i ys hs
      have := (hK t cs h).eq S w k _ x ys fk h4 hk hs
      simp only [keyEq] at hk'
      simp [Instr.findAsking, hm, this, hk']
  | miss e es m ms hk' _ ih =>
    intro i
    cases hE with
    | cons _ _ _ _ h1 h2 h3 h4 h5 =>
      cases hc : e.key <;> rw [hc] at h4 h1 hk' <;> simp [KSh.fits] at h4
      cases hm : m.key <;> rw [hm] at h1 <;> cases h1
      rename_i ys hs
      have := (hK t cs h).eq S w k _ x ys fk h4 hk hs
      simp only [keyEq] at hk'
      simp only [Instr.findAsking, hm, Sem.run_bind, this, hk', Result.andThen_ok, Bool.false_eq_true, if_false]
      rw [ih h5 (i + 1)]
      rfl
  | later e es m ms j v hk' _ ih =>
    intro i
    cases hE with
    | cons _ _ _ _ h1 h2 h3 h4 h5 =>
      cases hc : e.key <;> rw [hc] at h4 h1 hk' <;> simp [KSh.fits] at h4
      cases hm : m.key <;> rw [hm] at h1 <;> cases h1
      rename_i ys hs
      have := (hK t cs h).eq S w k _ x ys fk h4 hk hs
      simp only [keyEq] at hk'
      simp only [Instr.findAsking, hm, Sem.run_bind, this, hk', Result.andThen_ok, Bool.false_eq_true, if_false]
      rw [ih h5 (i + 1)]
      simp only [Option.map_some]
      rw [show i + 1 + j = i + (j + 1) from by omega]

/-- The search for a key comes to what the list says. -/
theorem findKey_of (hK : KeysOK P K) {S : St} {sh : KSh} {t : TypeId} (h : keySh P K t = some sh) {k : AV} {x : Value} (hk : VR S k x) (fk : sh.fits k = true) (w : World) {es : List AEnt} {ms : List MapEntry} (hE : EntR S sh es ms) {r} (hf : Find k es ms r) :
    (Instr.findKey t x ms).run P w = .ok r w := by
  cases sh with
  | one c =>
    have hd : ∃ d, P.underlying t = some d := by
      unfold keySh at h; split at h <;> first | exact ⟨_, ‹_›⟩ | cases h
    obtain ⟨d, hd⟩ := hd
    have := findNow_of rfl h hk fk hd hE hf 0
    simp only [Instr.findKey, Sem.run_bind, run_underlying hd, Result.andThen_ok, this, Sem.run_pure]
    cases r <;> simp
  | many cs =>
    obtain ⟨h1, d, hd, h2, _, _, _⟩ := keySh_many h
    cases k <;> simp [KSh.fits] at fk
    cases hk with
    | agg k x hs =>
      have := findAsking_of hK h1 hs fk w hE hf 0
      simp only [Instr.findKey, Sem.run_bind, run_underlying hd, Result.andThen_ok]
      cases ms with
      | nil => cases hf; simp [Instr.findNow]
      | cons m ms =>
        simp only [Instr.findNow, h2, this]
        cases r <;> simp

theorem checkKey_of (hK : KeysOK P K) {S : St} {sh : KSh} {t : TypeId} (h : keySh P K t = some sh) {k : AV} {x : Value} (hk : VR S k x) (fk : sh.fits k = true) (em : Bool) (w : World) : (Instr.checkKey em 10000 t x).run P w = .ok () w := by
  cases sh with
  | one c =>
    have key : (∀ d, (Instr.checkKey em (d + 1) t x).run P w = .ok () w) → (Instr.checkKey em 10000 t x).run P w = .ok () w := fun h => h 9999
    apply key
    intro d
    unfold keySh at h
    split at h
    · rename_i hu; simp [Instr.checkKey, run_underlying hu]
    · rename_i hu; simp [Instr.checkKey, run_underlying hu]
    · rename_i hu; simp [Instr.checkKey, run_underlying hu]
    · rename_i hu; cases hk : K t <;> simp [hk] at h
    · rename_i hu; cases hk : K t <;> simp [hk] at h
    · cases h
  | many cs =>
    obtain ⟨h1, _⟩ := keySh_many h
    cases k <;> simp [KSh.fits] at fk
    cases hk with
    | agg _ x hs => exact (hK t cs h1).chk S em w _ x fk hs

theorem Find.get {k : AV} {es : List AEnt} {ms : List MapEntry} {r} (h : Find k es ms r) : (r = none → findE k es = none) ∧ ∀ i v, r = some (i, v) → ∃ e m, findE k es = some e ∧ es[i]? = some e ∧ ms[i]? = some m ∧ v = m.val ∧ keyEq k e.key = true := by
  induction h with
  | nil => simp [findE]
  | here e es m ms hk => refine ⟨by simp, ?_⟩; intro i v h; cases h; exact ⟨e, m, by simp [findE, hk], rfl, rfl, rfl, hk⟩
  | miss e es m ms hk _ ih => simp [findE, hk, ih.1 rfl]
  | later e es m ms i v hk _ ih =>
    refine ⟨by simp, ?_⟩
    intro j u h
    cases h
    obtain ⟨e', m', h1, h2, h3, h4, h5⟩ := ih.2 i v rfl
    exact ⟨e', m', by simp [findE, hk, h1], by simpa using h2, by simpa using h3, h4, h5⟩

theorem EntR.at {S : St} {sh : KSh} {es : List AEnt} {ms : List MapEntry} (h : EntR S sh es ms) : ∀ {i : Nat} {e m}, es[i]? = some e → ms[i]? = some m → VR S e.key m.key ∧ VR S e.val m.val ∧ e.born = m.born ∧ sh.fits e.key = true := by
  induction h with
  | nil => intro i e m h; simp at h
  | cons e es m ms h1 h2 h3 h4 _ ih =>
    intro i e' m' he hm
    cases i with
    | zero => simp at he hm; subst he; subst hm; exact ⟨h1, h2, h3, h4⟩
    | succ i => simp at he hm; exact ih he hm

theorem EntR.set {S : St} {sh : KSh} {k v : AV} {x y : Value} (hk : VR S k x) (hv : VR S v y) (fk : sh.fits k = true) {es : List AEnt} {ms : List MapEntry} {r} (hf : Find k es ms r) : EntR S sh es ms → ∀ i u, r = some (i, u) → EntR S sh (setE k v es) (ms.modify i fun m => { m with key := x, val := y }) := by
  induction hf with
  | nil => intro _ i u h; cases h
  | here e es m ms hk' =>
    intro h i u hr
    cases hr
    cases h with
    | cons _ _ _ _ h1 h2 h3 h4 h5 =>
      simp only [setE, hk', if_true, List.modify_zero_cons]
      exact .cons _ _ _ _ hk hv h3 fk h5
  | miss => intro _ i u h; cases h
  | later e es m ms j u' hk' _ ih =>
    intro h i u hr
    cases hr
    cases h with
    | cons _ _ _ _ h1 h2 h3 h4 h5 =>
      simp only [setE, hk', Bool.false_eq_true, if_false, List.modify_succ_cons]
      exact .cons _ _ _ _ h1 h2 h3 h4 (ih h5 j u' rfl)

theorem EntR.drop {S : St} {sh : KSh} {k : AV} {es : List AEnt} {ms : List MapEntry} {r} (hf : Find k es ms r) : EntR S sh es ms → (∀ i u, r = some (i, u) → EntR S sh (dropE k es) (ms.eraseIdx i)) ∧ (r = none → dropE k es = es) := by
  induction hf with
  | nil => intro _; exact ⟨fun i u h => (by cases h), fun _ => rfl⟩
  | here e es m ms hk' =>
    intro h
    cases h with
    | cons _ _ _ _ h1 h2 h3 h4 h5 =>
      refine ⟨fun i u hr => ?_, fun hr => by cases hr⟩
      cases hr
      simpa [dropE, hk'] using h5
  | miss e es m ms hk' _ ih =>
    intro h
    cases h with
    | cons _ _ _ _ h1 h2 h3 h4 h5 => exact ⟨fun i u hr => (by cases hr), fun _ => by simp [dropE, hk', (ih h5).2 rfl]⟩
  | later e es m ms j u' hk' _ ih =>
    intro h
    cases h with
    | cons _ _ _ _ h1 h2 h3 h4 h5 =>
      refine ⟨fun i u hr => ?_, fun hr => by cases hr⟩
      cases hr
      simp only [dropE, hk', Bool.false_eq_true, if_false, List.eraseIdx_cons_succ]
      exact .cons _ _ _ _ h1 h2 h3 h4 ((ih h5).1 j u' rfl)

theorem EntR.push {S : St} {sh : KSh} {es : List AEnt} {ms : List MapEntry} (h : EntR S sh es ms) {e : AEnt} {m : MapEntry} (h1 : VR S e.key m.key) (h2 : VR S e.val m.val) (h3 : e.born = m.born) (h4 : sh.fits e.key = true) : EntR S sh (es ++ [e]) (ms ++ [m]) := by
  induction h with
  | nil => exact .cons _ _ _ _ h1 h2 h3 h4 .nil
  | cons e' es m' ms g1 g2 g3 g4 _ ih => exact .cons _ _ _ _ g1 g2 g3 g4 ih

theorem EntR.length {S : St} {sh : KSh} {es : List AEnt} {ms : List MapEntry} (h : EntR S sh es ms) : es.length = ms.length := by
  induction h with
  | nil => rfl
  | cons _ _ _ _ _ _ _ _ _ ih => simp [ih]

theorem sameBits_sc {S : St} {a b : AV} {x y : Value} (ha : VR S a x) (hb : VR S b y) (h : scEq a b = true) {c : Sc} (fa : c.fits a = true) (fb : c.fits b = true) (n : Nat) : Instr.sameBits n y x = true := by
  cases a <;> cases b <;> simp [scEq] at h
  · cases ha; cases hb; subst h; cases n <;> simp [Instr.sameBits]
  · cases ha; cases hb; subst h
    cases c <;> simp [Sc.fits] at fa fb
    subst fa; subst fb
    cases n <;> simp [Instr.sameBits]
  · cases ha; cases hb; subst h; cases n <;> simp [Instr.sameBits, ba_eq]

theorem sameBits_scs {S : St} (n : Nat) : ∀ {cs : List Sc} {as bs : List AV} {xs ys : List Value}, conf cs as = true → conf cs bs = true → VRs S as xs → VRs S bs ys → scsEq as bs = true → xs.length = ys.length ∧ ((ys.zip xs).all fun (x, y) => Instr.sameBits n x y) = true
  | [], [], [], _, _, _, _, .nil, .nil, _ => by simp
  | c :: cs, a :: as, b :: bs, _, _, h1, h2, .cons _ x _ xs ha hs, .cons _ y _ ys hb hs', he => by
    simp [conf] at h1 h2
    simp [scsEq] at he
    obtain ⟨e1, e2⟩ := sameBits_scs n h1.2 h2.2 hs hs' he.2
    refine ⟨by simp [e1], ?_⟩
    simp only [List.zip_cons_cons, List.all_cons, Bool.and_eq_true]
    exact ⟨sameBits_sc ha hb he.1 h1.1 h2.1 n, e2⟩
  | [], _ :: _, _, _, _, h, _, _, _, _ => by simp [conf] at h
  | [], [], _ :: _, _, _, _, h, _, _, _ => by simp [conf] at h
  | _ :: _, [], _, _, _, h, _, _, _, _ => by simp [conf] at h
  | _ :: _, _ :: _, [], _, _, _, h, _, _, _ => by simp [conf] at h

theorem keyStays {S : St} {sh : KSh} {k k' : AV} {x y : Value} (hk : VR S k x) (hk' : VR S k' y) (f : sh.fits k = true) (f' : sh.fits k' = true) (he : keyEq k k' = true) (w : World) : (Instr.keyThatStays y x).run P w = .ok x w := by
  have key : Instr.sameBits 10000 y x = true := by
    have gen : (∀ d, Instr.sameBits (d + 1) y x = true) → Instr.sameBits 10000 y x = true := fun h => h 9999
    apply gen
    intro d
    cases sh with
    | one c =>
      have : scEq k k' = true := by
        cases k <;> cases k' <;> simp [keyEq, KSh.fits, Sc.fits] at he f f' ⊢ <;> (try exact he) <;> (cases c <;> simp [Sc.fits] at f f')
      exact sameBits_sc hk hk' this f f' _
    | many cs =>
      cases k <;> simp [KSh.fits] at f
      cases k' <;> simp [KSh.fits] at f'
      cases hk with
      | agg _ xs hs =>
        cases hk' with
        | agg _ ys hs' =>
          obtain ⟨e1, e2⟩ := sameBits_scs (S := S) d f f' hs hs' he
          simp only [Instr.sameBits, Bool.and_eq_true, beq_iff_eq, List.size_toArray]
          exact ⟨e1.symm, e2⟩
  simp [Instr.keyThatStays, key]

theorem mapObj {S : St} (hS : Sim S) {o : Nat} (ho : o < S.H.size) {sh : KSh} {es : List AEnt} {clock : Nat} (hobj : S.H.obj o = .map sh es clock) : ∃ ms : List MapEntry, S.w.heap[(S.ι o).1]? = some (.map ms.toArray clock) ∧ EntR S sh es ms := by
  have := hS.objs o ho
  rw [hobj] at this
  cases this with
  | map _ _ ms _ h1 h2 => exact ⟨ms, h1, h2⟩

theorem run_getMap {w : World} {b : Nat} {ms : Array MapEntry} {c : Nat} (h : w.heap[b]? = some (.map ms c)) : (getObj b).run P w = .ok (.map ms c) w := by
  simp [getObj, Sem.run, h]
theorem run_setMap {w : World} {b : Nat} {ms : Array MapEntry} {c : Nat} (h : w.heap[b]? = some (.map ms c)) (o : Obj) : (setObj b o).run P w = .ok () { w with heap := w.heap.setIfInBounds b o } := by
  simp [setObj, Sem.run, h]

theorem keySh_under {t : TypeId} {sh : KSh} (h : keySh P K t = some sh) : ∃ d, P.underlying t = some d := by
  unfold keySh at h
  split at h <;> first | exact ⟨_, ‹_›⟩ | cases h

theorem alookup_sound (hK : KeysOK P K) {S : St} (hS : Sim S) {t : TypeId} {m k v : AV} {x y : Value} {ok : Bool} (hm : VR S m x) (hk : VR S k y) (h : alookup P K S.H t m k ok = some v) :
    ∃ z, (Instr.lookup t x y ok).run P S.w = .ok z S.w ∧ VR S v z := by
  unfold alookup at h
  split at h <;> first | (cases h; done) | skip
  rename_i kt e hu
  simp only [Option.bind_eq_some_iff] at h
  obtain ⟨sh, hsh, z, hz, h⟩ := h
  obtain ⟨zv, hzv, hvz⟩ := tZV_some S hz
  split at h <;> first | (cases h; done) | skip
  rename_i fk
  have hck := fun em => checkKey_of hK hsh hk fk em S.w
  split at h <;> first | (cases h; done) | skip
  · cases hm
    cases h
    have hfk := findKey_of hK hsh hk fk S.w (.nil) (.nil)
    cases ok
    · exact ⟨zv, by simp [Instr.lookup, run_underlying hu, hck, hfk, hzv], by simpa using hvz⟩
    · exact ⟨.tuple [zv, .bool false].toArray, by simp [Instr.lookup, run_underlying hu, hck, hfk, hzv], .tup _ _ (.cons _ _ _ _ hvz (.cons _ _ _ _ (.bool _) .nil))⟩
  · rename_i o
    cases hm with
    | map _ ho =>
      split at h <;> first | (cases h; done) | skip
      rename_i sh' es clock hobj
      split at h <;> first | (cases h; done) | skip
      rename_i hsh'
      subst hsh'
      obtain ⟨ms, hb, hE⟩ := mapObj hS ho hobj
      obtain ⟨r, hf⟩ := hE.find k
      have hfk := findKey_of hK hsh hk fk S.w hE hf
      have hget := run_getMap (P := P) hb
      cases r with
      | none =>
        rw [hf.get.1 rfl] at h
        cases h
        cases ok
        · exact ⟨zv, by simp [Instr.lookup, run_underlying hu, hget, hck, hfk, hzv], by simpa using hvz⟩
        · exact ⟨.tuple [zv, .bool false].toArray, by simp [Instr.lookup, run_underlying hu, hget, hck, hfk, hzv], .tup _ _ (.cons _ _ _ _ hvz (.cons _ _ _ _ (.bool _) .nil))⟩
      | some r =>
        obtain ⟨i, u⟩ := r
        obtain ⟨e', m', h1, h2, h3, h4, h5⟩ := hf.get.2 i u rfl
        rw [h1] at h
        cases h
        have hat := hE.at h2 h3
        subst h4
        cases ok
        · exact ⟨m'.val, by simp [Instr.lookup, run_underlying hu, hget, hck, hfk], by simpa using hat.2.1⟩
        · exact ⟨.tuple [m'.val, .bool true].toArray, by simp [Instr.lookup, run_underlying hu, hget, hck, hfk], .tup _ _ (.cons _ _ _ _ hat.2.1 (.cons _ _ _ _ (.bool _) .nil))⟩

theorem modify_toArray {ms : List MapEntry} {i : Nat} {f : MapEntry → MapEntry} : (ms.toArray.modify i f) = (ms.modify i f).toArray := by
  simp

theorem amapUpdate_sound (hK : KeysOK P K) {S : St} (hS : Sim S) {t : TypeId} {m k v : AV} {x y z : Value} {H' : AHeap} (hm : VR S m x) (hk : VR S k y) (hv : VR S v z) (h : amapUpdate P K S.H t m k v = some H') :
    ∃ T : St, (Instr.mapUpdate t x y z).run P S.w = .ok () T.w ∧ T.H = H' ∧ Sim T ∧ Ext S T := by
  unfold amapUpdate at h
  split at h <;> first | (cases h; done) | skip
  rename_i kt e hu
  simp only [Option.bind_eq_some_iff] at h
  obtain ⟨sh, hsh, h⟩ := h
  split at h <;> first | (cases h; done) | skip
  rename_i fk
  have hck := fun em => checkKey_of hK hsh hk fk em S.w
  split at h <;> first | (cases h; done) | skip
  rename_i o
  cases hm with
  | map _ ho =>
    split at h <;> first | (cases h; done) | skip
    rename_i sh' es clock hobj
    split at h <;> first | (cases h; done) | skip
    rename_i hsh'
    subst hsh'
    obtain ⟨ms, hb, hE⟩ := mapObj hS ho hobj
    obtain ⟨r, hf⟩ := hE.find k
    have hfk := findKey_of hK hsh hk fk S.w hE hf
    have hget := run_getMap (P := P) hb
    cases r with
    | none =>
      rw [hf.get.1 rfl] at h
      cases h
      have hE' := hE.push (e := ⟨k, v, clock⟩) (m := ⟨y, z, clock⟩) hk hv rfl fk
      obtain ⟨g1, g2⟩ := put_map hS ho hobj hb (clock' := clock + 1) hE'
      refine ⟨_, ?_, rfl, g1, g2⟩
      have hset := run_setMap (P := P) hb (.map (ms ++ [(⟨y, z, clock⟩ : MapEntry)]).toArray (clock + 1))
      simp [Instr.mapUpdate, run_underlying hu, hget, hck, hfk]
      simpa [St.put] using hset
    | some r =>
      obtain ⟨i, u⟩ := r
      obtain ⟨e', m', h1, h2, h3, h4, h5⟩ := hf.get.2 i u rfl
      rw [h1] at h
      cases h
      have hat := hE.at h2 h3
      have hE' := hE.set hk hv fk hf i u rfl
      obtain ⟨g1, g2⟩ := put_map hS ho hobj hb (clock' := clock) hE'
      have hstay := keyStays hk hat.1 fk hat.2.2.2 h5 S.w (P := P)
      refine ⟨_, ?_, rfl, g1, g2⟩
      have hset := run_setMap (P := P) hb (.map (ms.modify i fun m => { m with key := y, val := z }).toArray clock)
      simp [Instr.mapUpdate, run_underlying hu, hget, hck, hfk, h3, hstay]
      simpa [St.put] using hset

theorem amapEntry_sound (hK : KeysOK P K) {S : St} (hS : Sim S) {t : TypeId} {m k v : AV} {x y : Value} {H' : AHeap} (hm : VR S m x) (hk : VR S k y) (h : amapEntry P K S.H t m k = some (v, H')) :
    ∃ (T : St) (r : Value), (Instr.mapEntry t x y).run P S.w = .ok r T.w ∧ T.H = H' ∧ Sim T ∧ Ext S T ∧ VR T v r := by
  unfold amapEntry at h
  split at h <;> first | (cases h; done) | skip
  rename_i kt e hu
  simp only [Option.bind_eq_some_iff] at h
  obtain ⟨sh, hsh, zz, hz, h⟩ := h
  obtain ⟨zv, hzv, hvz⟩ := tZV_some S hz
  split at h <;> first | (cases h; done) | skip
  rename_i fk
  have hck := fun em => checkKey_of hK hsh hk fk em S.w
  split at h <;> first | (cases h; done) | skip
  rename_i o
  cases hm with
  | map _ ho =>
    split at h <;> first | (cases h; done) | skip
    rename_i sh' es clock hobj
    split at h <;> first | (cases h; done) | skip
    rename_i hsh'
    subst hsh'
    obtain ⟨ms, hb, hE⟩ := mapObj hS ho hobj
    obtain ⟨r, hf⟩ := hE.find k
    have hfk := findKey_of hK hsh hk fk S.w hE hf
    have hget := run_getMap (P := P) hb
    cases r with
    | none =>
      rw [hf.get.1 rfl] at h
      cases h
      have hE' := hE.push (e := ⟨k, zz, clock⟩) (m := ⟨y, zv, clock⟩) hk hvz rfl fk
      obtain ⟨g1, g2⟩ := put_map hS ho hobj hb (clock' := clock + 1) hE'
      refine ⟨_, .tuple [zv, .int .i64 clock].toArray, ?_, rfl, g1, g2, .tup _ _ (.cons _ _ _ _ (hvz.ext g2) (.cons _ _ _ _ (.int _ _) .nil))⟩
      have hset := run_setMap (P := P) hb (.map (ms ++ [(⟨y, zv, clock⟩ : MapEntry)]).toArray (clock + 1))
      simp [Instr.mapEntry, run_underlying hu, hget, hck, hfk, hzv, goInt]
      simp [hset, St.put]
    | some r =>
      obtain ⟨i, u⟩ := r
      obtain ⟨e', m', h1, h2, h3, h4, h5⟩ := hf.get.2 i u rfl
      rw [h1] at h
      cases h
      have hat := hE.at h2 h3
      have hE' := hE.set hk hat.2.1 fk hf i u rfl
      obtain ⟨g1, g2⟩ := put_map hS ho hobj hb (clock' := clock) hE'
      have hstay := keyStays hk hat.1 fk hat.2.2.2 h5 S.w (P := P)
      subst h4
      refine ⟨_, .tuple [m'.val, .int .i64 e'.born].toArray, ?_, rfl, g1, g2, .tup _ _ (.cons _ _ _ _ (hat.2.1.ext g2) (.cons _ _ _ _ (.int _ _) .nil))⟩
      have hmod : (ms.modify i fun m => { m with key := y, val := m'.val }) = ms.modify i fun m => { m with key := y } := by
        apply List.ext_getElem?
        intro j
        rw [List.getElem?_modify, List.getElem?_modify]
        by_cases hj : i = j
        · subst hj; simp [h3]
        · simp [hj]
      have hset := run_setMap (P := P) hb (.map (ms.modify i fun m => { m with key := y, val := m'.val }).toArray clock)
      simp [Instr.mapEntry, run_underlying hu, hget, hck, hfk, h3, hstay, goInt, hat.2.2.1]
      rw [hmod] at hset
      simp [hset, St.put, hmod]

theorem EntR.stamp {S : St} {sh : KSh} {v : AV} {y : Value} (hv : VR S v y) (n : Int) {es : List AEnt} {ms : List MapEntry} (h : EntR S sh es ms) : (es.any fun e => (e.born : Int) == n) = true →
    ∃ i, ms.findIdx? (fun e => (e.born : Int) == n) = some i ∧ EntR S sh (stampE n v es) (ms.modify i fun m => { m with val := y }) := by
  induction h with
  | nil => intro h; simp at h
  | cons e es m ms h1 h2 h3 h4 h5 ih =>
    intro h
    by_cases hb : ((e.born : Int) == n) = true
    · have hb' : ((m.born : Int) == n) = true := by rw [← h3]; exact hb
      refine ⟨0, by simp [List.findIdx?_cons, hb'], ?_⟩
      simp only [stampE, hb, if_true, List.modify_zero_cons]
      exact .cons _ _ _ _ h1 hv h3 h4 h5
    · have hb' : ((m.born : Int) == n) = false := by rw [← h3]; simpa using hb
      simp only [List.any_cons, hb, Bool.false_or] at h
      obtain ⟨i, hi, hE⟩ := ih h
      refine ⟨i + 1, by simp [List.findIdx?_cons, hb', hi], ?_⟩
      simp only [stampE, hb, if_false, Bool.false_eq_true, List.modify_succ_cons]
      exact .cons _ _ _ _ h1 h2 h3 h4 hE

theorem aentryStore_sound {S : St} (hS : Sim S) {t : TypeId} {m v : AV} {x z : Value} {n : Int} {k : IntKind} {H' : AHeap} (hm : VR S m x) (hv : VR S v z) (h : aentryStore S.H m n v = some H') :
    ∃ T : St, (Instr.entryStore t x (.int k n) z).run P S.w = .ok () T.w ∧ T.H = H' ∧ Sim T ∧ Ext S T := by
  unfold aentryStore at h
  split at h <;> first | (cases h; done) | skip
  rename_i o
  cases hm with
  | map _ ho =>
    split at h <;> first | (cases h; done) | skip
    rename_i sh es clock hobj
    split at h <;> first | (cases h; done) | skip
    rename_i hany
    cases h
    obtain ⟨ms, hb, hE⟩ := mapObj hS ho hobj
    have hget := run_getMap (P := P) hb
    obtain ⟨i, hi, hE'⟩ := hE.stamp hv n hany
    obtain ⟨g1, g2⟩ := put_map hS ho hobj hb (clock' := clock) hE'
    refine ⟨_, ?_, rfl, g1, g2⟩
    have hset := run_setMap (P := P) hb (.map (ms.modify i fun m => { m with val := z }).toArray clock)
    simp [Instr.entryStore, hget, asInt, asIntOf, hi]
    simpa [St.put] using hset

theorem adelete_sound (hK : KeysOK P K) {S : St} (hS : Sim S) {t _t' ty : TypeId} {m k : AV} {x y : Value} {H' : AHeap} (hm : VR S m x) (hk : VR S k y) (h : adelete P K S.H t m k = some H') (rest : List TypeId) :
    ∃ T : St, (Builtin.delete_ (t :: rest).toArray ty #[x, y]).run P S.w = .ok (.tuple #[]) T.w ∧ T.H = H' ∧ Sim T ∧ Ext S T := by
  unfold adelete at h
  split at h <;> first | (cases h; done) | skip
  rename_i kt e hu
  simp only [Option.bind_eq_some_iff] at h
  obtain ⟨sh, hsh, h⟩ := h
  split at h <;> first | (cases h; done) | skip
  rename_i fk
  have hck := fun em => checkKey_of hK hsh hk fk em S.w
  split at h <;> first | (cases h; done) | skip
  rename_i o
  cases hm with
  | map _ ho =>
    split at h <;> first | (cases h; done) | skip
    rename_i sh' es clock hobj
    split at h <;> first | (cases h; done) | skip
    rename_i hsh'
    subst hsh'
    cases h
    obtain ⟨ms, hb, hE⟩ := mapObj hS ho hobj
    obtain ⟨r, hf⟩ := hE.find k
    have hfk := findKey_of hK hsh hk fk S.w hE hf
    have hget := run_getMap (P := P) hb
    obtain ⟨d1, d2⟩ := hE.drop hf
    cases r with
    | none =>
      have hE' : EntR S sh' (dropE k es) ms := by rw [d2 rfl]; exact hE
      obtain ⟨g1, g2⟩ := put_map hS ho hobj hb (clock' := clock) hE'
      refine ⟨_, ?_, rfl, g1, g2⟩
      have hset := run_setMap (P := P) hb (.map ms.toArray clock)
      simp [Builtin.delete_, run_underlying hu, hget, hck, hfk]
      simp [hset, St.put]
    | some r =>
      obtain ⟨i, u⟩ := r
      have hE' := d1 i u rfl
      obtain ⟨g1, g2⟩ := put_map hS ho hobj hb (clock' := clock) hE'
      refine ⟨_, ?_, rfl, g1, g2⟩
      have hset := run_setMap (P := P) hb (.map (ms.eraseIdx i).toArray clock)
      simp [Builtin.delete_, run_underlying hu, hget, hck, hfk]
      simp [hset, St.put]

end
end Go.Proofs.Ytghjglnebcpcmaa
/-! The interpreter is right: indexes, cuts, lengths, conversions, new rows, built values. -/
namespace Go.Proofs.Ytghjglnebcpcmaa
open Go.RowKit

section
variable {P : Program} {K : TypeId → Option (List Sc)}

theorem aindexAddr_sound {S : St} {t : TypeId} {x v : AV} {y : Value} {k : IntKind} {i : Int} (hx : VR S x y) (h : aindexAddr P t x i = some v) : ∃ z, (Instr.indexAt t y (.int k i)).run P S.w = .ok z S.w ∧ VR S v z := by
  unfold aindexAddr at h
  split at h <;> first | (cases h; done) | skip
  · rename_i len e o off hu
    simp only [Option.bind_eq_some_iff] at h
    obtain ⟨sz, hsz, h⟩ := h
    split at h <;> first | (cases h; done) | skip
    rename_i hi
    cases h
    cases hx with
    | ptr _ _ m ho hm =>
      refine ⟨_, ?_, .ptr o (off + i.toNat * sz) m ho hm⟩
      simp [Instr.indexAt, asIntOf, run_underlying hu, Instr.sureAddr, hi, run_sizeOf hsz, add_plain, Nat.add_assoc]
  · rename_i len e cs off hu
    simp only [Option.bind_eq_some_iff] at h
    obtain ⟨sz, hsz, h⟩ := h
    split at h <;> first | (cases h; done) | skip
    rename_i hi
    cases h
    cases hx with
    | ptrl _ b base _ xs hs hb hn hc =>
      refine ⟨_, ?_, .ptrl cs b base (off + i.toNat * sz) xs hs hb hn hc⟩
      simp [Instr.indexAt, asIntOf, run_underlying hu, Instr.sureAddr, hi, run_sizeOf hsz, add_plain, Nat.add_assoc]
  · rename_i e o off sz n full hu
    split at h <;> first | (cases h; done) | skip
    rename_i hc
    obtain ⟨hsz, h0, h1⟩ := hc
    cases h
    cases hx with
    | row0 => simp at h1; omega
    | row _ _ _ _ cap m _ ho hm g1 g2 g3 g4 =>
      refine ⟨_, ?_, .ptr o (off + i.toNat * sz) m ho hm⟩
      simp [Instr.indexAt, asIntOf, run_underlying hu, h0, h1, run_sizeOf hsz, add_plain, Nat.add_assoc]
  · rename_i e sz n cs hu
    split at h <;> first | (cases h; done) | skip
    rename_i hc
    obtain ⟨hsz, h0, h1⟩ := hc
    cases h
    cases hx with
    | lst0 => simp at h1; omega
    | lst _ _ cap _ b off xs hs hl hb hn hcell hle =>
      refine ⟨_, ?_, .ptrl cs b off (i.toNat * sz) xs hs hb hn hcell⟩
      simp [Instr.indexAt, asIntOf, run_underlying hu, h0, h1, run_sizeOf hsz, add_plain]

theorem aindex_sound {S : St} {t : TypeId} {x v : AV} {y : Value} {k : IntKind} {i : Int} (hx : VR S x y) (h : aindex P t x i = some v) : ∃ z, (Instr.index t y (.int k i)).run P S.w = .ok z S.w ∧ VR S v z := by
  unfold aindex at h
  split at h <;> first | (cases h; done) | skip
  · rename_i len e cs hu
    simp only [Option.bind_eq_some_iff] at h
    obtain ⟨sz, hsz, h⟩ := h
    split at h <;> first | (cases h; done) | skip
    rename_i hi
    cases hx with
    | agg _ xs hs =>
      obtain ⟨z, hz, hv⟩ := part_sound (P := P) (w := S.w) hs h
      exact ⟨z, by simp [Instr.index, asIntOf, run_underlying hu, hi, run_sizeOf hsz, hz], hv⟩
  · rename_i s hu
    cases hx
    split at h <;> first | (cases h; done) | skip
    rename_i h0
    simp only [Option.map_eq_some_iff] at h
    obtain ⟨b, hb, rfl⟩ := h
    refine ⟨_, ?_, .int _ _⟩
    have hlt : i.toNat < s.size := by
      have := (List.getElem?_eq_some_iff.1 hb).1
      simpa [ByteArray.toList_eq] using this
    have hget : s[i.toNat]? = some b := by
      rw [ByteArray.toList_eq] at hb
      rw [getElem?_pos s i.toNat hlt]
      have h2 := (List.getElem?_eq_some_iff.1 hb).2
      rw [← h2]
      rfl
    simp [Instr.index, asIntOf, run_underlying hu, h0, hget]

theorem run_bound {S : St} {d _y : Nat} {l : Option AV} {ly : Option Value} (hl : match l, ly with | none, none => True | some a, some b => VR S a b | _, _ => False) {i : Int} (h : bound d l = some i) :
    (l = none ∧ ly = none ∧ i = d) ∨ ∃ k, ly = some (.int k i) := by
  cases l <;> cases ly <;> simp at hl
  · simp [bound] at h; exact .inl ⟨rfl, rfl, h.symm⟩
  · rename_i a b
    cases a <;> simp [bound] at h
    cases hl
    subst h
    exact .inr ⟨_, rfl⟩

def OptVR (S : St) (l : Option AV) (ly : Option Value) : Prop := match l, ly with | none, none => True | some a, some b => VR S a b | _, _ => False

theorem run_bounds {S : St} {isS : Bool} {n cap : Nat} {lo hi : Option AV} {ly hy : Option Value} (hl : OptVR S lo ly) (hh : OptVR S hi hy) {l h : Int} (el : bound 0 lo = some l) (eh : bound n hi = some h)
    (h0 : 0 ≤ l) (h1 : l ≤ h) (h2 : h ≤ n) (hc : n ≤ cap) : (Instr.sliceBounds isS n cap ly hy none).run P S.w = .ok (l.toNat, h.toNat, cap) S.w := by
  have hh0 : 0 ≤ h := by omega
  have hhc : h ≤ (cap : Int) := by omega
  rcases run_bound (_y := cap) hl el with ⟨rfl, rfl, rfl⟩ | ⟨k, rfl⟩ <;> rcases run_bound (_y := cap) hh eh with ⟨rfl, rfl, rfl⟩ | ⟨k', rfl⟩
  · simp [Instr.sliceBounds]
  · have h3 := run_sliceBound (P := P) S.w k' h cap .sliceAlen hh0 hhc
    have h4 := run_sliceBound (P := P) S.w k' h cap .sliceAcap hh0 hhc
    cases isS <;> simp [Instr.sliceBounds, h3, h4]
  · have := run_sliceBound (P := P) S.w k l n (.sliceB) h0 (by omega)
    simp [Instr.sliceBounds, this]
  · have := run_sliceBound (P := P) S.w k l h.toNat (.sliceB) h0 (by omega)
    have h3 := run_sliceBound (P := P) S.w k' h cap .sliceAlen hh0 hhc
    have h4 := run_sliceBound (P := P) S.w k' h cap .sliceAcap hh0 hhc
    cases isS <;> simp [Instr.sliceBounds, h3, h4, this]

/-- A part of a row, or nothing of it. -/
theorem VR.cut {S : St} {o off sz n cap m off' : Nat} {full : Bool} (ho : o < S.H.size) (hM : cellsAt S.w (S.ι o).1 m) (g1 : 0 < cap → off' = (S.ι o).2 + off ∧ (S.ι o).2 + off + cap * sz ≤ m) (g2 : n ≤ cap) (g3 : cap ≤ 9223372036854775807) (g4 : full = true → cap = n) :
    VR S (.row o off sz n full) (.slice (some ⟨(S.ι o).1, off', none⟩) n cap) := by
  by_cases h : cap = 0
  · subst h
    obtain rfl : n = 0 := by omega
    exact .row0 o off sz off' m full ho hM
  · obtain ⟨rfl, g⟩ := g1 (by omega)
    exact .row o off sz n cap m full ho hM g g2 g3 g4

theorem VR.rowInfo {S : St} {o off sz n : Nat} {full : Bool} {y : Value} (h : VR S (.row o off sz n full) y) : ∃ cap m off', y = .slice (some ⟨(S.ι o).1, off', none⟩) n cap ∧ o < S.H.size ∧ cellsAt S.w (S.ι o).1 m ∧ (0 < cap → off' = (S.ι o).2 + off ∧ (S.ι o).2 + off + cap * sz ≤ m) ∧ n ≤ cap ∧ cap ≤ 9223372036854775807 ∧ (full = true → cap = n) := by
  cases h with
  | row _ _ _ _ cap m _ ho hM g1 g2 g3 g4 => exact ⟨cap, m, _, rfl, ho, hM, fun _ => ⟨rfl, g1⟩, g2, g3, g4⟩
  | row0 _ _ _ off' m _ ho hM => exact ⟨0, m, off', rfl, ho, hM, fun h => absurd h (Nat.lt_irrefl 0), Nat.le_refl _, by omega, fun _ => rfl⟩

theorem run_sliceRow {S : St} {t e : TypeId} {sz b off n cap : Nat} {ly hy my : Option Value} {l h m : Nat} (hu : P.underlying t = some (.slice e)) (hsz : tS P e = some sz) (hb : (Instr.sliceBounds true n cap ly hy my).run P S.w = .ok (l, h, m) S.w) :
    (Instr.sliceAt t (.slice (some ⟨b, off, none⟩) n cap) ly hy my).run P S.w = .ok (.slice (some ⟨b, if m = l then off else off + l * sz, none⟩) (h - l) (m - l)) S.w := by
  by_cases hm : m = l
  · simp [Instr.sliceAt, run_underlying hu, Instr.slice, hb, run_sizeOf hsz, hm]
  · simp [Instr.sliceAt, run_underlying hu, Instr.slice, hb, run_sizeOf hsz, hm, add_plain]

theorem run_bounds3 {S : St} {n cap : Nat} {lo hi : Option AV} {ly hy : Option Value} (hl : OptVR S lo ly) (hh : OptVR S hi hy) {l h m : Int} {k : IntKind} (el : bound 0 lo = some l) (eh : bound n hi = some h) (hs : hi.isSome = true)
    (h0 : 0 ≤ l) (h1 : l ≤ h) (h2 : h ≤ m) (hm : m ≤ n) (hc : n ≤ cap) : (Instr.sliceBounds true n cap ly hy (some (.int k m))).run P S.w = .ok (l.toNat, h.toNat, m.toNat) S.w := by
  have a1 := run_sliceBound (P := P) S.w k m cap .slice3Acap (by omega) (by omega)
  rcases run_bound (_y := cap) hh eh with ⟨rfl, rfl, rfl⟩ | ⟨k', rfl⟩
  · simp at hs
  · have a2 := run_sliceBound (P := P) S.w k' h m.toNat .slice3B (by omega) (by omega)
    rcases run_bound (_y := cap) hl el with ⟨rfl, rfl, rfl⟩ | ⟨k'', rfl⟩
    · simp [Instr.sliceBounds, a1, a2]
    · have a3 := run_sliceBound (P := P) S.w k'' l h.toNat .slice3C (by omega) (by omega)
      simp [Instr.sliceBounds, a1, a2, a3]

theorem aslice_sound {S : St} (hS : Sim S) {t : TypeId} {x v : AV} {y : Value} {lo hi mx : Option AV} {ly hy my : Option Value} (hx : VR S x y) (hl : OptVR S lo ly) (hh : OptVR S hi hy) (hm : OptVR S mx my) (h : aslice P S.H t x lo hi mx = some v) :
    ∃ z, (Instr.sliceAt t y ly hy my).run P S.w = .ok z S.w ∧ VR S v z := by
  unfold aslice at h
  split at h <;> first | (cases h; done) | skip
  · rename_i s hu
    simp only [Option.bind_eq_some_iff] at h
    obtain ⟨l, el, u, eu, h⟩ := h
    split at h <;> first | (cases h; done) | skip
    rename_i hc
    cases h
    cases hx
    cases my <;> simp [OptVR] at hm
    have hb := run_bounds (P := P) (isS := false) (cap := s.size) hl hh el eu hc.1 hc.2.1 hc.2.2 (Nat.le_refl _)
    exact ⟨_, by simp [Instr.sliceAt, run_underlying hu, Instr.slice, hb], .str _⟩
  · rename_i e o off sz n full hu
    simp only [Option.bind_eq_some_iff] at h
    obtain ⟨l, el, u, eu, h⟩ := h
    split at h <;> first | (cases h; done) | skip
    rename_i hc
    obtain ⟨hsz, h0, h1, h2⟩ := hc
    cases h
    cases my <;> simp [OptVR] at hm
    obtain ⟨cap, m, off', rfl, ho, hM, g1, g2, g3, g4⟩ := hx.rowInfo
    have hb := run_bounds (P := P) (isS := true) (cap := cap) hl hh el eu h0 h1 h2 g2
    refine ⟨_, run_sliceRow hu hsz hb, ?_⟩
    rw [show (u - l).toNat = u.toNat - l.toNat from by omega]
    refine VR.cut ho hM (fun hpos => ?_) (by omega) (by omega) (fun hf => ?_)
    · obtain ⟨rfl, g⟩ := g1 (by omega)
      rw [if_neg (by omega)]
      refine ⟨by omega, ?_⟩
      have : cap * sz = l.toNat * sz + (cap - l.toNat) * sz := by rw [← Nat.add_mul]; congr 1; omega
      omega
    · simp at hf
      have := g4 hf.1
      omega
  · rename_i e o off sz n full k m hu
    simp only [Option.bind_eq_some_iff] at h
    obtain ⟨l, el, u, eu, h⟩ := h
    split at h <;> first | (cases h; done) | skip
    rename_i hc
    obtain ⟨hsz, hs, h0, h1, h2, h3⟩ := hc
    cases h
    cases my <;> simp [OptVR] at hm
    cases hm
    obtain ⟨cap, M, off', rfl, ho, hM, g1, g2, g3, g4⟩ := hx.rowInfo
    have hb := run_bounds3 (P := P) (k := k) (cap := cap) hl hh el eu hs h0 h1 h2 h3 g2
    refine ⟨_, run_sliceRow hu hsz hb, ?_⟩
    rw [show (u - l).toNat = u.toNat - l.toNat from by omega]
    refine VR.cut ho hM (fun hpos => ?_) (by omega) (by omega) (fun hf => ?_)
    · obtain ⟨rfl, g⟩ := g1 (by omega)
      rw [if_neg (by omega)]
      refine ⟨by omega, ?_⟩
      have : cap * sz = l.toNat * sz + (m.toNat - l.toNat) * sz + (cap - m.toNat) * sz := by rw [← Nat.add_mul, ← Nat.add_mul]; congr 1; omega
      omega
    · simp at hf
      omega
  · rename_i e sz n cs hu
    simp only [Option.bind_eq_some_iff] at h
    obtain ⟨l, el, u, eu, h⟩ := h
    split at h <;> first | (cases h; done) | skip
    rename_i hc
    obtain ⟨hsz, h0, h1, h2⟩ := hc
    cases h
    cases my <;> simp [OptVR] at hm
    by_cases hz : (u - l).toNat = 0
    · rw [hz]
      simp only [Nat.zero_mul, List.take_zero]
      cases hx with
      | lst0 _ cap a =>
        have hb := run_bounds (P := P) (isS := true) (cap := cap) hl hh el eu h0 h1 (by simpa using h2) (Nat.zero_le _)
        have e0 : u.toNat - l.toNat = 0 := by omega
        cases a with
        | none => exact ⟨.slice none 0 (cap - l.toNat), by simp [Instr.sliceAt, run_underlying hu, Instr.slice, hb, run_sizeOf hsz, e0], .lst0 _ _ _⟩
        | some a => exact ⟨.slice (if cap = l.toNat then some a else some (a.add (l.toNat * sz))) 0 (cap - l.toNat), by simp [Instr.sliceAt, run_underlying hu, Instr.slice, hb, run_sizeOf hsz, e0], .lst0 _ _ _⟩
      | lst _ _ cap _ b off xs hs hl' hb' hn hcell hle =>
        have hb := run_bounds (P := P) (isS := true) (cap := cap) hl hh el eu h0 h1 h2 hle
        refine ⟨_, run_sliceRow hu hsz hb, ?_⟩
        rw [show u.toNat - l.toNat = 0 from by omega]
        exact .lst0 _ _ _
    · cases hx with
      | lst0 => simp at h2; omega
      | lst _ _ cap _ b off xs hs hl' hb' hn hcell hle =>
        have hb := run_bounds (P := P) (isS := true) (cap := cap) hl hh el eu h0 h1 h2 hle
        refine ⟨_, run_sliceRow hu hsz hb, ?_⟩
        rw [if_neg (by omega), show (u - l).toNat = u.toNat - l.toNat from by omega]
        refine .lst sz _ _ _ b (off + l.toNat * sz) _ ((hs.drop (l.toNat * sz)).take _) ?_ hb' hn (fun j x hj => ?_) (by omega)
        · simp only [List.length_take, List.length_drop, hl']
          have : n * sz = l.toNat * sz + (u.toNat - l.toNat) * sz + (n - u.toNat) * sz := by rw [← Nat.add_mul, ← Nat.add_mul]; congr 1; omega
          omega
        · rw [List.getElem?_take] at hj
          split at hj
          · rw [List.getElem?_drop] at hj
            rw [Nat.add_assoc]
            exact hcell _ x hj
          · cases hj
  · rename_i e hu
    simp only [Option.bind_eq_some_iff] at h
    obtain ⟨sz, hsz, l, el, u, eu, h⟩ := h
    split at h <;> first | (cases h; done) | skip
    rename_i hc
    obtain ⟨rfl, rfl⟩ := hc
    cases h
    cases hx
    cases my <;> simp [OptVR] at hm
    have hb := run_bounds (P := P) (S := S) (isS := true) (n := 0) (cap := 0) hl hh el eu (Int.le_refl _) (Int.le_refl _) (Int.le_refl _) (Nat.le_refl _)
    exact ⟨_, by simp [Instr.sliceAt, run_underlying hu, Instr.slice, hb, run_sizeOf hsz], .nils⟩
  · rename_i n e o off hu
    simp only [Option.bind_eq_some_iff] at h
    obtain ⟨sz, hsz, l, el, u, eu, h⟩ := h
    split at h <;> first | (cases h; done) | skip
    rename_i cs hobj
    split at h <;> first | (cases h; done) | skip
    rename_i hc
    obtain ⟨h0, h1, h2, h3, h4⟩ := hc
    cases h
    cases my <;> simp [OptVR] at hm
    cases hx with
    | ptr _ _ m ho hM =>
      have hb := run_bounds (P := P) (isS := false) (cap := n) hl hh el eu h0 h1 h2 (Nat.le_refl _)
      have hr := hS.objs o ho
      rw [hobj] at hr
      obtain ⟨c, e0, xs, ⟨frk, k1, _⟩, k2, k3, _, _⟩ := hr.cellsOf
      obtain ⟨c1, e1, fr1, q1, q2⟩ := hM
      rw [k1] at q1
      cases q1
      have hlen := k2.length
      refine ⟨.slice (some ⟨(S.ι o).1, if n = l.toNat then (S.ι o).2 + off else (S.ι o).2 + off + l.toNat * sz, none⟩) (u.toNat - l.toNat) (n - l.toNat), ?_, ?_⟩
      · by_cases hnl : n = l.toNat
        · simp [Instr.sliceAt, run_underlying hu, Instr.sureAddr, hb, run_sizeOf hsz, ← hnl]
        · simp [Instr.sliceAt, run_underlying hu, Instr.sureAddr, hb, run_sizeOf hsz, hnl, add_plain]
      · rw [show (u - l).toNat = u.toNat - l.toNat from by omega]
        refine VR.cut ho ⟨c, _, _, k1, q2⟩ (fun hpos => ?_) (by omega) (by omega) (fun hf => ?_)
        · rw [if_neg (by omega)]
          refine ⟨by omega, ?_⟩
          have : n * sz = l.toNat * sz + (n - l.toNat) * sz := by rw [← Nat.add_mul]; congr 1; omega
          omega
        · simp at hf
          omega

theorem alen_sound {S : St} (hS : Sim S) {t ty : TypeId} {x v : AV} {y : Value} (hx : VR S x y) (h : alen P S.H t x = some v) (rest : List TypeId) : ∃ z, (Builtin.len_ (t :: rest).toArray ty #[y]).run P S.w = .ok z S.w ∧ VR S v z := by
  unfold alen at h
  split at h <;> first | (cases h; done) | skip
  · rename_i s hu; cases h; cases hx; exact ⟨_, by simp [Builtin.len_, run_underlying hu, goInt], .int _ _⟩
  · rename_i n e hu; cases h; exact ⟨_, by simp [Builtin.len_, run_underlying hu, goInt], .int _ _⟩
  · rename_i e hu
    simp only [Option.map_eq_some_iff] at h
    obtain ⟨n, hn, rfl⟩ := h
    cases hx <;> simp [sliceLen] at hn <;> subst hn
    all_goals exact ⟨_, by simp [Builtin.len_, run_underlying hu, goInt], .int _ _⟩
  · rename_i hu; cases h; cases hx; exact ⟨_, by simp [Builtin.len_, run_underlying hu, goInt], .int _ _⟩
  · rename_i o hu
    split at h <;> first | (cases h; done) | skip
    rename_i sh es clock hobj
    cases h
    cases hx with
    | map _ ho =>
      obtain ⟨ms, hb, hE⟩ := mapObj hS ho hobj
      have hget := run_getMap (P := P) hb
      exact ⟨_, by simp [Builtin.len_, run_underlying hu, goInt, hget, hE.length], .int _ _⟩

theorem foldMin_sound {S : St} {w : World} : ∀ {as : List AV} {xs : List Value} {a v : AV} {x : Value}, VRs S as xs → VR S a x → foldMin a as = some v → ∃ z, (xs.foldlM Builtin.min2 x).run P w = .ok z w ∧ VR S v z
  | _, _, a, v, x, .nil, ha, h => by simp [foldMin] at h; subst h; exact ⟨x, rfl, ha⟩
  | _, _, a, v, x, .cons b y bs ys hb hs, ha, h => by
    unfold foldMin at h
    split at h <;> first | (cases h; done) | skip
    · rename_i heq; cases heq
    rename_i heq
    cases heq
    split at h <;> first | (cases h; done) | skip
    rename_i hk
    subst hk
    cases ha; cases hb
    obtain ⟨z, hz, hv⟩ := foldMin_sound (w := w) hs (.int _ _) h
    exact ⟨z, by simpa [Builtin.min2] using hz, hv⟩

theorem foldMax_sound {S : St} {w : World} : ∀ {as : List AV} {xs : List Value} {a v : AV} {x : Value}, VRs S as xs → VR S a x → foldMax a as = some v → ∃ z, (xs.foldlM Builtin.max2 x).run P w = .ok z w ∧ VR S v z
  | _, _, a, v, x, .nil, ha, h => by simp [foldMax] at h; subst h; exact ⟨x, rfl, ha⟩
  | _, _, a, v, x, .cons b y bs ys hb hs, ha, h => by
    unfold foldMax at h
    split at h <;> first | (cases h; done) | skip
    · rename_i heq; cases heq
    rename_i heq
    cases heq
    split at h <;> first | (cases h; done) | skip
    rename_i hk
    subst hk
    cases ha; cases hb
    obtain ⟨z, hz, hv⟩ := foldMax_sound (w := w) hs (.int _ _) h
    exact ⟨z, by simpa [Builtin.max2] using hz, hv⟩

theorem zeros_toList {S : St} {z : List AV} {zv : Array Value} (hz : VRs S z zv.toList) (hp : 0 < zv.size) (n : Nat) : VRs S ((List.replicate n z).flatten) ((Array.range (n * zv.size)).map (zv[· % zv.size]!)).toList := by
  have : ((Array.range (n * zv.size)).map (zv[· % zv.size]!)).toList = (List.replicate n zv.toList).flatten := by
    apply List.ext_getElem
    · simp
    · intro i h1 h2
      have hi : i < n * zv.size := by simpa using h1
      have hmod : i % zv.size < zv.size := Nat.mod_lt _ hp
      simp only [Array.toList_map, List.getElem_map, Array.getElem_toList, Array.getElem_range]
      rw [getElem!_pos zv _ hmod]
      clear h1
      induction n generalizing i with
      | zero => simp at hi
      | succ n ih =>
        by_cases hlt : i < zv.size
        · simp only [List.replicate_succ, List.flatten_cons]
          rw [List.getElem_append_left (by simpa using hlt)]
          simp [Nat.mod_eq_of_lt hlt]
        · have hge : zv.size ≤ i := by omega
          simp only [List.replicate_succ, List.flatten_cons]
          rw [List.getElem_append_right (by simpa using hge)]
          have hi' : i - zv.size < n * zv.size := by rw [Nat.add_mul] at hi; omega
          have := ih (i - zv.size) (by simpa using hi') hi' (Nat.mod_lt _ hp)
          simp only [Array.length_toList]
          rw [← this]
          congr 1
          rw [Nat.mod_eq_sub_mod hge]
  rw [this]
  clear this
  induction n with
  | zero => simp; exact .nil
  | succ n ih => simp only [List.replicate_succ, List.flatten_cons]; exact hz.append ih

theorem amake_sound {S : St} (hS : Sim S) {t : TypeId} {l c : Int} {k k' : IntKind} {v : AV} {H' : AHeap} (h : amake P S.H t l c = some (v, H')) :
    ∃ (T : St) (r : Value), (Instr.makeSlice t (.int k l) (.int k' c)).run P S.w = .ok r T.w ∧ T.H = H' ∧ Sim T ∧ Ext S T ∧ VR T v r := by
  unfold amake at h
  split at h <;> first | (cases h; done) | skip
  rename_i e hu
  simp only [Option.bind_eq_some_iff] at h
  obtain ⟨sz, hsz, by_, hby, z, hz, h⟩ := h
  split at h <;> first | (cases h; done) | skip
  rename_i hc
  obtain ⟨h0, h1, h2, h3, h4, h5⟩ := hc
  cases h
  obtain ⟨i, zv, hi, hzz, hvz⟩ := tZ_some S hz
  have hby' : i.bytes = by_ := by simpa [tB, hi] using hby
  subst hby'
  have hsz' : i.size = sz := by simpa [tS, hi] using hsz
  subst hsz'
  have hzs : zv.cells.size = i.size := by have := hvz.length; simp at this; omega
  have wl : IntKind.i64.wrap l = l := by simp [IntKind.wrap, IntKind.bits, IntKind.signed]; omega
  have wc : IntKind.i64.wrap c = c := by simp [IntKind.wrap, IntKind.bits, IntKind.signed]; omega
  have hbig : ¬ (281474976710656 < (i.bytes : Int) * c) := by rw [Int.mul_comm]; omega
  obtain ⟨g1, g2, g3, g4⟩ := alloc_cells hS (zeros_toList hvz (by omega) c.toNat) (c := (Array.range (c.toNat * zv.cells.size)).map (zv.cells[· % zv.cells.size]!)) (e := e) [] (by simp) (Grew.alloc S.w _)
  have hrun : (Instr.makeSlice t (.int k l) (.int k' c)).run P S.w = .ok (.slice (some ⟨S.w.heap.size, 0, none⟩) l.toNat c.toNat) (S.w.alloc (.cells ((Array.range (c.toNat * zv.cells.size)).map (zv.cells[· % zv.cells.size]!)) e)) := by
    have n1 : ¬ (c < 0) := by omega
    have n2 : ¬ (l < 0) := by omega
    have n3 : ¬ (c < l) := by omega
    by_cases hn : c.toNat = 0
    · simp [Instr.makeSlice, run_underlying hu, asInt, asIntOf, run_typeInfo hi, wl, wc, n1, n2, n3, hbig, sizeOf, hn, newRow, show Array.range 0 = #[] from rfl]
    · have hn' : ¬ (c.toNat * i.size = 0) := by
        intro h; rcases Nat.mul_eq_zero.1 h with h | h <;> omega
      simp [Instr.makeSlice, run_underlying hu, asInt, asIntOf, run_typeInfo hi, wl, wc, n1, n2, n3, hbig, sizeOf, hn', newRow, run_zeroValue hi hzz, hzs]
  refine ⟨_, _, hrun, rfl, g1, g2, ?_⟩
  have := VR.row_new (S := S.alloc (.cells (List.replicate c.toNat z).flatten) (S.w.alloc (.cells ((Array.range (c.toNat * zv.cells.size)).map (zv.cells[· % zv.cells.size]!)) e))) (H := S.H.size) i.size l.toNat c.toNat _ (decide (l = c))
    (by simp [St.alloc, AHeap.new]) (by rw [g3]; exact g4) (by rw [g3]) (by simp [hzs]) (by omega) (by omega) (by intro h; simp at h; omega)
  rwa [g3] at this


/-- append: so many zeros. -/
theorem aextend_sound {S : St} (hS : Sim S) {t t2 ty : TypeId} (h2 : P.underlying t2 = some (.int .i64)) {s v : AV} {k : Int} {y : Value} {H' : AHeap} (hs : VR S s y) (h : aextend P S.H t s k = some (v, H')) :
    ∃ (T : St) (r : Value), (Builtin.append_ #[t, t2] ty #[y, .int .i64 k]).run P S.w = .ok r T.w ∧ T.H = H' ∧ Sim T ∧ Ext S T ∧ VR T v r := by
  unfold aextend at h
  split at h <;> first | (cases h; done) | skip
  rename_i e hu
  simp only [Option.bind_eq_some_iff] at h
  obtain ⟨sz, hsz, by_, hby, zz, hzz, h⟩ := h
  split at h <;> first | (cases h; done) | skip
  rename_i hc
  obtain ⟨k0, k1, k2, k3, k4⟩ := hc
  obtain ⟨i, zv, hi, hz, hvz⟩ := tZ_some S hzz
  obtain ⟨i', hi', rfl⟩ := tS_some hsz
  rw [hi] at hi'
  cases hi'
  have hby' : i.bytes = by_ := by simpa [tB, hi] using hby
  subst hby'
  obtain ⟨m, rfl⟩ : ∃ m : Nat, k = m := ⟨k.toNat, by omega⟩
  rw [Int.toNat_natCast] at h
  have w : IntKind.i64.wrap (m : Int) = m := by simp [IntKind.wrap, IntKind.bits, IntKind.signed]; omega
  have c1 : ¬ ((m : Int) < 0) := by omega
  have c2 : ¬ (281474976710656 < (m : Int) * (i.bytes : Int)) := by omega
  have hzs : zv.cells.size = i.size := by have hl := hvz.length; simp at hl; omega
  have hnews : (Builtin.zeroCells zv.cells m).toList.length = m * i.size := by simp [size_zeroCells, hzs]
  have hst : ∀ (g off : Nat) (cur : Array Value) (e0 : TypeId) (fz : Nat × Nat), S.w.heap[g]? = some (.cells cur e0 fz) → (fz = (0, 0) ∨ cur.size ≤ fz.1) → (∀ u ∈ (Builtin.zeroCells zv.cells m).toList, u.oneCell' = true) → off + (Builtin.zeroCells zv.cells m).toList.length ≤ cur.size → _ := fun g off cur e0 fz hg hfz hone hfit => run_storeCells_tail (P := P) g off e0 fz (Builtin.zeroCells zv.cells m).toList 0 cur S.w hg hfz (by simpa using hfit) hone
  refine appC_sound (e := e) (news := (Builtin.zeroCells zv.cells m).toList) hS hs hvz (zeros_toList hvz (by omega) m) (fun a n c h0 hc => ?_) (fun g off sLen sCap cur e0 fz hg hfz h1 h3 h4 hone hroom hfit => ?_) (fun h1 h3 h4 h5 h6 => ?_) (fun b sLen sCap olds hlo hol h1 h3 h4 h5 h6 h7 => ?_) h
  · subst h0
    have w0 : IntKind.i64.wrap 0 = 0 := by decide
    cases a <;> simp [Builtin.append_, run_underlying hu, run_underlying h2, sizeOf, typeInfo, hi, asInt, asIntOf, w0, hc, storeCells]
  · have hz0 : ¬ (m * i.size = 0) := by intro h0; rcases Nat.mul_eq_zero.1 h0 with h0 | h0 <;> omega
    have hst := hst g (off + sLen * i.size) cur e0 fz hg hfz hone hfit
    simp only [Nat.add_zero] at hst
    simp [Builtin.append_, run_underlying hu, run_underlying h2, sizeOf, typeInfo, hi, hz, zeroValue, asInt, asIntOf, w, c1, c2, hroom, hz0, Addr.add_lit, hst]
  · have hz0 : ¬ (m * i.size = 0) := by intro h0; rcases Nat.mul_eq_zero.1 h0 with h0 | h0 <;> omega
    have hn : ¬ (m ≤ 0) := by omega
    have hn0 : ¬ (m = 0) := by omega
    have h63' : ¬ (9223372036854775807 < (m : Int)) := by omega
    have h48' : ¬ (281474976710656 < Builtin.nextslicecap m 0 * i.bytes) := by rw [nextslicecap_zero h1]; omega
    simp [Builtin.append_, run_underlying hu, run_underlying h2, sizeOf, typeInfo, hi, hz, zeroValue, asInt, asIntOf, w, c1, c2, hn0, hz0, h63', h48', Question.forced, run_firstCells_none, newRow, grownCap]
  · have hz0 : ¬ (m * i.size = 0) := by intro h0; rcases Nat.mul_eq_zero.1 h0 with h0 | h0 <;> omega
    have hn : ¬ (sLen + m ≤ sCap) := by omega
    have h63' : ¬ (9223372036854775807 < ((sLen : Int) + (m : Int))) := by omega
    have h48' : ¬ (281474976710656 < Builtin.nextslicecap (sLen + m) sCap * i.bytes) := by omega
    have hfo := run_firstCells_some (P := P) S.w.drew i.size sLen b sLen sCap olds hlo (by simpa using hol)
    simp [Builtin.append_, run_underlying hu, run_underlying h2, sizeOf, typeInfo, hi, hz, zeroValue, asInt, asIntOf, w, c1, c2, hn, hz0, h63', h48', Question.forced, hfo, newRow, grownCap]
end
end Go.Proofs.Ytghjglnebcpcmaa
