/- Rules for stepping: the single operations. What they ask of a type stands in small functions of the type, which a seat answers once. -/
import Derived.Test.YtphkkcocimmmfaaAL18
namespace Go.Proofs.Ytphkkcocimmmfaa

section
variable (P : Program) (K : TypeId → Option (List Sc))

/-- How a type's values lie in cells: 'some none': in one; 'some (some n)': in n. -/
def ldS (t : TypeId) : Option (Option Nat) :=
  match isAggT P t with
  | some true => (tS P t).map some
  | some false => some none
  | none => none
def eszS (t : TypeId) : Option Nat :=
  match P.underlying t with
  | some (.slice e) => tS P e
  | _ => none
def arrS (t : TypeId) : Option (Nat × Nat) :=
  match P.underlying t with
  | some (.array n e) => (tS P e).map fun s => (n, s)
  | _ => none
def arrL (t : TypeId) : Option (Option Nat) :=
  match P.underlying t with
  | some (.array _ e) => ldS P e
  | _ => none
/-- A slice's elements: their cells, their bytes, their zero. -/
def mkS (t : TypeId) : Option (Nat × Nat × List AV) :=
  match P.underlying t with
  | some (.slice e) => (tS P e).bind fun s => (tB P e).bind fun b => (tZ P e).map fun z => (s, b, z)
  | _ => none
def mapS (t : TypeId) : Option (KSh × AV) :=
  match P.underlying t with
  | some (.map kt e) => (keySh P K kt).bind fun sh => (tZV P e).map fun z => (sh, z)
  | _ => none
/-- A slice's elements: their cells, their zero. -/
def bsS (t : TypeId) : Option (Nat × List AV) :=
  match P.underlying t with
  | some (.slice e) => (tS P e).bind fun s => (tZ P e).map fun z => (s, z)
  | _ => none
/-- A map's keys. -/
def mkeyS (t : TypeId) : Option KSh :=
  match P.underlying t with
  | some (.map kt _) => keySh P K kt
  | _ => none
def faS (t : TypeId) (f : Nat) : Option Nat := (fieldAt P t f).bind fun fd => (tS P fd.type).bind fun n => if 0 < n then some fd.offset else none
def fdS (t : TypeId) (f : Nat) : Option (Nat × Option Nat) := (fieldAt P t f).bind fun fd => (ldS P fd.type).map fun l => (fd.offset, l)
def plS (t : TypeId) (i : Nat) : Option (Nat × Nat) :=
  match P.underlying t with
  | some (.struct fs) => (places P fs.toList).bind fun pl => pl[i]?
  | some (.array _ e) => (tS P e).map fun s => (i * s, s)
  | _ => none
/-- Whether a struct or an array may be built. -/
def blS (t : TypeId) : Option Bool :=
  match P.underlying t with
  | some (.struct fs) => (places P fs.toList).map fun _ => true
  | some (.array _ e) => (tS P e).map fun _ => true
  | _ => none
def cvS (s d : TypeId) : Option (Option IntKind) :=
  match P.underlying s, P.underlying d with
  | some _, some (.int k) => some (some k)
  | some _, some .string => some none
  | _, _ => none
def isIface (t : TypeId) : Option Bool :=
  match P.underlying t with
  | some (.interface _) => some true
  | some _ => some false
  | none => none
inductive LK where
  | str | slice | arr (n : Nat) | map | no
def lnS (t : TypeId) : LK :=
  match P.underlying t with
  | some .string => .str
  | some (.array n _) => .arr n
  | some (.slice _) => .slice
  | some (.map _ _) => .map
  | _ => .no
inductive EK where
  | bool | ptr | slice | map | func | no
def eqS (t : TypeId) : EK :=
  match P.underlying t with
  | some .bool => .bool
  | some (.pointer _) => .ptr
  | some (.slice _) => .slice
  | some (.map _ _) => .map
  | some (.func ..) => .func
  | _ => .no
end

def ldK (l : Option (Option Nat)) (cs : List AV) (off : Nat) : Option AV :=
  match l with
  | some none => cs[off]?
  | some (some n) => if off + n ≤ cs.length then some (.agg ((cs.drop off).take n)) else none
  | none => none
def loadO (l : Option (Option Nat)) (off : Nat) : AObj → Option AV
  | .cells cs => ldK l cs off
  | _ => none
def storeO (s : Option Nat) (o off : Nat) (v : AV) (H : AHeap) : AObj → Option AHeap
  | .cells cs => match v with
    | .agg new => if s = some new.length ∧ off + new.length ≤ cs.length ∧ allOne new = true then some (H.set o (.cells (putCells cs off new))) else none
    | v => if s = some 1 ∧ off < cs.length ∧ v.one = true then some (H.set o (.cells (cs.set off v))) else none
  | _ => none
def eqU : EK → AV → AV → Option Bool
  | .bool, .bool a, .bool b => some (a == b)
  | .ptr, .nilp, .nilp => some true
  | .ptr, .nilp, .ptr _ _ => some false
  | .ptr, .ptr _ _, .nilp => some false
  | .slice, .nils, .nils => some true
  | .slice, .nils, .row .. => some false
  | .slice, .row .., .nils => some false
  | .map, .nilm, .nilm => some true
  | .map, .nilm, .map _ => some false
  | .map, .map _, .nilm => some false
  | .func, .nilf, .nilf => some true
  | .func, .nilf, .fn .. => some false
  | .func, .fn .., .nilf => some false
  | _, _, _ => none
def aggEq (sh : Option (List Sc)) (xs ys : List AV) : Option Bool := sh.bind fun sh => if conf sh xs = true ∧ conf sh ys = true then some (scsEq xs ys) else none
def ixA (s : Option (Nat × Nat)) (x : AV) (i : Int) : Option AV :=
  match s, x with
  | some (len, sz), .ptr o off => if 0 ≤ i ∧ i < len then some (.ptr o (off + i.toNat * sz)) else none
  | some (len, sz), .ptrl cs off => if 0 ≤ i ∧ i < len then some (.ptrl cs (off + i.toNat * sz)) else none
  | _, _ => none
def ixS (s : Option Nat) (x : AV) (i : Int) : Option AV :=
  match x with
  | .row o off sz n _ => if s = some sz ∧ 0 ≤ i ∧ i < n then some (.ptr o (off + i.toNat * sz)) else none
  | .lst sz n cs => if s = some sz ∧ 0 ≤ i ∧ i < n then some (.ptrl cs (i.toNat * sz)) else none
  | _ => none
def lenU (H : AHeap) (x : AV) : LK → Option AV
  | .str => match x with
    | .str s => some (.int .i64 s.size)
    | _ => none
  | .arr n => some (.int .i64 n)
  | .slice => (sliceLen x).map fun n => .int .i64 n
  | .map => match x with
    | .nilm => some (.int .i64 0)
    | .map o => match H.obj o with
      | .map _ es _ => some (.int .i64 es.length)
      | _ => none
    | _ => none
  | .no => none
def fillB (pl : Nat → Option (Nat × Nat)) (cs : List AV) : List (Nat × AV) → Option (List AV)
  | [] => some cs
  | (i, v) :: rest => match pl i with
    | some (off, sz) => if v.cells.length = sz ∧ off + sz ≤ cs.length then fillB pl (putCells cs off v.cells) rest else none
    | none => none
def makeU (H : AHeap) (l c : Int) : Option (Nat × Nat × List AV) → Option (AV × AHeap)
  | some (sz, by_, z) => if 0 ≤ l ∧ l ≤ c ∧ c * by_ ≤ 140737488355328 ∧ z.length = sz ∧ 0 < sz ∧ c ≤ 9223372036854775807 then
        some (.row H.size 0 sz l.toNat (decide (l = c)), H.new (.cells ((List.replicate c.toNat z).flatten)))
      else none
  | none => none
def appU (H : AHeap) (s x : AV) : Option (Nat × Nat × List AV) → Option (AV × AHeap)
  | some (sz, by_, z) => (sliceCells H x).bind fun new => (sliceLen x).bind fun m => (sliceCells H s).bind fun old => (sliceLen s).bind fun n =>
    if m = 0 then some (s, H) else
    if z.length = sz ∧ new.length = m * sz ∧ 0 < sz ∧ old.length = n * sz ∧ (n + m) * by_ ≤ 140737488355328 ∧ n + m ≤ 9223372036854775807 ∧ allOne new = true then
      match s with
      | .nils => some (.row H.size 0 sz m false, H.new (.cells new))
      | .row o _ sz' _ full => if sz' = sz then
          if full = true then some (.row H.size 0 sz (n + m) false, H.new (.cells (old ++ new)))
          else some (.row H.size 0 sz (n + m) false, (H.set o .dead).new (.cells (old ++ new)))
        else none
      | _ => none
    else none
  | none => none
def lit (H : AHeap) (len : Nat) (ps : List (Nat × AV)) : Option (Nat × List AV) → Option (AV × AHeap)
  | some (s, z) => if len * s ≤ 16777216 ∧ z.length = s ∧ 0 < s then
        (fillB (fun i => some (i * s, s)) ((List.replicate len z).flatten) ps).map fun cs => (.row H.size 0 s len true, H.new (.cells cs))
      else none
  | none => none
/-- A lookup's word: of what was found. -/
def lookU (ok : Bool) (z : AV) : Option AEnt → AV
  | some x => if ok then .tup [x.val, .bool true] else x.val
  | none => if ok then .tup [z, .bool false] else z
def lookM (ok : Bool) (k m : AV) (H : AHeap) : Option (KSh × AV) → Option AV
  | some (sh, z) => if sh.fits k = true then
      match m with
      | .nilm => some (if ok then .tup [z, .bool false] else z)
      | .map o => match H.obj o with
        | .map sh' es _ => if sh' = sh then some (lookU ok z (findE k es)) else none
        | _ => none
      | _ => none
    else none
  | none => none
def updM (k v m : AV) (H : AHeap) : Option KSh → Option AHeap
  | some sh => if sh.fits k = true then
      match m with
      | .map o => match H.obj o with
        | .map sh' es clock => if sh' = sh then
            match findE k es with
            | some _ => some (H.set o (.map sh (setE k v es) clock))
            | none => some (H.set o (.map sh (es ++ [⟨k, v, clock⟩]) (clock + 1)))
          else none
        | _ => none
      | _ => none
    else none
  | none => none

section
variable {P : Program} {K : TypeId → Option (List Sc)} {C : Calling}

@[simp] theorem tmp_at {e : Env} {t : Nat} : evalOpd e (.tmp t) = e t := nr rfl
@[simp] theorem const_at {e : Env} {v : Value} : evalOpd e (.const v) = ofValue v := nr rfl
@[simp] theorem func_at {e : Env} {f : FuncId} : evalOpd e (.func f) = some (.fn (.func f) [] []) := nr rfl
theorem ofv_int {k : IntKind} {n : Int} : ofValue (.int k n) = some (.int k n) := rfl
@[simp] theorem ofv_i8 {n : Int} : ofValue (.int .i8 n) = some (.int .i8 n) := nr rfl
@[simp] theorem ofv_i16 {n : Int} : ofValue (.int .i16 n) = some (.int .i16 n) := nr rfl
@[simp] theorem ofv_i32 {n : Int} : ofValue (.int .i32 n) = some (.int .i32 n) := nr rfl
@[simp] theorem ofv_i64 {n : Int} : ofValue (.int .i64 n) = some (.int .i64 n) := nr rfl
@[simp] theorem ofv_u8 {n : Int} : ofValue (.int .u8 n) = some (.int .u8 n) := nr rfl
@[simp] theorem ofv_u16 {n : Int} : ofValue (.int .u16 n) = some (.int .u16 n) := nr rfl
@[simp] theorem ofv_u32 {n : Int} : ofValue (.int .u32 n) = some (.int .u32 n) := nr rfl
@[simp] theorem ofv_bool {b : Bool} : ofValue (.bool b) = some (.bool b) := nr rfl
@[simp] theorem ofv_str {s : ByteArray} : ofValue (.string s) = some (.str s) := nr rfl
@[simp] theorem ofv_ptr : ofValue (.pointer none) = some .nilp := nr rfl
@[simp] theorem ofv_slice : ofValue (.slice none 0 0) = some .nils := nr rfl
@[simp] theorem ofv_map : ofValue (.map none) = some .nilm := nr rfl
@[simp] theorem ofv_func : ofValue .nilFunc = some .nilf := nr rfl
@[simp] theorem ofv_iface : ofValue .nilIface = some .nili := nr rfl
@[simp] theorem arr_list {α : Type} {l : List α} : l.toArray.toList = l := nr rfl
@[simp] theorem opds_nil {e : Env} : evalOpds e [] = some [] := nr rfl
@[simp] theorem opds_cons {e : Env} {x : Operand} {xs : List Operand} : evalOpds e (x :: xs) = (evalOpd e x).bind fun a => (evalOpds e xs).map (a :: ·) := nr rfl
@[simp] theorem parts_nil {e : Env} : evalParts e [] = some [] := nr rfl
@[simp] theorem parts_cons {e : Env} {i : Nat} {x : Operand} {xs : List (Nat × Operand)} : evalParts e ((i, x) :: xs) = (evalOpd e x).bind fun a => (evalParts e xs).map ((i, a) :: ·) := nr rfl
@[simp] theorem opt_none {e : Env} : evalOpt e none = some none := nr rfl
@[simp] theorem opt_some {e : Env} {x : Operand} : evalOpt e (some x) = (evalOpd e x).map some := nr rfl

@[simp] theorem op_move {x : Operand} {e : Env} {H : AHeap} : evalOp P K C (.move x) e H = (evalOpd e x).map fun v => (v, H) := nr rfl
@[simp] theorem op_assign {x : Operand} {e : Env} {H : AHeap} : evalOp P K C (.assign x) e H = (evalOpd e x).map fun v => (v, H) := nr rfl
@[simp] theorem op_pick {c a b : Operand} {e : Env} {H : AHeap} : evalOp P K C (.pick c a b) e H = (evalOpd e c).bind fun t => match t with
  | .bool t => (evalOpd e (if t = true then a else b)).map fun v => (v, H)
  | _ => none := by
  show (match evalOpd e c with
    | some (.bool t) => (if t = true then evalOpd e a else evalOpd e b).map fun v => (v, H)
    | _ => none) = _
  cases evalOpd e c with
  | none => rfl
  | some v => cases v <;> first | rfl | (rename_i t; cases t <;> rfl)
@[simp] theorem op_alloc {t : TypeId} {e : Env} {H : AHeap} : evalOp P K C (.alloc t) e H = (tZ P t).map fun z => (.ptr H.size 0, H.new (.cells z)) := nr rfl
@[simp] theorem op_box {t : TypeId} {x : Operand} {e : Env} {H : AHeap} : evalOp P K C (.box t x) e H = (evalOpd e x).map fun v => (.ptr H.size 0, H.new (.cells v.cells)) := nr rfl
@[simp] theorem loadC_eq {t : TypeId} {cs : List AV} {off : Nat} : loadC P t cs off = ldK (ldS P t) cs off := by
  unfold loadC ldK ldS
  cases isAggT P t with
  | none => rfl
  | some b => cases b with
    | false => rfl
    | true => cases tS P t <;> rfl
@[simp] theorem aload_ptr {H : AHeap} {t : TypeId} {o off : Nat} : aload P H t (.ptr o off) = loadO (ldS P t) off (H.obj o) := by
  simp only [aload, loadO]
  cases H.obj o <;> simp only [loadC_eq]
@[simp] theorem aload_ptrl {H : AHeap} {t : TypeId} {cs : List AV} {off : Nat} : aload P H t (.ptrl cs off) = ldK (ldS P t) cs off := by simp [aload, loadC_eq]
@[simp] theorem op_load {t : TypeId} {a : Operand} {e : Env} {H : AHeap} : evalOp P K C (.load t a) e H = (evalOpd e a).bind fun x => (aload P H t x).map fun v => (v, H) := nr rfl
@[simp] theorem loadO_cells {l : Option (Option Nat)} {off : Nat} {cs : List AV} : loadO l off (.cells cs) = ldK l cs off := nr rfl
@[simp] theorem ldK_one {cs : List AV} {off : Nat} : ldK (some none) cs off = cs[off]? := nr rfl
@[simp] theorem ldK_many {n : Nat} {cs : List AV} {off : Nat} : ldK (some (some n)) cs off = if off + n ≤ cs.length then some (.agg ((cs.drop off).take n)) else none := nr rfl
@[simp] theorem op_store {t : TypeId} {a x : Operand} {e : Env} {H : AHeap} : evalOp P K C (.store t a x) e H = (evalOpd e a).bind fun p => (evalOpd e x).bind fun v => (astore P H t p v).map fun H' => (.tup [], H') := nr rfl
@[simp] theorem astore_ptr {H : AHeap} {t : TypeId} {o off : Nat} {v : AV} : astore P H t (.ptr o off) v = storeO (tS P t) o off v H (H.obj o) := by
  simp only [astore, storeO]
  cases H.obj o <;> rfl
@[simp] theorem storeO_agg {s : Option Nat} {o off : Nat} {new cs : List AV} {H : AHeap} : storeO s o off (.agg new) H (.cells cs) = if s = some new.length ∧ off + new.length ≤ cs.length ∧ allOne new = true then some (H.set o (.cells (putCells cs off new))) else none := nr rfl
@[simp] theorem storeO_one {s : Option Nat} {o off : Nat} {v : AV} {cs : List AV} {H : AHeap} (hv : v.one = true) : storeO s o off v H (.cells cs) = if s = some 1 ∧ off < cs.length then some (H.set o (.cells (cs.set off v))) else none := by
  cases v <;> first | (simp [AV.one] at hv; done) | simp [storeO, AV.one]
theorem op_nil_ptr {x : Operand} {e : Env} {H : AHeap} {o off : Nat} (h : evalOpd e x = some (.ptr o off)) : evalOp P K C (.nilCheck x) e H = some (.ptr o off, H) := by simp [evalOp, step1, h]
@[simp] theorem op_nil {x : Operand} {e : Env} {H : AHeap} : evalOp P K C (.nilCheck x) e H = (evalOpd e x).bind fun v => match v with
    | .ptr o off => some (.ptr o off, H)
    | .ptrl cs off => some (.ptrl cs off, H)
    | .ifc t v => some (.ifc t v, H)
    | .fn (.func f) a b => some (.fn (.func f) a b, H)
    | _ => none := by
  simp only [evalOp, step1]
  cases evalOpd e x with
  | none => rfl
  | some v => cases v <;> first | rfl | (rename_i f _ _; cases f <;> rfl)
@[simp] theorem op_bin {op : BinOp} {t t' : TypeId} {x y : Operand} {e : Env} {H : AHeap} : evalOp P K C (.binOp op t x y t') e H = (evalOpd e x).bind fun a => (evalOpd e y).bind fun b => (abin P K op t a b).map fun v => (v, H) := nr rfl
@[simp] theorem op_un {op : UnOp} {t : TypeId} {x : Operand} {e : Env} {H : AHeap} : evalOp P K C (.unOp op t x) e H = (evalOpd e x).bind fun a => (aun op a).map fun v => (v, H) := nr rfl
@[simp] theorem un_not {b : Bool} : aun .not (.bool b) = some (.bool (!b)) := nr rfl
@[simp] theorem un_neg {k : IntKind} {n : Int} : aun .neg (.int k n) = some (.int k (k.wrap (0 - n))) := nr rfl
@[simp] theorem un_xor {k : IntKind} {n : Int} : aun .xor (.int k n) = some (.int k (k.wrap (BitVec.ofInt k.bits (if k.signed then -1 else k.max) ^^^ BitVec.ofInt k.bits n).toNat)) := nr rfl

@[simp] theorem bin_add {t : TypeId} {k : IntKind} {a b : Int} : abin P K .add t (.int k a) (.int k b) = some (.int k (k.wrap (a + b))) := by simp [abin, arith]
@[simp] theorem bin_sub {t : TypeId} {k : IntKind} {a b : Int} : abin P K .sub t (.int k a) (.int k b) = some (.int k (k.wrap (a - b))) := by simp [abin, arith]
@[simp] theorem bin_mul {t : TypeId} {k : IntKind} {a b : Int} : abin P K .mul t (.int k a) (.int k b) = some (.int k (k.wrap (a * b))) := by simp [abin, arith]
@[simp] theorem bin_quo {t : TypeId} {k : IntKind} {a b : Int} : abin P K .quo t (.int k a) (.int k b) = if b = 0 then none else some (.int k (k.wrap (a.tdiv b))) := by simp [abin, arith]
@[simp] theorem bin_rem {t : TypeId} {k : IntKind} {a b : Int} : abin P K .rem t (.int k a) (.int k b) = if b = 0 then none else some (.int k (a.tmod b)) := by simp [abin, arith]
@[simp] theorem bin_and {t : TypeId} {k : IntKind} {a b : Int} : abin P K .and t (.int k a) (.int k b) = some (.int k (k.wrap (BitVec.ofInt k.bits a &&& BitVec.ofInt k.bits b).toNat)) := by simp [abin, arith]
@[simp] theorem bin_or {t : TypeId} {k : IntKind} {a b : Int} : abin P K .or t (.int k a) (.int k b) = some (.int k (k.wrap (BitVec.ofInt k.bits a ||| BitVec.ofInt k.bits b).toNat)) := by simp [abin, arith]
@[simp] theorem bin_xor {t : TypeId} {k : IntKind} {a b : Int} : abin P K .xor t (.int k a) (.int k b) = some (.int k (k.wrap (BitVec.ofInt k.bits a ^^^ BitVec.ofInt k.bits b).toNat)) := by simp [abin, arith]
@[simp] theorem bin_andNot {t : TypeId} {k : IntKind} {a b : Int} : abin P K .andNot t (.int k a) (.int k b) = some (.int k (k.wrap (BitVec.ofInt k.bits a &&& ~~~BitVec.ofInt k.bits b).toNat)) := by simp [abin, arith]
@[simp] theorem bin_eql {t : TypeId} {k : IntKind} {a b : Int} : abin P K .eql t (.int k a) (.int k b) = some (.bool (decide (a = b))) := by simp [abin, arith]; rfl
@[simp] theorem bin_neq {t : TypeId} {k : IntKind} {a b : Int} : abin P K .neq t (.int k a) (.int k b) = some (.bool (!decide (a = b))) := by simp [abin, arith]; rfl
@[simp] theorem bin_lss {t : TypeId} {k : IntKind} {a b : Int} : abin P K .lss t (.int k a) (.int k b) = some (.bool (decide (a < b))) := by simp [abin, arith]
@[simp] theorem bin_leq {t : TypeId} {k : IntKind} {a b : Int} : abin P K .leq t (.int k a) (.int k b) = some (.bool (decide (a ≤ b))) := by simp [abin, arith]
@[simp] theorem bin_gtr {t : TypeId} {k : IntKind} {a b : Int} : abin P K .gtr t (.int k a) (.int k b) = some (.bool (decide (b < a))) := by simp [abin, arith]
@[simp] theorem bin_geq {t : TypeId} {k : IntKind} {a b : Int} : abin P K .geq t (.int k a) (.int k b) = some (.bool (decide (b ≤ a))) := by simp [abin, arith]
@[simp] theorem bin_shl {t : TypeId} {k k' : IntKind} {a b : Int} : abin P K .shl t (.int k a) (.int k' b) = if b < 0 then none else some (.int k (k.wrap (a * 2 ^ (min b.toNat k.bits)))) := nr rfl
@[simp] theorem bin_shr {t : TypeId} {k k' : IntKind} {a b : Int} : abin P K .shr t (.int k a) (.int k' b) = if b < 0 then none else some (.int k (a.fdiv (2 ^ (min b.toNat k.bits)))) := nr rfl
@[simp] theorem str_eql {t : TypeId} {a b : ByteArray} : abin P K .eql t (.str a) (.str b) = some (.bool (decide (a = b))) := by simp [abin, strOp]
@[simp] theorem str_neq {t : TypeId} {a b : ByteArray} : abin P K .neq t (.str a) (.str b) = some (.bool (!decide (a = b))) := by simp [abin, strOp]
@[simp] theorem str_lss {t : TypeId} {a b : ByteArray} : abin P K .lss t (.str a) (.str b) = some (.bool (Op.bytesLess a.toList b.toList)) := by simp [abin, strOp]
@[simp] theorem str_add {t : TypeId} {a b : ByteArray} : abin P K .add t (.str a) (.str b) = if ((a.size + b.size : Nat) : Int) ≤ 9223372036854775807 then some (.str (a ++ b)) else none := by simp [abin, strOp]
@[simp] theorem aeqS_eq {t : TypeId} {x y : AV} : aeqS P t x y = eqU (eqS P t) x y := by
  unfold aeqS eqU eqS
  cases P.underlying t with
  | none => simp
  | some d => cases d <;> first | rfl | (cases x <;> first | rfl | (cases y <;> rfl))
@[simp] theorem bool_eql {t : TypeId} {a b : Bool} : abin P K .eql t (.bool a) (.bool b) = (eqU (eqS P t) (.bool a) (.bool b)).map .bool := by simp [abin, aeq, aeqS_eq]
@[simp] theorem bool_neq {t : TypeId} {a b : Bool} : abin P K .neq t (.bool a) (.bool b) = (eqU (eqS P t) (.bool a) (.bool b)).map fun b => .bool (!b) := by simp [abin, aeq, aeqS_eq]
@[simp] theorem eqU_bool {a b : Bool} : eqU .bool (.bool a) (.bool b) = some (a == b) := nr rfl
@[simp] theorem agg_eql {t : TypeId} {a b : List AV} : abin P K .eql t (.agg a) (.agg b) = (aggEq (K t) a b).map .bool := by simp [abin, aeq, aggEq]
@[simp] theorem agg_neq {t : TypeId} {a b : List AV} : abin P K .neq t (.agg a) (.agg b) = (aggEq (K t) a b).map fun b => .bool (!b) := by simp [abin, aeq, aggEq]
@[simp] theorem aggEq_some {sh : List Sc} {a b : List AV} : aggEq (some sh) a b = if conf sh a = true ∧ conf sh b = true then some (scsEq a b) else none := nr rfl
@[simp] theorem ptr_eql_nil {t : TypeId} {o off : Nat} : abin P K .eql t (.ptr o off) .nilp = (eqU (eqS P t) (.ptr o off) .nilp).map .bool := by simp [abin, aeq, aeqS_eq]
@[simp] theorem ptr_neq_nil {t : TypeId} {o off : Nat} : abin P K .neq t (.ptr o off) .nilp = (eqU (eqS P t) (.ptr o off) .nilp).map fun b => .bool (!b) := by simp [abin, aeq, aeqS_eq]
@[simp] theorem nilp_eql_nil {t : TypeId} : abin P K .eql t .nilp .nilp = (eqU (eqS P t) .nilp .nilp).map .bool := by simp [abin, aeq, aeqS_eq]
@[simp] theorem nilp_neq_nil {t : TypeId} : abin P K .neq t .nilp .nilp = (eqU (eqS P t) .nilp .nilp).map fun b => .bool (!b) := by simp [abin, aeq, aeqS_eq]
@[simp] theorem row_eql_nil {t : TypeId} {o off sz n : Nat} {f : Bool} : abin P K .eql t (.row o off sz n f) .nils = (eqU (eqS P t) (.row o off sz n f) .nils).map .bool := by simp [abin, aeq, aeqS_eq]
@[simp] theorem nils_eql_nil {t : TypeId} : abin P K .eql t .nils .nils = (eqU (eqS P t) .nils .nils).map .bool := by simp [abin, aeq, aeqS_eq]
@[simp] theorem row_neq_nil {t : TypeId} {o off sz n : Nat} {f : Bool} : abin P K .neq t (.row o off sz n f) .nils = (eqU (eqS P t) (.row o off sz n f) .nils).map fun b => .bool (!b) := by simp [abin, aeq, aeqS_eq]
@[simp] theorem nils_neq_nil {t : TypeId} : abin P K .neq t .nils .nils = (eqU (eqS P t) .nils .nils).map fun b => .bool (!b) := by simp [abin, aeq, aeqS_eq]

@[simp] theorem op_convert {s d : TypeId} {x : Operand} {e : Env} {H : AHeap} : evalOp P K C (.convert s d x) e H = (evalOpd e x).bind fun a => aconvert P H s d a := nr rfl
def cvK (H : AHeap) (x : AV) : Option (Option IntKind) → Option (AV × AHeap)
  | some (some k) => match x with
    | .int _ n => some (.int k (k.wrap n), H)
    | _ => none
  | some none => match x with
    | .str s => some (.str s, H)
    | _ => none
  | none => none
@[simp] theorem conv_eq {H : AHeap} {s d : TypeId} {x : AV} : aconvert P H s d x = cvK H x (cvS P s d) := by
  unfold aconvert cvK cvS
  cases P.underlying s with
  | none => simp
  | some a => cases P.underlying d with
    | none => simp
    | some b => cases b <;> simp <;> cases x <;> simp
theorem cvK_int {H : AHeap} {k k' : IntKind} {n : Int} : cvK H (.int k' n) (some (some k)) = some (.int k (k.wrap n), H) := rfl
@[simp] theorem cvK_str {H : AHeap} {s : ByteArray} : cvK H (.str s) (some none) = some (.str s, H) := nr rfl
@[simp] theorem op_iface {t : TypeId} {x : Operand} {e : Env} {H : AHeap} : evalOp P K C (.makeInterface t x) e H = (evalOpd e x).bind fun a => if isIface P t = some false then some (.ifc t a, H) else none := by
  simp only [evalOp, step1]
  congr 1
  funext a
  unfold isIface
  cases P.underlying t with
  | none => rfl
  | some d => cases d <;> simp
@[simp] theorem op_func {f : Fn} {first cap : Array Operand} {e : Env} {H : AHeap} : evalOp P K C (.makeFunc f first cap) e H = (evalOpds e first.toList).bind fun a => (evalOpds e cap.toList).map fun b => (.fn f a b, H) := nr rfl
@[simp] theorem op_makeMap {t : TypeId} {e : Env} {H : AHeap} : evalOp P K C (.makeMap t none) e H = (mkeyS P K t).map fun sh => (.map H.size, H.new (.map sh [] 0)) := by
  simp only [evalOp, step1, mkeyS]
  cases P.underlying t with
  | none => rfl
  | some d => cases d <;> rfl
@[simp] theorem op_makeSlice {t : TypeId} {l c : Operand} {e : Env} {H : AHeap} : evalOp P K C (.makeSlice t l c) e H = (evalOpd e l).bind fun a => (evalOpd e c).bind fun b => match a, b with
    | .int _ n, .int _ m => makeU H n m (mkS P t)
    | _, _ => none := by
  simp only [evalOp, step1]
  cases evalOpd e l with
  | none => rfl
  | some a => cases evalOpd e c with
    | none => cases a <;> rfl
    | some b =>
      cases a <;> cases b <;> try rfl
      rename_i _ n _ m
      simp only [Option.bind_some]
      unfold amake makeU mkS
      cases P.underlying t with
      | none => rfl
      | some d => cases d <;> try rfl
                  rename_i el
                  simp only
                  cases tS P el with
                  | none => rfl
                  | some s => cases tB P el with
                    | none => rfl
                    | some by_ => cases tZ P el <;> rfl
@[simp] theorem op_fieldAddr {t : TypeId} {x : Operand} {f : Nat} {e : Env} {H : AHeap} : evalOp P K C (.fieldAddr t x f) e H = (faS P t f).bind fun k => (evalOpd e x).bind fun a => match a with
    | .ptr o off => some (.ptr o (off + k), H)
    | .ptrl cs off => some (.ptrl cs (off + k), H)
    | _ => none := by
  simp only [evalOp, step1, faS]
  cases fieldAt P t f with
  | none => rfl
  | some fd =>
    simp only [Option.bind_some]
    cases tS P fd.type with
    | none => rfl
    | some n =>
      simp only [Option.bind_some]
      cases evalOpd e x with
      | none => by_cases h : 0 < n <;> simp [h]
      | some a => by_cases h : 0 < n <;> cases a <;> simp [h]
@[simp] theorem op_field {t : TypeId} {x : Operand} {f : Nat} {e : Env} {H : AHeap} : evalOp P K C (.field t x f) e H = (fdS P t f).bind fun k => (evalOpd e x).bind fun a => match a with
    | .agg cs => (ldK (some k.2) cs k.1).map fun v => (v, H)
    | _ => none := by
  simp only [evalOp, step1, fdS, loadC_eq]
  cases fieldAt P t f with
  | none => rfl
  | some fd =>
    simp only [Option.bind_some]
    cases hl : ldS P fd.type with
    | none =>
      cases evalOpd e x with
      | none => rfl
      | some a => cases a <;> simp [ldK]
    | some l =>
      cases evalOpd e x with
      | none => rfl
      | some a => cases a <;> simp
@[simp] theorem op_indexAddr {t : TypeId} {x i : Operand} {e : Env} {H : AHeap} : evalOp P K C (.indexAddr t x i) e H = (evalOpd e x).bind fun a => (evalOpd e i).bind fun b => match b with
    | .int _ n => (aindexAddr P t a n).map fun v => (v, H)
    | _ => none := by
  simp only [evalOp, step1]
  congr 1
  funext a
  cases evalOpd e i with
  | none => rfl
  | some b => cases b <;> rfl
@[simp] theorem ia_row {t : TypeId} {o off sz n : Nat} {f : Bool} {i : Int} : aindexAddr P t (.row o off sz n f) i = ixS (eszS P t) (.row o off sz n f) i := by
  unfold aindexAddr ixS eszS
  cases P.underlying t with
  | none => simp
  | some d => cases d <;> simp
@[simp] theorem ia_lst {t : TypeId} {sz n : Nat} {cs : List AV} {i : Int} : aindexAddr P t (.lst sz n cs) i = ixS (eszS P t) (.lst sz n cs) i := by
  unfold aindexAddr ixS eszS
  cases P.underlying t with
  | none => simp
  | some d => cases d <;> simp
@[simp] theorem ia_ptr {t : TypeId} {o off : Nat} {i : Int} : aindexAddr P t (.ptr o off) i = ixA (arrS P t) (.ptr o off) i := by
  unfold aindexAddr ixA arrS
  cases P.underlying t with
  | none => simp
  | some d => cases d <;> simp
              cases tS P ‹TypeId› <;> simp
@[simp] theorem ia_ptrl {t : TypeId} {cs : List AV} {off : Nat} {i : Int} : aindexAddr P t (.ptrl cs off) i = ixA (arrS P t) (.ptrl cs off) i := by
  unfold aindexAddr ixA arrS
  cases P.underlying t with
  | none => simp
  | some d => cases d <;> simp
              cases tS P ‹TypeId› <;> simp
@[simp] theorem ixS_row {s : Option Nat} {o off sz n : Nat} {f : Bool} {i : Int} : ixS s (.row o off sz n f) i = if s = some sz ∧ 0 ≤ i ∧ i < n then some (.ptr o (off + i.toNat * sz)) else none := nr rfl
@[simp] theorem ixS_lst {s : Option Nat} {sz n : Nat} {cs : List AV} {i : Int} : ixS s (.lst sz n cs) i = if s = some sz ∧ 0 ≤ i ∧ i < n then some (.ptrl cs (i.toNat * sz)) else none := nr rfl
@[simp] theorem ixA_ptr {len sz o off : Nat} {i : Int} : ixA (some (len, sz)) (.ptr o off) i = if 0 ≤ i ∧ i < len then some (.ptr o (off + i.toNat * sz)) else none := nr rfl
@[simp] theorem ixA_ptrl {len sz off : Nat} {cs : List AV} {i : Int} : ixA (some (len, sz)) (.ptrl cs off) i = if 0 ≤ i ∧ i < len then some (.ptrl cs (off + i.toNat * sz)) else none := nr rfl
@[simp] theorem op_index {t : TypeId} {x i : Operand} {e : Env} {H : AHeap} : evalOp P K C (.index t x i) e H = (evalOpd e x).bind fun a => (evalOpd e i).bind fun b => match b with
    | .int _ n => (aindex P t a n).map fun v => (v, H)
    | _ => none := by
  simp only [evalOp, step1]
  congr 1
  funext a
  cases evalOpd e i with
  | none => rfl
  | some b => cases b <;> rfl
@[simp] theorem op_extract {x : Operand} {i : Nat} {e : Env} {H : AHeap} : evalOp P K C (.extract x i) e H = (evalOpd e x).bind fun a => match a with
    | .tup vs => (vs[i]?).map fun v => (v, H)
    | _ => none := by
  simp only [evalOp, step1]
  cases evalOpd e x with
  | none => rfl
  | some b => cases b <;> rfl
@[simp] theorem op_slice {t : TypeId} {x : Operand} {lo hi mx : Option Operand} {e : Env} {H : AHeap} : evalOp P K C (.slice t x lo hi mx) e H = (evalOpd e x).bind fun a => (evalOpt e lo).bind fun l => (evalOpt e hi).bind fun h => (evalOpt e mx).bind fun m => (aslice P H t a l h m).map fun v => (v, H) := nr rfl

theorem fillC_eq {pl : Nat → Option (Nat × Nat)} : ∀ {ps : List (Nat × AV)} {cs : List AV}, fillC pl cs ps = fillB pl cs ps
  | [], _ => rfl
  | (i, v) :: ps, cs => by
    simp only [fillC, fillB]
    cases pl i with
    | none => rfl
    | some x => obtain ⟨off, sz⟩ := x; simp only [Option.bind_some, fillC_eq]
@[simp] theorem op_build {t : TypeId} {ps : Array (Nat × Operand)} {e : Env} {H : AHeap} : evalOp P K C (.build t ps) e H = (evalParts e ps.toList).bind fun l => (tZ P t).bind fun z => if blS P t = some true then (fillB (plS P t) z l).map fun cs => (.agg cs, H) else none := by
  simp only [evalOp, step1]
  congr 1
  funext l
  unfold abuild blS
  cases tZ P t with
  | none => rfl
  | some z =>
    simp only [Option.bind_some]
    have hp : plS P t = fun i => match P.underlying t with
      | some (.struct fs) => (places P fs.toList).bind fun pl => pl[i]?
      | some (.array _ e) => (tS P e).map fun s => (i * s, s)
      | _ => none := by funext i; rfl
    rw [hp]
    cases P.underlying t with
    | none => simp
    | some d =>
      cases d <;> simp only [Option.map_none, reduceCtorEq, if_false]
      · rename_i len el
        cases tS P el with
        | none => simp
        | some s => simp [fillC_eq]; rfl
      · rename_i fs
        cases places P fs.toList with
        | none => simp
        | some pl => simp [fillC_eq]; rfl
@[simp] theorem fillB_nil {pl : Nat → Option (Nat × Nat)} {cs : List AV} : fillB pl cs [] = some cs := nr rfl
def fillK (pl : Nat → Option (Nat × Nat)) (cs : List AV) (v : AV) (rest : List (Nat × AV)) : Option (Nat × Nat) → Option (List AV)
  | some (off, sz) => if v.cells.length = sz ∧ off + sz ≤ cs.length then fillB pl (putCells cs off v.cells) rest else none
  | none => none
@[simp] theorem fillB_cons {pl : Nat → Option (Nat × Nat)} {cs : List AV} {i : Nat} {v : AV} {rest : List (Nat × AV)} : fillB pl cs ((i, v) :: rest) = fillK pl cs v rest (pl i) := by
  simp only [fillB, fillK]
@[simp] theorem fillK_some {pl : Nat → Option (Nat × Nat)} {cs : List AV} {v : AV} {rest : List (Nat × AV)} {off sz : Nat} : fillK pl cs v rest (some (off, sz)) = if v.cells.length = sz ∧ off + sz ≤ cs.length then fillB pl (putCells cs off v.cells) rest else none := nr rfl
@[simp] theorem op_buildSlice {t : TypeId} {n : Nat} {ps : Array (Nat × Operand)} {e : Env} {H : AHeap} : evalOp P K C (.buildSlice t n ps) e H = (evalParts e ps.toList).bind fun l => lit H n l (bsS P t) := by
  simp only [evalOp, step1]
  congr 1
  funext l
  unfold abuildSlice lit bsS
  cases P.underlying t with
  | none => rfl
  | some d =>
    cases d <;> try rfl
    rename_i el
    simp only
    cases tS P el with
    | none => rfl
    | some s => cases tZ P el with
      | none => rfl
      | some z => simp only [Option.bind_some, Option.map_some, fillC_eq]
@[simp] theorem lit_some {H : AHeap} {len s : Nat} {z : List AV} {ps : List (Nat × AV)} : lit H len ps (some (s, z)) = if len * s ≤ 16777216 ∧ z.length = s ∧ 0 < s then
        (fillB (fun i => some (i * s, s)) ((List.replicate len z).flatten) ps).map fun cs => (.row H.size 0 s len true, H.new (.cells cs))
      else none := nr rfl
@[simp] theorem op_len {x : Operand} {t : TypeId} {e : Env} {H : AHeap} : evalOp P K C (.call ⟨.builtin .len, #[x], #[t]⟩) e H = (evalOpd e x).bind fun a => (alen P H t a).map fun v => (v, H) := by
  simp only [evalOp, step1, abuiltin, evalOpds, Option.map_some]
  cases evalOpd e x <;> rfl
@[simp] theorem alen_eq {H : AHeap} {t : TypeId} {x : AV} : alen P H t x = lenU H x (lnS P t) := by
  unfold alen lenU lnS
  cases P.underlying t with
  | none => simp
  | some d => cases d <;> first | rfl | (cases x <;> rfl)
@[simp] theorem lenU_slice {H : AHeap} {x : AV} : lenU H x .slice = (sliceLen x).map fun n => .int .i64 n := by cases x <;> rfl
@[simp] theorem lenU_arr {H : AHeap} {x : AV} {n : Nat} : lenU H x (.arr n) = some (.int .i64 n) := by cases x <;> rfl
@[simp] theorem lenU_str {H : AHeap} {s : ByteArray} : lenU H (.str s) .str = some (.int .i64 s.size) := nr rfl
@[simp] theorem len_row {o off sz n : Nat} {f : Bool} : sliceLen (.row o off sz n f) = some n := nr rfl
@[simp] theorem len_lst {sz n : Nat} {cs : List AV} : sliceLen (.lst sz n cs) = some n := nr rfl
@[simp] theorem len_nils : sliceLen .nils = some 0 := nr rfl
@[simp] theorem op_append {x y : Operand} {t : TypeId} {e : Env} {H : AHeap} : evalOp P K C (.call ⟨.builtin .append, #[x, y], #[t, t]⟩) e H = (evalOpd e x).bind fun a => (evalOpd e y).bind fun b => appU H a b (mkS P t) := by
  simp only [evalOp, step1, abuiltin, evalOpds, Option.map_some]
  cases evalOpd e x with
  | none => rfl
  | some a => cases evalOpd e y with
    | none => rfl
    | some b =>
      simp only [Option.map_some, Option.bind_some, if_true]
      unfold aappend appU mkS
      cases P.underlying t with
      | none => rfl
      | some d =>
        cases d <;> try rfl
        rename_i el
        simp only
        cases tS P el with
        | none => rfl
        | some s => cases tB P el with
          | none => rfl
          | some by_ => cases tZ P el <;> rfl
@[simp] theorem op_min {x y : Operand} {ts : Array TypeId} {e : Env} {H : AHeap} : evalOp P K C (.call ⟨.builtin .min, #[x, y], ts⟩) e H = (evalOpd e x).bind fun a => (evalOpd e y).bind fun b => (foldMin a [b]).map fun v => (v, H) := by
  simp only [evalOp, step1, abuiltin, evalOpds, Option.map_some]
  cases evalOpd e x with
  | none => rfl
  | some a => cases evalOpd e y <;> rfl
@[simp] theorem op_max {x y : Operand} {ts : Array TypeId} {e : Env} {H : AHeap} : evalOp P K C (.call ⟨.builtin .max, #[x, y], ts⟩) e H = (evalOpd e x).bind fun a => (evalOpd e y).bind fun b => (foldMax a [b]).map fun v => (v, H) := by
  simp only [evalOp, step1, abuiltin, evalOpds, Option.map_some]
  cases evalOpd e x with
  | none => rfl
  | some a => cases evalOpd e y <;> rfl
@[simp] theorem min_int {k : IntKind} {a b : Int} : foldMin (.int k a) [.int k b] = some (.int k (min a b)) := by
  have h : (if b < a then b else a) = min a b := by rw [Int.min_def]; split <;> split <;> omega
  simp [foldMin, h]
@[simp] theorem max_int {k : IntKind} {a b : Int} : foldMax (.int k a) [.int k b] = some (.int k (max a b)) := by
  have h : (if a < b then b else a) = max a b := by rw [Int.max_def]; split <;> split <;> omega
  simp [foldMax, h]
@[simp] theorem op_callF {f : FuncId} {args : Array Operand} {ts : Array TypeId} {e : Env} {H : AHeap} : evalOp P K C (.call ⟨.value (.func f), args, ts⟩) e H = (evalOpds e args.toList).bind fun as => C f as H := by
  simp only [evalOp, step1]
  cases evalOpds e args.toList with
  | none => rfl
  | some as => simp [evalOpd, clOf]
@[simp] theorem op_callV {t : Nat} {args : Array Operand} {ts : Array TypeId} {e : Env} {H : AHeap} : evalOp P K C (.call ⟨.value (.tmp t), args, ts⟩) e H = (evalOpds e args.toList).bind fun as => (e t).bind fun f => match f with
    | .fn (.func f) first cap => C f (first ++ as ++ cap) H
    | _ => none := by
  simp only [evalOp, step1, evalOpd]
  cases evalOpds e args.toList with
  | none => rfl
  | some as => cases e t with
    | none => rfl
    | some v => cases v <;> first | rfl | (rename_i f _ _; cases f <;> rfl)
@[simp] theorem op_lookup {t : TypeId} {m k : Operand} {ok : Bool} {e : Env} {H : AHeap} : evalOp P K C (.lookup t m k ok) e H = (evalOpd e m).bind fun a => (evalOpd e k).bind fun b => (lookM ok b a H (mapS P K t)).map fun v => (v, H) := by
  simp only [evalOp, step1]
  congr 1
  funext a
  congr 1
  funext b
  congr 1
  unfold alookup lookM mapS
  cases P.underlying t with
  | none => rfl
  | some d =>
    cases d <;> try rfl
    rename_i kt el
    simp only
    cases keySh P K kt with
    | none => rfl
    | some sh => cases tZV P el with
      | none => rfl
      | some z =>
        simp only [Option.bind_some, Option.map_some]
        cases a <;> try rfl
        rename_i o
        simp only
        cases H.obj o <;> try rfl
        rename_i sh' es _
        simp only
        cases findE b es <;> rfl
@[simp] theorem op_mapUpdate {t : TypeId} {m k v : Operand} {e : Env} {H : AHeap} : evalOp P K C (.mapUpdate t m k v) e H = (evalOpd e m).bind fun a => (evalOpd e k).bind fun b => (evalOpd e v).bind fun c => (updM b c a H (mkeyS P K t)).map fun H' => (.tup [], H') := by
  simp only [evalOp, step1]
  congr 1
  funext a
  congr 1
  funext b
  congr 1
  funext c
  congr 1
  unfold amapUpdate updM mkeyS
  cases P.underlying t with
  | none => rfl
  | some d =>
    cases d <;> try rfl
    rename_i kt el
    simp only
    cases keySh P K kt <;> rfl
@[simp] theorem makeU_some {H : AHeap} {l c : Int} {sz by_ : Nat} {z : List AV} : makeU H l c (some (sz, by_, z)) = if 0 ≤ l ∧ l ≤ c ∧ c * by_ ≤ 140737488355328 ∧ z.length = sz ∧ 0 < sz ∧ c ≤ 9223372036854775807 then
        some (.row H.size 0 sz l.toNat (decide (l = c)), H.new (.cells ((List.replicate c.toNat z).flatten)))
      else none := nr rfl
@[simp] theorem lookM_map {ok : Bool} {k z : AV} {o : Nat} {H : AHeap} {sh : KSh} : lookM ok k (.map o) H (some (sh, z)) = if sh.fits k = true then
      match H.obj o with
        | .map sh' es _ => if sh' = sh then some (lookU ok z (findE k es)) else none
        | _ => none
    else none := nr rfl
@[simp] theorem updM_map {k v : AV} {o : Nat} {H : AHeap} {sh : KSh} : updM k v (.map o) H (some sh) = if sh.fits k = true then
      match H.obj o with
        | .map sh' es clock => if sh' = sh then
            match findE k es with
            | some _ => some (H.set o (.map sh (setE k v es) clock))
            | none => some (H.set o (.map sh (es ++ [⟨k, v, clock⟩]) (clock + 1)))
          else none
        | _ => none
    else none := nr rfl
@[simp] theorem res_nil {e : Env} {H : AHeap} : evalResults P e H [] = some [] := nr rfl
@[simp] theorem res_tmp {e : Env} {H : AHeap} {t : Nat} {rs : List ResultVar} : evalResults P e H (.tmp t :: rs) = (e t).bind fun a => (evalResults P e H rs).map (a :: ·) := nr rfl
@[simp] theorem res_cell {e : Env} {H : AHeap} {a : Nat} {t : TypeId} {rs : List ResultVar} : evalResults P e H (.cell a t :: rs) = ((e a).bind fun x => aload P H t x).bind fun a => (evalResults P e H rs).map (a :: ·) := nr rfl
@[simp] theorem tupled_one {v : AV} : tupled [v] = v := nr rfl
@[simp] theorem tupled_nil : tupled [] = .tup [] := nr rfl
@[simp] theorem tupled_many {v w : AV} {vs : List AV} : tupled (v :: w :: vs) = .tup (v :: w :: vs) := nr rfl

end
end Go.Proofs.Ytphkkcocimmmfaa
