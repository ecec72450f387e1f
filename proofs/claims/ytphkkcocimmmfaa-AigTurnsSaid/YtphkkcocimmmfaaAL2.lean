/- The interpreter on abstract values and the abstract heap: what an operation, a region, a body does. -/
import Derived.Test.YtphkkcocimmmfaaAL1
import Derived.Orders
namespace Go.Proofs.Ytphkkcocimmmfaa

def scEq : AV → AV → Bool
  | .int _ a, .int _ b => a == b
  | .str a, .str b => decide (a = b)
  | .bool a, .bool b => a == b
  | _, _ => false
def scsEq : List AV → List AV → Bool
  | [], [] => true
  | a :: as, b :: bs => scEq a b && scsEq as bs
  | _, _ => false
def keyEq : AV → AV → Bool
  | .agg as, .agg bs => scsEq as bs
  | a, b => scEq a b

def ofCell : Value → Option AV
  | .bool b => some (.bool b)
  | .int k n => some (.int k n)
  | .string s => some (.str s)
  | .pointer none => some .nilp
  | .slice none 0 0 => some .nils
  | .map none => some .nilm
  | .nilFunc => some .nilf
  | .nilIface => some .nili
  | _ => none
def ofCells : List Value → Option (List AV)
  | [] => some []
  | v :: vs => (ofCell v).bind fun a => (ofCells vs).map (a :: ·)
def ofValue : Value → Option AV
  | .agg cs => (ofCells cs.toList).map .agg
  | v => ofCell v

abbrev Env := Nat → Option AV
def Env.nil : Env := fun _ => none
def Env.put (e : Env) (t : Nat) (v : AV) : Env := fun s => if s = t then some v else e s
def Env.putO (e : Env) (t : Option Nat) (v : Option AV) : Env := fun s => if t = some s then v else e s
def Env.args : List AV → Nat → Env
  | [], _ => Env.nil
  | v :: vs, k => fun s => if s = k then some v else Env.args vs (k + 1) s

def evalOpd (e : Env) : Operand → Option AV
  | .tmp t => e t
  | .const v => ofValue v
  | .global _ => none
  | .func f => some (.fn (.func f) [] [])
def evalOpds (e : Env) : List Operand → Option (List AV)
  | [] => some []
  | x :: xs => (evalOpd e x).bind fun a => (evalOpds e xs).map (a :: ·)
def evalOpt (e : Env) : Option Operand → Option (Option AV)
  | none => some none
  | some x => (evalOpd e x).map some

def AV.cells : AV → List AV
  | .agg cs => cs
  | v => [v]
def AV.one : AV → Bool
  | .agg _ => false
  | .tup _ => false
  | _ => true

section
variable (P : Program) (K : TypeId → Option (List Sc))

def keySh (t : TypeId) : Option KSh :=
  match P.underlying t with
  | some (.int k) => some (.one (.i k))
  | some .string => some (.one .s)
  | some .bool => some (.one .b)
  | some (.struct _) => (K t).map .many
  | some (.array _ _) => (K t).map .many
  | _ => none

def isAggT (t : TypeId) : Option Bool :=
  match P.underlying t with
  | some (.struct _) => some true
  | some (.array _ _) => some true
  | some _ => some false
  | none => none
def tS (t : TypeId) : Option Nat := (P.info? t).map (·.size)
def tB (t : TypeId) : Option Nat := (P.info? t).map (·.bytes)
def tZ (t : TypeId) : Option (List AV) := (P.info? t).bind fun i => i.zero.bind fun z => ofCells z.cells.toList
def tZV (t : TypeId) : Option AV := (P.info? t).bind fun i => i.zero.bind ofValue

/-- What lies at a place in a row of cells, read as a type says. -/
def loadC (t : TypeId) (cs : List AV) (off : Nat) : Option AV :=
  match isAggT P t with
  | some true => (tS P t).bind fun n => if off + n ≤ cs.length then some (.agg ((cs.drop off).take n)) else none
  | some false => cs[off]?
  | none => none

def aload (H : AHeap) (t : TypeId) : AV → Option AV
  | .ptr o off => match H.obj o with
    | .cells cs => loadC P t cs off
    | _ => none
  | .ptrl cs off => loadC P t cs off
  | _ => none

def allOne : List AV → Bool
  | [] => true
  | a :: as => a.one && allOne as

def putCells (cs : List AV) (off : Nat) (new : List AV) : List AV := cs.take off ++ new ++ cs.drop (off + new.length)

def astore (H : AHeap) (t : TypeId) (a v : AV) : Option AHeap :=
  match a with
  | .ptr o off => match H.obj o with
    | .cells cs => match v with
      | .agg new => if tS P t = some new.length ∧ off + new.length ≤ cs.length ∧ allOne new = true then some (H.set o (.cells (putCells cs off new))) else none
      | v => if tS P t = some 1 ∧ off < cs.length ∧ v.one = true then some (H.set o (.cells (cs.set off v))) else none
    | _ => none
  | _ => none

def fieldAt (s : TypeId) (f : Nat) : Option Field :=
  match P.underlying s with
  | some (.struct fs) => fs[f]?
  | _ => none

def arith (op : BinOp) (k : IntKind) (a b : Int) : Option AV :=
  match op with
  | .add => some (.int k (k.wrap (a + b)))
  | .sub => some (.int k (k.wrap (a - b)))
  | .mul => some (.int k (k.wrap (a * b)))
  | .quo => if b = 0 then none else some (.int k (k.wrap (a.tdiv b)))
  | .rem => if b = 0 then none else some (.int k (a.tmod b))
  | .and => some (.int k (k.wrap (BitVec.ofInt k.bits a &&& BitVec.ofInt k.bits b).toNat))
  | .or => some (.int k (k.wrap (BitVec.ofInt k.bits a ||| BitVec.ofInt k.bits b).toNat))
  | .xor => some (.int k (k.wrap (BitVec.ofInt k.bits a ^^^ BitVec.ofInt k.bits b).toNat))
  | .andNot => some (.int k (k.wrap (BitVec.ofInt k.bits a &&& ~~~BitVec.ofInt k.bits b).toNat))
  | .eql => some (.bool (a == b))
  | .neq => some (.bool (a != b))
  | .lss => some (.bool (decide (a < b)))
  | .leq => some (.bool (decide (a ≤ b)))
  | .gtr => some (.bool (decide (a > b)))
  | .geq => some (.bool (decide (a ≥ b)))
  | _ => none

def strOp (op : BinOp) (x y : ByteArray) : Option AV :=
  match op with
  | .add => if ((x.size + y.size : Nat) : Int) ≤ 9223372036854775807 then some (.str (x ++ y)) else none
  | .eql => some (.bool (decide (x = y)))
  | .neq => some (.bool (!(decide (x = y))))
  | .lss => some (.bool (Op.bytesLess x.toList y.toList))
  | .leq => some (.bool (Op.bytesLess x.toList y.toList || decide (x = y)))
  | .gtr => some (.bool (!(Op.bytesLess x.toList y.toList || decide (x = y))))
  | .geq => some (.bool (!Op.bytesLess x.toList y.toList))
  | _ => none

/-- '==' at a type, of what is no number and no text. -/
def aeqS (t : TypeId) (x y : AV) : Option Bool :=
  match P.underlying t, x, y with
  | some .bool, .bool a, .bool b => some (a == b)
  | some (.pointer _), .nilp, .nilp => some true
  | some (.pointer _), .nilp, .ptr _ _ => some false
  | some (.pointer _), .ptr _ _, .nilp => some false
  | some (.slice _), .nils, .nils => some true
  | some (.slice _), .nils, .row .. => some false
  | some (.slice _), .row .., .nils => some false
  | some (.map _ _), .nilm, .nilm => some true
  | some (.map _ _), .nilm, .map _ => some false
  | some (.map _ _), .map _, .nilm => some false
  | some (.func ..), .nilf, .nilf => some true
  | some (.func ..), .nilf, .fn .. => some false
  | some (.func ..), .fn .., .nilf => some false
  | _, _, _ => none
def aeq (t : TypeId) (x y : AV) : Option Bool :=
  match x, y with
  | .agg xs, .agg ys => (K t).bind fun sh => if conf sh xs = true ∧ conf sh ys = true then some (scsEq xs ys) else none
  | x, y => aeqS P t x y

def abin (op : BinOp) (t : TypeId) (x y : AV) : Option AV :=
  match op, x, y with
  | .shl, .int k a, .int _ b => if b < 0 then none else some (.int k (k.wrap (a * 2 ^ (min b.toNat k.bits))))
  | .shr, .int k a, .int _ b => if b < 0 then none else some (.int k (a.fdiv (2 ^ (min b.toNat k.bits))))
  | op, .int k a, .int k' b => if k = k' then arith op k a b else none
  | op, .str a, .str b => strOp op a b
  | .eql, x, y => (aeq P K t x y).map .bool
  | .neq, x, y => (aeq P K t x y).map fun b => .bool (!b)
  | _, _, _ => none

def aun (op : UnOp) (x : AV) : Option AV :=
  match op, x with
  | .neg, .int k n => some (.int k (k.wrap (0 - n)))
  | .xor, .int k n => some (.int k (k.wrap (BitVec.ofInt k.bits (if k.signed then -1 else k.max) ^^^ BitVec.ofInt k.bits n).toNat))
  | .not, .bool b => some (.bool (!b))
  | _, _ => none

/-- The cells of a slice, as many as its elements take. -/
def sliceCells (H : AHeap) : AV → Option (List AV)
  | .nils => some []
  | .row o off sz n _ => match H.obj o with
    | .cells cs => if off + n * sz ≤ cs.length then some ((cs.drop off).take (n * sz)) else none
    | _ => none
  | .lst _ _ cs => some cs
  | _ => none
def sliceLen : AV → Option Nat
  | .nils => some 0
  | .row _ _ _ n _ => some n
  | .lst _ n _ => some n
  | _ => none

def aconvert (H : AHeap) (src dst : TypeId) (x : AV) : Option (AV × AHeap) :=
  match P.underlying src, P.underlying dst, x with
  | some _, some (.int k), .int _ n => some (.int k (k.wrap n), H)
  | some _, some .string, .str s => some (.str s, H)
  | _, _, _ => none

def aindexAddr (t : TypeId) (x : AV) (i : Int) : Option AV :=
  match P.underlying t, x with
  | some (.array len e), .ptr o off => (tS P e).bind fun sz => if 0 ≤ i ∧ i < len then some (.ptr o (off + i.toNat * sz)) else none
  | some (.array len e), .ptrl cs off => (tS P e).bind fun sz => if 0 ≤ i ∧ i < len then some (.ptrl cs (off + i.toNat * sz)) else none
  | some (.slice e), .row o off sz n _ => if tS P e = some sz ∧ 0 ≤ i ∧ i < n then some (.ptr o (off + i.toNat * sz)) else none
  | some (.slice e), .lst sz n cs => if tS P e = some sz ∧ 0 ≤ i ∧ i < n then some (.ptrl cs (i.toNat * sz)) else none
  | _, _ => none

def aindex (t : TypeId) (x : AV) (i : Int) : Option AV :=
  match P.underlying t, x with
  | some (.array len e), .agg cs => (tS P e).bind fun sz => if 0 ≤ i ∧ i < len then loadC P e cs (i.toNat * sz) else none
  | some .string, .str s => if 0 ≤ i then (s.toList[i.toNat]?).map fun b => .int .u8 b.toNat else none
  | _, _ => none

def bound (d : Nat) : Option AV → Option Int
  | none => some d
  | some (.int _ i) => some i
  | _ => none

def aslice (H : AHeap) (t : TypeId) (x : AV) (lo hi mx : Option AV) : Option AV :=
  match P.underlying t, x, mx with
  | some .string, .str s, none => (bound 0 lo).bind fun l => (bound s.size hi).bind fun h => if 0 ≤ l ∧ l ≤ h ∧ h ≤ s.size then some (.str (s.extract l.toNat h.toNat)) else none
  | some (.slice e), .row o off sz n full, none => (bound 0 lo).bind fun l => (bound n hi).bind fun h =>
      if tS P e = some sz ∧ 0 ≤ l ∧ l ≤ h ∧ h ≤ n then some (.row o (off + l.toNat * sz) sz (h - l).toNat (full && decide (h = n))) else none
  | some (.slice e), .row o off sz n full, some (.int _ m) => (bound 0 lo).bind fun l => (bound n hi).bind fun h =>
      if tS P e = some sz ∧ hi.isSome = true ∧ 0 ≤ l ∧ l ≤ h ∧ h ≤ m ∧ m ≤ n then some (.row o (off + l.toNat * sz) sz (h - l).toNat (decide (h = m))) else none
  | some (.slice e), .lst sz n cs, none => (bound 0 lo).bind fun l => (bound n hi).bind fun h =>
      if tS P e = some sz ∧ 0 ≤ l ∧ l ≤ h ∧ h ≤ n then some (.lst sz (h - l).toNat ((cs.drop (l.toNat * sz)).take ((h - l).toNat * sz))) else none
  | some (.slice e), .nils, none => (tS P e).bind fun _ => (bound 0 lo).bind fun l => (bound 0 hi).bind fun h => if l = 0 ∧ h = 0 then some .nils else none
  | some (.array n e), .ptr o off, none => (tS P e).bind fun sz => (bound 0 lo).bind fun l => (bound n hi).bind fun h =>
      match H.obj o with
      | .cells cs => if 0 ≤ l ∧ l ≤ h ∧ h ≤ n ∧ off + n * sz ≤ cs.length ∧ n ≤ 9223372036854775807 then some (.row o (off + l.toNat * sz) sz (h - l).toNat (decide (h = n))) else none
      | _ => none
  | _, _, _ => none

def amake (H : AHeap) (t : TypeId) (l c : Int) : Option (AV × AHeap) :=
  match P.underlying t with
  | some (.slice e) => (tS P e).bind fun sz => (tB P e).bind fun by_ => (tZ P e).bind fun z =>
      if 0 ≤ l ∧ l ≤ c ∧ c * by_ ≤ 140737488355328 ∧ z.length = sz ∧ 0 < sz ∧ c ≤ 9223372036854775807 then
        some (.row H.size 0 sz l.toNat (decide (l = c)), H.new (.cells ((List.replicate c.toNat z).flatten)))
      else none
  | _ => none

/-- append: nothing, or into memory of its own; where the capacity may bear it the elder row is dead behind it. -/
def aappend (H : AHeap) (t : TypeId) (s x : AV) : Option (AV × AHeap) :=
  match P.underlying t with
  | some (.slice e) => (tS P e).bind fun sz => (tB P e).bind fun by_ => (tZ P e).bind fun z => (sliceCells H x).bind fun new => (sliceLen x).bind fun m => (sliceCells H s).bind fun old => (sliceLen s).bind fun n =>
    if m = 0 then some (s, H) else
    if z.length = sz ∧ new.length = m * sz ∧ 0 < sz ∧ old.length = n * sz ∧ (n + m) * by_ ≤ 140737488355328 ∧ n + m ≤ 9223372036854775807 ∧ allOne new = true then
      match s with
      | .nils => some (.row H.size 0 sz m false, H.new (.cells new))
      | .row o _ sz' _ full => if sz' = sz then
          if full = true then some (.row H.size 0 sz (n + m) false, H.new (.cells (old ++ new)))
          else some (.row H.size 0 sz (n + m) false, (H.set o .dead).new (.cells (old ++ new)))
        else none
      | _ => none
    else none
  | _ => none

def findE (k : AV) : List AEnt → Option AEnt
  | [] => none
  | e :: es => if keyEq k e.key = true then some e else findE k es
def setE (k v : AV) : List AEnt → List AEnt
  | [] => []
  | e :: es => if keyEq k e.key = true then { e with key := k, val := v } :: es else e :: setE k v es
def dropE (k : AV) : List AEnt → List AEnt
  | [] => []
  | e :: es => if keyEq k e.key = true then es else e :: dropE k es
def stampE (n : Int) (v : AV) : List AEnt → List AEnt
  | [] => []
  | e :: es => if (e.born : Int) == n then { e with val := v } :: es else e :: stampE n v es

def alookup (H : AHeap) (t : TypeId) (m k : AV) (ok : Bool) : Option AV :=
  match P.underlying t with
  | some (.map kt e) => (keySh P K kt).bind fun sh => (tZV P e).bind fun z =>
    if sh.fits k = true then
      match m with
      | .nilm => some (if ok then .tup [z, .bool false] else z)
      | .map o => match H.obj o with
        | .map sh' es _ => if sh' = sh then
            match findE k es with
            | some x => some (if ok then .tup [x.val, .bool true] else x.val)
            | none => some (if ok then .tup [z, .bool false] else z)
          else none
        | _ => none
      | _ => none
    else none
  | _ => none

def amapUpdate (H : AHeap) (t : TypeId) (m k v : AV) : Option AHeap :=
  match P.underlying t with
  | some (.map kt _) => (keySh P K kt).bind fun sh =>
    if sh.fits k = true then
      match m with
      | .map o => match H.obj o with
        | .map sh' es clock => if sh' = sh then
            match findE k es with
            | some _ => some (H.set o (.map sh (setE k v es) clock))
            | none => some (H.set o (.map sh (es ++ [⟨k, v, clock⟩]) (clock + 1)))
          else none
        | _ => none
      | _ => none
    else none
  | _ => none

def amapEntry (H : AHeap) (t : TypeId) (m k : AV) : Option (AV × AHeap) :=
  match P.underlying t with
  | some (.map kt e) => (keySh P K kt).bind fun sh => (tZV P e).bind fun z =>
    if sh.fits k = true then
      match m with
      | .map o => match H.obj o with
        | .map sh' es clock => if sh' = sh then
            match findE k es with
            | some x => some (.tup [x.val, .int .i64 x.born], H.set o (.map sh (setE k x.val es) clock))
            | none => some (.tup [z, .int .i64 clock], H.set o (.map sh (es ++ [⟨k, z, clock⟩]) (clock + 1)))
          else none
        | _ => none
      | _ => none
    else none
  | _ => none

def aentryStore (H : AHeap) (m : AV) (n : Int) (v : AV) : Option AHeap :=
  match m with
  | .map o => match H.obj o with
    | .map sh es clock => if es.any (fun e => (e.born : Int) == n) = true then some (H.set o (.map sh (stampE n v es) clock)) else none
    | _ => none
  | _ => none

def adelete (H : AHeap) (t : TypeId) (m k : AV) : Option AHeap :=
  match P.underlying t with
  | some (.map kt _) => (keySh P K kt).bind fun sh =>
    if sh.fits k = true then
      match m with
      | .map o => match H.obj o with
        | .map sh' es clock => if sh' = sh then some (H.set o (.map sh (dropE k es) clock)) else none
        | _ => none
      | _ => none
    else none
  | _ => none

def fillC (place : Nat → Option (Nat × Nat)) (cs : List AV) : List (Nat × AV) → Option (List AV)
  | [] => some cs
  | (i, v) :: rest => (place i).bind fun (off, sz) => if v.cells.length = sz ∧ off + sz ≤ cs.length then fillC place (putCells cs off v.cells) rest else none

def evalParts (e : Env) : List (Nat × Operand) → Option (List (Nat × AV))
  | [] => some []
  | (i, x) :: xs => (evalOpd e x).bind fun a => (evalParts e xs).map ((i, a) :: ·)

def places : List Field → Option (List (Nat × Nat))
  | [] => some []
  | f :: fs => (tS P f.type).bind fun s => (places fs).map ((f.offset, s) :: ·)

def abuild (t : TypeId) (ps : List (Nat × AV)) : Option AV :=
  (tZ P t).bind fun z => match P.underlying t with
  | some (.struct fs) => (places P fs.toList).bind fun pl => (fillC (fun i => pl[i]?) z ps).map .agg
  | some (.array _ e) => (tS P e).bind fun s => (fillC (fun i => some (i * s, s)) z ps).map .agg
  | _ => none

def abuildSlice (H : AHeap) (t : TypeId) (len : Nat) (ps : List (Nat × AV)) : Option (AV × AHeap) :=
  match P.underlying t with
  | some (.slice e) => (tS P e).bind fun s => (tZ P e).bind fun z =>
      if len * s ≤ 16777216 ∧ z.length = s ∧ 0 < s then
        (fillC (fun i => some (i * s, s)) ((List.replicate len z).flatten) ps).map fun cs => (.row H.size 0 s len true, H.new (.cells cs))
      else none
  | _ => none

def alen (H : AHeap) (t : TypeId) (x : AV) : Option AV :=
  match P.underlying t, x with
  | some .string, .str s => some (.int .i64 s.size)
  | some (.array n _), _ => some (.int .i64 n)
  | some (.slice _), x => (sliceLen x).map fun n => .int .i64 n
  | some (.map _ _), .nilm => some (.int .i64 0)
  | some (.map _ _), .map o => match H.obj o with
    | .map _ es _ => some (.int .i64 es.length)
    | _ => none
  | _, _ => none

def foldMin : AV → List AV → Option AV
  | x, [] => some x
  | .int k x, .int k' y :: r => if k = k' then foldMin (.int k (if y < x then y else x)) r else none
  | _, _ => none
def foldMax : AV → List AV → Option AV
  | x, [] => some x
  | .int k x, .int k' y :: r => if k = k' then foldMax (.int k (if x < y then y else x)) r else none
  | _, _ => none

end

/-! Which regions that draw their order are let by. -/
/-- 0: computes alone; 1: reads memory; 2: makes memory, or calls; 3: writes memory. -/
def cls : Op → Nat
  | .move _ | .assign _ | .pick .. | .unOp .. | .binOp .. | .fieldAddr .. | .field .. | .extract .. | .nilCheck _ | .makeInterface .. | .makeFunc .. | .indexAddr .. | .index .. | .build .. | .convert .. => 0
  | .load .. | .lookup .. | .slice .. => 1
  | .alloc _ | .box .. | .buildSlice .. | .makeMap .. | .makeSlice .. => 2
  | .call { callee := .builtin b, .. } => match b with
    | .len => 1
    | .min | .max => 0
    | _ => 3
  | .call _ => 2
  | _ => 3

def isCall : Op → Bool
  | .call { callee := .builtin _, .. } => false
  | .call _ => true
  | _ => false

def isLoad : Op → Bool
  | .load .. => true
  | _ => false
def isStore : Op → Bool
  | .store .. => true
  | _ => false
/-- What a marked operation is held to: a load tells a number; a store lays a bool where a bool lies; else nothing that there is is written. -/
def markOK (o : Op) (e : Env) (H : AHeap) (v : AV) (H' : AHeap) : Bool :=
  match o with
  | .load .. => match v with
    | .int _ _ => true
    | _ => false
  | .store _ a x => match evalOpd e a, evalOpd e x with
    | some (.ptr o off), some (.bool _) => match H.obj o with
      | .cells cs => match cs[off]? with
        | some (.bool _) => true
        | _ => false
      | _ => false
    | _, _ => false
  | _ => decide (H.Quiet H')

def pairOK (ops : Array Oper) (D : List Nat) (i j : Nat) (x y : Oper) : Bool :=
  Oper.apart ops x y && (cls x.op == 0 || cls y.op == 0 || (cls x.op == 1 && cls y.op == 1) || (cls x.op == 1 && cls y.op == 2 && (!isCall y.op || D.contains j)) || (cls x.op == 2 && cls y.op == 1 && (!isCall x.op || D.contains i)) || (D.contains i && D.contains j && ((isLoad x.op && isStore y.op) || (isStore x.op && isLoad y.op))))

def lowOK (o : Oper) (i : Nat) : Bool := o.after.all fun e => !Region.binds .any e || decide (e.on < i)
def betw (ops : Array Oper) (D : List Nat) (y : Oper) (j : Nat) (x : Oper) (i : Nat) : Bool := !decide (i < j) || ((Region.before ops).getD j 0).testBit i || pairOK ops D i j x y

def drawOK (ops : Array Oper) (D : List Nat) : Bool :=
  (ops.toList.zipIdx.all fun x => lowOK x.1 x.2) && ops.toList.zipIdx.all fun y => ops.toList.zipIdx.all fun x => betw ops D y.1 y.2 x.1 x.2

def dstOK (N : Nat) (ops : Array Oper) : Bool := ops.all fun o => match o.dst with | some d => decide (d < N) | none => true

/-- What is asked of a body's text: its slots lie in the frame, and its regions that draw are of the kind that may change places. -/
def codeOK (N : Nat) (D : Nat → List Nat) : Code → Bool
  | .region id ops draw => dstOK N ops && (!draw || drawOK ops (D id))
  | .seq a b => codeOK N D a && codeOK N D b
  | .cond _ a b => codeOK N D a && codeOK N D b
  | .block _ b => codeOK N D b
  | .loop b => codeOK N D b
  | _ => true

end Go.Proofs.Ytphkkcocimmmfaa
