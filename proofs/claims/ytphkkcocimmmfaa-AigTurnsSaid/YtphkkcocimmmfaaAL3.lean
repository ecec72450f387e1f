/- The interpreter, second part: operations, regions, bodies, calls; calls without a number of rounds. -/
import Derived.Test.YtphkkcocimmmfaaAL2
namespace Go.Proofs.Ytphkkcocimmmfaa

inductive Stp where
  | pr (r : Option (AV × AHeap))
  | cl (f : FuncId) (as : List AV)

section
variable (P : Program) (K : TypeId → Option (List Sc))

/-- The function behind a method's name at a dynamic type: its number, the path, whether it takes a pointer. -/
def mth (t : TypeId) (name : String) : Option (FuncId × Bool × List FieldStep) :=
  (P.info? t).bind fun i => (i.methods.find? (·.name == name)).bind fun m => m.func.map fun (f, p) => (f, p, m.path.toList)

def recvAt (xt : TypeId) (ptr : Bool) (v : AV) : Option AV :=
  match P.underlying xt, ptr with
  | some (.pointer _), true => some v
  | some (.pointer _), false => none
  | some _, true => none
  | some _, false => some v
  | none, _ => none

def ainvoke (name : String) (r : AV) : Option (FuncId × AV) :=
  match r with
  | .ifc t v => (mth P t name).bind fun (f, ptr, path) =>
    match path with
    | [] => (recvAt P t ptr v).map fun x => (f, x)
    | [s] => match s.deref, v with
      | false, .agg cs => (fieldAt P s.struct s.index).bind fun fd => (loadC P fd.type cs fd.offset).bind fun x => (recvAt P fd.type ptr x).map fun y => (f, y)
      | _, _ => none
    | _ => none
  | _ => none

def clOf : Option (FuncId × List AV) → Stp
  | some (f, as) => .cl f as
  | none => .pr none

def abuiltin (e : Env) (H : AHeap) (b : Builtin) (ts : List TypeId) (args : List Operand) : Option (AV × AHeap) :=
  (evalOpds e args).bind fun as =>
  match b, ts, as with
  | .len, t :: _, [x] => (alen P H t x).map fun v => (v, H)
  | .append, [t, t'], [s, x] => if t' = t then aappend P H t s x else none
  | .delete, t :: _, [m, k] => (adelete P K H t m k).map fun H' => (.tup [], H')
  | .clear, t :: _, [.map o] => match P.underlying t, H.obj o with
    | some (.map _ _), .map sh _ clock => some (.tup [], H.set o (.map sh [] clock))
    | _, _ => none
  | .min, _, x :: r => (foldMin x r).map fun v => (v, H)
  | .max, _, x :: r => (foldMax x r).map fun v => (v, H)
  | _, _, _ => none

/-- What one operation does: by itself, or the call that it makes. -/
def step1 (o : Op) (e : Env) (H : AHeap) : Stp :=
  match o with
  | .move x => .pr ((evalOpd e x).map fun v => (v, H))
  | .assign x => .pr ((evalOpd e x).map fun v => (v, H))
  | .pick c a b => .pr (match evalOpd e c with
    | some (.bool t) => (if t = true then evalOpd e a else evalOpd e b).map fun v => (v, H)
    | _ => none)
  | .alloc t => .pr ((tZ P t).map fun z => (.ptr H.size 0, H.new (.cells z)))
  | .box _ x => .pr ((evalOpd e x).map fun v => (.ptr H.size 0, H.new (.cells v.cells)))
  | .build t ps => .pr ((evalParts e ps.toList).bind fun l => (abuild P t l).map fun v => (v, H))
  | .buildSlice t n ps => .pr ((evalParts e ps.toList).bind fun l => abuildSlice P H t n l)
  | .load t a => .pr ((evalOpd e a).bind fun x => (aload P H t x).map fun v => (v, H))
  | .store t a x => .pr ((evalOpd e a).bind fun p => (evalOpd e x).bind fun v => (astore P H t p v).map fun H' => (.tup [], H'))
  | .nilCheck x => .pr (match evalOpd e x with
    | some (.ptr o off) => some (.ptr o off, H)
    | some (.ptrl cs off) => some (.ptrl cs off, H)
    | some (.ifc t v) => some (.ifc t v, H)
    | some (.fn (.func f) a b) => some (.fn (.func f) a b, H)
    | _ => none)
  | .binOp op t x y _ => .pr ((evalOpd e x).bind fun a => (evalOpd e y).bind fun b => (abin P K op t a b).map fun v => (v, H))
  | .unOp op _ x => .pr ((evalOpd e x).bind fun a => (aun op a).map fun v => (v, H))
  | .convert s d x => .pr ((evalOpd e x).bind fun a => aconvert P H s d a)
  | .makeInterface t x => .pr ((evalOpd e x).bind fun a => match P.underlying t with
    | some (.interface _) => none
    | some _ => some (.ifc t a, H)
    | none => none)
  | .makeFunc f first cap => .pr ((evalOpds e first.toList).bind fun a => (evalOpds e cap.toList).map fun b => (.fn f a b, H))
  | .makeMap t none => .pr (match P.underlying t with
    | some (.map kt _) => (keySh P K kt).map fun sh => (.map H.size, H.new (.map sh [] 0))
    | _ => none)
  | .makeSlice t l c => .pr (match evalOpd e l, evalOpd e c with
    | some (.int _ n), some (.int _ m) => amake P H t n m
    | _, _ => none)
  | .slice t x lo hi mx => .pr ((evalOpd e x).bind fun a => (evalOpt e lo).bind fun l => (evalOpt e hi).bind fun h => (evalOpt e mx).bind fun m => (aslice P H t a l h m).map fun v => (v, H))
  | .fieldAddr t x f => .pr ((fieldAt P t f).bind fun fd => (tS P fd.type).bind fun n => if 0 < n then match evalOpd e x with
      | some (.ptr o off) => some (.ptr o (off + fd.offset), H)
      | some (.ptrl cs off) => some (.ptrl cs (off + fd.offset), H)
      | _ => none
    else none)
  | .field t x f => .pr ((fieldAt P t f).bind fun fd => match evalOpd e x with
    | some (.agg cs) => (loadC P fd.type cs fd.offset).map fun v => (v, H)
    | _ => none)
  | .indexAddr t x i => .pr ((evalOpd e x).bind fun a => match evalOpd e i with
    | some (.int _ n) => (aindexAddr P t a n).map fun v => (v, H)
    | _ => none)
  | .index t x i => .pr ((evalOpd e x).bind fun a => match evalOpd e i with
    | some (.int _ n) => (aindex P t a n).map fun v => (v, H)
    | _ => none)
  | .lookup t m k ok => .pr ((evalOpd e m).bind fun a => (evalOpd e k).bind fun b => (alookup P K H t a b ok).map fun v => (v, H))
  | .mapUpdate t m k v => .pr ((evalOpd e m).bind fun a => (evalOpd e k).bind fun b => (evalOpd e v).bind fun c => (amapUpdate P K H t a b c).map fun H' => (.tup [], H'))
  | .insert t m k v => .pr ((evalOpd e m).bind fun a => (evalOpd e k).bind fun b => (evalOpd e v).bind fun c => (amapUpdate P K H t a b c).map fun H' => (.tup [], H'))
  | .mapEntry t m k => .pr ((evalOpd e m).bind fun a => (evalOpd e k).bind fun b => amapEntry P K H t a b)
  | .entryStore _ m s v => .pr ((evalOpd e m).bind fun a => (evalOpd e v).bind fun c => match evalOpd e s with
    | some (.int _ n) => (aentryStore H a n c).map fun H' => (.tup [], H')
    | _ => none)
  | .extract t i => .pr (match evalOpd e t with
    | some (.tup vs) => (vs[i]?).map fun v => (v, H)
    | _ => none)
  | .call c => match c.callee with
    | .builtin b => .pr (abuiltin P K e H b c.argTypes.toList c.args.toList)
    | .value f => clOf ((evalOpds e c.args.toList).bind fun as => match evalOpd e f with
      | some (.fn (.func f) first cap) => some (f, first ++ as ++ cap)
      | _ => none)
    | .invoke _ _ => .pr none
  | _ => .pr none

abbrev Calling := FuncId → List AV → AHeap → Option (AV × AHeap)

def evalOp (C : Calling) (o : Op) (e : Env) (H : AHeap) : Option (AV × AHeap) :=
  match step1 P K o e H with
  | .pr r => r
  | .cl f as => C f as H

def wants (e : Env) (ops : Array Oper) (o : Oper) : Option Bool :=
  match o.guard with
  | none => some true
  | some (j, want) => match ((ops[j]?).bind (·.dst)).bind e with
    | some (.bool b) => some (b == want)
    | some (.tup []) => some false
    | _ => none

def evalOps (C : Calling) (q : Nat → Bool) (ops : Array Oper) : Nat → List Oper → Env → AHeap → Option (Env × AHeap)
  | _, [], e, H => some (e, H)
  | k, o :: r, e, H => (wants e ops o).bind fun w =>
    if w = true then (evalOp P K C o.op e H).bind fun (v, H') => if q k = true ∧ markOK o.op e H v H' = false then none else evalOps C q ops (k + 1) r (e.putO o.dst (some v)) H'
    else evalOps C q ops (k + 1) r (e.putO o.dst (some (.tup []))) H

inductive AX where
  | normal
  | exit (id : Nat)
  | ret

abbrev Rn := Option (AX × Env × AHeap)

def iter (F : Env → AHeap → Rn) : Nat → Env → AHeap → Rn
  | 0, _, _ => none
  | n + 1, e, H => match F e H with
    | some (.normal, e', H') => iter F n e' H'
    | r => r

open Classical in
noncomputable def loopLim (F : Env → AHeap → Rn) (e : Env) (H : AHeap) : Rn :=
  if h : ∃ n, iter F n e H ≠ none then iter F (Classical.choose h) e H else none

/-- Which operations of a region that draws its order must leave memory as it is: by the function and the region. -/
abbrev Quiets := FuncId → Nat → List Nat

noncomputable def evalCode (C : Calling) (D : Quiets) (f : FuncId) : Code → Env → AHeap → Rn
  | .skip, e, H => some (.normal, e, H)
  | .region id ops draw, e, H => (evalOps P K C (fun k => draw && (D f id).contains k) ops 0 ops.toList e H).map fun (e', H') => (.normal, e', H')
  | .seq a b, e, H => (evalCode C D f a e H).bind fun
    | (.normal, e', H') => evalCode C D f b e' H'
    | (.exit id, e', H') => some (.exit id, e', H')
    | (.ret, e', H') => some (.ret, e', H')
  | .cond c a b, e, H => match evalOpd e c with
    | some (.bool t) => if t = true then evalCode C D f a e H else evalCode C D f b e H
    | _ => none
  | .block id b, e, H => (evalCode C D f b e H).map fun
    | (.exit id', e', H') => (if id' = id then .normal else .exit id', e', H')
    | (.normal, e', H') => (.normal, e', H')
    | (.ret, e', H') => (.ret, e', H')
  | .loop b, e, H => loopLim (evalCode C D f b) e H
  | .exit id, e, H => some (.exit id, e, H)
  | .ret, e, H => some (.ret, e, H)
  | _, _, _ => none

def evalResult (e : Env) (H : AHeap) : ResultVar → Option AV
  | .tmp t => e t
  | .cell a t => (e a).bind fun x => aload P H t x
def evalResults (e : Env) (H : AHeap) : List ResultVar → Option (List AV)
  | [] => some []
  | r :: rs => (evalResult P e H r).bind fun a => (evalResults e H rs).map (a :: ·)
def tupled : List AV → AV
  | [v] => v
  | vs => .tup vs

noncomputable def evalFn (D : Quiets) (C : Calling) (f : FuncId) (as : List AV) (H : AHeap) : Option (AV × AHeap) :=
  (P.funcs[f]?).bind fun fn => fn.body.bind fun c =>
    if as.length ≤ fn.ntmps ∧ codeOK fn.ntmps (D f) c = true ∧ (fn.name == "runtime.NumGoroutine") = false then (evalCode P K C D f c (Env.args as 0) H).bind fun
      | (.exit _, _, _) => none
      | (_, e, H') => (evalResults P e H' fn.results.toList).map fun vs => (tupled vs, H')
    else none

noncomputable def run (D : Quiets) : Nat → Calling
  | 0 => fun _ _ _ => none
  | n + 1 => evalFn P K D (run D n)

open Classical in
noncomputable def runs (D : Quiets) : Calling := fun f as H => if h : ∃ n, run P K D n f as H ≠ none then run P K D (Classical.choose h) f as H else none
end

theorem iter_mono {F : Env → AHeap → Rn} : ∀ {n : Nat} {e : Env} {H : AHeap} {r}, iter F n e H = some r → ∀ {m}, n ≤ m → iter F m e H = some r
  | 0, _, _, _, h, _, _ => by simp [iter] at h
  | n + 1, e, H, r, h, 0, hm => by omega
  | n + 1, e, H, r, h, m + 1, hm => by
    simp only [iter] at h ⊢
    cases hF : F e H with
    | none => rw [hF] at h; cases h
    | some x =>
      rw [hF] at h
      obtain ⟨x, e', H'⟩ := x
      cases x with
      | normal => exact iter_mono h (by omega)
      | exit id => exact h
      | ret => exact h

theorem iter_fun {F : Env → AHeap → Rn} {n m : Nat} {e : Env} {H : AHeap} {r s} (h : iter F n e H = some r) (k : iter F m e H = some s) : r = s := by
  have h1 := iter_mono h (Nat.le_max_left n m)
  have k1 := iter_mono k (Nat.le_max_right n m)
  rw [h1] at k1
  exact Option.some.inj k1

theorem loopLim_iff {F : Env → AHeap → Rn} {e : Env} {H : AHeap} {r} : loopLim F e H = some r ↔ ∃ n, iter F n e H = some r := by
  unfold loopLim
  split
  · rename_i h
    have hc := Classical.choose_spec h
    constructor
    · intro k; exact ⟨_, k⟩
    · rintro ⟨n, hn⟩
      cases hx : iter F (Classical.choose h) e H with
      | none => exact absurd hx hc
      | some s => rw [iter_fun hx hn]
  · rename_i h
    simp only [reduceCtorEq, false_iff]
    rintro ⟨n, hn⟩
    exact h ⟨n, by simp [hn]⟩

theorem loopLim_eq (F : Env → AHeap → Rn) (e : Env) (H : AHeap) : loopLim F e H = match F e H with
    | some (.normal, e', H') => loopLim F e' H'
    | r => r := by
  cases hF : F e H with
  | none =>
    simp only
    cases h : loopLim F e H with
    | none => rfl
    | some r =>
      obtain ⟨n, hn⟩ := loopLim_iff.1 h
      cases n <;> simp [iter, hF] at hn
  | some x =>
    obtain ⟨x, e', H'⟩ := x
    cases x with
    | normal =>
      simp only
      cases h : loopLim F e' H' with
      | none =>
        cases h2 : loopLim F e H with
        | none => rfl
        | some r =>
          obtain ⟨n, hn⟩ := loopLim_iff.1 h2
          cases n with
          | zero => simp [iter] at hn
          | succ n =>
            simp [iter, hF] at hn
            rw [loopLim_iff.2 ⟨n, hn⟩] at h
            cases h
      | some r =>
        obtain ⟨n, hn⟩ := loopLim_iff.1 h
        exact loopLim_iff.2 ⟨n + 1, by simp [iter, hF, hn]⟩
    | exit id => exact loopLim_iff.2 ⟨1, by simp [iter, hF]⟩
    | ret => exact loopLim_iff.2 ⟨1, by simp [iter, hF]⟩

section
variable {P : Program} {K : TypeId → Option (List Sc)} {D : Quiets}

def CLe (C C' : Calling) : Prop := ∀ f as H r, C f as H = some r → C' f as H = some r

theorem evalOp_mono {C C' : Calling} (h : CLe C C') {o : Op} {e : Env} {H : AHeap} {r} (k : evalOp P K C o e H = some r) : evalOp P K C' o e H = some r := by
  unfold evalOp at *
  split at k
  · exact k
  · exact h _ _ _ _ k

theorem evalOps_mono {C C' : Calling} (h : CLe C C') {q : Nat → Bool} {ops : Array Oper} : ∀ {l : List Oper} {k : Nat} {e : Env} {H : AHeap} {r}, evalOps P K C q ops k l e H = some r → evalOps P K C' q ops k l e H = some r
  | [], _, _, _, _, hk => hk
  | o :: l, k, e, H, r, hk => by
    simp only [evalOps] at hk ⊢
    cases hw : wants e ops o with
    | none => rw [hw] at hk; cases hk
    | some w =>
      rw [hw] at hk
      simp only [Option.bind_some] at hk ⊢
      cases w with
      | true =>
        simp only [if_true] at hk ⊢
        cases ho : evalOp P K C o.op e H with
        | none => rw [ho] at hk; cases hk
        | some x =>
          rw [ho] at hk
          rw [evalOp_mono h ho]
          simp only [Option.bind_some] at hk ⊢
          split at hk
          · cases hk
          · rename_i hn
            rw [if_neg hn]
            exact evalOps_mono h hk
      | false =>
        simp only [Bool.false_eq_true, if_false] at hk ⊢
        exact evalOps_mono h hk

theorem iter_le {F F' : Env → AHeap → Rn} (h : ∀ e H r, F e H = some r → F' e H = some r) : ∀ {n : Nat} {e : Env} {H : AHeap} {r}, iter F n e H = some r → iter F' n e H = some r
  | 0, _, _, _, hk => by simp [iter] at hk
  | n + 1, e, H, r, hk => by
    simp only [iter] at hk ⊢
    cases hF : F e H with
    | none => rw [hF] at hk; cases hk
    | some x =>
      rw [hF] at hk
      rw [h _ _ _ hF]
      obtain ⟨x, e', H'⟩ := x
      cases x with
      | normal => exact iter_le h hk
      | exit id => exact hk
      | ret => exact hk

theorem evalCode_mono {C C' : Calling} (h : CLe C C') {f : FuncId} : ∀ {c : Code} {e : Env} {H : AHeap} {r}, evalCode P K C D f c e H = some r → evalCode P K C' D f c e H = some r
  | .skip, _, _, _, hk => hk
  | .region id ops draw, e, H, r, hk => by
    simp only [evalCode, Option.map_eq_some_iff] at hk ⊢
    obtain ⟨x, hx, rfl⟩ := hk
    exact ⟨x, evalOps_mono h hx, rfl⟩
  | .seq a b, e, H, r, hk => by
    simp only [evalCode, Option.bind_eq_some_iff] at hk ⊢
    obtain ⟨x, hx, hk⟩ := hk
    refine ⟨x, evalCode_mono h hx, ?_⟩
    obtain ⟨x, e', H'⟩ := x
    cases x with
    | normal => exact evalCode_mono h hk
    | exit id => exact hk
    | ret => exact hk
  | .cond c a b, e, H, r, hk => by
    simp only [evalCode] at hk ⊢
    split at hk
    · split at hk
      · rename_i ht; simp only [ht, if_true]; exact evalCode_mono h hk
      · rename_i ht; rw [if_neg ht]; exact evalCode_mono h hk
    · cases hk
  | .block id b, e, H, r, hk => by
    simp only [evalCode, Option.map_eq_some_iff] at hk ⊢
    obtain ⟨x, hx, rfl⟩ := hk
    exact ⟨x, evalCode_mono h hx, rfl⟩
  | .loop b, e, H, r, hk => by
    simp only [evalCode] at hk ⊢
    obtain ⟨n, hn⟩ := loopLim_iff.1 hk
    exact loopLim_iff.2 ⟨n, iter_le (fun _ _ _ hh => evalCode_mono h hh) hn⟩
  | .exit id, _, _, _, hk => hk
  | .ret, _, _, _, hk => hk
  | .scope _, _, _, _, hk => by simp [evalCode] at hk
  | .label _, _, _, _, hk => by simp [evalCode] at hk
  | .goto _, _, _, _, hk => by simp [evalCode] at hk
  | .refuse _, _, _, _, hk => by simp [evalCode] at hk
  | .rangeFunc .., _, _, _, hk => by simp [evalCode] at hk

theorem evalFn_mono {C C' : Calling} (h : CLe C C') : CLe (evalFn P K D C) (evalFn P K D C') := by
  intro f as H r hk
  simp only [evalFn, Option.bind_eq_some_iff] at hk ⊢
  obtain ⟨fn, hf, c, hc, hk⟩ := hk
  refine ⟨fn, hf, c, hc, ?_⟩
  split at hk
  · rename_i hl
    rw [if_pos hl]
    simp only [Option.bind_eq_some_iff] at hk ⊢
    obtain ⟨x, hx, hk⟩ := hk
    exact ⟨x, evalCode_mono h hx, hk⟩
  · cases hk

theorem run_mono : ∀ {n m : Nat}, n ≤ m → CLe (run P K D n) (run P K D m)
  | 0, _, _ => fun _ _ _ _ h => by simp [run] at h
  | n + 1, 0, h => by omega
  | n + 1, m + 1, h => evalFn_mono (run_mono (by omega))

theorem runs_iff {f : FuncId} {as : List AV} {H : AHeap} {r} : runs P K D f as H = some r ↔ ∃ n, run P K D n f as H = some r := by
  unfold runs
  split
  · rename_i h
    have hc := Classical.choose_spec h
    constructor
    · intro k; exact ⟨_, k⟩
    · rintro ⟨n, hn⟩
      cases hx : run P K D (Classical.choose h) f as H with
      | none => exact absurd hx hc
      | some s =>
        have h1 := run_mono (P := P) (K := K) (D := D) (Nat.le_max_left (Classical.choose h) n) _ _ _ _ hx
        have h2 := run_mono (P := P) (K := K) (D := D) (Nat.le_max_right (Classical.choose h) n) _ _ _ _ hn
        rw [h1] at h2
        exact h2
  · rename_i h
    simp only [reduceCtorEq, false_iff]
    rintro ⟨n, hn⟩
    exact h ⟨n, by simp [hn]⟩

theorem run_le_runs (n : Nat) : CLe (run P K D n) (runs P K D) := fun _ _ _ _ h => runs_iff.2 ⟨n, h⟩

/-- What is told with all calls is told with some number of rounds. -/
theorem evalOps_cont {q : Nat → Bool} {ops : Array Oper} : ∀ {l : List Oper} {k : Nat} {e : Env} {H : AHeap} {r}, evalOps P K (runs P K D) q ops k l e H = some r → ∃ n, evalOps P K (run P K D n) q ops k l e H = some r
  | [], _, _, _, _, hk => ⟨0, hk⟩
  | o :: l, k, e, H, r, hk => by
    simp only [evalOps] at hk
    cases hw : wants e ops o with
    | none => rw [hw] at hk; cases hk
    | some w =>
      rw [hw] at hk
      simp only [Option.bind_some] at hk
      cases w with
      | true =>
        simp only [if_true] at hk
        cases ho : evalOp P K (runs P K D) o.op e H with
        | none => rw [ho] at hk; cases hk
        | some x =>
          rw [ho] at hk
          simp only [Option.bind_some] at hk
          have h1 : ∃ n, evalOp P K (run P K D n) o.op e H = some x := by
            unfold evalOp at ho ⊢
            split at ho
            · exact ⟨0, ho⟩
            · exact runs_iff.1 ho
          obtain ⟨n, hn⟩ := h1
          split at hk
          · cases hk
          · rename_i hq
            obtain ⟨m, hm⟩ := evalOps_cont hk
            refine ⟨max n m, ?_⟩
            simp only [evalOps, hw, Option.bind_some, if_true]
            rw [evalOp_mono (run_mono (Nat.le_max_left n m)) hn]
            simp only [Option.bind_some]
            rw [if_neg hq]
            exact evalOps_mono (run_mono (Nat.le_max_right n m)) hm
      | false =>
        simp only [Bool.false_eq_true, if_false] at hk
        obtain ⟨m, hm⟩ := evalOps_cont hk
        exact ⟨m, by simp only [evalOps, hw, Option.bind_some, Bool.false_eq_true, if_false]; exact hm⟩

theorem iter_cont {F : Env → AHeap → Rn} {G : Nat → Env → AHeap → Rn} (hm : ∀ n m, n ≤ m → ∀ e H r, G n e H = some r → G m e H = some r) (h : ∀ e H r, F e H = some r → ∃ n, G n e H = some r) :
    ∀ {i : Nat} {e : Env} {H : AHeap} {r}, iter F i e H = some r → ∃ n, iter (G n) i e H = some r
  | 0, _, _, _, hk => by simp [iter] at hk
  | i + 1, e, H, r, hk => by
    simp only [iter] at hk
    cases hF : F e H with
    | none => rw [hF] at hk; cases hk
    | some x =>
      rw [hF] at hk
      obtain ⟨n, hn⟩ := h _ _ _ hF
      obtain ⟨x, e', H'⟩ := x
      cases x with
      | normal =>
        obtain ⟨m, hmm⟩ := iter_cont hm h hk
        refine ⟨max n m, ?_⟩
        simp only [iter, hm _ _ (Nat.le_max_left n m) _ _ _ hn]
        exact iter_le (fun e H r hh => hm _ _ (Nat.le_max_right n m) e H r hh) hmm
      | exit id => exact ⟨n, by simp only [iter, hn]; exact hk⟩
      | ret => exact ⟨n, by simp only [iter, hn]; exact hk⟩

theorem evalCode_cont {f : FuncId} : ∀ {c : Code} {e : Env} {H : AHeap} {r}, evalCode P K (runs P K D) D f c e H = some r → ∃ n, evalCode P K (run P K D n) D f c e H = some r
  | .skip, _, _, _, hk => ⟨0, hk⟩
  | .region id ops draw, e, H, r, hk => by
    simp only [evalCode, Option.map_eq_some_iff] at hk ⊢
    obtain ⟨x, hx, rfl⟩ := hk
    obtain ⟨n, hn⟩ := evalOps_cont hx
    exact ⟨n, x, hn, rfl⟩
  | .seq a b, e, H, r, hk => by
    simp only [evalCode, Option.bind_eq_some_iff] at hk ⊢
    obtain ⟨x, hx, hk⟩ := hk
    obtain ⟨n, hn⟩ := evalCode_cont hx
    obtain ⟨x, e', H'⟩ := x
    cases x with
    | normal =>
      obtain ⟨m, hm⟩ := evalCode_cont hk
      exact ⟨max n m, _, evalCode_mono (run_mono (Nat.le_max_left n m)) hn, evalCode_mono (run_mono (Nat.le_max_right n m)) hm⟩
    | exit id => exact ⟨n, _, hn, hk⟩
    | ret => exact ⟨n, _, hn, hk⟩
  | .cond c a b, e, H, r, hk => by
    simp only [evalCode] at hk ⊢
    split at hk
    · split at hk
      · rename_i h1; simp only [h1, if_true]; exact evalCode_cont hk
      · rename_i h1; simp only [if_neg h1]; exact evalCode_cont hk
    · cases hk
  | .block id b, e, H, r, hk => by
    simp only [evalCode, Option.map_eq_some_iff] at hk ⊢
    obtain ⟨x, hx, rfl⟩ := hk
    obtain ⟨n, hn⟩ := evalCode_cont hx
    exact ⟨n, x, hn, rfl⟩
  | .loop b, e, H, r, hk => by
    simp only [evalCode] at hk ⊢
    obtain ⟨i, hi⟩ := loopLim_iff.1 hk
    obtain ⟨n, hn⟩ := iter_cont (G := fun n => evalCode P K (run P K D n) D f b) (fun n m h e H r hh => evalCode_mono (run_mono h) hh) (fun e H r hh => evalCode_cont hh) hi
    exact ⟨n, loopLim_iff.2 ⟨i, hn⟩⟩
  | .exit id, _, _, _, hk => ⟨0, hk⟩
  | .ret, _, _, _, hk => ⟨0, hk⟩
  | .scope _, _, _, _, hk => by simp [evalCode] at hk
  | .label _, _, _, _, hk => by simp [evalCode] at hk
  | .goto _, _, _, _, hk => by simp [evalCode] at hk
  | .refuse _, _, _, _, hk => by simp [evalCode] at hk
  | .rangeFunc .., _, _, _, hk => by simp [evalCode] at hk

/-- A call is its body, its calls being calls. -/
theorem runs_eq (f : FuncId) (as : List AV) (H : AHeap) : runs P K D f as H = evalFn P K D (runs P K D) f as H := by
  apply Option.ext
  intro r
  constructor
  · intro h
    obtain ⟨n, hn⟩ := runs_iff.1 h
    cases n with
    | zero => simp [run] at hn
    | succ n => exact evalFn_mono (run_le_runs n) _ _ _ _ hn
  · intro h
    simp only [evalFn, Option.bind_eq_some_iff] at h
    obtain ⟨fn, hf, c, hc, h⟩ := h
    split at h
    · rename_i hl
      simp only [Option.bind_eq_some_iff] at h
      obtain ⟨x, hx, h⟩ := h
      obtain ⟨n, hn⟩ := evalCode_cont hx
      refine runs_iff.2 ⟨n + 1, ?_⟩
      simp only [run, evalFn, Option.bind_eq_some_iff]
      exact ⟨fn, hf, c, hc, by rw [if_pos hl]; simp only [Option.bind_eq_some_iff]; exact ⟨x, hn, h⟩⟩
    · cases h
end
end Go.Proofs.Ytphkkcocimmmfaa
