/- Rules for stepping: a body in a short form, and what each step of it gives. -/
import Derived.Test.YtphkkcocimmmfaaAL17
namespace Go.Proofs.Ytphkkcocimmmfaa

/-- An equality, not told to be one by computation (a rule that is one by computation alone can't serve as a side condition's proof). -/
theorem nr {α : Sort _} {a b : α} (h : a = b) : a = b := h

/-- An operation in short: 'op = none' is one that was passed over. -/
structure LOp where
  dst : Option Nat
  op : Option Op
  g : Option (Option Nat × Bool)

inductive LCode where
  | skip
  | reg (q : List Nat) (l : List LOp)
  | seq (a b : LCode)
  | cond (c : Operand) (a b : LCode)
  | block (id : Nat) (b : LCode)
  | loop (b : LCode)
  | exit (id : Nat)
  | ret
  | bad

def Oper.short (ops : Array Oper) (o : Oper) : LOp := ⟨o.dst, some o.op, o.guard.map fun (j, want) => ((ops[j]?).bind (·.dst), want)⟩

def toL (D : Nat → List Nat) : Code → LCode
  | .skip => .skip
  | .region id ops draw => .reg (if draw = true then D id else []) (ops.toList.map (Oper.short ops))
  | .seq a b => .seq (toL D a) (toL D b)
  | .cond c a b => .cond c (toL D a) (toL D b)
  | .block id b => .block id (toL D b)
  | .loop b => .loop (toL D b)
  | .exit id => .exit id
  | .ret => .ret
  | _ => .bad

/-- What a later heap keeps of an elder one. -/
structure Keeps (H H' : AHeap) : Prop where
  size : H.size ≤ H'.size
  obj : ∀ o, o < H.size → H'.obj o = H.obj o
  wr : ∀ o, o < H.size → H'.wr o = H.wr o

theorem Keeps.refl (H : AHeap) : Keeps H H := ⟨Nat.le_refl _, fun _ _ => rfl, fun _ _ => rfl⟩
theorem Keeps.trans {A B E : AHeap} (h : Keeps A B) (k : Keeps B E) : Keeps A E :=
  ⟨Nat.le_trans h.size k.size, fun o ho => (k.obj o (Nat.lt_of_lt_of_le ho h.size)).trans (h.obj o ho), fun o ho => (k.wr o (Nat.lt_of_lt_of_le ho h.size)).trans (h.wr o ho)⟩
theorem Keeps.new (H : AHeap) (x : AObj) : Keeps H (H.new x) := ⟨Nat.le_succ _, fun o ho => by simp only [AHeap.new]; rw [if_neg (Nat.ne_of_lt ho)], fun _ _ => rfl⟩
theorem Keeps.quiet {H H' : AHeap} (h : Keeps H H') : H.Quiet H' := h.wr
theorem Keeps.lt {H H' : AHeap} (h : Keeps H H') {o : Nat} (ho : o < H.size) : o < H'.size := Nat.lt_of_lt_of_le ho h.size
/-- A write into what is new is none to what is old. -/
theorem Keeps.set {H H' : AHeap} (h : Keeps H H') {o : Nat} (ho : H.size ≤ o) (x : AObj) : Keeps H (H'.set o x) :=
  ⟨h.size, fun k hk => by simp only [AHeap.set]; rw [if_neg (by omega)]; exact h.obj k hk, fun k hk => by simp only [AHeap.set]; rw [if_neg (by omega)]; exact h.wr k hk⟩
theorem Keeps.new' {H H' : AHeap} (h : Keeps H H') (x : AObj) : Keeps H (H'.new x) := h.trans (Keeps.new _ _)

@[simp] theorem new_size (H : AHeap) (x : AObj) : (H.new x).size = H.size + 1 := nr rfl
@[simp] theorem set_size (H : AHeap) (o : Nat) (x : AObj) : (H.set o x).size = H.size := nr rfl
@[simp] theorem new_self (H : AHeap) (x : AObj) : (H.new x).obj H.size = x := by simp [AHeap.new]
@[simp] theorem set_self (H : AHeap) (o : Nat) (x : AObj) : (H.set o x).obj o = x := by simp [AHeap.set]
theorem new_lt {H : AHeap} {o : Nat} (h : o < H.size) (x : AObj) : (H.new x).obj o = H.obj o := by simp only [AHeap.new]; rw [if_neg (by omega)]
theorem new_old {H : AHeap} {o : Nat} (h : o ≠ H.size) (x : AObj) : (H.new x).obj o = H.obj o := by simp only [AHeap.new]; rw [if_neg h]
theorem set_old {H : AHeap} {o o' : Nat} (h : o' ≠ o) (x : AObj) : (H.set o x).obj o' = H.obj o' := by simp only [AHeap.set]; rw [if_neg h]
theorem set_lt {H : AHeap} {o o' : Nat} (h : o' < o) (x : AObj) : (H.set o x).obj o' = H.obj o' := set_old (by omega) x
theorem set_gt {H : AHeap} {o o' : Nat} (h : o < o') (x : AObj) : (H.set o x).obj o' = H.obj o' := set_old (by omega) x

section
variable {P : Program} {K : TypeId → Option (List Sc)} {C : Calling}

/-- The heap behind a call. -/
def aft (C : Calling) (f : FuncId) (as : List AV) (H : AHeap) : AHeap := ((C f as H).map (·.2)).getD H

theorem aft_of {f : FuncId} {as : List AV} {H : AHeap} {v : AV} {H' : AHeap} (h : C f as H = some (v, H')) : C f as H = some (v, aft C f as H) ∧ aft C f as H = H' := by simp [aft, h]

def wantsL (e : Env) : Option (Option Nat × Bool) → Option Bool
  | none => some true
  | some (t, want) => match t.bind e with
    | some (.bool b) => some (b == want)
    | some (.tup []) => some false
    | _ => none

variable (P K C) in
def evL (q : List Nat) : Nat → List LOp → Env → AHeap → Option (Env × AHeap)
  | _, [], e, H => some (e, H)
  | k, ⟨d, none, _⟩ :: r, e, H => evL q (k + 1) r (e.putO d (some (.tup []))) H
  | k, ⟨d, some op, g⟩ :: r, e, H => (wantsL e g).bind fun w =>
    if w = true then (evalOp P K C op e H).bind fun (v, H') => if q.contains k = true ∧ markOK op e H v H' = false then none else evL q (k + 1) r (e.putO d (some v)) H'
    else evL q (k + 1) r (e.putO d (some (.tup []))) H

variable (P K C) in
noncomputable def evalL : LCode → Env → AHeap → Rn
  | .skip, e, H => some (.normal, e, H)
  | .reg q l, e, H => (evL P K C q 0 l e H).map fun (e', H') => (.normal, e', H')
  | .seq a b, e, H => (evalL a e H).bind fun
    | (.normal, e', H') => evalL b e' H'
    | (.exit id, e', H') => some (.exit id, e', H')
    | (.ret, e', H') => some (.ret, e', H')
  | .cond c a b, e, H => match evalOpd e c with
    | some (.bool t) => if t = true then evalL a e H else evalL b e H
    | _ => none
  | .block id b, e, H => (evalL b e H).map fun
    | (.exit id', e', H') => (if id' = id then .normal else .exit id', e', H')
    | (.normal, e', H') => (.normal, e', H')
    | (.ret, e', H') => (.ret, e', H')
  | .loop b, e, H => loopLim (evalL b) e H
  | .exit id, e, H => some (.exit id, e, H)
  | .ret, e, H => some (.ret, e, H)
  | .bad, _, _ => none

theorem evL_short {q : List Nat} {ops : Array Oper} : ∀ {l : List Oper} {k : Nat} {e : Env} {H : AHeap}, evL P K C q k (l.map (Oper.short ops)) e H = evalOps P K C (fun k => q.contains k) ops k l e H
  | [], _, _, _ => rfl
  | o :: l, k, e, H => by
    have hw : wantsL e (o.guard.map fun (j, want) => ((ops[j]?).bind (·.dst), want)) = wants e ops o := by
      unfold wants wantsL
      cases o.guard with
      | none => rfl
      | some x => obtain ⟨j, want⟩ := x; rfl
    simp only [List.map_cons, Oper.short, evL, evalOps, hw]
    congr 1
    funext w
    split
    · congr 1
      funext x
      obtain ⟨v, H'⟩ := x
      simp only
      rw [← evL_short]
    · exact evL_short

theorem evalL_toL {D : Quiets} {f : FuncId} : ∀ {c : Code} {e : Env} {H : AHeap}, evalL P K C (toL (D f) c) e H = evalCode P K C D f c e H
  | .skip, _, _ => rfl
  | .region id ops draw, e, H => by
    simp only [toL, evalL, evalCode]
    rw [evL_short]
    congr 2
    funext k
    cases draw <;> simp
  | .seq a b, e, H => by
    simp only [toL, evalL, evalCode, evalL_toL (c := a)]
    congr 1
    funext x
    obtain ⟨x, e', H'⟩ := x
    cases x <;> simp only [evalL_toL (c := b)]
  | .cond c a b, e, H => by simp only [toL, evalL, evalCode, evalL_toL (c := a), evalL_toL (c := b)]; rfl
  | .block id b, e, H => by simp only [toL, evalL, evalCode, evalL_toL (c := b)]; rfl
  | .loop b, e, H => by
    simp only [toL, evalL, evalCode]
    congr 1
    funext e H
    exact evalL_toL (c := b)
  | .exit _, _, _ => rfl
  | .ret, _, _ => rfl
  | .scope _, _, _ => rfl
  | .label _, _, _ => rfl
  | .goto _, _, _ => rfl
  | .refuse _, _, _ => rfl
  | .rangeFunc .., _, _ => rfl

/-! Continuations: what is done with a step's word. -/
variable (P K C) in
def stepK (q : List Nat) (k : Nat) (r : List LOp) (d : Option Nat) (op : Op) (e : Env) (H : AHeap) : Option (AV × AHeap) → Option (Env × AHeap)
  | none => none
  | some (v, H') => if q.contains k = true ∧ markOK op e H v H' = false then none else evL P K C q (k + 1) r (e.putO d (some v)) H'
variable (P K C) in
def guardK (q : List Nat) (k : Nat) (r : List LOp) (d : Option Nat) (op : Op) (e : Env) (H : AHeap) (want : Bool) : Option AV → Option (Env × AHeap)
  | some (.bool b) => evL P K C q k ((if b = want then ⟨d, some op, none⟩ else ⟨d, none, none⟩) :: r) e H
  | some (.tup []) => evL P K C q k (⟨d, none, none⟩ :: r) e H
  | _ => none
def regK : Option (Env × AHeap) → Rn
  | some (e, H) => some (.normal, e, H)
  | none => none
variable (P K C) in
noncomputable def seqK (b : LCode) : Rn → Rn
  | some (.normal, e, H) => evalL P K C b e H
  | r => r
variable (P K C) in
noncomputable def condK (a b : LCode) (e : Env) (H : AHeap) : Option AV → Rn
  | some (.bool t) => evalL P K C (if t = true then a else b) e H
  | _ => none
def blockK (id : Nat) : Rn → Rn
  | some (.exit id', e, H) => some (if id' = id then .normal else .exit id', e, H)
  | r => r
variable (P K C) in
noncomputable def loopL (b : LCode) (e : Env) (H : AHeap) : Rn := loopLim (evalL P K C b) e H
variable (P K C) in
noncomputable def loopK (b : LCode) : Rn → Rn
  | some (.normal, e, H) => loopL P K C b e H
  | r => r
variable (P) in
def fnK (rs : List ResultVar) : Rn → Option (AV × AHeap)
  | some (.exit _, _, _) => none
  | some (_, e, H) => (evalResults P e H rs).map fun vs => (tupled vs, H)
  | none => none

@[simp] theorem evL_nil {q : List Nat} {k : Nat} {e : Env} {H : AHeap} : evL P K C q k [] e H = some (e, H) := nr rfl
@[simp] theorem evL_do {q : List Nat} {k : Nat} {d : Option Nat} {op : Op} {r : List LOp} {e : Env} {H : AHeap} : evL P K C q k (⟨d, some op, none⟩ :: r) e H = stepK P K C q k r d op e H (evalOp P K C op e H) := by
  simp only [evL, wantsL, Option.bind_some, if_true]
  cases evalOp P K C op e H <;> rfl
@[simp] theorem evL_pass {q : List Nat} {k : Nat} {d : Option Nat} {r : List LOp} {e : Env} {H : AHeap} : evL P K C q k (⟨d, none, none⟩ :: r) e H = evL P K C q (k + 1) r (e.putO d (some (.tup []))) H := nr rfl
@[simp] theorem evL_guard {q : List Nat} {k : Nat} {d : Option Nat} {op : Op} {t : Nat} {want : Bool} {r : List LOp} {e : Env} {H : AHeap} : evL P K C q k (⟨d, some op, some (some t, want)⟩ :: r) e H = guardK P K C q k r d op e H want (e t) := by
  rw [evL]
  simp only [wantsL, Option.bind_some]
  unfold guardK
  split
  · rename_i b h
    simp only [h, Option.bind_some, beq_iff_eq]
    by_cases hb : b = want
    · rw [if_pos hb, if_pos hb, evL_do]
      cases evalOp P K C op e H <;> rfl
    · rw [if_neg hb, if_neg hb]; rfl
  · rename_i h
    simp only [h, Option.bind_some, Bool.false_eq_true, if_false]
    rfl
  · simp
@[simp] theorem guardK_bool {q : List Nat} {k : Nat} {d : Option Nat} {op : Op} {want b : Bool} {r : List LOp} {e : Env} {H : AHeap} : guardK P K C q k r d op e H want (some (.bool b)) = evL P K C q k ((if b = want then ⟨d, some op, none⟩ else ⟨d, none, none⟩) :: r) e H := nr rfl
@[simp] theorem guardK_tup {q : List Nat} {k : Nat} {d : Option Nat} {op : Op} {want : Bool} {r : List LOp} {e : Env} {H : AHeap} : guardK P K C q k r d op e H want (some (.tup [])) = evL P K C q k (⟨d, none, none⟩ :: r) e H := nr rfl
@[simp] theorem stepK_some {k : Nat} {d : Nat} {op : Op} {r : List LOp} {e : Env} {H H' : AHeap} {v : AV} : stepK P K C [] k r (some d) op e H (some (v, H')) = evL P K C [] (k + 1) r (e.put d v) H' := by
  simp only [stepK, List.contains_nil, Bool.false_eq_true, false_and, if_false]
  congr 1
  funext s; simp [Env.putO, Env.put, eq_comm]
@[simp] theorem stepK_none {k : Nat} {op : Op} {r : List LOp} {e : Env} {H H' : AHeap} {v : AV} : stepK P K C [] k r none op e H (some (v, H')) = evL P K C [] (k + 1) r e H' := by
  simp only [stepK, List.contains_nil, Bool.false_eq_true, false_and, if_false]
  congr 1
@[simp] theorem stepK_qsome {a : Nat} {q : List Nat} {k : Nat} {d : Nat} {op : Op} {r : List LOp} {e : Env} {H H' : AHeap} {v : AV} (h : (a :: q).contains k = false ∨ markOK op e H v H' = true) : stepK P K C (a :: q) k r (some d) op e H (some (v, H')) = evL P K C (a :: q) (k + 1) r (e.put d v) H' := by
  have hn : ¬ ((a :: q).contains k = true ∧ markOK op e H v H' = false) := by
    rintro ⟨h1, h2⟩
    rcases h with h | h
    · rw [h] at h1; cases h1
    · rw [h] at h2; cases h2
  simp only [stepK, if_neg hn]
  congr 1
  funext s; simp [Env.putO, Env.put, eq_comm]
@[simp] theorem stepK_qnone {a : Nat} {q : List Nat} {k : Nat} {op : Op} {r : List LOp} {e : Env} {H H' : AHeap} {v : AV} (h : (a :: q).contains k = false ∨ markOK op e H v H' = true) : stepK P K C (a :: q) k r none op e H (some (v, H')) = evL P K C (a :: q) (k + 1) r e H' := by
  have hn : ¬ ((a :: q).contains k = true ∧ markOK op e H v H' = false) := by
    rintro ⟨h1, h2⟩
    rcases h with h | h
    · rw [h] at h1; cases h1
    · rw [h] at h2; cases h2
  simp only [stepK, if_neg hn]
  congr 1
/-- What lies under a mark. -/
@[simp] theorem mark_load {t : TypeId} {a : Operand} {e : Env} {H H' : AHeap} {k : IntKind} {n : Int} : markOK (.load t a) e H (.int k n) H' = true := nr rfl
@[simp] theorem mark_store {t : TypeId} {a x : Operand} {e : Env} {H H' : AHeap} {v : AV} : markOK (.store t a x) e H v H' = (match evalOpd e a, evalOpd e x with
    | some (.ptr o off), some (.bool _) => match H.obj o with
      | .cells cs => match cs[off]? with
        | some (.bool _) => true
        | _ => false
      | _ => false
    | _, _ => false) := nr rfl
@[simp] theorem mark_call {c : Call} {e : Env} {H H' : AHeap} {v : AV} : markOK (.call c) e H v H' = decide (H.Quiet H') := nr rfl
@[simp] theorem mark_alloc {t : TypeId} {e : Env} {H H' : AHeap} {v : AV} : markOK (.alloc t) e H v H' = decide (H.Quiet H') := nr rfl
@[simp] theorem putO_some {e : Env} {d : Nat} {v : AV} : e.putO (some d) (some v) = e.put d v := by
  funext s; simp [Env.putO, Env.put, eq_comm]
@[simp] theorem putO_none {e : Env} {v : AV} : e.putO none (some v) = e := by
  funext s; simp [Env.putO]
@[simp] theorem put_at {e : Env} {d s : Nat} {v : AV} : (e.put d v) s = if s = d then some v else e s := nr rfl
@[simp] theorem args_at {v : AV} {vs : List AV} {k s : Nat} : Env.args (v :: vs) k s = if s = k then some v else Env.args vs (k + 1) s := nr rfl

@[simp] theorem evalL_skip {e : Env} {H : AHeap} : evalL P K C .skip e H = some (.normal, e, H) := nr rfl
@[simp] theorem evalL_reg {q : List Nat} {l : List LOp} {e : Env} {H : AHeap} : evalL P K C (.reg q l) e H = regK (evL P K C q 0 l e H) := by
  simp only [evalL]; cases evL P K C q 0 l e H <;> rfl
@[simp] theorem regK_some {e : Env} {H : AHeap} : regK (some (e, H)) = some (.normal, e, H) := nr rfl
@[simp] theorem evalL_seq {a b : LCode} {e : Env} {H : AHeap} : evalL P K C (.seq a b) e H = seqK P K C b (evalL P K C a e H) := by
  simp only [evalL]
  cases evalL P K C a e H with
  | none => rfl
  | some x => obtain ⟨x, e', H'⟩ := x; cases x <;> rfl
@[simp] theorem seqK_normal {b : LCode} {e : Env} {H : AHeap} : seqK P K C b (some (.normal, e, H)) = evalL P K C b e H := nr rfl
@[simp] theorem seqK_exit {b : LCode} {i : Nat} {e : Env} {H : AHeap} : seqK P K C b (some (.exit i, e, H)) = some (.exit i, e, H) := nr rfl
@[simp] theorem seqK_ret {b : LCode} {e : Env} {H : AHeap} : seqK P K C b (some (.ret, e, H)) = some (.ret, e, H) := nr rfl
@[simp] theorem evalL_cond {c : Operand} {a b : LCode} {e : Env} {H : AHeap} : evalL P K C (.cond c a b) e H = condK P K C a b e H (evalOpd e c) := by
  simp only [evalL]
  unfold condK
  cases evalOpd e c with
  | none => rfl
  | some v => cases v <;> first | rfl | (rename_i t; cases t <;> rfl)
@[simp] theorem condK_bool {a b : LCode} {t : Bool} {e : Env} {H : AHeap} : condK P K C a b e H (some (.bool t)) = evalL P K C (if t = true then a else b) e H := nr rfl
@[simp] theorem evalL_block {id : Nat} {b : LCode} {e : Env} {H : AHeap} : evalL P K C (.block id b) e H = blockK id (evalL P K C b e H) := by
  simp only [evalL]
  cases evalL P K C b e H with
  | none => rfl
  | some x => obtain ⟨x, e', H'⟩ := x; cases x <;> rfl
@[simp] theorem blockK_exit {id i : Nat} {e : Env} {H : AHeap} : blockK id (some (.exit i, e, H)) = some (if i = id then .normal else .exit i, e, H) := nr rfl
@[simp] theorem blockK_normal {id : Nat} {e : Env} {H : AHeap} : blockK id (some (.normal, e, H)) = some (.normal, e, H) := nr rfl
@[simp] theorem blockK_ret {id : Nat} {e : Env} {H : AHeap} : blockK id (some (.ret, e, H)) = some (.ret, e, H) := nr rfl
@[simp] theorem evalL_loop {b : LCode} {e : Env} {H : AHeap} : evalL P K C (.loop b) e H = loopL P K C b e H := nr rfl
theorem loopL_eq {b : LCode} {e : Env} {H : AHeap} : loopL P K C b e H = loopK P K C b (evalL P K C b e H) := by
  unfold loopL
  rw [loopLim_eq]
  cases evalL P K C b e H with
  | none => rfl
  | some x => obtain ⟨x, e', H'⟩ := x; cases x <;> rfl
theorem loopL_un {b b' : LCode} (hb : b = b') {e : Env} {H : AHeap} : loopL P K C b e H = loopK P K C b (evalL P K C b' e H) := by rw [loopL_eq, hb]
@[simp] theorem loopK_normal {b : LCode} {e : Env} {H : AHeap} : loopK P K C b (some (.normal, e, H)) = loopL P K C b e H := nr rfl
@[simp] theorem loopK_exit {b : LCode} {i : Nat} {e : Env} {H : AHeap} : loopK P K C b (some (.exit i, e, H)) = some (.exit i, e, H) := nr rfl
@[simp] theorem loopK_ret {b : LCode} {e : Env} {H : AHeap} : loopK P K C b (some (.ret, e, H)) = some (.ret, e, H) := nr rfl
@[simp] theorem evalL_exit {i : Nat} {e : Env} {H : AHeap} : evalL P K C (.exit i) e H = some (.exit i, e, H) := nr rfl
@[simp] theorem evalL_ret {e : Env} {H : AHeap} : evalL P K C .ret e H = some (.ret, e, H) := nr rfl
@[simp] theorem fnK_ret {rs : List ResultVar} {e : Env} {H : AHeap} : fnK P rs (some (.ret, e, H)) = (evalResults P e H rs).map fun vs => (tupled vs, H) := nr rfl
@[simp] theorem fnK_normal {rs : List ResultVar} {e : Env} {H : AHeap} : fnK P rs (some (.normal, e, H)) = (evalResults P e H rs).map fun vs => (tupled vs, H) := nr rfl

/-- A call, by its body in the short form. -/
theorem runs_body {D : Quiets} {f : FuncId} {fn : Func} {c : LCode} {rs : List ResultVar} (hf : P.funcs[f]? = some fn) (hc : fn.body.map (toL (D f)) = some c) (hok : fn.body.map (codeOK fn.ntmps (D f)) = some true) (hn : (fn.name == "runtime.NumGoroutine") = false) (hr : fn.results.toList = rs)
    {as : List AV} (hl : as.length ≤ fn.ntmps) {H : AHeap} : runs P K D f as H = fnK P rs (evalL P K (runs P K D) c (Env.args as 0) H) := by
  rw [runs_eq]
  unfold evalFn
  rw [hf]
  simp only [Option.bind_some]
  cases hb : fn.body with
  | none => rw [hb] at hc; cases hc
  | some b =>
    rw [hb] at hc hok
    simp only [Option.map_some, Option.some.injEq] at hc hok
    simp only [Option.bind_some]
    rw [if_pos ⟨hl, hok, hn⟩, ← hc, evalL_toL, hr]
    cases evalCode P K (runs P K D) D f b (Env.args as 0) H with
    | none => rfl
    | some x => obtain ⟨x, e', H'⟩ := x; cases x <;> rfl

end
end Go.Proofs.Ytphkkcocimmmfaa
