/- The interpreter is right: regions. -/
import Derived.Test.YtphkkcocimmmfaaAL12
namespace Go.Proofs.Ytphkkcocimmmfaa
open Go.RowKit

section
variable {P : Program} {K : TypeId → Option (List Sc)}

def CallPost (S : St) (v : AV) (H' : AHeap) (e : Ending) (w' : World) : Prop := ∃ (T : St) (x : Value), e = .returned x ∧ T.w = w' ∧ T.H = H' ∧ Sim T ∧ Ext S T ∧ VR T v x

/-- Every call that is told is a call of the machine's. -/
def CallOK (P : Program) (C : Calling) : Prop := ∀ f as H v H', C f as H = some (v, H') → Enterable P f ∧ ∀ (S : St) (vs : List Value), Sim S → S.H = H → VRs S as vs → Calls P f vs.toArray S.w (CallPost S v H')

theorem Calls.some {f : FuncId} {args : Array Value} {w : World} {R : Ending → World → Prop} (h : Calls P f args w R) : ∃ e w', R e w' := by
  obtain ⟨e, w', _, hR, _⟩ := h []
  exact ⟨e, w', hR⟩

theorem op_exists (hK : KeysOK P K) {C : Calling} (hC : CallOK P C) {S : St} (hS : Sim S) {o : Oper} {e : Env} {a : Act} (hE : EnvR S e a.tmps) {v : AV} {H' : AHeap} (h : evalOp P K C o.op e S.H = some (v, H')) :
    ∃ (T : St) (x : Value), T.H = H' ∧ Sim T ∧ Ext S T ∧ VR T v x := by
  unfold evalOp at h
  split at h
  · rename_i r hr
    subst h
    obtain ⟨T, x, _, h1, h2, h3, h4⟩ := prim_sound hK hS hE hr
    exact ⟨T, x, h1, h2, h3, h4⟩
  · rename_i f as hr
    obtain ⟨hf, hcall⟩ := hC f as S.H v H' h
    obtain ⟨vs, _, hvs⟩ := call_sound hE hr hf
    obtain ⟨en, w', T, x, _, _, h1, h2, h3, h4⟩ := Calls.some (hcall S vs.toList hS rfl hvs)
    exact ⟨T, x, h1, h2, h3, h4⟩

theorem op_wp (hK : KeysOK P K) {C : Calling} (hC : CallOK P C) {S : St} (hS : Sim S) {o : Oper} {e : Env} {a : Act} (hE : EnvR S e a.tmps) {v : AV} {H' : AHeap} (h : evalOp P K C o.op e S.H = some (v, H')) {next : Act → World → Prop} {Q : Exit → Act → World → Prop}
    (hn : ∀ (T : St) (x : Value), T.H = H' → Sim T → Ext S T → VR T v x → next (a.put o.dst x) T.w) : o.wp P a S.w next Q := by
  unfold evalOp at h
  split at h
  · rename_i r hr
    subst h
    obtain ⟨T, x, hg, h1, h2, h3, h4⟩ := prim_sound hK hS hE hr
    unfold Oper.wp
    rcases hg with hg | ⟨hg, rfl⟩
    · rw [hg]; exact hn T x h1 h2 h3 h4
    · rw [hg]; exact hn T _ h1 h2 h3 h4
  · rename_i f as hr
    obtain ⟨hf, hcall⟩ := hC f as S.H v H' h
    obtain ⟨vs, hrun, hvs⟩ := call_sound hE hr hf
    unfold Oper.wp
    rw [hrun]
    simp only [Oper.upon_enter]
    have := hcall S vs.toList hS rfl hvs
    simp only [Array.toArray_toList] at this
    refine this.mono ?_
    rintro en w' ⟨T, x, rfl, rfl, h1, h2, h3, h4⟩
    exact hn T x h1 h2 h3 h4

theorem EnvR.put {S : St} {e : Env} {a : Act} (hE : EnvR S e a.tmps) {dst : Option Nat} (hd : ∀ d, dst = some d → d < a.tmps.size) {v : AV} {x : Value} (hv : VR S v x) : EnvR S (e.putO dst (some v)) (a.put dst x).tmps := by
  intro t u hu
  unfold Env.putO at hu
  split at hu
  · rename_i ht
    subst ht
    cases hu
    exact ⟨x, by simp [Act.put, hd t rfl], hv⟩
  · rename_i ht
    obtain ⟨y, hy, hr⟩ := hE t u hu
    refine ⟨y, ?_, hr⟩
    cases dst with
    | none => exact hy
    | some d =>
      simp only [Act.put]
      rw [Array.getElem?_setIfInBounds_ne (fun h => ht (by rw [h]))]
      exact hy

theorem put_size (a : Act) (dst : Option Nat) (x : Value) : (a.put dst x).tmps.size = a.tmps.size ∧ (a.put dst x).defers = a.defers := by
  cases dst <;> simp [Act.put]

theorem wants_sound {S : St} {e : Env} {a : Act} (hE : EnvR S e a.tmps) {ops : Array Oper} {o : Oper} {w : Bool} (h : wants e ops o = some w) : Region.wanted o (yielded ops a.tmps) = w := by
  unfold wants at h
  unfold Region.wanted
  cases hg : o.guard with
  | none => simp only [hg] at h ⊢; cases h; rfl
  | some g =>
    obtain ⟨j, want⟩ := g
    simp only [hg] at h ⊢
    unfold yielded
    cases hd : (ops[j]?).bind (·.dst) with
    | none => rw [hd] at h; simp at h
    | some d =>
      rw [hd] at h
      simp only [Option.bind_some] at h ⊢
      cases hv : e d with
      | none => rw [hv] at h; cases h
      | some v =>
        rw [hv] at h
        obtain ⟨x, hx, hr⟩ := hE d v hv
        rw [hx]
        split at h
        · rename_i b heq
          cases heq
          cases hr
          cases h
          cases b <;> cases want <;> rfl
        · rename_i heq
          cases heq
          cases hr with
          | tup _ xs hs =>
            cases hs
            cases h
            rfl
        · cases h

def stepIx (C : Calling) (q : Nat → Bool) (ops : Array Oper) (i : Nat) (e : Env) (H : AHeap) : Option (Env × AHeap) :=
  (ops[i]?).bind fun o => (wants e ops o).bind fun w =>
    if w = true then (evalOp P K C o.op e H).bind fun (v, H') => if q i = true ∧ markOK o.op e H v H' = false then none else some (e.putO o.dst (some v), H')
    else some (e.putO o.dst (some (.tup [])), H)

def evalIx (C : Calling) (q : Nat → Bool) (ops : Array Oper) : List Nat → Env → AHeap → Option (Env × AHeap)
  | [], e, H => some (e, H)
  | i :: r, e, H => (stepIx (P := P) (K := K) C q ops i e H).bind fun (e', H') => evalIx C q ops r e' H'

theorem evalOps_ix {C : Calling} {q : Nat → Bool} {ops : Array Oper} : ∀ {l : List Oper} {k : Nat} {e : Env} {H : AHeap}, (∀ j, l[j]? = ops[k + j]?) → evalOps P K C q ops k l e H = evalIx (P := P) (K := K) C q ops (List.range' k l.length) e H
  | [], k, e, H, _ => rfl
  | o :: l, k, e, H, h => by
    have h0 : ops[k]? = some o := by have := h 0; simpa using this.symm
    have ih : ∀ e H, evalOps P K C q ops (k + 1) l e H = evalIx (P := P) (K := K) C q ops (List.range' (k + 1) l.length) e H := fun e H => evalOps_ix fun j => by
      have := h (j + 1)
      simp only [List.getElem?_cons_succ] at this
      rw [this]; congr 1; omega
    simp only [evalOps, List.length_cons, List.range'_succ, evalIx, stepIx, h0, Option.bind_some]
    cases wants e ops o with
    | none => rfl
    | some w =>
      cases w with
      | true =>
        simp only [Option.bind_some, if_true]
        cases evalOp P K C o.op e H with
        | none => rfl
        | some r =>
          simp only [Option.bind_some]
          split
          · rfl
          · simp only [Option.bind_some]; exact ih _ _
      | false => simp only [Option.bind_some, Bool.false_eq_true, if_false]; exact ih _ _

/-- What a region's end is to hold. -/
def Done (N : Nat) (S : St) (e : Env) (H : AHeap) (a : Act) (w : World) : Prop := ∃ T : St, T.w = w ∧ T.H = H ∧ Sim T ∧ Ext S T ∧ EnvR T e a.tmps ∧ a.tmps.size = N ∧ a.defers = []

theorem Done.of_ext {N : Nat} {S T : St} (h : Ext S T) {e : Env} {H : AHeap} {a : Act} {w : World} (hd : Done N T e H a w) : Done N S e H a w := by
  obtain ⟨U, h1, h2, h3, h4, h5⟩ := hd
  exact ⟨U, h1, h2, h3, h.trans h4, h5⟩

theorem dstOK_at {N : Nat} {ops : Array Oper} (h : dstOK N ops = true) {i : Nat} {o : Oper} (ho : ops[i]? = some o) : ∀ d, o.dst = some d → d < N := by
  intro d hd
  simp only [dstOK, Array.all_eq_true] at h
  obtain ⟨hi, heq⟩ := Array.getElem?_eq_some_iff.1 ho
  have := h i hi
  rw [heq, hd] at this
  simpa using this

/-- One step, carried out. -/
theorem stepIx_wp (hK : KeysOK P K) {C : Calling} (hC : CallOK P C) {q : Nat → Bool} {ops : Array Oper} {N : Nat} (hD : dstOK N ops = true) {S : St} (hS : Sim S) {e : Env} {a : Act} (hE : EnvR S e a.tmps) (hN : a.tmps.size = N) (hd : a.defers = []) {i : Nat} {e' : Env} {H' : AHeap}
    (h : stepIx (P := P) (K := K) C q ops i e S.H = some (e', H')) {next : Act → World → Prop} {Q : Exit → Act → World → Prop}
    (hn : ∀ (T : St) (a' : Act), T.H = H' → Sim T → Ext S T → EnvR T e' a'.tmps → a'.tmps.size = N → a'.defers = [] → next a' T.w) : wpOp P ops Q i next a S.w := by
  unfold stepIx at h
  simp only [Option.bind_eq_some_iff] at h
  obtain ⟨o, ho, w, hw, h⟩ := h
  have hdst : ∀ d, o.dst = some d → d < a.tmps.size := by rw [hN]; exact dstOK_at hD ho
  unfold wpOp
  rw [ho]
  simp only [wants_sound hE hw]
  cases w with
  | true =>
    simp only [if_true, Option.bind_eq_some_iff] at h ⊢
    obtain ⟨⟨v, H1⟩, hv, h⟩ := h
    simp only at h
    split at h <;> first | (cases h; done) | skip
    cases h
    left
    refine op_wp hK hC hS hE hv fun T x h1 h2 h3 h4 => ?_
    exact hn T _ h1 h2 h3 (((hE.ext h3)).put hdst h4) ((put_size a o.dst x).1.trans hN) ((put_size a o.dst x).2.trans hd)
  | false =>
    simp only [Bool.false_eq_true, if_false] at h ⊢
    cases h
    exact hn S _ rfl hS (Ext.refl S) (hE.put hdst (.tup [] [] .nil)) ((put_size a o.dst undef).1.trans hN) ((put_size a o.dst undef).2.trans hd)

theorem evalIx_wp (hK : KeysOK P K) {C : Calling} (hC : CallOK P C) {q : Nat → Bool} {ops : Array Oper} {N : Nat} (hD : dstOK N ops = true) {Q : Exit → Act → World → Prop} : ∀ {l : List Nat} {S : St} {e : Env} {a : Act} {e' : Env} {H' : AHeap}, Sim S → EnvR S e a.tmps → a.tmps.size = N → a.defers = [] →
    evalIx (P := P) (K := K) C q ops l e S.H = some (e', H') → (∀ a' w', Done N S e' H' a' w' → Q .normal a' w') → wpOps P ops Q l a S.w
  | [], S, e, a, e', H', hS, hE, hN, hd, h, hQ => by
    simp [evalIx] at h
    obtain ⟨rfl, rfl⟩ := h
    exact hQ a S.w ⟨S, rfl, rfl, hS, Ext.refl S, hE, hN, hd⟩
  | i :: l, S, e, a, e', H', hS, hE, hN, hd, h, hQ => by
    simp only [evalIx, Option.bind_eq_some_iff] at h
    obtain ⟨⟨e1, H1⟩, h1, h⟩ := h
    rw [wpOps_cons]
    refine stepIx_wp hK hC hD hS hE hN hd h1 fun T a' g1 g2 g3 g4 g5 g6 => ?_
    subst g1
    exact evalIx_wp hK hC hD g2 g4 g5 g6 h fun a'' w'' hd'' => hQ a'' w'' (hd''.of_ext g3)

end
end Go.Proofs.Ytphkkcocimmmfaa
