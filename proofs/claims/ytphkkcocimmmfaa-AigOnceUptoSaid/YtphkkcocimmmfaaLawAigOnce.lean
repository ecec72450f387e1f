/- The row of the law AigOnce where what comes in is of a bounded bulk, out of what its function computes. Written by lawrowu.py. -/
import Derived.Test.YtphkkcocimmmfaaRows
import Derived.Test.YtphkkcocimmmfaaLAO
import Derived.WalkKit
import Derived.ProofKit
import Derived.OpenShut
import Derived.ChangeOld
import Derived.Below
import Derived.JoinedCond
namespace Go.Proofs.Ytphkkcocimmmfaa.aigOnce
open Go.ChangeShapes Go.WideShapes Go.ChangeAt Go.RowKit
set_option linter.unusedVariables false
theorem own : ownKnob Go.Proofs.Try.prog.godebug = none := by kernel_rfl
theorem laidOut : laidOutB Go.Proofs.Try.prog = true := by kernel_rfl
theorem bulk_one {H : Type} (d : DataW H) : 1 ≤ Rows.uptoBulk d := by
  cases d with
  | lit l => cases l <;> simp [Rows.uptoBulk]
  | held b => simp [Rows.uptoBulk]
  | _ => simp [Rows.uptoBulk]
theorem bulk_len {H : Type} (l : List (DataW H)) : l.length ≤ Rows.uptoBulkAll l := by
  induction l with
  | nil => simp
  | cons x r ih => have := bulk_one x; simp only [Rows.uptoBulkAll, List.length_cons]; omega
/-- A slice's length is below its bulk. -/
theorem slice_bulk {H : Type} {enc : TypeId × Value → H} {P : Program} {W : World} {sp : Nat → Bool} {held : Bool} {t e : TypeId} (ht : P.underlying t = some (.slice e)) {v : Value} {d : DataW H} {q : List MemPlace} (h : DataW.Trod enc P W 0 sp held t v d q) {S : St} {sz n : Nat} {cs : List AV} (hr : VR S (.lst sz n cs) v) : n ≤ Rows.uptoBulk d := by
  obtain ⟨m, hm⟩ := h
  have hv : ∃ a cap, v = .slice a n cap := by cases hr <;> exact ⟨_, _, rfl⟩
  obtain ⟨a, cap, rfl⟩ := hv
  rcases DataW.trod_slice ht hm with ⟨h1, _⟩ | ⟨a, len, cap, elems, rest, k, _, hcs, hx, _, _, _, hlen, _, _⟩
  · simp [Value.cells] at h1; omega
  · simp only [Prod.mk.injEq] at hx
    obtain ⟨rfl, _⟩ := hx
    simp [Value.cells] at hcs
    have := bulk_len (elems.map (·.1))
    simp only [List.length_map] at this
    simp only [Rows.uptoBulk]
    omega
set_option maxRecDepth 100000 in
theorem contract (H : Type) (enc : TypeId × Value → H) (W : World) (base : Nat) (args : Array Value) (ds gs : List (DataW H)) (before : List MemPlace)
    (hval0 : ∀ (j : Nat) t v, Try.f6.params[j]? = some t → args[j]? = some v → Value.okWide Try.prog W .any base t v)
    (hW : DataW.Whole enc Try.prog Try.f6.params.toList Rows.aigOnceSpec.vars false W args.toList ds gs before) (hk : Rows.uptoSmall H (ds ++ gs) = true) :
    Calls Try.prog 6 args W fun e W' => ∃ v, e = .returned v ∧ Rows.aigOnceSpec.post enc Try.prog Try.f6 false true false false W args v W' := by
  have hval : ∀ (j : Nat) t v, Try.f6.params[j]? = some t → args[j]? = some v → Value.okWide Try.prog W .any base t v := hval0
  have hW' := hW
  obtain ⟨p, q, hA0, hV, rfl, hfz, hnd⟩ := hW
  have hA : DataW.TrodAll enc Try.prog W 0 (fun _ => true) true Try.f6.params.toList args.toList ds p := hA0
  rw [Try.params6] at hA hval
  obtain ⟨v0, vs0, d0, ds0, p0, q0, hargs, rfl, rfl, h0, r0⟩ := trodAll_cons hA
  obtain ⟨v1, vs1, d1, ds1, p1, q1, rfl, rfl, rfl, h1, r1⟩ := trodAll_cons r0
  obtain ⟨v2, vs2, d2, ds2, p2, q2, rfl, rfl, rfl, h2, r2⟩ := trodAll_cons r1
  obtain ⟨rfl, rfl, rfl⟩ := trodAll_nil r2
  obtain rfl : args = #[v0, v1, v2] := by cases args; simp_all
  obtain ⟨rfl, rfl⟩ := trodVars_none hV
  have k0 := h0
  have lt0 : ∀ x ∈ p0, x.block < W.heap.size := by obtain ⟨m, hm⟩ := k0; exact DataW.trod_lt m _ _ _ hm
  obtain ⟨a0, s0, y0⟩ := arg_sound (P := Try.prog) (d := 8) (t := 3) (by kernel_rfl) h0 (hval 0 3 v0 rfl rfl)
  have k1 := h1
  have lt1 : ∀ x ∈ p1, x.block < W.heap.size := by obtain ⟨m, hm⟩ := k1; exact DataW.trod_lt m _ _ _ hm
  obtain ⟨a1, s1, y1⟩ := arg_sound (P := Try.prog) (d := 8) (t := 37) (by kernel_rfl) h1 (hval 1 37 v1 rfl rfl)
  have k2 := h2
  have lt2 : ∀ x ∈ p2, x.block < W.heap.size := by obtain ⟨m, hm⟩ := k2; exact DataW.trod_lt m _ _ _ hm
  obtain ⟨a2, s2, y2⟩ := arg_sound (P := Try.prog) (d := 8) (t := 22) (by kernel_rfl) h2 (hval 2 22 v2 rfl rfl)
  have hb : Rows.uptoBulkAll ([d0, d1, d2] : List (DataW H)) ≤ 1048576 := of_decide_eq_true hk
  simp only [Rows.uptoBulkAll] at hb
  have b1 : ∀ sz n cs, a1 = .lst sz n cs → n ≤ 1048576 := fun sz n cs e => by subst e; have := slice_bulk Try.underlying37 h1 s1; omega
  have b2 : ∀ sz n cs, a2 = .lst sz n cs → n ≤ 1048576 := fun sz n cs e => by subst e; have := slice_bulk Try.underlying22 h2 s2; omega
  clear hA0 hval0
  obtain ⟨H', hrun⟩ := AigOnce_law y0 y1 y2 b1 b2
  unfold R f_plaitlaw8_AigOnce at hrun
  refine (law_calls (D := DT) good ⟨Try.f6, Try.func6, rfl, rfl⟩ hrun (.cons _ _ _ _ s0 (.cons _ _ _ _ s1 (.cons _ _ _ _ s2 .nil))) rfl).mono fun e W' ⟨he, bel⟩ => ?_
  subst he
  exact ⟨_, rfl, _, _, _, [], _, [], hW', trodAll_mk1 (shut_bool Try.underlying4 _), (trodAll_cons_mk (Below.trod laidOut (by kernel_rfl) (of_decide_eq_true (by kernel_rfl)) k0 bel lt0) (trodAll_cons_mk (Below.trod laidOut (by kernel_rfl) (of_decide_eq_true (by kernel_rfl)) k1 bel lt1) (trodAll_cons_mk (Below.trod laidOut (by kernel_rfl) (of_decide_eq_true (by kernel_rfl)) k2 bel lt2) trodAll_mk0))), rfl, bel.frame _, fun h => by cases h⟩
set_option maxRecDepth 100000 in
theorem lifted (os : Os) (started : os.Started) (H : Type) (enc : TypeId × Value → H) (F : Stop.Interp) :
    ReturnsInHanded {} Try.checked os 6 .any ((Rows.OpenSpec.upto Rows.aigOnceSpec).pre6 enc Try.prog Try.f6 Rows.aigOnceUptoRow.domain false) (((Rows.OpenSpec.upto Rows.aigOnceSpec).at F).post enc Try.prog Try.f6 false true false false) := by
  refine returnsInHanded_of_cond (C := Try.checked) (s := Rows.OpenSpec.upto Rows.aigOnceSpec) (k := Rows.uptoSmall) rfl own started (by kernel_rfl) Try.func6
    (OpenSpec.witness (enc := enc) (C := Try.checked) (s := Rows.OpenSpec.upto Rows.aigOnceSpec) (k := Rows.uptoSmall) rfl false ⟨#[], #[.int .i64 0, .slice none 0 0, .slice none 0 0], []⟩ 8 (by kernel_rfl) (by kernel_rfl) (by kernel_rfl)
      (x := ([.lit (.int .i64 0), .nil, .nil], [], [])) (by kernel_rfl) rfl (by kernel_rfl)) ?_
  intro W base args ds gs before hval hW _ hk _
  exact contract H enc W base args ds gs before hval hW hk
theorem over : Rows.aigOnceUptoRow.holds Try.pinned (Rows.OpenSpec.upto Rows.aigOnceSpec) :=
  OpenClaim.holds_of_cond 6 Try.f6 rfl rfl rfl rfl rfl rfl rfl ⟨rfl, rfl, rfl, rfl, rfl⟩ rfl rfl rfl rfl rfl (by kernel_rfl) Try.func6 (by kernel_rfl)
    (of_decide_eq_true (by kernel_rfl)) (by unfold Func.isWrapper; first | (rw [if_pos (by decide +kernel)]; kernel_rfl) | (rw [if_neg (by decide +kernel)]; exact ⟨rfl, rfl⟩))
    (fun os started H enc _ F => lifted os started H enc F)
end Go.Proofs.Ytphkkcocimmmfaa.aigOnce
namespace Go.Proofs.Ytphkkcocimmmfaa
/-- The row, under a short name, for the claim. -/
theorem aigOnce_holds : Rows.AigOnceUptoSaid := aigOnce.over
#print axioms aigOnce_holds
end Go.Proofs.Ytphkkcocimmmfaa
