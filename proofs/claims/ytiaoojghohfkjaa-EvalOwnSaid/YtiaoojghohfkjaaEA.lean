/- Values, slices of them; what the evaluator's small functions compute. -/
import Derived.Test.YtiaoojghohfkjaaTC
import Derived.Test.YtiaoojghohfkjaaBVR
namespace Go.Proofs.Ytiaoojghohfkjaa
set_option maxRecDepth 100000
set_option maxHeartbeats 2000000

/-- A value: its width, and its number. -/
structure Vl where
  w : Int
  n : W128
def Vl.zero : Vl := ⟨0, 0#128⟩
def Vl.cs (v : Vl) : List AV := [.int .i64 v.w, u (lo v.n), u (hi v.n)]
abbrev Vl.av (v : Vl) : AV := .agg [.int .i64 v.w, u (lo v.n), u (hi v.n)]
def Vl.ok (v : Vl) : Bool := rightF v.w (lo v.n) (hi v.n)
def Vl.yes (v : Vl) : Bool := decide (lo v.n = 1#64)
def Vl.bool (b : Bool) : Vl := ⟨0, if b = true then 1#128 else 0#128⟩
def Vl.sort (v : Vl) : Int := if v.ok = true then v.w else -1
theorem Vl.ext' {a b : Vl} (h1 : a.w = b.w) (h2 : lo a.n = lo b.n) (h3 : hi a.n = hi b.n) : a = b := by
  obtain ⟨w, n⟩ := a
  obtain ⟨w', n'⟩ := b
  simp only at h1 h2 h3
  subst h1
  congr 1
  apply BitVec.eq_of_getLsbD_eq
  intro i hi'
  by_cases h : i < 64
  · have := congrArg (fun x : BitVec 64 => x.getLsbD i) h2
    simpa [lo, h] using this
  · have := congrArg (fun x : BitVec 64 => x.getLsbD (i - 64)) h3
    have e : 64 + (i - 64) = i := by omega
    have e2 : i - 64 < 64 := by omega
    simpa [hi, e, e2] using this
/-- A slice of values. -/
def flatV (l : List Vl) : List AV := l.flatMap Vl.cs
theorem flatV_len (l : List Vl) : (flatV l).length = l.length * 3 := by
  induction l with
  | nil => rfl
  | cons v l ih => simp [flatV, Vl.cs] at *; omega
theorem flatV_at {l : List Vl} : ∀ {i : Nat} {v : Vl}, l[i]? = some v → ((flatV l).drop (i * 3)).take 3 = v.cs := by
  induction l with
  | nil => intro i v h; simp at h
  | cons x l ih =>
    intro i v h
    cases i with
    | zero => simp at h; subst h; simp [flatV, Vl.cs]
    | succ i =>
      simp at h
      rw [show (i + 1) * 3 = i * 3 + 3 from by omega]
      simpa [flatV, Vl.cs] using ih h
def RV (H : AHeap) (v : AV) (l : List Vl) : Prop := Reads H v 3 l.length (flatV l)
theorem RV.len {H : AHeap} {v : AV} {l : List Vl} (h : RV H v l) : sliceLen v = some l.length := Reads.len h
theorem RV.keep {H H' : AHeap} {v : AV} {l : List Vl} (h : RV H v l) (k : Keeps H H') : RV H' v l := Reads.keep h k
theorem RV.at {H : AHeap} {v : AV} {l : List Vl} (h : RV H v l) {i : Nat} {x : Vl} (hi : l[i]? = some x) : aindexAddr Go.Proofs.Try.prog T_s_api_Bits v (i : Int) = some (ixp v 3 i) ∧ ∀ H', Keeps H H' → aload Go.Proofs.Try.prog H' T_api_Bits (ixp v 3 i) = some x.av := by
  have hlt := (List.getElem?_eq_some_iff.1 hi).1
  refine ⟨Reads.addr h (by simp) hlt, fun H' k => ?_⟩
  rw [Reads.atN (Reads.keep h k) (by simp) hlt, flatV_at hi]
  rfl

theorem right_run {v : Vl} {H : AHeap} : R f_bv_Right [.agg [.int .i64 v.w, u (lo v.n), u (hi v.n)]] H = some (.bool v.ok, H) := bvRight_run
theorem yes_run {v : Vl} {H : AHeap} : R f_eval_yes [.agg [.int .i64 v.w, u (lo v.n), u (hi v.n)]] H = some (.bool v.yes, H) := by
  rw [e_eval_yes]
  simp (maxDischargeDepth := 40) [c_eval_yes, Vl.yes]
theorem bool_run {b : Bool} {H : AHeap} : R f_bv_Bool [.bool b] H = some ((Vl.bool b).av, H) := by
  rw [e_bv_Bool]
  cases b <;> simp (maxDischargeDepth := 40) [c_bv_Bool, Vl.bool, Vl.av] <;> exact ⟨rfl, rfl⟩
theorem fits_run {v : Vl} {s : Int} {H : AHeap} : R f_eval_fits [.agg [.int .i64 v.w, u (lo v.n), u (hi v.n)], .int .i64 s] H = some (.bool (v.ok && decide (v.w = s)), H) := by
  have hr := fun H => right_run (v := v) (H := H)
  rw [e_eval_fits]
  cases hv : v.ok <;> rw [hv] at hr <;> simp (maxDischargeDepth := 40) [c_eval_fits, hr]
end Go.Proofs.Ytiaoojghohfkjaa
