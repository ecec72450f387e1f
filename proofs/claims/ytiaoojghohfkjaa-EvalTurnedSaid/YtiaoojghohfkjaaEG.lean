/- What an assignment says of a name: the evaluator's known. -/
import Derived.Test.YtiaoojghohfkjaaEF
namespace Go.Proofs.Ytiaoojghohfkjaa
set_option maxRecDepth 100000
set_option maxHeartbeats 2000000

/-- A variable's value. -/
structure Nm where
  name : ByteArray
  v : Vl
def Nm.cs (n : Nm) : List AV := .str n.name :: n.v.cs
def flatN (l : List Nm) : List AV := l.flatMap Nm.cs
theorem flatN_len (l : List Nm) : (flatN l).length = l.length * 4 := by
  induction l with
  | nil => rfl
  | cons v l ih => simp [flatN, Nm.cs, Vl.cs] at *; omega
theorem flatN_at {l : List Nm} : ∀ {i : Nat} {v : Nm}, l[i]? = some v → ((flatN l).drop (i * 4)).take 4 = v.cs := by
  induction l with
  | nil => intro i v h; simp at h
  | cons x l ih =>
    intro i v h
    cases i with
    | zero => simp at h; subst h; simp [flatN, Nm.cs, Vl.cs]
    | succ i =>
      simp at h
      rw [show (i + 1) * 4 = i * 4 + 4 from by omega]
      simpa [flatN, Nm.cs, Vl.cs] using ih h
def RN (H : AHeap) (v : AV) (l : List Nm) : Prop := Reads H v 4 l.length (flatN l)
theorem RN.len {H : AHeap} {v : AV} {l : List Nm} (h : RN H v l) : sliceLen v = some l.length := Reads.len h
theorem RN.keep {H H' : AHeap} {v : AV} {l : List Nm} (h : RN H v l) (k : Keeps H H') : RN H' v l := Reads.keep h k
theorem RN.at {H : AHeap} {v : AV} {l : List Nm} (h : RN H v l) {i : Nat} {x : Nm} (hx : l[i]? = some x) : aindexAddr Go.Proofs.Try.prog T_s_api_Named v (i : Int) = some (ixp v 4 i) ∧ ∀ H', Keeps H H' → aload Go.Proofs.Try.prog H' T_api_Named (ixp v 4 i) = some (.agg [.str x.name, .int .i64 x.v.w, u (lo x.v.n), u (hi x.v.n)]) := by
  have hlt := (List.getElem?_eq_some_iff.1 hx).1
  refine ⟨Reads.addr h (by simp) hlt, fun H' k => ?_⟩
  rw [Reads.atN (Reads.keep h k) (by simp) hlt, flatN_at hx]
  rfl
/-- The first value of a name. -/
def lookL (l : List Nm) (s : ByteArray) : Option Vl := (l.find? fun n => decide (n.name = s)).map Nm.v
theorem lookL_snoc (l : List Nm) (n : Nm) (s : ByteArray) : lookL (l ++ [n]) s = (lookL l s).or (if s = n.name then some n.v else none) := by
  unfold lookL
  rw [List.find?_append]
  cases h : l.find? (fun n => decide (n.name = s)) with
  | some x => simp
  | none =>
    by_cases c : n.name = s
    · simp [c]
    · have c' : ¬ s = n.name := fun e => c e.symm
      simp [c, c']
/-- A map that tells what an assignment says. -/
def EnvM (es : List AEnt) (look : ByteArray → Option Vl) : Prop := ∀ s, (findE (.str s) es).map (·.val) = (look s).map Vl.av
theorem EnvM.add {es : List AEnt} {l : List Nm} {n : Nm} {c : Nat} (h : EnvM es (lookL l)) (_hn : lookL l n.name = none) : EnvM (es ++ [⟨.str n.name, n.v.av, c⟩]) (lookL (l ++ [n])) := by
  intro s
  have h1 := h s
  have hk : keyEq (.str s) (.str n.name) = decide (s = n.name) := by simp [keyEq, scEq]
  rw [findE_append, lookL_snoc, hk]
  cases hf : findE (.str s) es <;> cases hl : lookL l s <;> rw [hf, hl] at h1 <;> first | (cases h1; done) | skip
  · by_cases e : s = n.name <;> simp [e]
  · simpa using h1
theorem EnvM.find {es : List AEnt} {look : ByteArray → Option Vl} (h : EnvM es look) {s : ByteArray} : (look s = none ∧ findE (.str s) es = none) ∨ ∃ v x, look s = some v ∧ findE (.str s) es = some x ∧ x.val = v.av := by
  have h1 := h s
  cases hf : findE (.str s) es <;> cases hl : look s <;> rw [hf, hl] at h1 <;> first | (cases h1; done) | skip
  · exact .inl ⟨rfl, rfl⟩
  · exact .inr ⟨_, _, rfl, rfl, by simpa using h1⟩

theorem known_loop {H0 H : AHeap} {s : AV} {l : List Nm} (hs : RN H0 s l) (hm : l.length ≤ 1000000) (k0 : Keeps H0 H) (z : H0.size < H.size) (ob : H.obj H0.size = .map (.one .s) [] 0)
    {e : Env} {r : Rn} (hL : loopL Go.Proofs.Try.prog KT R l_eval_known_0 e H = r) (e3 : e 3 = some (.map H0.size)) (e9 : e 9 = some s) (e10 : e 10 = some (.int .i64 l.length)) (e11 : e 11 = some (.int .i64 0)) :
    ∃ y e' H', r = some (y, e', H') ∧ (y = .exit 0 ∧ Keeps H0 H' ∧ H0.size < H'.size ∧ ∃ es c, H'.obj H0.size = .map (.one .s) es c ∧ EnvM es (lookL l)) ∧ ∀ t, t ∉ defs l_eval_known_0 → e' t = e t := by
  refine loop_count l_eval_known_0.eq_1 hL l.length (fun i e1 H1 => e1 11 = some (.int .i64 i) ∧ Keeps H0 H1 ∧ H0.size < H1.size ∧ ∃ es c, H1.obj H0.size = .map (.one .s) es c ∧ EnvM es (lookL (l.take i))) _ 0 (by omega) ⟨e11, k0, z, [], 0, ob, fun s => by simp [lookL, findE]⟩ ?_ ?_
  · rintro i f H1 hf - hlt ⟨f11, k, z1, es, c, o1, he⟩
    have w1 := i64w (n := (i : Int) + 1) (by omega) (by omega)
    have c1 : (i : Int) < l.length := by omega
    obtain ⟨v, hv⟩ : ∃ v, l[i]? = some v := ⟨l[i], by simp [hlt]⟩
    have ht : l.take (i + 1) = l.take i ++ [v] := by rw [List.take_add_one, hv]; rfl
    obtain ⟨x0, y0⟩ := hs.at hv
    have y1 := y0 H1 k
    have n1 : ¬ H0.size = H1.size := Nat.ne_of_lt z1
    have n2 : ¬ H1.size = H0.size := by omega
    have n3 : H0.size ≤ H1.size := by omega
    have n4 : ¬ H0.size = H1.size + 1 := by omega
    have n5 : ¬ H1.size + 1 = H0.size := by omega
    rw [ht]
    rcases he.find (s := v.name) with ⟨hl, hfe⟩ | ⟨w, x, hl, hfe, hx⟩
    · have ha := he.add (c := c) hl
      simp (maxDischargeDepth := 20) [hf, e3, e9, e10, f11, c1, x0, y1, o1, w1, n1, n3, n4, k, hfe]
      refine ⟨by omega, ha⟩
    · have ha : EnvM es (lookL (l.take i ++ [v])) := by
        intro s
        rw [lookL_snoc, he s]
        by_cases e : s = v.name
        · subst e; rw [hl]; rfl
        · simp [e]
      simp (maxDischargeDepth := 20) [hf, e3, e9, e10, f11, c1, x0, y1, o1, w1, n1, n3, n4, k, hfe, hx]
      refine ⟨by omega, ha⟩
  · rintro f H1 hf ⟨f11, k, z1, es, c, o1, he⟩
    rw [List.take_of_length_le (Nat.le_refl _)] at he
    simp [hf, e10, f11]
    exact ⟨k, z1, es, ⟨c, o1⟩, he⟩
theorem known_env {H : AHeap} {s : AV} {l : List Nm} (hs : RN H s l) (hm : l.length ≤ 1000000) : ∃ H' es c, R f_eval_known [s] H = some (.map H.size, H') ∧ Keeps H H' ∧ H.size < H'.size ∧ H'.obj H.size = .map (.one .s) es c ∧ EnvM es (lookL l) := by
  have hlen := hs.len
  rw [e_eval_known]
  simp (maxDischargeDepth := 40) [c_eval_known, hlen]
  generalize hL : loopL _ _ _ _ _ _ = y
  obtain ⟨y, e1, H1, rfl, ⟨rfl, k1, z1, es, c, ob, he⟩, fr⟩ := known_loop hs hm (by simp) (by simp) (by simp) hL (by simp) (by simp) (by simp) (by simp)
  simp [fr]
  refine ⟨H1, back_open ?_, k1, z1, es, ⟨c, ob⟩, he⟩
  simp [closed]
end Go.Proofs.Ytiaoojghohfkjaa
