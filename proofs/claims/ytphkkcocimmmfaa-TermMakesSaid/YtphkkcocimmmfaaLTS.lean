/- The law TermSorts. -/
import Derived.Test.YtphkkcocimmmfaaTK
namespace Go.Proofs.Ytphkkcocimmmfaa
set_option maxRecDepth 100000
set_option maxHeartbeats 4000000

theorem sorts_loop {H : AHeap} {v : AV} {l : List Int} (hv : RI H v l) (hm : l.length ≤ 10) {p q : Int} {e : Env} {r : Rn} (hL : loopL Go.Proofs.Try.prog KT R l_plaitlaw3_TermSorts_0 e H = r)
    (e1' : e 1 = some (.int .i64 p)) (e2' : e 2 = some (.int .i64 q)) (e3' : e 3 = some v) (e9 : e 9 = some (.int .i64 (-1))) :
    ∃ y e' H', r = some (y, e', H') ∧ (H' = H ∧ y = .exit 0) ∧ ∀ t, t ∉ defs l_plaitlaw3_TermSorts_0 → e' t = e t := by
  refine loop_count l_plaitlaw3_TermSorts_0.eq_1 hL 47 (fun i e1 H1 => e1 9 = some (.int .i64 ((i : Int) - 1)) ∧ H1 = H) _ 0 (by omega) ⟨e9, rfl⟩ ?_ ?_
  · rintro i f H1 hf - hi ⟨f9, rfl⟩
    have w1 : IntKind.i64.wrap ((i : Int) - 1 + 1) = ((i : Int) + 1) - 1 := by rw [i64w (by omega) (by omega)]; omega
    have w2 : IntKind.i64.wrap (i : Int) = (i : Int) := i64w (by omega) (by omega)
    have c1 : (i : Int) - 1 ≤ 45 := by omega
    have c2 : ¬ 45 < (i : Int) - 1 := by omega
    have t1 := fun op => termSort_pair hv (by omega) (op := op) (p := p) (q := q)
    have t2 := fun op => refSort_run hv (op := op) (p := p) (q := q)
    simp only [pair] at t1 t2
    have a1 := fun op H => arity_run (op := op) (H := H)
    have a2 := fun op H => arityR_run (op := op) (H := H)
    simp (maxDischargeDepth := 40) [hf, e1', e2', e3', f9, c1, t1, t2, a1, a2, w2]
  · rintro f H1 hf ⟨f9, rfl⟩
    simp [f9]

theorem sorts_run {H : AHeap} {op p q : Int} {l : List Int} : R f_plaitlaw3_TermSorts [.int .i64 op, .int .i64 p, .int .i64 q, IL l] H = some (.bool true, H) := by
  have hk := fun H => known_run (H := H)
  have hv : RI H (IL l) l := RI.lst
  rw [e_plaitlaw3_TermSorts]
  by_cases hm : l.length ≤ 10
  rotate_left
  · have c1 : (10 : Int) < l.length := by omega
    simp (maxDischargeDepth := 40) [c_plaitlaw3_TermSorts, hk, hv.len, c1]
  have c1 : ¬ (10 : Int) < l.length := by omega
  simp (maxDischargeDepth := 40) [c_plaitlaw3_TermSorts, hk, hv.len, c1]
  generalize hL : loopL _ _ _ _ _ _ = r
  obtain ⟨y, e1, H1, rfl, ⟨rfl, rfl⟩, fr⟩ := sorts_loop (p := p) (q := q) hv hm hL (by simp) (by simp) (by simp) (by simp)
  have t1 := fun op => termSort_pair hv (by omega) (op := op) (p := p) (q := q)
  have t2 := fun op => refSort_run hv (op := op) (p := p) (q := q)
  simp only [pair] at t1 t2
  have a1 := fun op H => arity_run (op := op) (H := H)
  have a2 := fun op H => arityR_run (op := op) (H := H)
  simp (maxDischargeDepth := 40) [fr, t1, t2, a1, a2]

theorem tv_ints {d : Nat} {a : AV} (h : TV Go.Proofs.Try.prog (d + 2) 56 a) : ∃ l : List Int, a = IL l := by
  obtain ⟨n, ds, rfl, h2, h3, h4⟩ := tv_slice Go.Proofs.Try.underlying56 h
  have c1 : Go.Proofs.Try.prog.cellsOf 3 = 1 := by kernel_rfl
  rw [c1] at h2 h4
  obtain ⟨ss, e1, e2, -⟩ := chunks (fun x : Int => [AV.int .i64 x]) (fun _ => True) (fun _ => rfl) h2 fun i hi => by
    have hs := h4 i hi
    obtain ⟨x, e0, -⟩ := tc_i64 Go.Proofs.Try.underlying3 hs
    exact ⟨x, trivial, e0⟩
  refine ⟨ss, ?_⟩
  have : ds = ss.map (.int .i64) := by
    rw [e1]
    induction ss with
    | nil => rfl
    | cons x ss _ => simp [List.flatMap_cons, ← List.map_eq_flatMap]
  rw [IL, ← e2, this, c1]
theorem tv_int3 {d : Nat} {a : AV} (h : TV Go.Proofs.Try.prog (d + 1) 3 a) : ∃ n, a = .int .i64 n ∧ -9223372036854775808 ≤ n ∧ n ≤ 9223372036854775807 := tv_i64 Go.Proofs.Try.underlying3 h
theorem TermSorts_law {a0 a1 a2 a3 : AV} (y0 : TV Go.Proofs.Try.prog 8 3 a0) (y1 : TV Go.Proofs.Try.prog 8 3 a1) (y2 : TV Go.Proofs.Try.prog 8 3 a2) (y3 : TV Go.Proofs.Try.prog 8 56 a3) : ∃ H', R f_plaitlaw3_TermSorts [a0, a1, a2, a3] H0 = some (.bool true, H') := by
  obtain ⟨n0, rfl, -⟩ := tv_int3 y0
  obtain ⟨n1, rfl, -⟩ := tv_int3 y1
  obtain ⟨n2, rfl, -⟩ := tv_int3 y2
  obtain ⟨l, rfl⟩ := tv_ints y3
  exact ⟨_, sorts_run⟩
end Go.Proofs.Ytphkkcocimmmfaa
