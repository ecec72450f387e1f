/- And-inverter graphs: scripts as arguments. -/
import Derived.Test.YtphkkcocimmmfaaAX4
namespace Go.Proofs.Ytphkkcocimmmfaa
set_option maxRecDepth 100000

def stepsC (ss : List Sp) : List AV := ss.flatMap Sp.av
theorem stepsC_len (ss : List Sp) : (stepsC ss).length = ss.length * 5 := by
  induction ss with
  | nil => rfl
  | cons s ss ih => simp [stepsC, Sp.av] at *; omega
theorem stepsC_at {ss : List Sp} : ∀ {i : Nat} {s : Sp}, ss[i]? = some s → ((stepsC ss).drop (i * 5)).take 5 = s.av ∧ (stepsC ss)[i * 5]? = some (.int .i64 s.what) ∧ i * 5 + 5 ≤ (stepsC ss).length := by
  induction ss with
  | nil => intro i s h; simp at h
  | cons x ss ih =>
    intro i s h
    cases i with
    | zero => simp at h; subst h; simp [stepsC, Sp.av]
    | succ i =>
      simp at h
      obtain ⟨h1, h2, h3⟩ := ih h
      rw [show (i + 1) * 5 = i * 5 + 5 from by omega]
      refine ⟨?_, ?_, ?_⟩
      · simpa [stepsC, Sp.av] using h1
      · simpa [stepsC, Sp.av] using h2
      · simp [stepsC, Sp.av] at h3 ⊢; omega

theorem five {cs : List AV} (h : cs.length = 5) : ∃ a b c d e, cs = [a, b, c, d, e] := by
  match cs, h with
  | [a, b, c, d, e], _ => exact ⟨a, b, c, d, e, rfl⟩
/-- A step of machine words. -/
def Sp.fits (s : Sp) : Prop := s.a ≤ 9223372036854775807 ∧ s.b ≤ 9223372036854775807 ∧ s.c ≤ 9223372036854775807
theorem tv_steps {d : Nat} {a : AV} (h : TV Go.Proofs.Try.prog (d + 3) 37 a) : ∃ ss : List Sp, a = .lst 5 ss.length (stepsC ss) ∧ ∀ s, s ∈ ss → s.fits := by
  obtain ⟨n, ds, rfl, h2, h3, h4⟩ := tv_slice Go.Proofs.Try.underlying37 h
  have c5 : Go.Proofs.Try.prog.cellsOf 45 = 5 := by kernel_rfl
  have c1 : Go.Proofs.Try.prog.cellsOf 3 = 1 := by kernel_rfl
  have c2 : Go.Proofs.Try.prog.cellsOf 4 = 1 := by kernel_rfl
  rw [c5] at h2 h4
  obtain ⟨ss, e1, e2, e3⟩ := chunks Sp.av Sp.fits (fun _ => rfl) h2 fun i hi => by
    have hs := h4 i hi
    generalize (ds.drop (i * 5)).take 5 = cs at hs
    obtain ⟨hl, hf⟩ := tc_struct Go.Proofs.Try.underlying45 hs
    rw [c5] at hl
    obtain ⟨x0, x1, x2, x3, x4, rfl⟩ := five hl
    simp [c1, c2] at hf
    obtain ⟨g0, g1, g2, g3, g4⟩ := hf
    obtain ⟨n0, e0, -⟩ := tc_i64 Go.Proofs.Try.underlying3 g0
    obtain ⟨n1, e1, -, l1⟩ := tc_i64 Go.Proofs.Try.underlying3 g1
    obtain ⟨n2, e2, -, l2⟩ := tc_i64 Go.Proofs.Try.underlying3 g2
    obtain ⟨n3, e3, -, l3⟩ := tc_i64 Go.Proofs.Try.underlying3 g3
    obtain ⟨b, e4⟩ := tc_bool Go.Proofs.Try.underlying4 g4
    simp at e0 e1 e2 e3 e4
    exact ⟨⟨n0, n1, n2, n3, b⟩, ⟨l1, l2, l3⟩, by rw [e0, e1, e2, e3, e4]; rfl⟩
  exact ⟨ss, by rw [e2, c5, e1]; rfl, e3⟩

theorem bools_of : ∀ {n : Nat} {ds : List AV}, ds.length = n * 1 → (∀ i, i < n → ∃ b, (ds.drop (i * 1)).take 1 = [.bool b]) → ∃ bs : List Bool, ds = bs.map .bool ∧ bs.length = n
  | 0, ds, h, _ => ⟨[], List.eq_nil_of_length_eq_zero (by simpa using h), rfl⟩
  | n + 1, ds, h, k => by
    obtain ⟨b, hb⟩ := k 0 (by omega)
    match ds, h with
    | d :: ds, h =>
      simp at hb
      subst hb
      obtain ⟨bs, h1, h2⟩ := bools_of (n := n) (ds := ds) (by simpa using h) fun i hi => by
        obtain ⟨b', hb'⟩ := k (i + 1) (by omega)
        exact ⟨b', by simpa using hb'⟩
      exact ⟨b :: bs, by rw [h1]; rfl, by simp [h2]⟩
theorem tv_bools {d : Nat} {a : AV} (h : TV Go.Proofs.Try.prog (d + 2) 22 a) : ∃ bs : List Bool, a = .lst 1 bs.length (bs.map .bool) := by
  obtain ⟨n, ds, rfl, h2, h3, h4⟩ := tv_slice Go.Proofs.Try.underlying22 h
  have hc : Go.Proofs.Try.prog.cellsOf 4 = 1 := by kernel_rfl
  rw [hc] at h2 h4
  obtain ⟨bs, rfl, h6⟩ := bools_of h2 fun i hi => tc_bool Go.Proofs.Try.underlying4 (h4 i hi)
  exact ⟨bs, by rw [hc, h6]⟩

theorem litsF_max {s : Sp} (h : s.fits) {n : Int} (h0 : 0 ≤ n) (h1 : n ≤ 100000) : (litsF s n).1 ≤ 9223372036854775807 ∧ (litsF s n).2.1 ≤ 9223372036854775807 ∧ (litsF s n).2.2 ≤ 9223372036854775807 := by
  unfold litsF
  split
  · have h1 := placeF_in (k := s.a) (n := 2 * n + 2) (by omega)
    have h2 := placeF_in (k := s.b) (n := 2 * n + 2) (by omega)
    have h3 := placeF_in (k := s.c) (n := 2 * n + 2) (by omega)
    simp only
    omega
  · exact h
end Go.Proofs.Ytphkkcocimmmfaa
