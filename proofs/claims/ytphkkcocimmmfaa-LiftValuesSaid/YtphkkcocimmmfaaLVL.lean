/- The law LiftValues, for whatever its arguments read as. -/
import Derived.Test.YtphkkcocimmmfaaLV
namespace Go.Proofs.Ytphkkcocimmmfaa
set_option maxRecDepth 100000

/-- Cells of a type of bools. -/
theorem bools_of : ∀ {n : Nat} {ds : List AV}, ds.length = n * 1 → (∀ i, i < n → ∃ b, (ds.drop (i * 1)).take 1 = [.bool b]) → ∃ bs : List Bool, ds = bs.map .bool ∧ bs.length = n
  | 0, ds, h, _ => by
    have : ds = [] := List.eq_nil_of_length_eq_zero (by simpa using h)
    subst this
    exact ⟨[], rfl, rfl⟩
  | n + 1, [], h, _ => by simp at h
  | n + 1, d :: ds, h, hp => by
    obtain ⟨b, hb⟩ := hp 0 (by omega)
    simp at hb
    obtain ⟨bs, h1, h2⟩ := bools_of (n := n) (ds := ds) (by simpa using h) fun i hi => by
      obtain ⟨b, hb⟩ := hp (i + 1) (by omega)
      refine ⟨b, ?_⟩
      simpa using hb
    exact ⟨b :: bs, by rw [h1, hb]; rfl, by simp [h2]⟩


theorem tv_int {k : IntKind} {t : TypeId} (hu : Go.Proofs.Try.prog.underlying t = some (.int k)) {d : Nat} {a : AV} (h : TV Go.Proofs.Try.prog (d + 1) t a) : ∃ n, a = .int k n ∧ k.min ≤ n ∧ n ≤ k.max := by
  unfold TV at h
  rw [hu] at h
  simp only [TC, hu] at h
  obtain ⟨n, h1, h2⟩ := h
  exact ⟨n, by simpa using h1, h2⟩

theorem tv_bools {t e : TypeId} (hu : Go.Proofs.Try.prog.underlying t = some (.slice e)) (he : Go.Proofs.Try.prog.underlying e = some .bool) (hc : Go.Proofs.Try.prog.cellsOf e = 1) {d : Nat} {a : AV} (h : TV Go.Proofs.Try.prog (d + 2) t a) :
    ∃ bs : List Bool, a = .lst 1 bs.length (bs.map .bool) ∧ bs.length ≤ 9223372036854775807 := by
  unfold TV at h
  rw [hu] at h
  simp only [TC, hu, he, hc] at h
  obtain ⟨n, ds, h1, h2, h3, h4⟩ := h
  obtain ⟨bs, rfl, h6⟩ := bools_of h2 h4
  refine ⟨bs, ?_, by omega⟩
  rw [h6]
  simpa using h1

theorem cs_three {cs : List AV} (h : cs.length = 3) : ∃ a b c, cs = [a, b, c] := by
  match cs, h with
  | [a, b, c], _ => exact ⟨a, b, c, rfl⟩

/-- A value of three numbers: the width and two words. -/
theorem tv_bits {t a b : TypeId} {f0 f1 f2 : Field} (hu : Go.Proofs.Try.prog.underlying t = some (.struct #[f0, f1, f2])) (h0 : f0.offset = 0 ∧ f0.type = a) (h1 : f1.offset = 1 ∧ f1.type = b) (h2 : f2.offset = 2 ∧ f2.type = b)
    (ha : Go.Proofs.Try.prog.underlying a = some (.int .i64)) (hb : Go.Proofs.Try.prog.underlying b = some (.int .u64)) (ca : Go.Proofs.Try.prog.cellsOf a = 1) (cb : Go.Proofs.Try.prog.cellsOf b = 1) (ct : Go.Proofs.Try.prog.cellsOf t = 3) {d : Nat} {v : AV} (h : TV Go.Proofs.Try.prog (d + 2) t v) :
    ∃ (w : Int) (p : Wd), v = .agg [.int .i64 w, u p.1, u p.2] := by
  unfold TV at h
  rw [hu] at h
  obtain ⟨cs, rfl, h⟩ := h
  rw [TC, hu] at h
  simp only [ct] at h
  obtain ⟨hl, h⟩ := h
  obtain ⟨c0, c1, c2, rfl⟩ := cs_three hl
  have g0 := h f0 (by simp)
  have g1 := h f1 (by simp)
  have g2 := h f2 (by simp)
  rw [h0.1, h0.2, ca, TC, ha] at g0
  rw [h1.1, h1.2, cb, TC, hb] at g1
  rw [h2.1, h2.2, cb, TC, hb] at g2
  simp at g0 g1 g2
  obtain ⟨w, e0, _⟩ := g0
  obtain ⟨x, e1, hx⟩ := g1
  obtain ⟨y, e2, hy⟩ := g2
  have m1 : IntKind.u64.min = 0 := by decide
  have m2 : IntKind.u64.max = 18446744073709551615 := by decide
  rw [m1, m2] at hx hy
  refine ⟨w, (BitVec.ofInt 64 x, BitVec.ofInt 64 y), ?_⟩
  rw [e0, e1, e2, u_ofInt (by omega) (by omega), u_ofInt (by omega) (by omega)]

theorem LiftValues_law {a0 a1 a2 : AV} (y0 : TV Go.Proofs.Try.prog 8 3 a0) (y1 : TV Go.Proofs.Try.prog 8 22 a1) (y2 : TV Go.Proofs.Try.prog 8 25 a2) : ∃ H', R f_plaitlaw16_LiftValues [a0, a1, a2] H0 = some (.bool true, H') := by
  have e1 : (8 : Nat) = 7 + 1 := rfl
  have e2 : (8 : Nat) = 6 + 2 := rfl
  rw [e1] at y0
  rw [e2] at y1 y2
  obtain ⟨n, rfl, _, _⟩ := tv_int Go.Proofs.Try.underlying3 y0
  obtain ⟨bs, rfl, hm⟩ := tv_bools Go.Proofs.Try.underlying22 Go.Proofs.Try.underlying4 (by kernel_rfl) y1
  obtain ⟨w, p, rfl⟩ := tv_bits Go.Proofs.Try.underlying25 ⟨rfl, rfl⟩ ⟨rfl, rfl⟩ ⟨rfl, rfl⟩ Go.Proofs.Try.underlying3 Go.Proofs.Try.underlying23 (by kernel_rfl) (by kernel_rfl) (by kernel_rfl) y2
  obtain ⟨H', h, _⟩ := law_run (n := n) (w := w) (p := p) hm (H := H0)
  exact ⟨H', h⟩

end Go.Proofs.Ytphkkcocimmmfaa
