/- What a law's arguments read as: numbers, bools, texts, slices and structs of them. -/
import Derived.Test.YtphkkcocimmmfaaAL22
namespace Go.Proofs.Ytphkkcocimmmfaa

section
variable {P : Program}

theorem tc_int {k : IntKind} {t : TypeId} (hu : P.underlying t = some (.int k)) {d : Nat} {cs : List AV} (h : TC P (d + 1) t cs) : ∃ n, cs = [.int k n] ∧ k.min ≤ n ∧ n ≤ k.max := by
  simpa only [TC, hu] using h
theorem tc_i64 {t : TypeId} (hu : P.underlying t = some (.int .i64)) {d : Nat} {cs : List AV} (h : TC P (d + 1) t cs) : ∃ n, cs = [.int .i64 n] ∧ -9223372036854775808 ≤ n ∧ n ≤ 9223372036854775807 := by
  obtain ⟨n, h1, h2, h3⟩ := tc_int hu h
  have m1 : IntKind.i64.min = -9223372036854775808 := by decide
  have m2 : IntKind.i64.max = 9223372036854775807 := by decide
  rw [m1] at h2
  rw [m2] at h3
  exact ⟨n, h1, h2, h3⟩
theorem tc_u64 {t : TypeId} (hu : P.underlying t = some (.int .u64)) {d : Nat} {cs : List AV} (h : TC P (d + 1) t cs) : ∃ x, cs = [u x] := by
  obtain ⟨n, h1, h2, h3⟩ := tc_int hu h
  have m1 : IntKind.u64.min = 0 := by decide
  have m2 : IntKind.u64.max = 18446744073709551615 := by decide
  rw [m1] at h2
  rw [m2] at h3
  exact ⟨BitVec.ofInt 64 n, by rw [h1, u_ofInt h2 (by omega)]⟩
theorem tc_bool {t : TypeId} (hu : P.underlying t = some .bool) {d : Nat} {cs : List AV} (h : TC P (d + 1) t cs) : ∃ b, cs = [.bool b] := by
  simpa only [TC, hu] using h
theorem tc_str {t : TypeId} (hu : P.underlying t = some .string) {d : Nat} {cs : List AV} (h : TC P (d + 1) t cs) : ∃ s : ByteArray, cs = [.str s] ∧ s.size ≤ 9223372036854775807 := by
  simpa only [TC, hu] using h
theorem tv_i64 {t : TypeId} (hu : P.underlying t = some (.int .i64)) {d : Nat} {a : AV} (h : TV P (d + 1) t a) : ∃ n, a = .int .i64 n ∧ -9223372036854775808 ≤ n ∧ n ≤ 9223372036854775807 := by
  unfold TV at h
  rw [hu] at h
  obtain ⟨n, h1, h2⟩ := tc_i64 hu h
  exact ⟨n, by simpa using h1, h2⟩
theorem tv_u64 {t : TypeId} (hu : P.underlying t = some (.int .u64)) {d : Nat} {a : AV} (h : TV P (d + 1) t a) : ∃ x, a = u x := by
  unfold TV at h
  rw [hu] at h
  obtain ⟨x, h1⟩ := tc_u64 hu h
  exact ⟨x, by simpa using h1⟩
theorem tv_boolV {t : TypeId} (hu : P.underlying t = some .bool) {d : Nat} {a : AV} (h : TV P (d + 1) t a) : ∃ b, a = .bool b := by
  unfold TV at h
  rw [hu] at h
  obtain ⟨b, h1⟩ := tc_bool hu h
  exact ⟨b, by simpa using h1⟩
theorem tv_str {t : TypeId} (hu : P.underlying t = some .string) {d : Nat} {a : AV} (h : TV P (d + 1) t a) : ∃ s : ByteArray, a = .str s ∧ s.size ≤ 9223372036854775807 := by
  unfold TV at h
  rw [hu] at h
  obtain ⟨s, h1, h2⟩ := tc_str hu h
  exact ⟨s, by simpa using h1, h2⟩
theorem tc_slice {t e : TypeId} (hu : P.underlying t = some (.slice e)) {d : Nat} {cs : List AV} (h : TC P (d + 1) t cs) :
    ∃ n ds, cs = [.lst (P.cellsOf e) n ds] ∧ ds.length = n * P.cellsOf e ∧ n ≤ 9223372036854775807 ∧ ∀ i, i < n → TC P d e ((ds.drop (i * P.cellsOf e)).take (P.cellsOf e)) := by
  simpa only [TC, hu] using h
theorem tv_slice {t e : TypeId} (hu : P.underlying t = some (.slice e)) {d : Nat} {a : AV} (h : TV P (d + 1) t a) :
    ∃ n ds, a = .lst (P.cellsOf e) n ds ∧ ds.length = n * P.cellsOf e ∧ n ≤ 9223372036854775807 ∧ ∀ i, i < n → TC P d e ((ds.drop (i * P.cellsOf e)).take (P.cellsOf e)) := by
  unfold TV at h
  rw [hu] at h
  obtain ⟨n, ds, h1, h2⟩ := tc_slice hu h
  exact ⟨n, ds, by simpa using h1, h2⟩
theorem tc_struct {t : TypeId} {fs : Array Field} (hu : P.underlying t = some (.struct fs)) {d : Nat} {cs : List AV} (h : TC P (d + 1) t cs) : cs.length = P.cellsOf t ∧ ∀ f ∈ fs.toList, TC P d f.type ((cs.drop f.offset).take (P.cellsOf f.type)) := by
  simpa only [TC, hu] using h
theorem tv_struct {t : TypeId} {fs : Array Field} (hu : P.underlying t = some (.struct fs)) {d : Nat} {a : AV} (h : TV P d t a) : ∃ cs, a = .agg cs ∧ TC P d t cs := by
  unfold TV at h
  rw [hu] at h
  exact h

/-- Rows of cells that are told piece by piece. -/
theorem chunks {α : Type} (f : α → List AV) (Q : α → Prop) {sz : Nat} (hf : ∀ s, (f s).length = sz) : ∀ {n : Nat} {ds : List AV}, ds.length = n * sz → (∀ i, i < n → ∃ s, Q s ∧ (ds.drop (i * sz)).take sz = f s) → ∃ ss : List α, ds = ss.flatMap f ∧ ss.length = n ∧ ∀ s, s ∈ ss → Q s
  | 0, ds, h, _ => by
    have : ds = [] := List.eq_nil_of_length_eq_zero (by simpa using h)
    subst this
    exact ⟨[], rfl, rfl, by simp⟩
  | n + 1, ds, h, hp => by
    obtain ⟨s, hq, hs⟩ := hp 0 (by omega)
    simp only [Nat.zero_mul, List.drop_zero] at hs
    have hl : ds.length = n * sz + sz := by rw [h, Nat.add_mul]; omega
    obtain ⟨ss, h1, h2, h3⟩ := chunks f Q hf (n := n) (ds := ds.drop sz) (by rw [List.length_drop]; omega) fun i hi => by
      obtain ⟨s, hq, hs⟩ := hp (i + 1) (by omega)
      refine ⟨s, hq, ?_⟩
      rw [List.drop_drop, show sz + i * sz = (i + 1) * sz from by rw [Nat.add_mul]; omega]
      exact hs
    refine ⟨s :: ss, ?_, by simp [h2], fun x hx => ?_⟩
    · rw [List.flatMap_cons, ← h1, ← hs, List.take_append_drop]
    · rcases List.mem_cons.1 hx with rfl | hx
      · exact hq
      · exact h3 x hx

end
end Go.Proofs.Ytphkkcocimmmfaa
