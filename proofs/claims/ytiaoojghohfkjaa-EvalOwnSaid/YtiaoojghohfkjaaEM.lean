/- Lists of values held against one another; the chapter's examples. -/
import Derived.Test.YtiaoojghohfkjaaEL
namespace Go.Proofs.Ytiaoojghohfkjaa
set_option maxRecDepth 100000
set_option maxHeartbeats 4000000

instance : DecidableEq Nm := fun a b => decidable_of_iff (a.name = b.name ∧ a.v = b.v) (by cases a; cases b; simp)
theorem nm_eq {a b : Nm} : decide (a = b) = (decide (a.name = b.name) && (decide (a.v.w = b.v.w) && (decide (lo a.v.n = lo b.v.n) && decide (hi a.v.n = hi b.v.n)))) := by
  rw [← Bool.decide_and, ← Bool.decide_and, ← Bool.decide_and, decide_eq_decide]
  constructor
  · rintro rfl; exact ⟨rfl, rfl, rfl, rfl⟩
  · rintro ⟨h1, h2, h3, h4⟩
    obtain ⟨n, v⟩ := a
    obtain ⟨n', v'⟩ := b
    simp only at h1 h2 h3 h4
    rw [h1, Vl.ext' h2 h3 h4]
theorem named_loop {H : AHeap} {v w : AV} {a b : List Nm} (hv : RN H v a) (hw : RN H w b) (hm : a.length ≤ 1000000) (hl : a.length = b.length)
    {e : Env} {r : Rn} (hL : loopL Go.Proofs.Try.prog KT R l_plaithelp_Named_0 e H = r) (e0 : e 0 = some v) (e1 : e 1 = some w) (e5 : e 5 = some (.int .i64 0)) :
    ∃ x e' H', r = some (x, e', H') ∧ (H' = H ∧ ((x = .exit 0 ∧ a = b) ∨ (x = .ret ∧ e' 4 = some (.bool false) ∧ a ≠ b))) ∧ ∀ t, t ∉ defs l_plaithelp_Named_0 → e' t = e t := by
  have hl' : (a.length : Int) = b.length := by omega
  refine loop_count l_plaithelp_Named_0.eq_1 hL a.length (fun i e1 H1 => H1 = H ∧ e1 5 = some (.int .i64 i) ∧ a.take i = b.take i) _ 0 (Nat.zero_le _) ⟨rfl, e5, rfl⟩ ?_ ?_
  · rintro i f H1 hf - hi ⟨rfl, f5, ht⟩
    have hib : i < b.length := by omega
    obtain ⟨x, hx⟩ : ∃ x, a[i]? = some x := ⟨a[i], by simp [hi]⟩
    obtain ⟨y, hy⟩ : ∃ y, b[i]? = some y := ⟨b[i], by simp [hib]⟩
    obtain ⟨a1, a2⟩ := hv.at hx
    obtain ⟨b1, b2⟩ := hw.at hy
    replace a2 := a2 H1 (Keeps.refl _)
    replace b2 := b2 H1 (Keeps.refl _)
    have w1 : IntKind.i64.wrap ((i : Int) + 1) = (i : Int) + 1 := i64w (by omega) (by omega)
    have c1 : (i : Int) < b.length := by omega
    have ta : a.take (i + 1) = a.take i ++ [x] := by rw [List.take_add_one, hx]; rfl
    have tb : b.take (i + 1) = b.take i ++ [y] := by rw [List.take_add_one, hy]; rfl
    have hq := nm_eq (a := x) (b := y)
    rw [ta, tb, ht]
    by_cases hab : x = y
    · subst hab
      simp [hf, f5, e0, e1, hv.len, hl', c1, a1, b1, a2, b2, w1]
    · rw [decide_eq_false hab] at hq
      have hne : a ≠ b := by
        rintro rfl
        rw [hx] at hy
        cases hy
        exact hab rfl
      simp [hf, f5, e0, e1, hv.len, hl', c1, a1, b1, a2, b2, ← hq, hne]
  · rintro e1 H1 hf ⟨rfl, f5, ht⟩
    simp [hf, f5, e0, hv.len, hl']
    rw [List.take_of_length_le (Nat.le_refl _), List.take_of_length_le (by omega)] at ht
    exact ht
theorem named_run {H : AHeap} {v w : AV} {a b : List Nm} (hv : RN H v a) (hw : RN H w b) (hm : a.length ≤ 1000000) : R f_plaithelp_Named [v, w] H = some (.bool (decide (a = b)), H) := by
  generalize h : R f_plaithelp_Named [v, w] H = r
  rw [e_plaithelp_Named] at h
  by_cases hl : a.length = b.length
  rotate_left
  · have hl' : ¬ (a.length : Int) = b.length := by omega
    have hne : a ≠ b := fun e => hl (by rw [e])
    simp [c_plaithelp_Named, hv.len, hw.len, hl'] at h
    rw [← h]; simp [hne]
  have hl' : (a.length : Int) = b.length := by omega
  simp [c_plaithelp_Named, hv.len, hw.len, hl'] at h
  generalize hL : loopL _ _ _ _ _ _ = q at h
  obtain ⟨x, e1, H1, rfl, ⟨rfl, hx⟩, fr⟩ := named_loop hv hw hm hl hL (by simp) (by simp) (by simp)
  rcases hx with ⟨rfl, hab⟩ | ⟨rfl, h4, hab⟩
  · simp at h
    rw [← h]; simp [hab]
  · simp [h4] at h
    rw [← h]; simp [hab]

/-! The chapter's examples. -/
def kX : Nd := ⟨2, 4, 0, 0, 0, 0, 0, 0, 0#64, 0#64, ⟨#[120]⟩⟩
def kA : Nd := ⟨18, 0, 1, 1, 0, 0, 0, 0, 0#64, 0#64, .empty⟩
def kA' : Nd := ⟨18, 4, 1, 1, 0, 0, 0, 0, 0#64, 0#64, .empty⟩
def kU : Nd := ⟨29, 0, 1, 2, 0, 0, 0, 0, 0#64, 0#64, .empty⟩
def kN : List Nm := [⟨⟨#[120]⟩, ⟨4, 9#128⟩⟩]
theorem kmk1 : makT 9 [] kX = ([kX], 1, 0) := by decide
theorem kmk2 : makT 9 [kX] kA = ([kX, kA'], 2, 0) := by decide
theorem kmk3 : makT 9 [kX, kA'] kU = ([kX, kA', kU], 3, 0) := by decide
theorem kv1 : worthS (lookL kN) [kX, kA', kU] 1 = (⟨4, 9#128⟩, 0) := by decide
theorem kv2 : worthS (lookL kN) [kX, kA', kU] 2 = (⟨4, 2#128⟩, 0) := by decide
theorem kv3 : worthS (lookL kN) [kX, kA', kU] 3 = (⟨0, 0#128⟩, 0) := by decide
theorem kv4 : worthS (lookL kN) [kX, kA', kU] 4 = (⟨0, 0#128⟩, 40) := by decide
theorem kv5 : worthS (lookL []) [kX, kA', kU] 3 = (⟨0, 0#128⟩, 41) := by decide
theorem kf1 : fullS (lookL []) [kX, kA', kU] (varsT [kX, kA', kU] 3) = [⟨⟨#[120]⟩, ⟨4, 0#128⟩⟩] := by decide
theorem ka1 : applyS 9 0 0 [⟨0, 1#128⟩, ⟨2, 3#128⟩, ⟨2, 0#128⟩] = (⟨2, 3#128⟩, 0) := by decide
end Go.Proofs.Ytiaoojghohfkjaa
