/- The statements' own script of an encoder in the heap. -/
import Derived.Test.YtdbbkhmiflignaaCW
namespace Go.Proofs.Ytdbbkhmiflignaa
set_option maxRecDepth 100000
set_option maxHeartbeats 2000000

abbrev St3 := Int × Int × Int
def s3c (ss : List St3) : List AV := ss.flatMap fun s => [.int .i64 s.1, .int .i64 s.2.1, .int .i64 s.2.2]
theorem s3_len (ss : List St3) : (s3c ss).length = ss.length * 3 := by
  induction ss with
  | nil => rfl
  | cons a l ih => unfold s3c at *; simp at *; omega
theorem s3_at {ss : List St3} : ∀ {i : Nat} {s : St3}, ss[i]? = some s → (s3c ss)[i * 3]? = some (.int .i64 s.1) ∧ (s3c ss)[i * 3 + 1]? = some (.int .i64 s.2.1) ∧ (s3c ss)[i * 3 + 2]? = some (.int .i64 s.2.2) := by
  induction ss with
  | nil => intro i s h; simp at h
  | cons a l ih =>
    intro i s h
    cases i with
    | zero => simp at h; subst h; simp [s3c]
    | succ i =>
      have := ih (i := i) (s := s) (by simpa using h)
      rw [show (i + 1) * 3 = i * 3 + 3 from by omega, show i * 3 + 3 + 1 = (i * 3 + 1) + 3 from by omega, show i * 3 + 3 + 2 = (i * 3 + 2) + 3 from by omega]
      simpa [s3c] using this
section
variable {Hb H H' : AHeap} {x g e mo to : Nat} {av lv rv : AV} {vs : List AV} {G : List Nat} {s : PS}
theorem XR.grow (X : XR Hb H x g e mo to av lv rv vs G s) {ks : Kd} {G' : List Nat} (g' : GAt H' g 60 ks G') (m : Mv G H G' H') : XR Hb H' x g e mo to av lv rv vs G' (s.grow ks) := by
  obtain ⟨t, t0, t1, t2, t3, t4, t5, t6, t7⟩ := X.tg
  have F := m.fr
  have nG : ∀ p, t p ≠ 2 → p ∉ G := fun p hp hm => hp (t4 p hm)
  have z := F.size
  have zb := X.kb.size
  refine ⟨?_, F.lt X.lo, X.er.keep F fun p hp => ?_, g', X.cr.keep F fun p hp => nG p (by have := t5 p hp; omega), X.lr.frO F fun p hp => nG p (by have := t6 p hp; omega), X.lg, X.rr.frO F fun p hp => nG p (by have := t7 p hp; omega), X.rg, F.keeps X.kb fun p hp => X.nb p (by simp [hp]), fun p hp => ?_, ⟨fun p => if p < H.size then t p else 2, ?_, ?_, ?_, ?_, fun p hp => ?_, fun p hp => ?_, fun p hp => ?_, fun p hp => ?_⟩⟩
  · rw [F.obj x X.lo (nG x (by omega))]; exact X.self
  · simp [crO] at hp
    rcases hp with rfl | rfl | rfl <;> exact nG _ (by omega)
  · rcases hp with h | h | h | h | h | h
    · exact X.nb p (by simp [h])
    · exact X.nb p (by simp [h])
    · exact X.nb p (by simp [h])
    · exact X.nb p (by simp [h])
    · rcases m.new p h with h1 | h1
      · exact X.nb p (by simp [h1])
      · omega
    · exact X.nb p (by simp [h])
  · simp [X.lo, t0]
  · simp [X.er.lo, t1]
  · simp [X.er.lm, t2]
  · simp [X.er.lt, t3]
  · show ite _ _ _ = _
    by_cases c : p < H.size
    · rw [if_pos c]
      rcases m.new p hp with h1 | h1
      · exact t4 p h1
      · omega
    · rw [if_neg c]
  · show ite _ _ _ = _
    rw [if_pos (X.cr.lt hp)]; exact t5 p hp
  · show ite _ _ _ = _
    rw [if_pos (X.lr.lt hp)]; exact t6 p hp
  · show ite _ _ _ = _
    rw [if_pos (X.rr.lt hp)]; exact t7 p hp
theorem XR.upd (X : XR Hb H x g e mo to av lv rv vs G s) {E' : En} (F : Fr [x, e] H H') (hs : H'.obj x = .cells [.ptr g 0, .ptr e 0, av, lv, rv, .bool true]) (er' : ERep H' e g E' mo to .nils [] []) : XR Hb H' x g e mo to av lv rv vs G { s with E := E' } := by
  obtain ⟨t, t0, t1, t2, t3, t4, t5, t6, t7⟩ := X.tg
  have nX : ∀ p, 2 ≤ t p → p ∉ [x, e] := fun p hp hm => by
    simp at hm
    rcases hm with rfl | rfl <;> omega
  refine ⟨hs, F.lt X.lo, er', X.ga.keep F fun p hp => nX p (by have := t4 p hp; omega), X.cr.keep F fun p hp => nX p (by have := t5 p hp; omega), X.lr.frO F fun p hp => nX p (by have := t6 p hp; omega), X.lg, X.rr.frO F fun p hp => nX p (by have := t7 p hp; omega), X.rg, F.keeps X.kb fun p hp => ?_, X.nb, ⟨t, t0, t1, t2, t3, t4, t5, t6, t7⟩⟩
  simp at hp
  exact X.nb p (by rcases hp with h | h <;> simp [h])
end
theorem ERep.set_other {H : AHeap} {e g : Nat} {E : En} {mo to : Nat} (h : ERep H e g E mo to .nils [] []) {x : Nat} {y : AObj} (h1 : x ≠ e) (h2 : x ≠ mo) (h3 : x ≠ to) : ERep (H.set x y) e g E mo to .nils [] [] :=
  h.keep ((Fr.refl [x] H).set (.inl (by simp)) _) fun p hp => by
    simp [crO] at hp ⊢
    rcases hp with rfl | rfl | rfl <;> (intro e; exact absurd e.symm (by assumption))
theorem play_snoc : ∀ (l : List St3) (s : PS) (t : St3), s.play (l ++ [t]) = (s.play l).step t
  | [], _, _ => rfl
  | _ :: l, _s, t => play_snoc l _ t
theorem place_lit {k : Int} {n : Nat} : isL n (placeF k (2 * (n : Int) + 2)) := by
  have := placeF_in (k := k) (n := 2 * (n : Int) + 2) (by omega)
  unfold isL
  omega
theorem PI.step {first : Int} {s : PS} {k : Nat} (h : PI first s k) (t : St3) : PI first (s.step t) (k + 1) := by
  unfold PS.step
  simp only
  split
  · split
    · have := h.rt.put (k := (0, 0)) (by simp)
      exact h.grow this.more this.rt
    · exact h.more
  · split
    · have := h.rt.and (placeF t.2.1 (2 * (s.ks.length : Int) + 2)) (placeF t.2.2 (2 * (s.ks.length : Int) + 2))
      exact h.grow this.more this.rt
    · split
      · have := h.rt.xor (placeF t.2.1 (2 * (s.ks.length : Int) + 2)) (placeF t.2.2 (2 * (s.ks.length : Int) + 2))
        exact h.grow this.more this.rt
      · split
        · exact h.root place_lit
        · split
          · exact h.fresh
          · exact h.more
end Go.Proofs.Ytdbbkhmiflignaa
