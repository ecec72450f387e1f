/- The statements' own script of an encoder in the heap: all steps. -/
import Derived.Test.YtdbbkhmiflignaaCXR
import Derived.Test.YtdbbkhmiflignaaCXL
namespace Go.Proofs.Ytdbbkhmiflignaa
set_option maxRecDepth 100000

/-- The script's steps. -/
theorem play_loop {Hb H : AHeap} {x g e mo to : Nat} {av lv rv : AV} {vs : List AV} {G : List Nat} {first : Int} {ss : List St3} {w : AV} (hw : Reads Hb w 3 ss.length (s3c ss)) (hn : ss.length ≤ 100) (hf1 : first ≤ 1000)
    (X : XR Hb H x g e mo to av lv rv vs G (PS.start first)) (P : PI first (PS.start first) 0) {ev : Env} {r : Rn} (hL : loopL Go.Proofs.Try.prog KT R l_plaitlaw10_play_0 ev H = r)
    (e0 : ev 0 = some w) (e5 : ev 5 = some (.ptr x 0)) (e6 : ev 6 = some (.int .i64 0)) :
    ∃ y e' H', r = some (y, e', H') ∧ (y = .exit 0 ∧ ∃ av' lv' rv' vs' G', XR Hb H' x g e mo to av' lv' rv' vs' G' ((PS.start first).play ss) ∧ PI first ((PS.start first).play ss) ss.length) ∧ ∀ t, t ∉ defs l_plaitlaw10_play_0 → e' t = ev t := by
  refine loop_count (b' := l_plaitlaw10_play_0) rfl hL ss.length (fun i e1 H1 => e1 6 = some (.int .i64 i) ∧ ∃ av' lv' rv' vs' G', XR Hb H1 x g e mo to av' lv' rv' vs' G' ((PS.start first).play (ss.take i)) ∧ PI first ((PS.start first).play (ss.take i)) i) _ 0 (Nat.zero_le _) ⟨e6, av, lv, rv, vs, G, X, P⟩ ?_ ?_
  · rintro i e1 H1 hf - hi ⟨f6, av, lv, rv, vs, G, X, P⟩
    obtain ⟨⟨wt, a, b⟩, hst⟩ : ∃ t, ss[i]? = some t := ⟨_, List.getElem?_eq_getElem hi⟩
    have ta : ss.take (i + 1) = ss.take i ++ [(wt, a, b)] := by rw [List.take_add_one, hst]; rfl
    rw [ta, play_snoc]
    obtain ⟨s, hs⟩ : ∃ s, s = (PS.start first).play (ss.take i) := ⟨_, rfl⟩
    rw [← hs] at X P ⊢
    obtain ⟨a1, a2, a3⟩ := s3_at hst
    have form : (∃ o off f all, w = .row o off 3 ss.length f ∧ H1.obj o = .cells all ∧ all[off + i * 3]? = some (.int .i64 wt) ∧ all[off + i * 3 + 1]? = some (.int .i64 a) ∧ all[off + i * 3 + 2]? = some (.int .i64 b)) ∨ w = .lst 3 ss.length (s3c ss) := by
      obtain ⟨g1, g2, g3, g4⟩ := hw
      cases w <;> first | (exact g4.elim) | skip
      · simp [sliceLen] at g1; omega
      · rename_i o off sz n f
        obtain ⟨rfl, ho⟩ := g4
        simp [sliceLen] at g1
        subst g1
        unfold sliceCells at g2
        simp only at g2
        split at g2 <;> first | (cases g2; done) | skip
        rename_i all hob
        split at g2 <;> first | (cases g2; done) | skip
        rename_i hle
        simp only [Option.some.injEq] at g2
        have gt : ∀ j, j < ss.length * 3 → (s3c ss)[j]? = all[off + j]? := fun j hj => by
          rw [← g2, List.getElem?_take_of_lt hj, List.getElem?_drop]
        refine .inl ⟨o, off, f, all, rfl, by rw [X.kb.obj o ho]; exact hob, ?_, ?_, ?_⟩
        · rw [← gt _ (by omega)]; exact a1
        · rw [Nat.add_assoc, ← gt _ (by omega)]; exact a2
        · rw [Nat.add_assoc, ← gt _ (by omega)]; exact a3
      · rename_i sz n cs
        have g4 : sz = 3 := g4
        subst g4
        simp [sliceLen] at g1
        subst g1
        simp [sliceCells] at g2
        subst g2
        exact .inr rfl
    have key : Wp (evalL Go.Proofs.Try.prog KT R l_plaitlaw10_play_0 e1 H1) fun y e2 H2 => y = .normal ∧ e2 6 = some (.int .i64 (i + 1 : Nat)) ∧ ∃ av' lv' rv' vs' G', XR Hb H2 x g e mo to av' lv' rv' vs' G' (s.step (wt, a, b)) ∧ PI first (s.step (wt, a, b)) (i + 1) := by
      rcases form with ⟨o, off, f, all, rfl, hob, b1, b2, b3⟩ | rfl
      · exact play_row hn hi hf1 f6 X P ((hf 5 (by simp)).trans e5) ((hf 0 (by simp)).trans e0) hob b1 b2 b3
      · exact play_lst hn hi hf1 f6 X P ((hf 5 (by simp)).trans e5) ((hf 0 (by simp)).trans e0) a1 a2 a3
    obtain ⟨y, e2, H2, h1, rfl, h2⟩ := key
    exact ⟨.normal, e2, H2, h1, h2⟩
  · rintro e1 H1 hf ⟨f6, av, lv, rv, vs, G, X, P⟩
    have hwl := hw.len
    rw [l_plaitlaw10_play_0.eq_1]
    rw [List.take_of_length_le (Nat.le_refl _)] at X P
    simp [hf, f6, e0, hwl]
    exact ⟨⟨av, lv, rv, vs, G, X⟩, P⟩
end Go.Proofs.Ytdbbkhmiflignaa
