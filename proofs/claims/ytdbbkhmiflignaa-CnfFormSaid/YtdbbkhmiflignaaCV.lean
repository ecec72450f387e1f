/- The statements' own script of an encoder in the heap: a root. -/
import Derived.Test.YtdbbkhmiflignaaCU
namespace Go.Proofs.Ytdbbkhmiflignaa
set_option maxRecDepth 100000

theorem CR.app {H H' : AHeap} {v v' w : AV} {vs ws : List AV} {C D : List (List Int)} (h : CR H v vs C) (k : CR H w ws D) (F : Fr (objs v) H H') (hws : ∀ p, p ∈ ws.flatMap objs → p ∉ objs v) (rd : Reads H' v' 1 (C.length + D.length) (vs ++ ws)) (gr : grows v')
    (hv' : ∀ p, p ∈ objs v' → p ∈ objs v ∨ p = H.size ∧ H'.size = H.size + 1) : CR H' v' (vs ++ ws) (C ++ D) := by
  refine ⟨by simpa using rd, gr, fun i x d hx hd => ?_⟩
  rcases Nat.lt_or_ge i vs.length with hi | hi
  · rw [List.getElem?_append_left hi] at hx
    rw [List.getElem?_append_left (by rw [← h.len]; exact hi)] at hd
    obtain ⟨p, g, rfl, h1, h2, h3⟩ := h.row i x d hx hd
    exact ⟨p, g, rfl, F.lt h1, by rw [F.obj p h1 h3]; exact h2, fun e => by
      rcases hv' p e with h4 | ⟨h4, -⟩
      · exact h3 h4
      · omega⟩
  · rw [List.getElem?_append_right hi] at hx
    rw [List.getElem?_append_right (by rw [← h.len]; exact hi), ← h.len] at hd
    obtain ⟨p, g, rfl, h1, h2, h3⟩ := k.row _ x d hx hd
    have hp : p ∉ objs v := hws p (List.mem_flatMap.2 ⟨_, List.mem_of_getElem? hx, by simp⟩)
    exact ⟨p, g, rfl, F.lt h1, by rw [F.obj p h1 hp]; exact h2, fun e => by
      rcases hv' p e with h4 | ⟨h4, -⟩
      · exact hp h4
      · omega⟩
theorem cr_one {H : AHeap} {v : AV} {vs : List AV} {C : List (List Int)} (h : CR H v vs C) : allOne vs = true := by
  have : ∀ l : List AV, (∀ w, w ∈ l → w.one = true) → allOne l = true := by
    intro l
    induction l with
    | nil => intro _; rfl
    | cons a l ih => intro hl; simp [hl a (by simp), ih fun w hw => hl w (by simp [hw])]
  refine this vs fun w hw => ?_
  obtain ⟨c, -, o, f, rfl, -⟩ := h.get hw
  rfl

/-- The statements' record of a script in the heap. -/
structure XR (Hb H : AHeap) (x g e mo to : Nat) (av lv rv : AV) (vs : List AV) (G : List Nat) (s : PS) : Prop where
  self : H.obj x = .cells [.ptr g 0, .ptr e 0, av, lv, rv, .bool true]
  lo : x < H.size
  er : ERep H e g s.E mo to .nils [] []
  ga : GAt H g 60 s.ks G
  cr : CR H av vs s.C
  lr : Reads H lv 1 s.lits.length (s.lits.map (.int .i64))
  lg : grows lv
  rr : Reads H rv 1 s.roots.length (s.roots.map (.int .i64))
  rg : grows rv
  kb : Keeps Hb H
  nb : ∀ p, p = x ∨ p = e ∨ p = mo ∨ p = to ∨ p ∈ G ∨ p ∈ crO av vs ∨ p ∈ objs lv ∨ p ∈ objs rv → Hb.size ≤ p
  tg : ∃ t : Nat → Nat, t x = 0 ∧ t e = 1 ∧ t mo = 1 ∧ t to = 1 ∧ (∀ p, p ∈ G → t p = 2) ∧ (∀ p, p ∈ crO av vs → t p = 3) ∧ (∀ p, p ∈ objs lv → t p = 4) ∧ ∀ p, p ∈ objs rv → t p = 5

theorem spoil_loop {H : AHeap} {w : AV} {ws : List AV} {D : List (List Int)} (hw : CR H w ws D) (hl : D.length ≤ 1000000) (hne : ∀ c, c ∈ D → c.length ≤ 1000000) {ev : Env} {r : Rn} (hL : loopL Go.Proofs.Try.prog KT R l_plait_plaitlaw10_run_root_0 ev H = r)
    (e5 : ev 5 = some w) (e10 : ev 10 = some (.int .i64 0)) : ∃ x e' H', r = some (x, e', H') ∧ (x = .exit 0 ∧ Fr (ws.flatMap objs) H H') ∧ ∀ t, t ∉ defs l_plait_plaitlaw10_run_root_0 → e' t = ev t := by
  refine loop_count l_plait_plaitlaw10_run_root_0.eq_1 hL D.length (fun i e1 H1 => e1 10 = some (.int .i64 i) ∧ Fr (ws.flatMap objs) H H1 ∧ ∀ (j : Nat) o f, j < D.length → ws[j]? = some (.row o 0 1 (D.getD j []).length f) → ∃ cs, H1.obj o = .cells cs ∧ cs.length = (D.getD j []).length) _ 0 (Nat.zero_le _) ⟨e10, Fr.refl _ _, fun j o f hj ho => ?_⟩ ?_ ?_
  · obtain ⟨o', f', h1, h2, h3, -⟩ := hw.at hj
    rw [h1] at ho
    simp at ho
    obtain ⟨rfl, rfl⟩ := ho
    exact ⟨_, h3, by simp⟩
  · rintro i e1 H1 hf - hi ⟨f10, F1, hr⟩
    have w1 : IntKind.i64.wrap ((i : Int) + 1) = (i : Int) + 1 := i64w (by omega) (by omega)
    have c1 : (i : Int) < D.length := by omega
    have rd1 := hw.rd.frO F1 fun p hp hq => by
      obtain ⟨w', hw', hpw⟩ := List.mem_flatMap.1 hq
      obtain ⟨c', -, o', f', rfl, -, -, hno⟩ := hw.get hw'
      simp at hpw
      subst hpw; exact hno hp
    obtain ⟨o, f, h1, h2, -, -⟩ := hw.at hi
    obtain ⟨cs, h3, h4⟩ := hr i o f hi h1
    have a1 := rd1.addr (P := Go.Proofs.Try.prog) (t := T_s_s_int) (by simp) hi
    have a2 := rd1.at (P := Go.Proofs.Try.prog) (t := T_s_int) (by simp) rfl hi
    rw [h1] at a2
    have hmem : D.getD i [] ∈ D := by simp [List.getD_eq_getElem?_getD, hi]
    simp (maxDischargeDepth := 40) [hf, f10, e5, rd1.len, c1, a1, a2]
    generalize hA : R f_plaithelp_Spoil _ _ = q
    obtain ⟨H2, cs', rfl, F2, o2, l2⟩ := spoil_run (F1.lt h2) h3 h4 (hne _ hmem) hA
    simp [f10, w1]
    have gen : ∀ (j : Nat) o' f', j < D.length → ws[j]? = some (.row o' 0 1 (D.getD j []).length f') → ∃ cs, H2.obj o' = .cells cs ∧ cs.length = (D.getD j []).length := fun j o' f' hj ho' => by
      obtain ⟨ct, q1, q2⟩ := hr j o' f' hj ho'
      by_cases c : o' = o
      · subst c
        rw [h3] at q1
        cases q1
        exact ⟨cs', o2, by omega⟩
      · obtain ⟨o3, f3, q3, q4, -⟩ := hw.at hj
        have : o3 = o' := by
          rw [q3] at ho'
          simp at ho'
          exact ho'.1
        subst this
        exact ⟨ct, by rw [F2.obj _ (F1.lt q4) (by simpa using c)]; exact q1, q2⟩
    simp only [List.getD_eq_getElem?_getD] at gen
    refine ⟨F1.trans F2 fun p hp => ?_, fun j o' => ⟨gen j o' _, gen j o' _⟩⟩
    simp at hp
    subst hp
    exact .inl (List.mem_flatMap.2 ⟨_, List.mem_of_getElem? h1, by simp⟩)
  · rintro e1 H1 hf ⟨f10, F1, hr⟩
    simp [hf, f10, e5, hw.rd.len]
    exact F1
end Go.Proofs.Ytdbbkhmiflignaa
