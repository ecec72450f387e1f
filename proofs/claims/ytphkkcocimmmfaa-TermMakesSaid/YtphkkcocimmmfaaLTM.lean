/- The law TermMakes. -/
import Derived.Test.YtphkkcocimmmfaaTZ3
import Derived.Test.YtphkkcocimmmfaaTZ4
namespace Go.Proofs.Ytphkkcocimmmfaa
set_option maxRecDepth 100000
set_option maxHeartbeats 4000000

theorem rmk_run {H : AHeap} {g : Nat} {most : Int} {ns : List Nd} {F : List Nat} (G : GR H g most ns F) {n : Nd} {r : Option (AV × AHeap)} (h : R f_plait_plaitref3_Graph_Make [.ptr g 0, .agg n.cs] H = r) : GvR H g most F (makT most ns n) r := by
  by_cases h1 : n.op = 1
  · exact rmk1_run G h1 h
  by_cases h2 : n.op = 2
  · exact rmk2_run G h2 h
  exact rmk3_run G h1 h2 h

/-- Both graphs. -/
structure Two (H0 H : AHeap) (g q : Nat) (most : Int) (ns : List Nd) (F E : List Nat) : Prop where
  gt : GT H g most ns F
  gr : GR H q most ns E
  kp : Keeps H0 H
  fF : ∀ p, p ∈ F → H0.size ≤ p
  fE : ∀ p, p ∈ E → H0.size ≤ p
  dj : ∀ p, p ∈ F → p ∉ E
theorem Two.make {H0 H H1 H2 : AHeap} {g q : Nat} {most : Int} {ns js : List Nd} {F E F' E' : List Nat} (T : Two H0 H g q most ns F E) (g1 : GT H1 g most js F') (m1 : MvT F H F' H1) (g2 : GR H2 q most js E') (m2 : MvT E H1 E' H2) : Two H0 H2 g q most js F' E' := by
  have hF' : ∀ p, p ∈ F' → H0.size ≤ p := fun p hp => by
    rcases m1.new p hp with h | h
    · exact T.fF p h
    · exact Nat.le_trans T.kp.size h
  have dj1 : ∀ p, p ∈ F' → p ∉ E := fun p hp hE => by
    rcases m1.new p hp with h | h
    · exact T.dj p h hE
    · have := T.gr.lt p hE; omega
  have k1 := m1.fr.keeps T.kp T.fF
  refine ⟨g1.same m2.fr.size fun p hp => m2.fr.obj p (g1.lt p hp) (dj1 p hp), g2, m2.fr.keeps k1 T.fE, hF', fun p hp => ?_, fun p hp hE => ?_⟩
  · rcases m2.new p hp with h | h
    · exact T.fE p h
    · exact Nat.le_trans k1.size h
  · rcases m2.new p hE with h | h
    · exact dj1 p hp h
    · have := g1.lt p hp; omega
theorem Two.keeps {H0 H H' : AHeap} {g q : Nat} {most : Int} {ns : List Nd} {F E : List Nat} (T : Two H0 H g q most ns F E) (k : Keeps H H') : Two H0 H' g q most ns F E :=
  ⟨T.gt.keeps k, T.gr.keeps k, T.kp.trans k, T.fF, T.fE, T.dj⟩

theorem cones_of {H1 : AHeap} {g q : Nat} {most : Int} {ns : List Nd} {F E : List Nat} (G : GT H1 g most ns F) (G' : GR H1 q most ns E) (x : Int) : ∃ V W : AHeap → AV, (∀ H2, Keeps H1 H2 → R f_plait_term_Graph_Cone [.ptr g 0, .int .i64 x] H2 = some (V H2, H2)) ∧ (∀ H2, Keeps H1 H2 → R f_plait_plaitref3_Graph_Cone [.ptr q 0, .int .i64 x] H2 = some (W H2, H2)) ∧ ∀ A B H', Keeps H1 A → Keeps H1 B → R f_plaithelp_Ints [V A, W B] H' = some (.bool true, H') := by
  refine ⟨fun H2 => ((R f_plait_term_Graph_Cone [.ptr g 0, .int .i64 x] H2).getD (.nils, H2)).1, fun H2 => ((R f_plait_plaitref3_Graph_Cone [.ptr q 0, .int .i64 x] H2).getD (.nils, H2)).1, fun H2 k => ?_, fun H2 k => ?_, fun A B H' ka kb => ?_⟩
  · obtain ⟨v, h1, -⟩ := cone_run2 (G.keeps k) (id := x)
    simp only [h1, Option.getD_some]
  · obtain ⟨v, h1, -⟩ := rcone_run (G'.keeps k) (id := x)
    simp only [h1, Option.getD_some]
  · obtain ⟨v, h1, h2⟩ := cone_run2 (G.keeps ka) (id := x)
    obtain ⟨w, h3, h4⟩ := rcone_run (G'.keeps kb) (id := x)
    obtain ⟨o1, o2, o3, t, -, -, -⟩ := G
    have lim := t.lim
    have lim2 := t.lim2
    have hcl : (coneT ns x).length ≤ 1000000 := by
      unfold coneT
      split
      · simp
      · exact Nat.le_trans (outT_len _ _) (by omega)
    have := ints_run (h2 H') (h4 H') hcl
    simp only [h1, h3, Option.getD_some]
    rw [this]; simp

theorem makes_loop0 {H0 H : AHeap} {g q : Nat} {most : Int} {l : List Nd} {F E : List Nat} (hl : l.length ≤ 200) (T : Two H0 H g q most [] F E) {e : Env} {r : Rn} (hL : loopL Go.Proofs.Try.prog KT R l_plaitlaw3_TermMakes_0 e H = r)
    (e1' : e 1 = some (NL l)) (e9 : e 9 = some (.ptr g 0)) (e10 : e 10 = some (.ptr q 0)) (e11 : e 11 = some (.int .i64 0)) :
    ∃ y e' H', r = some (y, e', H') ∧ (y = .exit 0 ∧ ∃ ns F E, Two H0 H' g q most ns F E) ∧ ∀ t, t ∉ defs l_plaitlaw3_TermMakes_0 → e' t = e t := by
  refine loop_count l_plaitlaw3_TermMakes_0.eq_1 hL l.length (fun i e1 H1 => e1 11 = some (.int .i64 i) ∧ ∃ ns F E, Two H0 H1 g q most ns F E) _ 0 (by omega) ⟨e11, [], F, E, T⟩ ?_ ?_
  · rintro i f H1 hf - hi ⟨f11, ns, F1, E1, T1⟩
    have w1 : IntKind.i64.wrap ((i : Int) + 1) = (i : Int) + 1 := i64w (by omega) (by omega)
    have c1 : (i : Int) < l.length := by omega
    obtain ⟨n, hn⟩ : ∃ n, l[i]? = some n := ⟨l[i], by simp [hi]⟩
    have hat := flat_at hn
    have hfl := flat_len l
    have hle : i * 11 + 11 ≤ l.length * 11 := by omega
    simp (maxDischargeDepth := 40) [hf, NL, e1', e9, f11, c1, hfl, hle, hat]
    generalize hN : R f_plait_term_Graph_Make _ _ = qq
    obtain ⟨js, x, er, hmk⟩ : ∃ js x er, makT most ns n = (js, x, er) := ⟨_, _, _, rfl⟩
    obtain ⟨H2, F2, rfl, g2, m2⟩ := GvT.go T1.gt hmk hN
    simp (maxDischargeDepth := 40) [hf, NL, e1', e10, f11, c1, hfl, hle, hat]
    generalize hN2 : R f_plait_plaitref3_Graph_Make _ _ = qq
    have G1 : GR H2 q most ns E1 := T1.gr.same m2.fr.size fun p hp => m2.fr.obj p (T1.gr.lt p hp) (fun h => T1.dj p h hp)
    obtain ⟨H3, E3, rfl, g3, m3⟩ := rmk_run G1 hN2
    rw [hmk] at g3
    rw [hmk]
    have T3 := T1.make g2 m2 g3 m3
    have hlen : R f_plait_term_Graph_Len [.ptr g 0] H3 = some (.int .i64 js.length, H3) := by
      obtain ⟨o1, o2, o3, t, -, -, -⟩ := T3.gt
      exact len_run t
    obtain ⟨o, t, -, -, -⟩ := id T3.gr
    have og := t.og
    have hsl := slv_len o js
    simp (maxDischargeDepth := 40) [hf, e9, e10, f11, hlen, og, hsl, w1]
    exact ⟨js, F2, E3, T3⟩
  · rintro f H1 hf ⟨f11, ns, F1, E1, T1⟩
    simp [hf, NL, f11, e1']
    exact ⟨ns, F1, E1, T1⟩

theorem makes_loop1 {H0 H : AHeap} {g q : Nat} {most : Int} {ns : List Nd} {F E : List Nat} (T : Two H0 H g q most ns F E) {e : Env} {r : Rn} (hL : loopL Go.Proofs.Try.prog KT R l_plaitlaw3_TermMakes_1 e H = r)
    (e9 : e 9 = some (.ptr g 0)) (e10 : e 10 = some (.ptr q 0)) (e16 : e 16 = some (.int .i64 (-1))) :
    ∃ y e' H', r = some (y, e', H') ∧ (y = .exit 2 ∧ Keeps H H') ∧ ∀ t, t ∉ defs l_plaitlaw3_TermMakes_1 → e' t = e t := by
  obtain ⟨o1, o2, o3, t, -, -, -⟩ := T.gt
  obtain ⟨o, t', -, -, -⟩ := T.gr
  have lim := t.lim
  have lim2 := t.lim2
  have w0 : IntKind.i64.wrap ((ns.length : Int) + 1) = (ns.length : Int) + 1 := i64w (by omega) (by omega)
  refine loop_count l_plaitlaw3_TermMakes_1.eq_1 hL (ns.length + 3) (fun i e1 H1 => e1 16 = some (.int .i64 ((i : Int) - 1)) ∧ Keeps H H1) _ 0 (by omega) ⟨e16, Keeps.refl _⟩ ?_ ?_
  · rintro i f H1 hf - hi ⟨f16, k1⟩
    have w1 : IntKind.i64.wrap (i : Int) = (i : Int) := i64w (by omega) (by omega)
    have e1i : (i : Int) - 1 + 1 = i := by omega
    have e2i : ((i + 1 : Nat) : Int) - 1 = i := by omega
    have c1 : (i : Int) - 1 ≤ (ns.length : Int) + 1 := by omega
    have T1 := T.keeps k1
    have og := (t'.keep k1).og
    have hsl := slv_len o ns
    have hnode := fun H2 (k : Keeps H1 H2) => node_run (t.keep (k1.trans k)) (id := (i : Int) - 1)
    have hat := fun H2 (k : Keeps H1 H2) => at_run (t'.keep (k1.trans k)) (id := (i : Int) - 1)
    generalize (i : Int) - 1 = x at *
    obtain ⟨m, hm⟩ : ∃ m, m = (nodeS ns x).getD Nd.zero := ⟨_, rfl⟩
    rw [← hm] at hnode hat
    clear hm
    generalize (nodeS ns x).isSome = b at hnode hat
    obtain ⟨op, sort, ma, mb, mc, p, qq, vw, vl, vh, name⟩ := m
    simp only [Nd.cs] at hnode hat
    obtain ⟨V, W, hV, hW, hI⟩ := cones_of T1.gt T1.gr x
    simp (maxDischargeDepth := 40) [hf, e9, e10, f16, og, hsl, w0, c1, hnode, hat, hV, hW, hI, e1i, w1]
    exact k1.trans ((((Keeps.new _ _).set (Nat.le_refl _) _).new' _).set (Nat.le_succ _) _)
  · rintro f H1 hf ⟨f16, k1⟩
    have og := (t'.keep k1).og
    have hsl := slv_len o ns
    have c1 : ¬ ((ns.length + 3 : Nat) : Int) - 1 ≤ (ns.length : Int) + 1 := by omega
    generalize ((ns.length + 3 : Nat) : Int) - 1 = x at *
    simp (maxDischargeDepth := 40) [hf, f16, e10, og, hsl, w0, c1]
    exact k1

theorem makes_run {H : AHeap} {most id : Int} {l : List Nd} {name : ByteArray} : R f_plaitlaw3_TermMakes [.int .i64 most, NL l, .int .i64 id, .str name] H = some (.bool true, H) := by
  generalize h : R f_plaitlaw3_TermMakes _ _ = r
  have hk := fun H => known_run (H := H)
  obtain ⟨b, hli, hb⟩ := light_run (H := H) (l := l)
  rw [e_plaitlaw3_TermMakes] at h
  cases b with
  | false => simp (maxDischargeDepth := 40) [c_plaitlaw3_TermMakes, hk, hli] at h; exact h.symm
  | true =>
    have hl := hb rfl
    simp (maxDischargeDepth := 40) [c_plaitlaw3_TermMakes, hk, hli] at h
    generalize hN : R f_term_New _ _ = q at h
    obtain ⟨H1, g, F1, rfl, g1, k1, f1⟩ := tnew_run hN
    simp (maxDischargeDepth := 40) at h
    generalize hN : R f_plaitref3_New _ _ = q at h
    obtain ⟨H2, q, E2, rfl, g2, k2, f2⟩ := rnew_run hN
    simp (maxDischargeDepth := 40) at h
    have T2 : Two H H2 g q (min (max most 1) 4096) [] F1 E2 := ⟨g1.keeps k2, g2, k1.trans k2, f1, fun p hp => Nat.le_trans k1.size (f2 p hp), fun p hp hE => by have := g1.lt p hp; have := f2 p hE; omega⟩
    generalize hL : loopL _ _ _ _ _ _ = q2 at h
    obtain ⟨y, e3, H3, rfl, ⟨rfl, ns, F3, E3, T3⟩, fr⟩ := makes_loop0 hl T2 hL (by simp) (by simp) (by simp) (by simp)
    simp (maxDischargeDepth := 40) [fr] at h
    generalize hL : loopL _ _ _ _ _ _ = q2 at h
    obtain ⟨y, e4, H4, rfl, ⟨rfl, k4⟩, fr4⟩ := makes_loop1 T3 hL (by simp [fr]) (by simp [fr]) (by simp)
    have T4 := T3.keeps k4
    have kp := T4.kp
    obtain ⟨o1, o2, o3, t, -, -, -⟩ := T4.gt
    obtain ⟨o, t', -, -, -⟩ := T4.gr
    have lim := t.lim
    have lim2 := t.lim2
    have z4 : H.size ≤ H4.size := kp.size
    have z5 : H.size ≤ H4.size + 1 := Nat.le_succ_of_le z4
    have hvar := var_run t (s := name)
    have hvar' := rvar_run t' (s := name)
    have hnode := fun H2 (k : Keeps H4 H2) => node_run (t.keep k) (id := id)
    have hat := fun H2 (k : Keeps H4 H2) => at_run (t'.keep k) (id := id)
    obtain ⟨V, W, hV, hW, hI⟩ := cones_of T4.gt T4.gr id
    obtain ⟨w0, hw0⟩ : ∃ w : Int, ((vidx ns name).map num).getD (.int .i64 0) = .int .i64 w := by
      cases vidx ns name with
      | none => exact ⟨0, rfl⟩
      | some i => exact ⟨_, rfl⟩
    rw [hw0] at hvar hvar'
    generalize (vidx ns name).isSome = b0 at hvar hvar'
    obtain ⟨m, hm⟩ : ∃ m, m = (nodeS ns id).getD Nd.zero := ⟨_, rfl⟩
    rw [← hm] at hnode hat
    clear hm
    generalize (nodeS ns id).isSome = b at hnode hat
    obtain ⟨op, sort, ma, mb, mc, p, qq, vw, vl, vh, nm⟩ := m
    simp only [Nd.cs] at hnode hat
    obtain ⟨X, Y, hX, hY, hZ⟩ : ∃ X Y : AHeap → AV, (∀ H2, Keeps H4 H2 → R f_plait_term_Graph_Vars [.ptr g 0] H2 = some (X H2, H2)) ∧ (∀ H2, Keeps H4 H2 → R f_plait_plaitref3_Graph_Vars [.ptr q 0] H2 = some (Y H2, H2)) ∧ ∀ A B, Keeps H4 A → Keeps H4 B → Keeps A B → R f_plaithelp_Ints [X A, Y B] B = some (.bool true, B) := by
      refine ⟨fun H2 => ((R f_plait_term_Graph_Vars [.ptr g 0] H2).getD (.nils, H2)).1, fun H2 => ((R f_plait_plaitref3_Graph_Vars [.ptr q 0] H2).getD (.nils, H2)).1, fun H2 k => ?_, fun H2 k => ?_, fun A B ka kb kab => ?_⟩
      · obtain ⟨v, h1, -⟩ := vars_run (T4.gt.keeps k)
        simp only [h1, Option.getD_some]
      · obtain ⟨v, h1, -⟩ := rvars_run (T4.gr.keeps k)
        simp only [h1, Option.getD_some]
      · obtain ⟨v, h1, h2⟩ := vars_run (T4.gt.keeps ka)
        obtain ⟨w, h3, h4⟩ := rvars_run (T4.gr.keeps kb)
        have := ints_run (h2.keep kab) (h4 B) (Nat.le_trans (varsT_len _ _) (by omega))
        simp only [h1, h3, Option.getD_some]
        rw [this]; simp
    simp (maxDischargeDepth := 40) (maxSteps := 4000000) [fr, fr4, hvar, hvar', hnode, hat, hV, hW, hI, hX, hY, hZ, kp, z4, z5] at h
    exact h.symm

theorem TermMakes_law {a0 a1 a2 a3 : AV} (y0 : TV Go.Proofs.Try.prog 8 3 a0) (y1 : TV Go.Proofs.Try.prog 8 83 a1) (y2 : TV Go.Proofs.Try.prog 8 3 a2) (y3 : TV Go.Proofs.Try.prog 8 9 a3) : ∃ H', R f_plaitlaw3_TermMakes [a0, a1, a2, a3] H0 = some (.bool true, H') := by
  obtain ⟨n0, rfl, -⟩ := tv_int3 y0
  obtain ⟨l, rfl⟩ := tv_nodes (d := 4) y1
  obtain ⟨n2, rfl, -⟩ := tv_int3 y2
  obtain ⟨s, rfl, -⟩ := tv_str Go.Proofs.Try.underlying9 y3
  exact ⟨_, makes_run⟩
end Go.Proofs.Ytphkkcocimmmfaa
