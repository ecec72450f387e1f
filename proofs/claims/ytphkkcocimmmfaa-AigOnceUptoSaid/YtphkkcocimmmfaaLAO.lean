/- The law AigOnce. -/
import Derived.Test.YtphkkcocimmmfaaAM3
import Derived.Test.YtphkkcocimmmfaaAX5
namespace Go.Proofs.Ytphkkcocimmmfaa
set_option maxRecDepth 100000
set_option maxHeartbeats 4000000

/-- The first of a slice's. -/
theorem slice_to {P : Program} {H : AHeap} {t : TypeId} {sz n : Nat} {v : AV} {cs : List AV} (h : eszS P t = some sz) (rd : Reads H v sz n cs) {k : Nat} (hk : k ≤ n) : ∃ v', aslice P H t v none (some (.int .i64 (k : Int))) none = some v' ∧ Reads H v' sz k (cs.take (k * sz)) := by
  obtain ⟨g1, g2, g3, g4⟩ := rd
  unfold eszS at h
  unfold aslice
  have h3 : (k : Int) ≤ n := by omega
  have hkn : k * sz ≤ n * sz := Nat.mul_le_mul_right _ hk
  have hsz : (cs.take (k * sz)).length = k * sz := by rw [List.length_take, g3]; omega
  cases hu : P.underlying t with
  | none => rw [hu] at h; cases h
  | some d =>
    rw [hu] at h
    cases d <;> first | (cases h; done) | skip
    simp only at h
    cases v <;> first | (exact g4.elim) | skip
    · simp [sliceLen] at g1
      subst g1
      obtain rfl : k = 0 := by omega
      have : cs = [] := List.eq_nil_of_length_eq_zero (by simpa using g3)
      subst this
      exact ⟨.nils, by simp [h, bound], ⟨rfl, by simp [sliceCells], by simp, trivial⟩⟩
    · rename_i o off s m full
      obtain ⟨rfl, ho⟩ := g4
      simp [sliceLen] at g1
      subst g1
      refine ⟨.row o off s k (full && decide ((k : Int) = m)), by simp [h, bound, h3], ⟨rfl, ?_, hsz, rfl, ho⟩⟩
      unfold sliceCells at g2 ⊢
      simp only at g2 ⊢
      cases hob : H.obj o with
      | cells all =>
        rw [hob] at g2
        simp only at g2 ⊢
        split at g2 <;> first | (cases g2; done) | skip
        rename_i hle
        cases g2
        rw [if_pos (by omega), List.take_take, Nat.min_eq_left hkn]
      | _ => rw [hob] at g2; cases g2
    · rename_i s m ds
      subst g4
      simp [sliceLen] at g1
      subst g1
      simp [sliceCells] at g2
      subst g2
      exact ⟨.lst s k (ds.take (k * s)), by simp [h, bound, h3], ⟨rfl, rfl, hsz, rfl⟩⟩

theorem extU_lst {H : AHeap} {s : AV} {k : Int} {sz by_ : Nat} {z : List AV} (h : 0 ≤ k ∧ k * by_ ≤ 140737488355328 ∧ k ≤ 9223372036854775807 ∧ z.length = sz ∧ 0 < sz) : extU H s k (some (sz, by_, z)) = appU H s (.lst sz k.toNat ((List.replicate k.toNat z).flatten)) (some (sz, by_, z)) := by
  simp only [extU, if_pos h, appU, appC, sliceCells, sliceLen, Option.bind_some]
  rfl

/-- What is asked of a graph. -/
structure Gd (H : AHeap) (o : Nat) (m : Int) (ks : Kd) (F : List Nat) : Prop where
  ga : GAt H o m ks F
  rt : Rt m ks
  uq : Uq ks

theorem once_loop0 {most : Int} {ss : List Sp} (hs : ss.length ≤ 200) {e : Env} {H : AHeap} {r : Rn} (hL : loopL Go.Proofs.Try.prog KT R l_plaitlaw8_AigOnce_0 e H = r) {o : Nat} {F : List Nat} (g : GAt H o (min (max most 1) 32768) [] F)
    (e0 : e 0 = some (.int .i64 most)) (e1' : e 1 = some (.lst 5 ss.length (stepsC ss))) (e7 : e 7 = some (.ptr o 0)) (e8 : e 8 = some (.int .i64 0)) :
    ∃ x e' H', r = some (x, e', H') ∧ (x = .exit 0 ∧ ∃ ks F, Gd H' o (min (max most 1) 32768) ks F) ∧ ∀ t, t ∉ defs l_plaitlaw8_AigOnce_0 → e' t = e t := by
  refine loop_count l_plaitlaw8_AigOnce_0.eq_1 hL ss.length (fun i e1 H1 => e1 8 = some (.int .i64 i) ∧ ∃ ks F, Gd H1 o (min (max most 1) 32768) ks F) _ 0 (Nat.zero_le _) ⟨e8, [], F, g, ⟨by simp; omega, by omega, by simp⟩, fun i j k h => by simp at h⟩ ?_ ?_
  · rintro i f H1 hf - hi ⟨f8, ks, F1, G⟩
    generalize hmm : min (max most 1) 32768 = m at *
    have hmm1 : m ≤ max most 1 := by omega
    obtain ⟨s, hsi⟩ : ∃ s, ss[i]? = some s := ⟨ss[i], List.getElem?_eq_getElem hi⟩
    obtain ⟨b1, b2, b3⟩ := stepsC_at hsi
    have w1 : IntKind.i64.wrap ((i : Int) + 1) = (i : Int) + 1 := i64w (by omega) (by omega)
    have ci : (i : Int) < ss.length := by omega
    have hm := G.rt.most
    have hl := G.rt.le
    have hlits := fun H => lits_run (s := s) (n := ks.length) (by omega) (by omega) (H := H)
    unfold Pure at hlits
    generalize litsF s ↑ks.length = abc at hlits
    obtain ⟨a, b, c⟩ := abc
    simp only at hlits
    have hnodes := fun H' (k : Keeps H1 H') => nodes_run (G.ga.keeps k)
    simp (maxDischargeDepth := 40) [hf, f8, e0, e1', e7, ci, b1, b2, b3, hlits, hnodes]
    generalize hN : R f_plaitlaw8_does _ _ = qq
    have hfit := G.rt.does s.what a b c
    have huq := G.uq.does (m := m) s.what a b c
    have href : (doesF m ks s.what a b c).e ≠ 0 → s.what < 4 → (doesF m ks s.what a b c).ks = ks := does_refused
    obtain ⟨H2, F2, rfl, g2, m2⟩ := does_run G.ga G.rt hN
    have hnodes2 := nodes_run g2
    have hl2 := hfit.rt.most
    generalize doesF m ks s.what a b c = y at *
    obtain ⟨l, er, js⟩ := y
    simp only at *
    have hc2 : ¬ (max most 1 < (js.length : Int)) := by omega
    have fin : ∃ ks F, Gd H2 o m ks F := ⟨js, F2, g2, hfit.rt, huq⟩
    by_cases he : er = 0
    · simp (maxDischargeDepth := 40) [hf, f8, e0, e1', e7, ci, b1, b2, b3, hnodes2, he, hc2, w1]
      exact fin
    by_cases hw : s.what < 4
    · have hjs := href he hw
      subst hjs
      simp (maxDischargeDepth := 40) [hf, f8, e0, e1', e7, ci, b1, b2, b3, hnodes2, he, hw, hc2, w1]
      exact fin
    · simp (maxDischargeDepth := 40) [hf, f8, e0, e1', e7, ci, b1, b2, b3, hnodes2, he, hw, hc2, w1]
      exact fin
  · rintro f H1 hf ⟨f8, ks, F1, G⟩
    simp [hf, f8, e1']
    exact ⟨ks, F1, G⟩

theorem kids_and {m : Int} {ks : Kd} (hr : Rt m ks) {i : Nat} (hi : i < ks.length) : (kidsF ks ((i : Int) + 1) = (0, 0, false) ∧ ks[i]? = some (0, 0)) ∨ ∃ k, ks[i]? = some k ∧ k ≠ (0, 0) ∧ kidsF ks ((i : Int) + 1) = (k.1, k.2, true) ∧ 2 ≤ k.1 ∧ k.1 < k.2 ∧ k.2 < 2 * ((i : Int) + 1) ∧ flip1 k.1 ≠ k.2 := by
  obtain ⟨k, hk⟩ : ∃ k, ks[i]? = some k := ⟨ks[i], List.getElem?_eq_getElem hi⟩
  have e : ((i : Int) + 1 - 1).toNat = i := by omega
  unfold kidsF
  rw [if_pos (by omega), e, hk]
  simp only
  by_cases h : k = (0, 0)
  · exact .inl ⟨by rw [if_pos h], by rw [h]⟩
  · exact .inr ⟨k, rfl, h, by rw [if_neg h], hr.kids i k hk h⟩

theorem once_loop2 {H : AHeap} {o : Nat} {m : Int} {ks : Kd} {F : List Nat} (G : Gd H o m ks F) {n : Nat} (hn : n < ks.length) {p q : Int} {is : Bool} (hk : kidsF ks ((n : Int) + 1) = (p, q, is)) {e : Env} {r : Rn} (hL : loopL Go.Proofs.Try.prog KT R l_plaitlaw8_AigOnce_2 e H = r)
    (e7 : e 7 = some (.ptr o 0)) (e15 : e 15 = some (.int .i64 ((n : Int) + 1))) (e16 : e 16 = some (.int .i64 p)) (e17 : e 17 = some (.int .i64 q)) (e18 : e 18 = some (.bool is)) (e19 : e 19 = some (.int .i64 1)) :
    ∃ x e' H', r = some (x, e', H') ∧ (x = .exit 4 ∧ H' = H) ∧ ∀ t, t ∉ defs l_plaitlaw8_AigOnce_2 → e' t = e t := by
  have hm := G.rt.most
  have hl := G.rt.le
  cases is with
  | false =>
    refine loop_count l_plaitlaw8_AigOnce_2.eq_1 hL 1 (fun i e1 H1 => e1 19 = some (.int .i64 1) ∧ H1 = H) _ 1 (Nat.le_refl _) ⟨e19, rfl⟩ (fun i f H1 hf h1 hi => by omega) ?_
    rintro f H1 hf ⟨f19, rfl⟩
    by_cases hc : (1 : Int) < (n : Int) + 1
    · simp [hf, f19, e15, e18, hc]
    · simp [hf, f19, e15, e18, hc]
  | true =>
    refine loop_count l_plaitlaw8_AigOnce_2.eq_1 hL (n + 1) (fun i e1 H1 => e1 19 = some (.int .i64 i) ∧ H1 = H) _ 1 (by omega) ⟨e19, rfl⟩ ?_ ?_
    · rintro i f H1 hf h1 hi ⟨f19, rfl⟩
      have w1 : IntKind.i64.wrap ((i : Int) + 1) = (i : Int) + 1 := i64w (by omega) (by omega)
      have c1 : (i : Int) < (n : Int) + 1 := by omega
      have hk2 := (kids_run G.ga G.rt (n := (i : Int))).run
      obtain ⟨j, rfl⟩ : ∃ j, i = j + 1 := ⟨i - 1, by omega⟩
      have hj := kids_and G.rt (i := j) (by omega)
      have hn2 := kids_and G.rt hn
      have ej : ((j + 1 : Nat) : Int) = (j : Int) + 1 := by omega
      rw [ej] at f19 w1 c1 hk2
      have hne : kidsF ks ((j : Int) + 1) = (p, q, true) → False := by
        intro he
        rcases hj with ⟨h2, -⟩ | ⟨k, h2, h3, h4, -⟩
        · rw [he] at h2; simp at h2
        · rcases hn2 with ⟨h5, -⟩ | ⟨k', h5, h6, h7, -⟩
          · rw [hk] at h5; simp at h5
          · rw [he] at h4
            rw [hk] at h7
            simp only [Prod.mk.injEq, and_true] at h4 h7
            have : k = k' := Prod.ext (h4.1.symm.trans h7.1) (h4.2.symm.trans h7.2)
            subst this
            have := G.uq j n k h2 h5 h3
            omega
      generalize kidsF ks ((j : Int) + 1) = kk at hk2 hne
      obtain ⟨s, t, so⟩ := kk
      simp only at hk2 hne
      have e2 : ((j + 1 + 1 : Nat) : Int) = (j : Int) + 1 + 1 := by omega
      rw [e2]
      cases so with
      | false => simp (maxDischargeDepth := 40) [hf, f19, e7, e15, e16, e17, e18, c1, hk2, w1]
      | true =>
        by_cases hs : s = p
        · by_cases ht : t = q
          · exact absurd (by rw [hs, ht]) hne
          · simp (maxDischargeDepth := 40) [hf, f19, e7, e15, e16, e17, e18, c1, hk2, hs, ht, w1]
        · simp (maxDischargeDepth := 40) [hf, f19, e7, e15, e16, e17, e18, c1, hk2, hs, w1]
    · rintro f H1 hf ⟨f19, rfl⟩
      obtain ⟨n1, hn1⟩ : ∃ n1 : Int, n1 = (n : Int) + 1 := ⟨_, rfl⟩
      have e2 : ((n + 1 : Nat) : Int) = n1 := by omega
      rw [e2] at f19
      rw [← hn1] at e15
      simp [hf, f19, e15]

theorem once_loop1 {H : AHeap} {o : Nat} {m : Int} {ks : Kd} {F : List Nat} (G : Gd H o m ks F) {v : AV} {inp : List Bool} (hv : Reads H v 1 inp.length (inp.map .bool)) (hin : inp.length = (insF ks 0).length) {e : Env} {r : Rn} (hL : loopL Go.Proofs.Try.prog KT R l_plaitlaw8_AigOnce_1 e H = r)
    (e2 : e 2 = some v) (e7 : e 7 = some (.ptr o 0)) (e15 : e 15 = some (.int .i64 1)) :
    ∃ x e' H', r = some (x, e', H') ∧ (x = .exit 2 ∧ H' = H) ∧ ∀ t, t ∉ defs l_plaitlaw8_AigOnce_1 → e' t = e t := by
  have hm := G.rt.most
  have hl := G.rt.le
  have hnodes := nodes_run G.ga
  refine loop_count l_plaitlaw8_AigOnce_1.eq_1 hL (ks.length + 1) (fun i e1 H1 => e1 15 = some (.int .i64 i) ∧ H1 = H) _ 1 (by omega) ⟨e15, rfl⟩ ?_ ?_
  · rintro i f H1 hf h1 hi ⟨f15, rfl⟩
    obtain ⟨n, rfl⟩ : ∃ n, i = n + 1 := ⟨i - 1, by omega⟩
    have hn : n < ks.length := by omega
    have ei : ((n + 1 : Nat) : Int) = (n : Int) + 1 := by omega
    have ei2 : ((n + 1 + 1 : Nat) : Int) = (n : Int) + 1 + 1 := by omega
    rw [ei] at f15
    rw [ei2]
    have w1 : IntKind.i64.wrap ((n : Int) + 1 + 1) = (n : Int) + 1 + 1 := i64w (by omega) (by omega)
    have w2 : IntKind.i64.wrap (2 * ((n : Int) + 1)) = 2 * ((n : Int) + 1) := i64w (by omega) (by omega)
    have w3 : IntKind.i64.wrap (2 * ((n : Int) + 1) + 1) = 2 * ((n : Int) + 1) + 1 := i64w (by omega) (by omega)
    have c1 : (n : Int) + 1 ≤ ks.length := by omega
    have hk2 := (kids_run G.ga G.rt (n := (n : Int) + 1)).run
    have l0 : isL ks.length (2 * ((n : Int) + 1)) := by rw [isL_lt]; omega
    have l1 : isL ks.length (2 * ((n : Int) + 1) + 1) := by rw [isL_lt]; omega
    have hv0 := eval_run G.ga G.rt (l := 2 * ((n : Int) + 1)) hv rfl
    have hv1 := eval_run G.ga G.rt (l := 2 * ((n : Int) + 1) + 1) hv rfl
    have hfl : flip1 (2 * ((n : Int) + 1)) = 2 * ((n : Int) + 1) + 1 := by unfold flip1; rw [if_pos (by omega)]
    have hvf := litV_flip (vs := valsF inp ks 0 [false]) (l := 2 * ((n : Int) + 1)) (by omega)
    rw [hfl] at hvf
    simp only [evalF, if_pos l0, if_pos l1, if_pos hin, hvf] at hv0 hv1
    generalize litV (valsF inp ks 0 [false]) (2 * ((n : Int) + 1)) = b at hv0 hv1
    have hka := kids_and G.rt hn
    obtain ⟨n2, hn2⟩ : ∃ n2 : Int, n2 = 2 * ((n : Int) + 1) := ⟨_, rfl⟩
    obtain ⟨n3, hn3⟩ : ∃ n3 : Int, n3 = n2 + 1 := ⟨_, rfl⟩
    rw [← hn2] at w2 w3 hv0 hv1 hka
    rw [← hn3] at w3 hv1
    have hbb : (b == !b) = false := by cases b <;> rfl
    have hk3 : ∃ p q is, kidsF ks ((n : Int) + 1) = (p, q, is) ∧ (is = false ∨ (is = true ∧ 2 ≤ p ∧ p < q ∧ q < n2 ∧ flip1 p ≠ q)) := by
      rcases hka with ⟨h2, -⟩ | ⟨k, -, -, h2, h3⟩
      · exact ⟨_, _, _, h2, .inl rfl⟩
      · exact ⟨_, _, _, h2, .inr ⟨rfl, h3⟩⟩
    obtain ⟨p, q, is, hk3, hpq⟩ := hk3
    rw [hk3] at hk2
    simp only at hk2
    rcases hpq with rfl | ⟨rfl, q1, q2, q3, q4⟩
    · simp (maxDischargeDepth := 40) [hf, f15, e7, hnodes, c1, hk2]
      generalize hL2 : loopL _ _ _ _ _ _ = qq
      obtain ⟨y, e4, H4, rfl, ⟨rfl, rfl⟩, fr4⟩ := once_loop2 G hn hk3 hL2 (by simp [hf, e7]) (by simp [f15]) (by simp) (by simp) (by simp) (by simp)
      simp (maxDischargeDepth := 40) [fr4, hf, f15, e2, e7, ← hn2, w2, hv0, ← hn3, w3, hv1, hbb, w1]
    · have d1 : ¬ p < 2 := by omega
      have d2 : ¬ q ≤ p := by omega
      have d3 : ¬ n2 ≤ q := by omega
      have bp : -9223372036854775808 ≤ p := by omega
      have bp2 : p ≤ 9223372036854775807 := by omega
      simp (maxDischargeDepth := 40) [hf, f15, e7, hnodes, c1, hk2, ← hn2, w2, d1, d2, d3, q4, bp, bp2]
      generalize hL2 : loopL _ _ _ _ _ _ = qq
      obtain ⟨y, e4, H4, rfl, ⟨rfl, rfl⟩, fr4⟩ := once_loop2 G hn hk3 hL2 (by simp [hf, e7]) (by simp [f15]) (by simp) (by simp) (by simp) (by simp)
      simp (maxDischargeDepth := 40) [fr4, hf, f15, e2, e7, ← hn2, w2, hv0, ← hn3, w3, hv1, hbb, w1]
  · rintro f H1 hf ⟨f15, rfl⟩
    have e2' : ((ks.length + 1 : Nat) : Int) = (ks.length : Int) + 1 := by omega
    rw [e2'] at f15
    have c1 : ¬ (ks.length : Int) + 1 ≤ ks.length := by omega
    obtain ⟨n1, hn1⟩ : ∃ n1 : Int, n1 = (ks.length : Int) + 1 := ⟨_, rfl⟩
    rw [← hn1] at f15 c1
    simp [hf, f15, e7, hnodes, c1]

theorem back_bool {H H' : AHeap} {b : Bool} : ∃ H2, some (back [] H (.bool b) H') = some (.bool b, H2) := by
  unfold back
  split
  · exact ⟨_, by rw [frz_bool]⟩
  · exact ⟨_, rfl⟩
theorem once_run {ss : List Sp} {inp : List Bool} {most : Int} (hin : inp.length ≤ 1048576) {H : AHeap} : ∃ H', R f_plaitlaw8_AigOnce [.int .i64 most, .lst 5 ss.length (stepsC ss), .lst 1 inp.length (inp.map .bool)] H = some (.bool true, H') := by
  generalize h : R f_plaitlaw8_AigOnce _ H = r
  have hkn := fun H => known_run (H := H)
  rw [e_plaitlaw8_AigOnce] at h
  by_cases hs : 200 < (ss.length : Int)
  · simp [c_plaitlaw8_AigOnce, hkn, hs] at h
    exact ⟨_, h.symm⟩
  simp [c_plaitlaw8_AigOnce, hkn, hs] at h
  generalize hN : R f_aig_New _ _ = q at h
  obtain ⟨H1, o, F1, rfl, g1, k1, f1⟩ := new_run hN
  simp at h
  generalize hL : loopL _ _ _ _ _ _ = q2 at h
  obtain ⟨y, e3, H3, rfl, ⟨rfl, ks, F3, G3⟩, fr⟩ := once_loop0 (ss := ss) (by omega) hL g1 (by simp) (by simp) (by simp) (by simp)
  simp [fr] at h
  generalize hA : appU _ _ _ _ = q3 at h
  obtain ⟨w, H4, rfl, x1, f4, x2, rd⟩ := app_any hA Reads.nils (by simp) (Reads.lst (by simp)) rfl (by omega) (by omega) (by omega) (bools_one inp)
  have k4 : Keeps H3 H4 := f4.keeps (Keeps.refl _) (by simp)
  have G4 := G3.ga.keeps k4
  have hnodes := nodes_run G4
  have hx := fun (e : Env) (H : AHeap) (x y : Operand) => op_extend (P := Go.Proofs.Try.prog) (K := KT) (C := R) (x := x) (y := y) (t := T_s_bool) (t' := T_int) (by decide) Go.Proofs.Try.underlying3 (e := e) (H := H)
  have hm := G3.rt.most
  have hl := G3.rt.le
  simp [fr, hnodes, hx] at h
  rw [extU_lst (k := (ks.length : Int)) (sz := 1) (by_ := 1) (z := [.bool false]) ⟨by omega, by omega, by omega, rfl, by omega⟩, Int.toNat_natCast] at h
  generalize hB : appU _ _ _ _ = q4 at h
  have hrep : (List.replicate ks.length [AV.bool false]).flatten = (List.replicate ks.length false).map .bool := by simp
  rw [hrep] at hB
  obtain ⟨w2, H5, rfl, y1, f5, y2, rd5⟩ := app_any hB rd x1 (Reads.lst (by simp)) rfl (by omega) (by omega) (by omega) (bools_one _)
  have k5 : Keeps H3 H5 := f5.keeps k4 fun p hp => by
    rcases x2 p hp with hh | ⟨rfl, -⟩
    · simp at hh
    · exact Nat.le_refl _
  have G5 := G3.ga.keeps k5
  obtain ⟨u, hu, ru⟩ := inputs_run G5 G3.rt rfl
  have hil := insF_len ks 0
  obtain ⟨v, hv, rv⟩ := slice_to (P := Go.Proofs.Try.prog) (t := T_s_bool) (sz := 1) (by simp) rd5 (k := (insF ks 0).length) (by omega)
  simp [fr, hu, (ru H5).len, hv] at h
  rw [Nat.mul_one, List.nil_append, ← List.map_append, ← List.map_take] at rv
  obtain ⟨inp2, hinp2⟩ : ∃ l, l = (inp ++ List.replicate ks.length false).take (insF ks 0).length := ⟨_, rfl⟩
  have hi2 : inp2.length = (insF ks 0).length := by rw [hinp2]; simp; omega
  rw [← hinp2, ← hi2] at rv
  generalize hL : loopL _ _ _ _ _ _ = q5 at h
  obtain ⟨y, e6, H6, rfl, ⟨rfl, rfl⟩, fr6⟩ := once_loop1 ⟨G5, G3.rt, G3.uq⟩ rv hi2 hL (by simp) (by simp [fr]) (by simp)
  simp at h
  rw [← h]
  exact back_bool

theorem AigOnce_law {a0 a1 a2 : AV} (y0 : TV Go.Proofs.Try.prog 8 3 a0) (y1 : TV Go.Proofs.Try.prog 8 37 a1) (y2 : TV Go.Proofs.Try.prog 8 22 a2) (_ : ∀ sz n cs, a1 = .lst sz n cs → n ≤ 1048576) (b2 : ∀ sz n cs, a2 = .lst sz n cs → n ≤ 1048576) : ∃ H', R f_plaitlaw8_AigOnce [a0, a1, a2] H0 = some (.bool true, H') := by
  obtain ⟨n, rfl, -⟩ := tv_i64 Go.Proofs.Try.underlying3 y0
  obtain ⟨ss, rfl, -⟩ := tv_steps (d := 5) y1
  obtain ⟨bs, rfl⟩ := tv_bools (d := 6) y2
  exact once_run (b2 _ _ _ rfl)
end Go.Proofs.Ytphkkcocimmmfaa
