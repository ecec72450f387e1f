/- The law CnfForm: the nodes' variables, and the law. -/
import Derived.Test.YtdbbkhmiflignaaDD
namespace Go.Proofs.Ytdbbkhmiflignaa
set_option maxRecDepth 100000
set_option maxHeartbeats 4000000
section
variable {Hb H0 : AHeap} {x g e mo to : Nat} {av lv rv : AV} {vs : List AV} {G : List Nat} {s : PS} {first : Int} {k : Nat}
theorem form_loop3 (X : XR Hb H0 x g e mo to av lv rv vs G s) (P : PI first s k) (hk : k ≤ 60) (hf0 : 1 ≤ first) (hf1 : first ≤ 1000) {N : Nat} (hN : (N : Int) = 1200) {o : Nat} {H : AHeap} (k0 : Keeps H0 H) (ho : H0.size ≤ o) (ho2 : o < H.size) (hob : H.obj o = .cells ((List.replicate N (0 : Int)).map (.int .i64))) {ev : Env} {r : Rn}
    (hL : loopL Go.Proofs.Try.prog KT R l_plaitlaw10_CnfForm_3 ev H = r) (e1 : ev 1 = some (.int .i64 first)) (e5 : ev 5 = some (.ptr x 0)) (e12 : ev 12 = some (.row o 0 1 N true)) (e13 : ev 13 = some (.int .i64 1)) :
    ∃ y e' H', r = some (y, e', H') ∧ (y = .exit 6 ∧ Keeps H0 H') ∧ ∀ t, t ∉ defs l_plaitlaw10_CnfForm_3 → e' t = ev t := by
  have hle := P.le
  have hlast : s.E.last < 1200 := by have := P.last; have := cntV_le s.E 61; omega
  refine loop_count l_plaitlaw10_CnfForm_3.eq_1 hL (s.ks.length + 1) (fun i f1 H1 => f1 13 = some (.int .i64 i) ∧ Keeps H0 H1 ∧ o < H1.size ∧ ∃ L : List Int, H1.obj o = .cells (L.map (.int .i64)) ∧ L.length = N ∧ ∀ t : Nat, L.getD t 0 ≠ 0 → ∃ m : Nat, 1 ≤ m ∧ m < i ∧ s.E.vr m = some (t : Int)) _ 1 (by omega) ⟨by simpa using e13, k0, ho2, _, hob, by simp, fun t ht => ?_⟩ ?_ ?_
  · exfalso
    apply ht
    rw [List.getD_eq_getElem?_getD, List.getElem?_replicate]
    split <;> rfl
  · rintro i f1 H1 hf hi1 hi ⟨f13, k1, o1, L, ob, hL1, hL2⟩
    have Xk := X.keeps k1
    have w1 : IntKind.i64.wrap ((i : Int) + 1) = (i : Int) + 1 := i64w (by omega) (by omega)
    have c1 : (i : Int) ≤ s.ks.length := by omega
    have hnod := nodes_run Xk.ga
    have hof := of_run Xk.er i
    have hev := evars_run Xk.er
    have hoz : H0.size ≤ o := ho
    cases hv : s.E.vr i with
    | none =>
      rw [hv] at hof
      simp at hof
      simp (maxDischargeDepth := 40) [hf, f13, e5, Xk.self, hnod, c1, hof, w1, k1, o1]
      refine ⟨L, ob, hL1, fun t ht => ?_⟩
      obtain ⟨m, h1, h2, h3⟩ := hL2 t (by simpa [List.getD_eq_getElem?_getD] using ht)
      exact ⟨m, h1, by omega, h3⟩
    | some v =>
      have hvv : s.E.v i = v := by unfold En.v; rw [hv]; rfl
      rw [hv, hvv] at hof
      have hr := P.ev.rng _ _ hv
      rw [P.fs] at hr
      obtain ⟨t, rfl⟩ : ∃ t : Nat, v = t := ⟨v.toNat, by omega⟩
      have d1 : ¬ (t : Int) < first := by omega
      have d2 : ¬ s.E.last < (t : Int) := by omega
      have d3 : ¬ (1200 : Int) ≤ t := by omega
      have d4 : (t : Int) < N := by omega
      have d5 : t < L.length := by omega
      have hz : L.getD t 0 = 0 := by
        by_cases c : L.getD t 0 = 0
        · exact c
        · obtain ⟨m, h1, h2, h3⟩ := hL2 t c
          have := P.ev.inj _ _ _ hv h3
          omega
      have hz' : (L.map (AV.int .i64))[t]? = some (.int .i64 0) := by
        rw [List.getElem?_map, List.getElem?_eq_getElem d5]
        simp [List.getD_eq_getElem?_getD, d5] at hz
        simp [hz]
      have hset : (L.map (AV.int .i64)).set t (.int .i64 i) = (L.set t (i : Int)).map (.int .i64) := by rw [List.map_set]
      obtain ⟨M, hM⟩ : ∃ M, M = L.map (AV.int .i64) := ⟨_, rfl⟩
      have hMl : t < M.length := by rw [hM]; simpa using d5
      rw [← hM] at ob hz' hset
      have hz2 : ∀ h : t < M.length, M[t]'h = .int .i64 0 := fun h => by rw [List.getElem?_eq_getElem h] at hz'; simpa using hz'
      simp at hof
      simp (maxDischargeDepth := 40) [hf, f13, e1, e5, e12, Xk.self, hnod, c1, hof, hev, d1, d2, d3, d4, ob, hz2, hMl, hset, o1, w1]
      refine ⟨k1.set hoz _, L.set t i, by simp, by simpa using hL1, fun t' ht' => ?_⟩
      by_cases c : t' = t
      · subst c
        exact ⟨i, by omega, by omega, hv⟩
      · rw [List.getElem?_set_ne (by omega)] at ht'
        obtain ⟨m, h1, h2, h3⟩ := hL2 t' (by simpa [List.getD_eq_getElem?_getD] using ht')
        exact ⟨m, h1, by omega, h3⟩
  · rintro f1 H1 hf ⟨f13, k1, o1, L, ob, hL1, hL2⟩
    have Xk := X.keeps k1
    have hnod := nodes_run Xk.ga
    have c9 : ¬ (s.ks.length : Int) + 1 ≤ s.ks.length := by omega
    simp (maxDischargeDepth := 40) [hf, f13, e5, Xk.self, hnod, k1, c9]
end
theorem back_bool {H H' : AHeap} {b : Bool} : ∃ H2, some (back [] H (.bool b) H') = some (.bool b, H2) := by
  unfold back
  split
  · exact ⟨_, by rw [frz_bool]⟩
  · exact ⟨_, rfl⟩
theorem cnfform_run {ss : List St3} {first : Int} {H : AHeap} : ∃ H', R f_plaitlaw10_CnfForm [.lst 3 ss.length (s3c ss), .int .i64 first] H = some (.bool true, H') := by
  generalize h : R f_plaitlaw10_CnfForm _ H = r
  have hkn := fun H => known_run (H := H)
  rw [e_plaitlaw10_CnfForm] at h
  by_cases hs : 60 < (ss.length : Int)
  · simp [c_plaitlaw10_CnfForm, hkn, hs] at h
    exact ⟨_, h.symm⟩
  have hpl := fun H => place_run (k := first) (n := 1000) (by omega) (by omega) (H := H)
  have hin := placeF_in (k := first) (n := 1000) (by omega)
  obtain ⟨f0, hf0⟩ : ∃ f0, f0 = placeF first 1000 := ⟨_, rfl⟩
  rw [← hf0] at hpl hin
  have w0 : IntKind.i64.wrap (1 + f0) = 1 + f0 := i64w (by omega) (by omega)
  simp [c_plaitlaw10_CnfForm, hkn, hs, hpl, w0] at h
  generalize hN : R f_plaitlaw10_play _ _ = q at h
  obtain ⟨H1, x, g, e, mo, to, av, lv, rv, vs, G, rfl, X, P⟩ := play_run (Reads.lst (s3_len ss)) (by omega) (by omega) (by omega) hN
  have hk : ss.length ≤ 60 := by omega
  have bd := EnC.bd (D := []) P.rt P.ev (by simpa using P.ec)
  have hle := P.le
  simp only [List.length_nil] at bd
  obtain ⟨S, hS⟩ : ∃ S, S = (PS.start (1 + f0)).play ss := ⟨_, rfl⟩
  rw [← hS] at X P bd hle
  have hnod := nodes_run X.ga
  have w3 : IntKind.i64.wrap (3 * (S.ks.length : Int)) = 3 * S.ks.length := i64w (by omega) (by omega)
  have w4 : IntKind.i64.wrap (3 * (S.ks.length : Int) + 1) = 3 * S.ks.length + 1 := i64w (by omega) (by omega)
  have c1 : ¬ 3 * (S.ks.length : Int) + 1 < (S.C.length : Int) := by omega
  simp [X.self, X.cr.rd.len, hnod, w3, w4, c1] at h
  generalize hL : loopL _ _ _ _ _ _ = q at h
  obtain ⟨y, e1, H2, rfl, ⟨rfl, k2⟩, fr1⟩ := form_loop0 X P hk (by omega) (by omega) hL (by simp) (by simp) (by simp) (by simp)
  simp [-List.reduceReplicate] at h
  generalize hL2 : loopL _ _ _ _ _ _ = q at h
  obtain ⟨y, e2, H3, rfl, ⟨rfl, k3⟩, fr2⟩ := form_loop3 X P hk (by omega) (by omega) (N := 1200) rfl (o := H2.size) (k2.new' _) k2.size (by simp) (by simp [-List.reduceReplicate]) hL2 (by simp [fr1]) (by simp [fr1]) (by simp) (by simp)
  simp at h
  rw [← h]
  exact back_bool
end Go.Proofs.Ytdbbkhmiflignaa
