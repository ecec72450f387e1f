/- And-inverter graphs: the document's own Inputs, Values, Eval. -/
import Derived.Test.YtphkkcocimmmfaaRX2
namespace Go.Proofs.Ytphkkcocimmmfaa
set_option maxRecDepth 100000

/-- An output that grows, made anew. -/
structure OutW (H0 H : AHeap) (v : AV) (l : List Int) : Prop where
  rd : Reads H v 1 l.length (l.map (.int .i64))
  gr : grows v
  new : ∀ p, p ∈ objs v → H0.size ≤ p
theorem OutW.push {H0 H : AHeap} {v : AV} {l : List Int} (h : OutW H0 H v l) (k : Keeps H0 H) {a : Int} (hl : l.length ≤ 1000000) {r : Option (AV × AHeap)}
    (hA : appU (H.new (.cells [.int .i64 a])) v (.row H.size 0 1 1 true) (some (1, 8, [.int .i64 0])) = r) :
    ∃ v' H', r = some (v', H') ∧ OutW H0 H' v' (l ++ [a]) ∧ Keeps H0 H' := by
  obtain ⟨H1, rfl, f1, s1, o1, rd⟩ := app_of hA (h.rd.keep (by simp)) h.gr (Reads.row' (all := [.int .i64 a]) (by simp) (by simp) (by simp)) (by omega) rfl (by omega) (by omega) (by omega) (by simp)
  simp only [new_size] at s1
  have hz := k.size
  exact ⟨_, H1, rfl, ⟨by simpa using rd, by simp, by simp; omega⟩, f1.keeps (by simp [k]) h.new⟩

theorem insF_take {ks : Kd} {i : Nat} {k : Int × Int} (hk : ks[i]? = some k) : insF (ks.take (i + 1)) 0 = insF (ks.take i) 0 ++ (if k = (0, 0) then [2 * ((i : Int) + 1)] else []) := by
  have hi := (List.getElem?_eq_some_iff.1 hk).1
  have e : ks.take (i + 1) = ks.take i ++ [k] := by rw [List.take_add_one, hk]; rfl
  rw [e, insF_append]
  simp [Nat.min_eq_left (Nat.le_of_lt hi)]

theorem rinputs_loop {H0 H : AHeap} {o : Nat} {m : Int} {ks : Kd} {lv : AV} (g : RRep H0 o m ks lv) (hr : Rt m ks) (k0 : Keeps H0 H) {e : Env} {r : Rn} (hL : loopL Go.Proofs.Try.prog KT R l_plait_plaitref8_Graph_Inputs_0 e H = r)
    (e0 : e 0 = some (.ptr o 0)) (e3 : e 3 = some .nils) (e4 : e 4 = some (.int .i64 0)) :
    ∃ x e' H', r = some (x, e', H') ∧ (x = .exit 0 ∧ Keeps H0 H' ∧ ∃ w, e' 3 = some w ∧ OutW H0 H' w (insF ks 0)) ∧ ∀ t, t ∉ defs l_plait_plaitref8_Graph_Inputs_0 → e' t = e t := by
  have hm := hr.most
  have hle := hr.le
  refine loop_count l_plait_plaitref8_Graph_Inputs_0.eq_1 hL ks.length (fun i f H1 => f 4 = some (.int .i64 i) ∧ Keeps H0 H1 ∧ ∃ w, f 3 = some w ∧ OutW H0 H1 w (insF (ks.take i) 0)) _ 0 (Nat.zero_le _) ⟨e4, k0, .nils, e3, ⟨by simp [insF], by simp, by simp⟩⟩ ?_ ?_
  · rintro i f H1 hf - hi ⟨f4, k1, w, f3, hout⟩
    obtain ⟨k, hk⟩ : ∃ k, ks[i]? = some k := ⟨ks[i], List.getElem?_eq_getElem hi⟩
    have g1 := g.keeps k1
    obtain ⟨po, off, all, a1, a2, a3, a4, c0, c1, c2, -⟩ := loadn_of g1.rk g1.gk hk
    have a2 := a2 H1 (Keeps.refl H1)
    have w1 : IntKind.i64.wrap ((i : Int) + 1) = (i : Int) + 1 := i64w (by omega) (by omega)
    have w2 : IntKind.i64.wrap (2 * ((i : Int) + 1)) = 2 * ((i : Int) + 1) := i64w (by omega) (by omega)
    have ci : (i : Int) < ks.length := by omega
    have hlo := insF_len (ks.take i) 0
    rw [List.length_take] at hlo
    rw [insF_take hk]
    by_cases h3 : k = (0, 0)
    · subst h3
      simp at c2
      simp [hf, f3, f4, e0, g1.self, g1.rk.len, ci, a1, a2, c2, w1, w2]
      generalize hA : appU _ _ _ _ = q
      obtain ⟨w', H2, rfl, h2, k2⟩ := hout.push k1 (by omega) hA
      simp [f4, w1]
      exact ⟨k2, h2⟩
    · have hb : decide (k = (0, 0)) = false := by simpa using h3
      rw [hb] at c2
      simp [hf, f3, f4, e0, g1.self, g1.rk.len, ci, a1, a2, c2, w1]
      exact ⟨k1, by simpa [h3] using hout⟩
  · rintro f H1 hf ⟨f4, k1, w, f3, hout⟩
    have g1 := g.keeps k1
    simp [hf, f3, f4, e0, g1.self, g1.rk.len]
    exact ⟨k1, by simpa using hout⟩

theorem rinputs_run {H : AHeap} {o : Nat} {m : Int} {ks : Kd} {F : List Nat} (g : RAt H o m ks F) (hr : Rt m ks) {r : Option (AV × AHeap)} (h : R f_plait_plaitref8_Graph_Inputs [.ptr o 0] H = r) : RetI H (insF ks 0) r := by
  obtain ⟨lv, g, rfl⟩ := g
  rw [e_plait_plaitref8_Graph_Inputs] at h
  simp [c_plait_plaitref8_Graph_Inputs] at h
  generalize hL : loopL _ _ _ _ _ _ = q at h
  obtain ⟨x, e1, H1, rfl, ⟨rfl, k1, w, e3, ho⟩, fr⟩ := rinputs_loop g hr (Keeps.refl H) hL (by simp) (by simp) (by simp)
  obtain ⟨w', hb, hw'⟩ := back_reads k1 ho.rd ho.gr ho.new
  simp [e3, hb] at h
  subst h
  exact ⟨_, rfl, hw'⟩

set_option maxHeartbeats 1000000 in
theorem rvals_loop {H0 : AHeap} {o : Nat} {m : Int} {ks : Kd} {lv : AV} (g : RRep H0 o m ks lv) (hr : Rt m ks) {w : AV} {inp : List Bool} (hw : Reads H0 w 1 inp.length (inp.map .bool)) (hin : inp.length = (insF ks 0).length)
    {e : Env} {H : AHeap} {r : Rn} (hL : loopL Go.Proofs.Try.prog KT R l_plait_plaitref8_Graph_Values_0 e H = r) (k0 : Keeps H0 H) (z : H.size = H0.size + 1) (hv : H.obj H0.size = .cells ((List.replicate (ks.length + 1) false).map .bool))
    (e0 : e 0 = some (.ptr o 0)) (e1' : e 1 = some w) (e5 : e 5 = some (.row H0.size 0 1 (ks.length + 1) true)) (e6 : e 6 = some (.int .i64 0)) (e7 : e 7 = some (.int .i64 0)) :
    ∃ x e' H', r = some (x, e', H') ∧ (x = .exit 0 ∧ Keeps H0 H' ∧ H0.size < H'.size ∧ H'.obj H0.size = .cells ((valsF inp ks 0 [false]).map .bool)) ∧ ∀ t, t ∉ defs l_plait_plaitref8_Graph_Values_0 → e' t = e t := by
  have hm := hr.most
  have hl := hr.le
  refine loop_count l_plait_plaitref8_Graph_Values_0.eq_1 hL ks.length (fun i e1 H1 => ∃ n acc, e1 7 = some (.int .i64 i) ∧ e1 6 = some (.int .i64 (n : Nat)) ∧ Keeps H0 H1 ∧ H0.size < H1.size ∧ acc.length = i + 1 ∧
      H1.obj H0.size = .cells ((acc ++ List.replicate (ks.length - i) false).map .bool) ∧ n + (insF (ks.drop i) i).length = inp.length ∧ valsF inp (ks.drop i) n acc = valsF inp ks 0 [false]) _ 0 (Nat.zero_le _) ?_ ?_ ?_
  · refine ⟨0, [false], e7, e6, k0, by omega, rfl, ?_, by simp [hin], by simp⟩
    rw [hv]; simp [List.replicate_succ]
  · rintro i e1 H1 hf - hi ⟨n, acc, f7, f6, k1, z1, ha, ho, hn, hvl⟩
    obtain ⟨k, hk2⟩ : ∃ k, ks[i]? = some k := ⟨ks[i], List.getElem?_eq_getElem hi⟩
    have g1 := g.keeps k1
    obtain ⟨po, off, all, a1, a2, a3, a4, c0, c1, c2, c3⟩ := loadn_of g.rk g.gk hk2
    have hself : ∀ H', Keeps H0 H' → H'.obj o = .cells [lv, .int .i64 m] := fun H' k => (k.obj o g.lo).trans g.self
    have w1 : IntKind.i64.wrap ((i : Int) + 1) = (i : Int) + 1 := i64w (by omega) (by omega)
    have hd : ks.drop i = k :: ks.drop (i + 1) := by
      rw [List.drop_eq_getElem_cons hi]; congr 1; exact (List.getElem?_eq_some_iff.1 hk2).2
    rw [hd] at hn hvl
    have z2 : H0.size ≤ H1.size := Nat.le_of_lt z1
    have nz : ¬ H0.size = H1.size := Nat.ne_of_lt z1
    have t1 : ((i : Int) + 1).toNat = i + 1 := by omega
    have hi1 : (i : Int) < ks.length := by omega
    have hlen : i + 1 < acc.length + (ks.length - i) := by omega
    have hb4 := k1.lt a4
    have np : ¬ po = H1.size := Nat.ne_of_lt hb4
    by_cases h3 : k = (0, 0)
    · subst h3
      simp only [insF, if_true, List.length_cons] at hn
      simp at c0 c1 c2 c3
      have hnlt : n < inp.length := by omega
      have w2 : IntKind.i64.wrap ((n : Int) + 1) = (n : Int) + 1 := i64w (by omega) (by have := insF_len ks 0; omega)
      obtain ⟨b1, b2⟩ := loadb_of hw hnlt
      simp (maxDischargeDepth := 20) [-List.map_append, hf, e0, e1', e5, f6, f7, g.rk.len, hself, hi1, a1, a2, a3, c3, w1, w2, b1, b2, ho, z1, z2, nz, k1, hlen]
      refine ⟨n + 1, by simp, acc ++ [inp.getD n false], by simp [ha], ?_, by omega, ?_⟩
      · simpa only [List.getD_eq_getElem?_getD] using vals_set ha hi (inp.getD n false)
      · rw [← hvl, valsF, if_pos rfl]
    · have hb := hr.kids i k hk2 h3
      simp only [insF, if_neg h3] at hn
      have hbf : decide (k = (0, 0)) = false := by simpa using h3
      rw [hbf] at c2 c3
      have q1 : (k.1 / 2).toNat < acc.length := by omega
      have q2 : (k.2 / 2).toNat < acc.length := by omega
      have q3 : 0 ≤ k.1 / 2 := by omega
      have q4 : 0 ≤ k.2 / 2 := by omega
      have q5 : k.1 / 2 < (ks.length : Int) + 1 := by omega
      have q6 : k.2 / 2 < (ks.length : Int) + 1 := by omega
      have r1 := vals_at (z := List.replicate (ks.length - i) false) q1
      have r2 := vals_at (z := List.replicate (ks.length - i) false) q2
      have b1 : 0 ≤ k.1 := by omega
      have b2 : k.1 ≤ 9223372036854775807 := by omega
      have b3 : 0 ≤ k.2 := by omega
      have b4 : k.2 ≤ 9223372036854775807 := by omega
      have hv1 : (acc[(k.1 / 2).toNat]?.getD false == decide (k.1 % 2 = 1)) = !litV acc k.1 := by simp [litV, bne]
      have hv2 : (acc[(k.2 / 2).toNat]?.getD false == decide (k.2 % 2 = 1)) = !litV acc k.2 := by simp [litV, bne]
      cases hx : litV acc k.1 with
      | false =>
        simp (maxDischargeDepth := 20) [-List.map_append, hf, e0, e5, f6, f7, g.rk.len, hself, hi1, a1, a2, a3, c3, w1, ho, z1, z2, nz, k1, hlen, q3, q5, r1, b1, b2, hv1, hx]
        exact ⟨n, rfl, acc ++ [false], by simp [ha], vals_set ha hi _, hn, by rw [← hvl, valsF, if_neg h3, hx]; rfl⟩
      | true =>
        simp (maxDischargeDepth := 20) [-List.map_append, hf, e0, e5, f6, f7, g.rk.len, hself, hi1, a1, a2, a3, c3, w1, ho, z1, z2, nz, k1, hlen, q3, q4, q5, q6, r1, r2, b1, b2, b3, b4, hv1, hv2, hx]
        exact ⟨n, rfl, acc ++ [litV acc k.2], by simp [ha], vals_set ha hi _, hn, by rw [← hvl, valsF, if_neg h3, hx, Bool.true_and]⟩
  · rintro e1 H1 hf ⟨n, acc, f7, f6, k1, z1, ha, ho, hn, hvl⟩
    have g1 := g.keeps k1
    simp [hf, e0, f7, g1.self, g1.rk.len]
    refine ⟨k1, z1, ?_⟩
    simp [valsF] at hvl
    rw [ho, ← hvl]
    simp
end Go.Proofs.Ytphkkcocimmmfaa
