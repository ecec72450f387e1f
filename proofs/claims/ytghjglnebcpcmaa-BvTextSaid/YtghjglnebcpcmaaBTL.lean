/- The law BvText. -/
import Derived.Test.YtghjglnebcpcmaaBTK
namespace Go.Proofs.Ytghjglnebcpcmaa
set_option maxRecDepth 100000
set_option maxHeartbeats 4000000

theorem mk_parts (l h : BitVec 64) : ∃ x : W128, l = lo x ∧ h = hi x := ⟨mkN l h, (lo_mk l h).symm, (hi_mk l h).symm⟩
theorem bvtext_run {H : AHeap} {w : Int} {x : W128} {s : ByteArray} : R f_plaitlaw1_BvText [.agg [.int .i64 w, u (lo x), u (hi x)], .str s] H = some (.bool true, H) := by
  generalize h : R f_plaitlaw1_BvText [.agg [.int .i64 w, u (lo x), u (hi x)], .str s] H = r
  rw [e_plaitlaw1_BvText] at h
  have hkn := fun H => known_run (H := H)
  obtain ⟨HB, hHB⟩ : ∃ HB, HB = H.new (.cells [.int .i64 w, u (lo x), u (hi x)]) := ⟨_, rfl⟩
  have kB : Keeps H HB := by rw [hHB]; exact Keeps.new _ _
  have lB : H.size < HB.size := by rw [hHB]; simp
  have oB : HB.obj H.size = .cells [.int .i64 w, u (lo x), u (hi x)] := by rw [hHB]; simp
  by_cases c4 : 400 < s.size
  · have c4' : (400 : Int) < s.size := by omega
    simp (maxDischargeDepth := 40) [c_plaitlaw1_BvText, hkn, ← hHB, eq_true c4', kB] at h
    exact h.symm
  have c4' : ¬ (400 : Int) < s.size := by omega
  have hp := fun H => parse_run (s := s) (by omega) (H := H)
  have hq := fun H => rparse_run (s := s) (by omega) (H := H)
  have ht := fun H => text_run (w := w) (x := x) (H := H)
  have hu := fun H => rtext_run (w := w) (x := x) (H := H)
  have hr := fun H => bvRight_run (w := w) (l := lo x) (h := hi x) (H := H)
  -- what the text says
  obtain ⟨o, ho⟩ : ∃ o, o = parseF s := ⟨_, rfl⟩
  rw [← ho] at hp hq
  obtain ⟨v1, l1, h1, e1, hpv⟩ : ∃ (v1 : Int) (l1 h1 : BitVec 64) (e1 : Int), parV o = .tup [.agg [.int .i64 v1, u l1, u h1], .int .i64 e1] := by
    cases o with
    | none => exact ⟨_, _, _, _, rfl⟩
    | some p => exact ⟨_, _, _, _, rfl⟩
  rw [hpv] at hp hq
  obtain ⟨K1, hK1⟩ : ∃ K1, K1 = (HB.new (.cells [.int .i64 0, u 0#64, u 0#64])).set HB.size (.cells [.int .i64 v1, u l1, u h1]) := ⟨_, rfl⟩
  have k1 : Keeps HB K1 := by rw [hK1]; ((repeat (first | exact Keeps.refl _ | assumption | refine Keeps.new' ?_ _ | refine Keeps.set ?_ ?_ _)) <;> (first | assumption | (simp; done) | (simp; omega)))
  have o1 : K1.obj HB.size = .cells [.int .i64 v1, u l1, u h1] := by rw [hK1]; simp
  have z1 : HB.size < K1.size := by rw [hK1]; simp
  obtain ⟨K2, hK2⟩ : ∃ K2, K2 = (K1.new (.cells [.int .i64 0, u 0#64, u 0#64])).set K1.size (.cells [.int .i64 v1, u l1, u h1]) := ⟨_, rfl⟩
  have k2 : Keeps K1 K2 := by rw [hK2]; ((repeat (first | exact Keeps.refl _ | assumption | refine Keeps.new' ?_ _ | refine Keeps.set ?_ ?_ _)) <;> (first | assumption | (simp; done) | (simp; omega)))
  have o2 : K2.obj K1.size = .cells [.int .i64 v1, u l1, u h1] := by rw [hK2]; simp
  have z2 : K1.size < K2.size := by rw [hK2]; simp
  have p1 : K2.obj HB.size = .cells [.int .i64 v1, u l1, u h1] := (k2.obj _ z1).trans o1
  have p0 : K2.obj H.size = .cells [.int .i64 w, u (lo x), u (hi x)] := ((k1.trans k2).obj _ lB).trans oB
  have y1 : HB.size < K2.size := by omega
  have y0 : H.size < K2.size := by omega
  have kk := kB.trans (k1.trans k2)
  by_cases hR : rightF w (lo x) (hi x) = false
  · rw [hR] at hr
    have hx : textF w x = .empty := by unfold textF; rw [if_pos hR]
    rw [hx] at ht hu
    simp (maxDischargeDepth := 40) [c_plaitlaw1_BvText, hkn, ← hHB, eq_false c4', hp, hq, ← hK1, ← hK2, p0, p1, o2, ht, hu, hr, kk] at h
    exact h.symm
  have hR1 : rightF w (lo x) (hi x) = true := by simpa using hR
  rw [hR1] at hr
  have hpt := parse_text hR1
  have hsz : (textF w x).size ≤ 1000 := by
    rw [← bts_len]
    unfold textF
    rw [if_neg hR]
    by_cases c0 : w = 0
    · rw [if_pos c0]
      split <;> decide
    · rw [if_neg c0, text_bts]
      have hw : 0 < w ∧ w ≤ 128 := by
        unfold rightF at hR1
        rw [if_neg c0, Bool.and_eq_true] at hR1
        exact of_decide_eq_true hR1.1
      simp only [List.length_cons, sgn_len]
      omega
  have hpp := fun H => parse_run (s := textF w x) hsz (H := H)
  rw [hpt] at hpp
  have hw0 : 0 ≤ w := by
    unfold rightF at hR1
    by_cases c0 : w = 0
    · omega
    · rw [if_neg c0, Bool.and_eq_true] at hR1
      have := of_decide_eq_true hR1.1
      omega
  simp only [parV, Bt, Option.map_some, Option.getD_some, Option.isSome_some, if_true, show ((w.toNat : Nat) : Int) = w by omega] at hpp
  obtain ⟨t, htx⟩ : ∃ t, t = textF w x := ⟨_, rfl⟩
  rw [← htx] at ht hu hpp
  obtain ⟨K3, hK3⟩ : ∃ K3, K3 = (K2.new (.cells [.int .i64 0, u 0#64, u 0#64])).set K2.size (.cells [.int .i64 w, u (lo x), u (hi x)]) := ⟨_, rfl⟩
  have k3 : Keeps K2 K3 := by rw [hK3]; ((repeat (first | exact Keeps.refl _ | assumption | refine Keeps.new' ?_ _ | refine Keeps.set ?_ ?_ _)) <;> (first | assumption | (simp; done) | (simp; omega)))
  have o3 : K3.obj K2.size = .cells [.int .i64 w, u (lo x), u (hi x)] := by rw [hK3]; simp
  have z3 : K2.size < K3.size := by rw [hK3]; simp
  have q0 : K3.obj H.size = .cells [.int .i64 w, u (lo x), u (hi x)] := (k3.obj _ y0).trans p0
  have x0 : H.size < K3.size := by omega
  have kkk := kk.trans k3
  simp (maxDischargeDepth := 40) [c_plaitlaw1_BvText, hkn, ← hHB, eq_false c4', hp, hq, ← hK1, ← hK2, p0, p1, o2, ht, hu, hr, hpp, ← hK3, o3, q0, kkk] at h
  exact h.symm
end Go.Proofs.Ytghjglnebcpcmaa
