/- Values as texts: the document reads them as the solver does; the law. -/
import Derived.Test.YtghjglnebcpcmaaBTJ
namespace Go.Proofs.Ytghjglnebcpcmaa
set_option maxRecDepth 100000
set_option maxHeartbeats 4000000

theorem rparse_run {H : AHeap} {s : ByteArray} (hs : s.size ≤ 1000) : R f_plaitref1_Parse [.str s] H = some (parV (parseF s), H) := by
  generalize h : R f_plaitref1_Parse [.str s] H = r
  rw [e_plaitref1_Parse] at h
  have hbo := fun b H => refboolP_run (b := b) (H := H)
  have hl := bts_len s
  by_cases c1 : s = pT
  · have hp : parseF s = some (0, 1#128) := by unfold parseF; rw [if_pos c1]
    rw [hp]
    simp (maxDischargeDepth := 40) [c_plaitref1_Parse, eq_true (show s = ⟨#[116, 114, 117, 101]⟩ from c1), hbo] at h
    rw [← h]
    simp [parV, Bt]
  by_cases c2 : s = pF
  · have hp : parseF s = some (0, 0#128) := by unfold parseF; rw [if_neg c1, if_pos c2]
    rw [hp]
    simp (maxDischargeDepth := 40) [c_plaitref1_Parse, eq_false (show ¬ s = ⟨#[116, 114, 117, 101]⟩ from c1), eq_true (show s = ⟨#[102, 97, 108, 115, 101]⟩ from c2), hbo] at h
    rw [← h]
    simp [parV, Bt]
  have hp : parseF s = formF (bts s) := by unfold parseF; rw [if_neg c1, if_neg c2]
  rw [hp]
  have d1 := eq_false (show ¬ s = ⟨#[116, 114, 117, 101]⟩ from c1)
  have d2 := eq_false (show ¬ s = ⟨#[102, 97, 108, 115, 101]⟩ from c2)
  by_cases c3 : s.size < 3
  · have hn : formF (bts s) = none := by
      cases hb : bts s with
      | nil => rfl
      | cons a l =>
        cases l with
        | nil => rfl
        | cons b l =>
          rw [hb] at hl
          simp at hl
          have hl0 : l = [] := List.eq_nil_of_length_eq_zero (by omega)
          subst hl0
          show (if a = 35 ∧ b = 98 then digitsF 1 [] else if a = 35 ∧ b = 120 then digitsF 4 [] else none) = none
          have z1 : digitsF 1 [] = none := by unfold digitsF; rw [if_pos (.inl rfl)]
          have z4 : digitsF 4 [] = none := by unfold digitsF; rw [if_pos (.inl rfl)]
          rw [z1, z4]
          split
          · rfl
          · split <;> rfl
    rw [hn]
    have c3' : (s.size : Int) < 3 := by omega
    simp (maxDischargeDepth := 40) [c_plaitref1_Parse, d1, d2, eq_true c3'] at h
    rw [← h]
    simp [parV, Bt]
  have c3' : ¬ (s.size : Int) < 3 := by omega
  obtain ⟨a, b, l, hb⟩ : ∃ a b l, bts s = a :: b :: l := by
    cases hb : bts s with
    | nil => rw [hb] at hl; simp at hl; omega
    | cons a l =>
      cases l with
      | nil => rw [hb] at hl; simp at hl; omega
      | cons b l => exact ⟨a, b, l, rfl⟩
  rw [hb] at hl ⊢
  simp only [List.length_cons] at hl
  have hl0 : ¬ l = [] := by rintro rfl; simp at hl; omega
  have fF : formF (a :: b :: l) = if a = 35 ∧ b = 98 then digitsF 1 l else if a = 35 ∧ b = 120 then digitsF 4 l else none := rfl
  have a0 : s.data.toList[0]? = some a := by show (bts s)[0]? = _; rw [hb]; rfl
  have b0 : s.data.toList[1]? = some b := by show (bts s)[1]? = _; rw [hb]; rfl
  have a3 : s.data[0]? = some a := by rw [← a0, Array.getElem?_toList]
  have b3 : s.data[1]? = some b := by rw [← b0, Array.getElem?_toList]
  have a4 : s.data.toList.head? = some a := by rw [← a0, List.head?_eq_getElem?]
  have int_of : ∀ (x : UInt8) (m : Nat), m < 256 → (((x.toNat : Int) = (m : Int)) ↔ x = UInt8.ofNat m) := fun x m hm => by
    constructor
    · intro q
      have q : x.toNat = m := by omega
      rw [← q, UInt8.ofNat_toNat]
    · rintro rfl
      simp
      omega
  have i35 := int_of a 35 (by omega)
  have i98 := int_of b 98 (by omega)
  have i120 := int_of b 120 (by omega)
  obtain ⟨ka, hka⟩ : ∃ ka : Int, ka = (a.toNat : Int) := ⟨_, rfl⟩
  obtain ⟨kb, hkb⟩ : ∃ kb : Int, kb = (b.toNat : Int) := ⟨_, rfl⟩
  rw [← hka] at i35
  rw [← hkb] at i98 i120
  have fa : (s.data.toList[0]?).map (fun b => AV.int .u8 (b.toNat : Int)) = some (.int .u8 ka) := by rw [a0, hka]; rfl
  have fb : (s.data.toList[1]?).map (fun b => AV.int .u8 (b.toNat : Int)) = some (.int .u8 kb) := by rw [b0, hkb]; rfl
  have hka' := hka.symm
  have hkb' := hkb.symm
  by_cases q1 : ka = 35
  rotate_left
  · have n1 : ¬ (a = 35) := fun q => q1 (i35.2 q)
    rw [fF, if_neg (fun q => n1 q.1), if_neg (fun q => n1 q.1)]
    simp (maxDischargeDepth := 40) [c_plaitref1_Parse, d1, d2, eq_false c3', a0, hka', eq_false q1] at h
    rw [← h]
    simp [parV, Bt]
  have e35 : a = 35 := i35.1 q1
  by_cases q2 : kb = 98 ∨ kb = 120
  rotate_left
  · have n2 : ¬ kb = 98 := fun q => q2 (.inl q)
    have n3 : ¬ kb = 120 := fun q => q2 (.inr q)
    rw [fF, if_neg (fun q => n2 (i98.2 q.2)), if_neg (fun q => n3 (i120.2 q.2))]
    simp (maxDischargeDepth := 40) [c_plaitref1_Parse, d1, d2, eq_false c3', a0, b0, hka', hkb', eq_true q1, eq_false n2, eq_false n3] at h
    rw [← h]
    simp [parV, Bt]
  obtain ⟨e, B, heB, hform⟩ : ∃ (e : Nat) (B : Int), (e = 1 ∧ B = 2 ∧ kb = 98 ∨ e = 4 ∧ B = 16 ∧ kb = 120) ∧ formF (a :: b :: l) = digitsF e l := by
    rcases q2 with q | q
    · exact ⟨1, 2, .inl ⟨rfl, rfl, q⟩, by rw [fF, if_pos ⟨e35, i98.1 q⟩]⟩
    · exact ⟨4, 16, .inr ⟨rfl, rfl, q⟩, by rw [fF, if_neg (fun z => by have := i98.2 z.2; omega), if_pos ⟨e35, i120.1 q⟩]⟩
  rw [hform]
  have w2 : IntKind.i64.wrap ((s.size : Int) - 2) = (s.size : Int) - 2 := i64w (by omega) (by omega)
  have w1 : IntKind.i64.wrap ((s.size : Int) - 1) = (s.size : Int) - 1 := i64w (by omega) (by omega)
  obtain ⟨M, hM⟩ : ∃ M : Int, M = (s.size : Int) - 2 := ⟨_, rfl⟩
  rw [← hM] at w2
  obtain ⟨W, hW⟩ : ∃ W : Int, W = (e : Int) * M := ⟨_, rfl⟩
  have hWv : W = ((e * l.length : Nat) : Int) := by
    rw [hW, hM, show (s.size : Int) - 2 = (l.length : Int) by omega]
    simp
  have wm : IntKind.i64.wrap W = W := i64w (by rcases heB with ⟨rfl, -⟩ | ⟨rfl, -⟩ <;> omega) (by rcases heB with ⟨rfl, -⟩ | ⟨rfl, -⟩ <;> omega)
  have zo : Bt 0 0#128 = .agg [.int .i64 0, u 0#64, u 0#64] := rfl
  obtain ⟨HB, hHB⟩ : ∃ HB, HB = H.new (.cells [.int .i64 0, u 0#64, u 0#64]) := ⟨_, rfl⟩
  have kB : Keeps H HB := by rw [hHB]; exact Keeps.new _ _
  have lB : H.size < HB.size := by rw [hHB]; simp
  have oB : HB.obj H.size = .cells [.int .i64 0, u 0#64, u 0#64] := by rw [hHB]; simp
  by_cases c4 : 128 < W
  · have hd : digitsF e l = none := by
      unfold digitsF
      rw [if_pos (.inr (by rcases heB with ⟨rfl, -⟩ | ⟨rfl, -⟩ <;> omega))]
    rw [hd]
    rcases heB with ⟨rfl, rfl, rfl⟩ | ⟨rfl, rfl, rfl⟩
    · obtain rfl : W = M := by rw [hW]; simp
      simp (maxDischargeDepth := 40) [c_plaitref1_Parse, d1, d2, eq_false c3', a0, b0, hka', hkb', eq_true q1, ← hHB, oB, ← hM, w2, eq_true c4] at h
      rw [← h]
      simp [parV, Bt, kB.set (Nat.le_refl _)]
    · simp only [show ((4 : Nat) : Int) = 4 from rfl] at hW
      rw [Int.mul_comm] at hW
      simp (maxDischargeDepth := 40) [c_plaitref1_Parse, d1, d2, eq_false c3', a0, b0, hka', hkb', eq_true q1, ← hHB, oB, ← hM, w2, ← hW, wm, eq_true c4] at h
      rw [← h]
      simp [parV, Bt, kB.set (Nat.le_refl _)]
  · have hel : e * l.length ≤ 128 := by omega
    have hdg : digitsF e l = (digs e 0#128 l).map fun n => (e * l.length, n &&& maskN (e * l.length)) := by
      unfold digitsF
      rw [if_neg (by intro q; rcases q with q | q; exact hl0 q; rcases heB with ⟨rfl, -⟩ | ⟨rfl, -⟩ <;> omega)]
    have he2 : e = 1 ∧ B = 2 ∨ e = 4 ∧ B = 16 := by rcases heB with ⟨q, p, -⟩ | ⟨q, p, -⟩ <;> simp [q, p]
    have hloop := fun {ev : Env} {q : Rn} => rparse_loop (ev := ev) (r := q) kB lB oB he2 hb hel (Keeps.refl HB) OutC.nils
    have key : ∀ n, digs e 0#128 l = some n → Bt (dlist e l).length (wv (dlist e l)) = Bt (e * l.length) (n &&& maskN (e * l.length)) := fun n hn => by rw [dlist_len, digs_wv hel hn]
    have hword := fun (H : AHeap) (v : AV) (hv : RB H v (dlist e l)) => (wordR_run (H := H) hv (by rw [dlist_len]; exact hel)).run
    rcases heB with ⟨rfl, rfl, rfl⟩ | ⟨rfl, rfl, rfl⟩
    · obtain rfl : W = M := by rw [hW]; simp
      simp only [show ((1 : Nat) : Int) = 1 from rfl] at hW hloop
      simp (maxDischargeDepth := 40) [c_plaitref1_Parse, d1, d2, eq_false c3', a0, b0, hka', hkb', eq_true q1, ← hHB, ← hM, w2, eq_false c4, w1] at h
      generalize hL : loopL _ _ _ _ _ _ = q at h
      obtain ⟨y, ev, H', rfl, hy, fr⟩ := hloop hL (by simp) (by simp) (by simp) (by simp) (by simp) (by simp)
      rcases hy with ⟨rfl, g3, k1, z1, p0, c, hcl, hcb⟩ | ⟨rfl, k1, hall, v, g6, hv⟩
      · rw [hdg, digs_bad hcl hcb]
        simp (maxDischargeDepth := 40) [fr, g3, p0, k1] at h
        rw [← h]
        simp [parV, Bt]
      · obtain ⟨n, hn⟩ := digs_some (n := 0#128) hall
        have hw := hword H' v hv.rd
        rw [key n hn] at hw
        simp only [Bt] at hw
        have p0 : H'.obj H.size = .cells [.int .i64 0, u 0#64, u 0#64] := (k1.obj _ lB).trans oB
        have z1 : H.size < H'.size := Nat.lt_of_lt_of_le lB k1.size
        have kk := kB.trans k1
        rw [hdg, hn]
        simp (maxDischargeDepth := 40) [fr, g6, hw, p0, kk] at h
        rw [← h]
        simp [parV, Bt]
    · simp only [show ((4 : Nat) : Int) = 4 from rfl] at hW hloop
      rw [Int.mul_comm] at hW
      simp (maxDischargeDepth := 40) [c_plaitref1_Parse, d1, d2, eq_false c3', a0, b0, hka', hkb', eq_true q1, ← hHB, ← hM, w2, ← hW, wm, eq_false c4, w1] at h
      generalize hL : loopL _ _ _ _ _ _ = q at h
      obtain ⟨y, ev, H', rfl, hy, fr⟩ := hloop hL (by simp) (by simp) (by simp) (by simp) (by simp) (by simp)
      rcases hy with ⟨rfl, g3, k1, z1, p0, c, hcl, hcb⟩ | ⟨rfl, k1, hall, v, g6, hv⟩
      · rw [hdg, digs_bad hcl hcb]
        simp (maxDischargeDepth := 40) [fr, g3, p0, k1] at h
        rw [← h]
        simp [parV, Bt]
      · obtain ⟨n, hn⟩ := digs_some (n := 0#128) hall
        have hw := hword H' v hv.rd
        rw [key n hn] at hw
        simp only [Bt] at hw
        have p0 : H'.obj H.size = .cells [.int .i64 0, u 0#64, u 0#64] := (k1.obj _ lB).trans oB
        have z1 : H.size < H'.size := Nat.lt_of_lt_of_le lB k1.size
        have kk := kB.trans k1
        rw [hdg, hn]
        simp (maxDischargeDepth := 40) [fr, g6, hw, p0, kk] at h
        rw [← h]
        simp [parV, Bt]
end Go.Proofs.Ytghjglnebcpcmaa
