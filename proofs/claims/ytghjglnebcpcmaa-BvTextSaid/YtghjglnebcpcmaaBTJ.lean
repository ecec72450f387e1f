/- Values as texts: the document's Parse. -/
import Derived.Test.YtghjglnebcpcmaaBTI
namespace Go.Proofs.Ytghjglnebcpcmaa
set_option maxRecDepth 100000
set_option maxHeartbeats 4000000

theorem refboolP_run {b : Bool} {H : AHeap} : R f_plaitref1_Bool [.bool b] H = some (.agg [.int .i64 0, u (if b = true then 1#64 else 0#64), u 0#64], H) := by
  rw [e_plaitref1_Bool]
  cases b <;> simp (maxDischargeDepth := 40) [c_plaitref1_Bool]
theorem rparse_loop {H HB K : AHeap} (kB : Keeps H HB) (lB : H.size < HB.size) (oB : HB.obj H.size = .cells [.int .i64 0, u 0#64, u 0#64]) {s : ByteArray} {e : Nat} {B : Int} (he : e = 1 ∧ B = 2 ∨ e = 4 ∧ B = 16) {l : List UInt8} {a b : UInt8} (hb : bts s = a :: b :: l) (hl : e * l.length ≤ 128) (kK : Keeps HB K) {v : AV} (hv : OutC HB K v 1 0 []) {ev : Env} {r : Rn}
    (hL : loopL Go.Proofs.Try.prog KT R l_plaitref1_Parse_0 ev K = r) (e0 : ev 0 = some (.str s)) (e2 : ev 2 = some (.ptr H.size 0)) (e4 : ev 4 = some (.int .i64 B)) (e5 : ev 5 = some (.int .i64 e)) (e6 : ev 6 = some v) (e7 : ev 7 = some (.int .i64 ((s.size : Int) - 1))) :
    ∃ y ev' H', r = some (y, ev', H') ∧ ((y = .ret ∧ ev' 3 = some (.int .i64 13) ∧ Keeps H H' ∧ H.size < H'.size ∧ H'.obj H.size = .cells [.int .i64 0, u 0#64, u 0#64] ∧ ∃ c, c ∈ l ∧ ¬ dvN c < 2 ^ e) ∨ (y = .exit 0 ∧ Keeps HB H' ∧ (∀ c, c ∈ l → dvN c < 2 ^ e) ∧ ∃ w, ev' 6 = some w ∧ OutC HB H' w 1 (dlist e l).length ((dlist e l).map .bool))) ∧ ∀ t, t ∉ defs l_plaitref1_Parse_0 → ev' t = ev t := by
  have hlen := bts_len s
  rw [hb] at hlen
  simp at hlen
  have he4 : e ≤ 4 := by omega
  have hel : l.length ≤ 128 := by rcases he with ⟨rfl, -⟩ | ⟨rfl, -⟩ <;> omega
  have hpow : ((2 ^ e : Nat) : Int) = B := by rcases he with ⟨rfl, rfl⟩ | ⟨rfl, rfl⟩ <;> decide
  obtain ⟨N, hN⟩ : ∃ N, N = l.length := ⟨_, rfl⟩
  refine loop_count l_plaitref1_Parse_0.eq_1 hL N (fun j e1 H1 => e1 7 = some (.int .i64 ((s.size : Int) - 1 - j)) ∧ Keeps HB H1 ∧ (∀ c, c ∈ l.drop (N - j) → dvN c < 2 ^ e) ∧ ∃ w, e1 6 = some w ∧ OutC HB H1 w 1 (dlist e (l.drop (N - j))).length ((dlist e (l.drop (N - j))).map .bool)) _ 0 (Nat.zero_le _)
    ⟨by simpa using e7, kK, by rw [hN]; simp, v, e6, by rw [hN]; simpa [dlist] using hv⟩ ?_ ?_
  · rintro j f H1 hf - hj ⟨f7, k1, hall, w, f6, hw⟩
    obtain ⟨i, hie⟩ : ∃ i : Nat, i = s.size - 1 - j := ⟨_, rfl⟩
    have hic : (s.size : Int) - 1 - j = (i : Int) := by omega
    rw [hic] at f7
    have hstep : (s.size : Int) - 1 - ((j + 1 : Nat) : Int) = (i : Int) - 1 := by omega
    rw [hstep]
    have w1 : IntKind.i64.wrap ((i : Int) - 1) = (i : Int) - 1 := i64w (by omega) (by omega)
    have c2 : (2 : Int) ≤ i := by omega
    obtain ⟨p, hp⟩ : ∃ p, p = N - (j + 1) := ⟨_, rfl⟩
    have hpl : p < l.length := by omega
    obtain ⟨c, hc⟩ : ∃ c, l[p]? = some c := ⟨l[p], by simp [hpl]⟩
    have hdrop : l.drop p = c :: l.drop (N - j) := by
      rw [List.drop_eq_getElem_cons hpl, show N - j = p + 1 by omega]
      congr 1
      rw [List.getElem?_eq_getElem hpl] at hc
      cases hc
      rfl
    have hcm : c ∈ l := List.mem_of_getElem? hc
    rw [← hp, hdrop]
    have hat : s.data.toList[i]? = some c := by
      show (bts s)[i]? = some c
      rw [hb, show i = p + 2 by omega]
      simpa using hc
    have hat3 : s.data[i]? = some c := by rw [← hat, Array.getElem?_toList]
    have hat2 : (s.data.toList[i]?).map (fun b => AV.int .u8 (b.toNat : Int)) = some (.int .u8 (c.toNat : Int)) := by rw [hat]; rfl
    have hdg := fun H => digit_run (c := c) (H := H)
    have hd16 := dvN_le c
    have e13 := hf 13
    by_cases hk : dvN c < 2 ^ e
    · have hkB : ¬ B ≤ (dvN c : Int) := by omega
      rw [dlist_cons]
      have hbl : (dlist e (l.drop (N - j))).length ≤ 1000 := by
        rw [dlist_len, List.length_drop]
        have : e * (l.length - (N - j)) ≤ 4 * 128 := Nat.mul_le_mul he4 (by omega)
        omega
      simp (maxDischargeDepth := 40) [hf, e0, e4, f7, c2, hat3, hdg, hkB]
      generalize hL2 : loopL _ _ _ _ _ _ = q
      obtain ⟨y, ev2, H2, rfl, ⟨rfl, k2, w2, g6, hw2⟩, fr⟩ := dig_loop he4 hd16 k1 hbl hw hL2 (by simp [hf, e5]) (by simp [f6]) (by simp) (by simp)
      simp (maxDischargeDepth := 40) [fr, f7, w1, g6]
      refine ⟨k2, ⟨hk, hall⟩, ?_⟩
      simpa [dbits] using hw2
    · have hkB : B ≤ (dvN c : Int) := by omega
      have o1 : H1.obj H.size = .cells [.int .i64 0, u 0#64, u 0#64] := (k1.obj _ lB).trans oB
      have l1 : H.size < H1.size := Nat.lt_of_lt_of_le lB k1.size
      have kS : Keeps H (H1.set H.size (.cells [.int .i64 0, u 0#64, u 0#64])) := (kB.trans k1).set (Nat.le_refl _) _
      simp (maxDischargeDepth := 40) [hf, e0, e2, e4, f6, f7, c2, hat3, hdg, hkB, o1, l1]
      exact ⟨kS, c, hcm, by simpa using hk⟩
  · rintro f H1 hf ⟨f7, k1, hall, w, f6, hw⟩
    have hm1 : (s.size : Int) - 1 - (N : Int) = 1 := by omega
    rw [hm1] at f7
    rw [Nat.sub_self, List.drop_zero] at hall hw
    simp [f7, f6]
    exact ⟨k1, hall, hw⟩
end Go.Proofs.Ytghjglnebcpcmaa
