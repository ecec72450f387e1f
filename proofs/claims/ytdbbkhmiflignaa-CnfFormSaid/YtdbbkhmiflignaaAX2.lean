/- And-inverter graphs: what a literal is made of. -/
import Derived.Test.YtdbbkhmiflignaaAX
namespace Go.Proofs.Ytdbbkhmiflignaa
set_option maxRecDepth 100000

/-- Marks in the heap. -/
theorem marks_set {v : List Bool} {j : Nat} : (v.map AV.bool).set j (.bool true) = (v.set j true).map AV.bool := by rw [List.map_set]
theorem marks_at {v : List Bool} {j : Nat} (hj : j < v.length) : (v.map AV.bool)[j]? = some (.bool (v.getD j false)) := by simp [List.getD_eq_getElem?_getD, hj]

set_option maxHeartbeats 1000000 in
theorem cone_loop0 {H0 : AHeap} {m : Int} {ks : Kd} (hr : Rt m ks) {kv iv : AV} {mo o len : Nat} (g : GRep H0 o m ks kv mo iv)
    {e : Env} {H : AHeap} {r : Rn} (hL : loopL Go.Proofs.Try.prog KT R l_plait_aig_Graph_Cone_0 e H = r) (k0 : Keeps H0 H) (z : H0.size < H.size) {n : Nat} {v : List Bool} (hl : v.length = len) (hn : n < len) (hnk : n ≤ ks.length) (hv : H.obj H0.size = .cells (v.map .bool))
    (e0 : e 0 = some (.ptr o 0)) (e5 : e 5 = some (.row H0.size 0 1 len true)) (e6 : e 6 = some (.int .i64 n)) :
    ∃ x e' H', r = some (x, e', H') ∧ (x = .exit 0 ∧ Keeps H0 H' ∧ H0.size < H'.size ∧ H'.obj H0.size = .cells ((markF ks n v).map .bool)) ∧ ∀ t, t ∉ defs l_plait_aig_Graph_Cone_0 → e' t = e t := by
  have hm := hr.most
  have hle := hr.le
  refine loop_rule l_plait_aig_Graph_Cone_0.eq_1 hL (fun i e1 H1 => ∃ v1, i < len ∧ i ≤ ks.length ∧ v1.length = len ∧ e1 6 = some (.int .i64 i) ∧ Keeps H0 H1 ∧ H0.size < H1.size ∧ H1.obj H0.size = .cells (v1.map .bool) ∧ markF ks i v1 = markF ks n v) _ n ⟨v, hn, hnk, hl, e6, k0, z, hv, rfl⟩ ?_
  rintro i e1 H1 hf ⟨v1, hi, hik, hl1, f6, k1, z1, ho, hmk⟩
  cases i with
  | zero =>
    simp [f6]
    exact ⟨k1, z1, by rw [ho, ← hmk]; rfl⟩
  | succ i =>
    have hik' : i < ks.length := hik
    obtain ⟨k, hk2⟩ : ∃ k, ks[i]? = some k := ⟨ks[i], List.getElem?_eq_getElem hik'⟩
    obtain ⟨ad, at1⟩ := loadk_of g.rk hk2
    have hself : ∀ H', Keeps H0 H' → H'.obj o = .cells [.int .i64 m, kv, .map mo, iv] := fun H' k => (k.obj o g.lo).trans g.self
    have w1 : IntKind.i64.wrap (i : Int) = (i : Int) := i64w (by omega) (by omega)
    have z2 : H0.size ≤ H1.size := Nat.le_of_lt z1
    have c1 : ¬ ((i : Int) + 1 ≤ 0) := by omega
    have c2 : (i : Int) + 1 < len := by omega
    have t1 : ((i : Int) + 1).toNat = i + 1 := by omega
    have p1 : (0 : Int) < (i : Int) + 1 := by omega
    have mk := marks_at (v := v1) (j := i + 1) (by omega)
    rw [markF] at hmk
    cases hx : v1.getD (i + 1) false with
    | false =>
      rw [hx] at mk
      rw [mark1, hx] at hmk
      simp (maxDischargeDepth := 9) [hf, f6, e0, e5, hself, ad, at1, w1, z1, z2, k1, c2, t1, p1, ho, mk]
      exact ⟨i, by omega, by omega, by omega, v1, hl1, rfl, rfl, by simpa using hmk⟩
    | true =>
      rw [hx] at mk
      by_cases h3 : k = (0, 0)
      · subst h3
        rw [mark1, hx, hk2] at hmk
        simp (maxDischargeDepth := 9) [hf, f6, e0, e5, hself, ad, at1, w1, z1, z2, k1, c2, t1, p1, ho, mk]
        exact ⟨i, by omega, by omega, by omega, v1, hl1, rfl, rfl, by simpa using hmk⟩
      · have hb := hr.kids i k hk2 h3
        rw [mark1, hx, hk2] at hmk
        have q3 : 0 ≤ k.1 / 2 := by omega
        have q4 : 0 ≤ k.2 / 2 := by omega
        have q5 : k.1 / 2 < (len : Int) := by omega
        have q6 : k.2 / 2 < (len : Int) := by omega
        have q7 : (k.1 / 2).toNat < v1.length := by omega
        have q8 : (k.2 / 2).toNat < v1.length := by omega
        have r1 := marks_at q7
        have r2 := marks_at q8
        have r3 := marks_at (v := v1.set (k.1 / 2).toNat true) (j := (k.2 / 2).toNat) (by simp; omega)
        have h10 : ¬ k.1 = 0 := by omega
        simp (maxDischargeDepth := 9) [-List.map_set, hf, f6, e0, e5, hself, ad, at1, w1, z1, z2, k1, c2, t1, p1, ho, mk, q3, q4, q5, q6, h10, marks_set, hl1]
        rw [if_pos rfl] at hmk
        simp only [if_neg h3] at hmk
        exact ⟨i, by omega, by omega, by omega, _, by simp [hl1], rfl, rfl, hmk⟩

/-- An output that grows, made anew. -/
structure OutAt (H0 H : AHeap) (v : AV) (l : List Int) : Prop where
  rd : Reads H v 1 l.length (l.map (.int .i64))
  gr : grows v
  new : ∀ p, p ∈ objs v → H0.size < p

theorem OutAt.push {H0 H : AHeap} {v : AV} {l : List Int} (h : OutAt H0 H v l) (k : Keeps H0 H) (z : H0.size < H.size) {a : Int} (hl : l.length ≤ 1000000) {r : Option (AV × AHeap)}
    (hA : appU (H.new (.cells [.int .i64 a])) v (.row H.size 0 1 1 true) (some (1, 8, [.int .i64 0])) = r) :
    ∃ v' H', r = some (v', H') ∧ OutAt H0 H' v' (l ++ [a]) ∧ Keeps H0 H' ∧ H0.size < H'.size ∧ H'.obj H0.size = H.obj H0.size := by
  obtain ⟨H1, rfl, f1, s1, o1, rd⟩ := app_of hA (h.rd.keep (by simp)) h.gr (Reads.row' (all := [.int .i64 a]) (by simp) (by simp) (by simp)) (by omega) rfl (by omega) (by omega) (by omega) (by simp)
  simp only [new_size] at s1
  refine ⟨_, H1, rfl, ⟨by simpa using rd, by simp, by simp; omega⟩, f1.keeps (by simp [k]) (fun p hp => Nat.le_of_lt (h.new p hp)), by omega, ?_⟩
  rw [f1.obj _ (by simp; omega) (fun hh => by have := h.new _ hh; omega)]
  simp
  intro e; omega

set_option maxHeartbeats 1000000 in
theorem cone_loop1 {H0 : AHeap} {len : Nat} {v : List Bool} (hlv : v.length = len) (h1 : 1 ≤ len) (hm : len ≤ 1000000)
    {e : Env} {H : AHeap} {r : Rn} (hL : loopL Go.Proofs.Try.prog KT R l_plait_aig_Graph_Cone_1 e H = r) (k0 : Keeps H0 H) (z : H0.size < H.size) (hv : H.obj H0.size = .cells (v.map .bool))
    (e5 : e 5 = some (.row H0.size 0 1 len true)) (e8 : e 8 = some .nils) (e9 : e 9 = some (.int .i64 1)) :
    ∃ x e' H', r = some (x, e', H') ∧ (x = .exit 2 ∧ Keeps H0 H' ∧ ∃ w, e' 8 = some w ∧ OutAt H0 H' w (outF v len)) ∧ ∀ t, t ∉ defs l_plait_aig_Graph_Cone_1 → e' t = e t := by
  refine loop_count l_plait_aig_Graph_Cone_1.eq_1 hL len (fun i e1 H1 => ∃ w, e1 8 = some w ∧ e1 9 = some (.int .i64 i) ∧ Keeps H0 H1 ∧ H0.size < H1.size ∧ H1.obj H0.size = .cells (v.map .bool) ∧ OutAt H0 H1 w (outF v i)) _ 1 h1
    ⟨.nils, e8, e9, k0, z, hv, ⟨by rw [outF_one]; exact Reads.nils, by simp, by simp⟩⟩ ?_ ?_
  · rintro i e1 H1 hf hi1 hi ⟨w, f8, f9, k1, z1, ho, hout⟩
    have w1 : IntKind.i64.wrap ((i : Int) + 1) = (i : Int) + 1 := i64w (by omega) (by omega)
    have c2 : (i : Int) < len := by omega
    have mk := marks_at (v := v) (j := i) (by omega)
    have hlo := outF_len v i
    rw [outF_succ v hi1]
    cases hx : v.getD i false with
    | false =>
      rw [hx] at mk
      simp (maxDischargeDepth := 9) [hf, f8, f9, e5, c2, w1, ho, mk, k1, z1]
      simpa using hout
    | true =>
      rw [hx] at mk
      simp (maxDischargeDepth := 9) [hf, f8, f9, e5, c2, ho, mk]
      generalize hA : appU _ _ _ _ = q
      obtain ⟨w', H2, rfl, h2, k2, z2, o2⟩ := hout.push k1 z1 (by omega) hA
      simp [f9, w1, k2, z2, o2, ho]
      exact h2
  · rintro e1 H1 hf ⟨w, f8, f9, k1, z1, ho, hout⟩
    simp [hf, e5, f9, f8]
    exact ⟨k1, hout⟩

end Go.Proofs.Ytdbbkhmiflignaa
