/- Graphs of terms: Cone. -/
import Derived.Test.YtiaoojghohfkjaaTI
namespace Go.Proofs.Ytiaoojghohfkjaa
set_option maxRecDepth 100000
set_option maxHeartbeats 4000000

theorem marks_set {v : List Bool} {j : Nat} : (v.map AV.bool).set j (.bool true) = (v.set j true).map AV.bool := by rw [List.map_set]
theorem marks_at {v : List Bool} {j : Nat} (hj : j < v.length) : (v.map AV.bool)[j]? = some (.bool (v.getD j false)) := by simp [List.getD_eq_getElem?_getD, hj]
def mark1T (ns : List Nd) (n : Nat) (v : List Bool) : List Bool :=
  if v.getD (n + 1) false then ((v.set (ns.getD n Nd.zero).a.toNat true).set (ns.getD n Nd.zero).b.toNat true).set (ns.getD n Nd.zero).c.toNat true else v
def markT (ns : List Nd) : Nat → List Bool → List Bool
  | 0, v => v
  | n + 1, v => markT ns n (mark1T ns n v)
theorem mark1T_len (ns : List Nd) (n : Nat) (v : List Bool) : (mark1T ns n v).length = v.length := by unfold mark1T; split <;> simp
theorem markT_len (ns : List Nd) : ∀ (n : Nat) (v : List Bool), (markT ns n v).length = v.length
  | 0, _ => rfl
  | n + 1, v => by rw [markT, markT_len, mark1T_len]
def outT (v : List Bool) (i : Nat) : List Int := ((List.range i).filter fun n => decide (1 ≤ n) && v.getD n false).map fun (n : Nat) => (n : Int)
theorem outT_one (v : List Bool) : outT v 1 = [] := by simp [outT, List.range_succ]
theorem outT_succ (v : List Bool) {i : Nat} (hi : 1 ≤ i) : outT v (i + 1) = outT v i ++ (if v.getD i false = true then [(i : Int)] else []) := by
  simp only [outT, List.range_succ, List.filter_append, List.map_append]
  congr 1
  have e : decide (1 ≤ i) = true := by simpa using hi
  simp only [List.filter_cons, e, Bool.true_and]
  split <;> simp
theorem outT_len (v : List Bool) (i : Nat) : (outT v i).length ≤ i := by
  unfold outT
  rw [List.length_map]
  exact Nat.le_trans (List.length_filter_le _ _) (by simp)
def coneM (ns : List Nd) (n : Nat) : List Bool := markT ns n ((List.replicate (n + 1) false).set n true)
def coneT (ns : List Nd) (id : Int) : List Int := if id < 1 ∨ (ns.length : Int) < id then [] else outT (coneM ns id.toNat) (id.toNat + 1)

theorem tcone_loop0 {H0 H : AHeap} {g : Nat} {most : Int} {ns : List Nd} {o1 o2 o3 : Nat} (t : TG H0 g most ns o1 o2 o3) (kok : Kok ns) {e : Env} {r : Rn} (hL : loopL Go.Proofs.Try.prog KT R l_plait_term_Graph_Cone_0 e H = r)
    (k0 : Keeps H0 H) (z : H0.size < H.size) {n len : Nat} {v : List Bool} (hl : v.length = len) (hn : n < len) (hnk : n ≤ ns.length) (hv : H.obj H0.size = .cells (v.map .bool))
    (e0 : e 0 = some (.ptr g 0)) (e5 : e 5 = some (.row H0.size 0 1 len true)) (e6 : e 6 = some (.int .i64 0)) (e7 : e 7 = some (.int .i64 n)) :
    ∃ x e' H', r = some (x, e', H') ∧ (x = .exit 0 ∧ Keeps H0 H' ∧ H0.size < H'.size ∧ H'.obj H0.size = .cells ((markT ns n v).map .bool) ∧ ∃ c : Nat, c ≤ n ∧ e' 6 = some (.int .i64 c)) ∧ ∀ t, t ∉ defs l_plait_term_Graph_Cone_0 → e' t = e t := by
  have lim := t.lim
  have lim2 := t.lim2
  refine loop_rule l_plait_term_Graph_Cone_0.eq_1 hL (fun i e1 H1 => ∃ v1 : List Bool, ∃ c : Nat, i < len ∧ i ≤ ns.length ∧ v1.length = len ∧ e1 7 = some (.int .i64 i) ∧ e1 6 = some (.int .i64 c) ∧ c + i ≤ n ∧ Keeps H0 H1 ∧ H0.size < H1.size ∧ H1.obj H0.size = .cells (v1.map .bool) ∧ markT ns i v1 = markT ns n v) _ n ⟨v, 0, hn, hnk, hl, e7, e6, by omega, k0, z, hv, rfl⟩ ?_
  rintro i e1 H1 hf ⟨v1, c, hi, hik, hl1, f7, f6, hci, k1, z1, ho, hmk⟩
  cases i with
  | zero =>
    simp [f7]
    exact ⟨k1, z1, by rw [ho, ← hmk]; rfl, c, by omega, f6⟩
  | succ i =>
    have hik' : i < ns.length := hik
    have hne : ns ≠ [] := by rintro rfl; simp at hik'
    obtain ⟨m, hm⟩ : ∃ m, ns[i]? = some m := ⟨ns[i], List.getElem?_eq_getElem hik'⟩
    have hg : ns.getD i Nd.zero = m := by simp [List.getD_eq_getElem?_getD, hm]
    obtain ⟨⟨a0, a1⟩, ⟨b0, b1⟩, ⟨d0, d1⟩⟩ := kok i m hm
    have hself : ∀ H', Keeps H0 H' → H'.obj g = .cells [.int .i64 most, .row o1 0 11 ns.length false, .map o2, .map o3] := fun H' k => ((k.obj g t.lg).trans t.og).trans (by rw [slv_row hik'])
    have hb1 : ∀ H2, Keeps H0 H2 → H2.obj o1 = .cells (flat ns) := fun H2 k => (k.obj _ (t.l1 hne)).trans (t.b1 hne)
    have hat := flat_at hm
    have hfl := flat_len ns
    have hle2 : i * 11 + 11 ≤ ns.length * 11 := by omega
    have w1 : IntKind.i64.wrap (i : Int) = (i : Int) := i64w (by omega) (by omega)
    have w2 : IntKind.i64.wrap ((c : Int) + 1) = (c : Int) + 1 := i64w (by omega) (by omega)
    have z2 : H0.size ≤ H1.size := Nat.le_of_lt z1
    have c1 : ¬ ((i : Int) + 1 ≤ 0) := by omega
    have c2 : (i : Int) + 1 < len := by omega
    have c3 : (i : Int) < ns.length := by omega
    have t1 : ((i : Int) + 1).toNat = i + 1 := by omega
    have p1 : (0 : Int) < (i : Int) + 1 := by omega
    have mk := marks_at (v := v1) (j := i + 1) (by omega)
    rw [markT] at hmk
    cases hx : v1.getD (i + 1) false with
    | false =>
      rw [hx] at mk
      rw [mark1T, hx] at hmk
      simp (maxDischargeDepth := 20) [hf, f6, f7, e5, w1, z1, k1, c2, t1, p1, ho, mk]
      exact ⟨i, by omega, by omega, by omega, v1, hl1, rfl, c, rfl, by omega, rfl, by simpa using hmk⟩
    | true =>
      rw [hx] at mk
      rw [mark1T, hx, hg] at hmk
      obtain ⟨op, sort, a, b, d, p, q, vw, vl, vh, name⟩ := m
      simp only at a0 a1 b0 b1 d0 d1 hmk
      simp only [Nd.cs] at hat
      obtain ⟨a, rfl⟩ := Int.eq_ofNat_of_zero_le a0
      obtain ⟨b, rfl⟩ := Int.eq_ofNat_of_zero_le b0
      obtain ⟨d, rfl⟩ := Int.eq_ofNat_of_zero_le d0
      have q4 : (a : Int) < (len : Int) := by omega
      have q5 : (b : Int) < (len : Int) := by omega
      have q6 : (d : Int) < (len : Int) := by omega
      have q7 : a < v1.length := by omega
      have q8 : b < v1.length := by omega
      have q9 : d < v1.length := by omega
      have n4 : a < len := by omega
      have n5 : b < len := by omega
      have n6 : d < len := by omega
      simp (maxDischargeDepth := 20) [-List.map_set, hf, f6, f7, e0, e5, hself, hb1, hat, hfl, hle2, w1, w2, z1, z2, k1, c2, c3, t1, p1, ho, mk, q4, q5, q6, n4, n5, n6, marks_set, hl1]
      exact ⟨i, by omega, by omega, by omega, _, by simp [hl1], rfl, c + 1, by omega, by omega, rfl, by simpa using hmk⟩

theorem OutT.push2 {H0 H : AHeap} {v : AV} {l : List Int} (h : OutT H0 H v l) (hob : ∀ p, p ∈ objs v → H0.size < p) (k : Keeps H0 H) (z : H0.size < H.size) {a : Int} (hl : l.length ≤ 1000000) {r : Option (AV × AHeap)}
    (hA : appU (H.new (.cells [.int .i64 a])) v (.row H.size 0 1 1 true) (some (1, 8, [.int .i64 0])) = r) :
    ∃ v' H', r = some (v', H') ∧ OutT H0 H' v' (l ++ [a]) ∧ Keeps H0 H' ∧ (∀ p, p ∈ objs v' → H0.size < p) ∧ H0.size < H'.size ∧ H'.obj H0.size = H.obj H0.size := by
  obtain ⟨H1, rfl, f1, s1, o1, rd⟩ := app_of hA (h.rd.keep (by simp)) h.gr (Reads.row' (all := [.int .i64 a]) (by simp) (by simp) (by simp)) (by omega) rfl (by omega) (by omega) (by omega) (by simp)
  simp only [new_size] at s1
  have := k.size
  refine ⟨_, H1, rfl, ⟨by simpa [RI] using rd, by simp, by simp; omega⟩, f1.keeps (by simp [k]) (fun p hp => h.new p hp), by simp; omega, by omega, ?_⟩
  rw [f1.obj _ (by simp; omega) (fun hh => by have := hob _ hh; omega)]
  simp
  intro e; omega
theorem tcone_loop1 {H0 : AHeap} {len : Nat} {v : List Bool} (hlv : v.length = len) (h1 : 1 ≤ len) (hm : len ≤ 1000000)
    {e : Env} {H : AHeap} {r : Rn} (hL : loopL Go.Proofs.Try.prog KT R l_plait_term_Graph_Cone_1 e H = r) (k0 : Keeps H0 H) (z : H0.size < H.size) (hv : H.obj H0.size = .cells (v.map .bool)) {w0 : AV} (hw0 : OutT H0 H w0 []) (hw1 : ∀ p, p ∈ objs w0 → H0.size < p)
    (e1' : e 1 = some (.int .i64 ((len : Int) - 1))) (e5 : e 5 = some (.row H0.size 0 1 len true)) (e9 : e 9 = some w0) (e10 : e 10 = some (.int .i64 1)) :
    ∃ x e' H', r = some (x, e', H') ∧ (x = .exit 2 ∧ Keeps H0 H' ∧ ∃ w, e' 9 = some w ∧ OutT H0 H' w (outT v len)) ∧ ∀ t, t ∉ defs l_plait_term_Graph_Cone_1 → e' t = e t := by
  refine loop_count l_plait_term_Graph_Cone_1.eq_1 hL len (fun i e1 H1 => ∃ w, e1 9 = some w ∧ e1 10 = some (.int .i64 i) ∧ Keeps H0 H1 ∧ H0.size < H1.size ∧ H1.obj H0.size = .cells (v.map .bool) ∧ (∀ p, p ∈ objs w → H0.size < p) ∧ OutT H0 H1 w (outT v i)) _ 1 h1
    ⟨w0, e9, e10, k0, z, hv, hw1, by rw [outT_one]; exact hw0⟩ ?_ ?_
  · rintro i e1 H1 hf hi1 hi ⟨w, f9, f10, k1, z1, ho, hob, hout⟩
    have w1 : IntKind.i64.wrap ((i : Int) + 1) = (i : Int) + 1 := i64w (by omega) (by omega)
    have c2 : (i : Int) < len := by omega
    have c3 : (i : Int) ≤ (len : Int) - 1 := by omega
    have c4 : ¬ (len : Int) - 1 < (i : Int) := by omega
    have mk := marks_at (v := v) (j := i) (by omega)
    have hlo := outT_len v i
    rw [outT_succ v hi1]
    cases hx : v.getD i false with
    | false =>
      rw [hx] at mk
      simp (maxDischargeDepth := 20) [hf, f9, f10, e1', e5, c2, c3, w1, ho, mk, k1, z1]
      exact ⟨hob, hout⟩
    | true =>
      rw [hx] at mk
      simp (maxDischargeDepth := 20) [hf, f9, f10, e1', e5, c2, c3, ho, mk]
      generalize hA : appU _ _ _ _ = q
      obtain ⟨w', H2, rfl, h2, k2, b2, z2, o2⟩ := hout.push2 hob k1 z1 (by omega) hA
      simp [f10, w1, k2, z2, o2, ho]
      exact ⟨b2, h2⟩
  · rintro e1 H1 hf ⟨w, f9, f10, k1, z1, ho, hob, hout⟩
    have c3 : ¬ (len : Int) ≤ (len : Int) - 1 := by omega
    have c4 : (len : Int) - 1 < (len : Int) := by omega
    simp [hf, e1', f9, f10, c3]
    exact ⟨k1, hout⟩

theorem cone_run {H : AHeap} {g : Nat} {most : Int} {ns : List Nd} {F : List Nat} (G : GT H g most ns F) {id : Int} : ∃ v, R f_plait_term_Graph_Cone [.ptr g 0, .int .i64 id] H = some (v, H) ∧ RI H v (coneT ns id) := by
  obtain ⟨o1, o2, o3, t, v, kok, rfl⟩ := G
  rw [e_plait_term_Graph_Cone]
  have hlen := slv_len o1 ns
  have lim := t.lim
  have lim2 := t.lim2
  have og := t.og
  unfold coneT
  by_cases c1 : id < 1
  · rw [if_pos (.inl c1)]
    simp (maxDischargeDepth := 40) [c_plait_term_Graph_Cone, c1]
    exact RI.nils
  by_cases c2 : (ns.length : Int) < id
  · rw [if_pos (.inr c2)]
    simp (maxDischargeDepth := 40) [c_plait_term_Graph_Cone, c1, c2, og, hlen]
    exact RI.nils
  rw [if_neg (by omega)]
  obtain ⟨n, rfl⟩ : ∃ n : Nat, id = (n : Int) := ⟨id.toNat, by omega⟩
  have hnl : n ≤ ns.length := by omega
  have w1 : IntKind.i64.wrap ((n : Int) + 1) = (n : Int) + 1 := i64w (by omega) (by omega)
  have c3 : (n : Int) + 1 ≤ 140737488355328 := by omega
  have c4 : (n : Int) + 1 ≤ 9223372036854775807 := by omega
  have c5 : n < n + 1 := by omega
  have c6 : (n : Int) < (n : Int) + 1 := by omega
  have c7 : (0 : Int) ≤ (n : Int) + 1 := by omega
  simp (maxDischargeDepth := 40) [c_plait_term_Graph_Cone, c1, c2, og, hlen, w1, c3, c4, c5, c6, c7]
  generalize hL : loopL _ _ _ _ _ _ = q
  obtain ⟨x, e1, H1, rfl, ⟨rfl, k1, z1, ob1, c, hc, e6⟩, fr1⟩ := tcone_loop0 t kok hL (by simp) (by simp) (n := n) (v := (List.replicate (n + 1) false).set n true) (len := n + 1) (by simp) (by omega) hnl (by rw [List.map_set]; simp) (by simp) (by simp) (by simp) (by simp)
  have d1 : (c : Int) ≤ 140737488355328 := by omega
  have d2 : (c : Int) ≤ 9223372036854775807 := by omega
  have d3 : (c : Int) * 8 ≤ 140737488355328 := by omega
  simp (maxDischargeDepth := 40) [e6, d2, d3]
  generalize hL2 : loopL _ _ _ _ _ _ = q
  have K1 := k1.new' (.cells (List.replicate c (AV.int .i64 0)))
  obtain ⟨x, e2, H2, rfl, ⟨rfl, k2, w, e9, hout⟩, fr2⟩ := tcone_loop1 (v := markT ns n ((List.replicate (n + 1) false).set n true)) (len := n + 1) (by rw [markT_len]; simp) (by omega) (by omega) hL2 K1 (by simp; omega) (by simp [ob1, z1])
    (w0 := .row H1.size 0 1 0 (decide (0 = (c : Int)))) ⟨⟨rfl, by simp [sliceCells], rfl, ⟨rfl, by simp⟩⟩, by simp, by simp; omega⟩ (by simp; omega) (by simp [fr1]) (by simp [fr1]) (by simp) (by simp)
  simp (maxDischargeDepth := 40) [e9]
  exact back_ints k2 hout
end Go.Proofs.Ytiaoojghohfkjaa
