/- Graphs of terms: sorted. -/
import Derived.Test.YtiaoojghohfkjaaTE
namespace Go.Proofs.Ytiaoojghohfkjaa
set_option maxRecDepth 100000
set_option maxHeartbeats 4000000

/-- An output that grows, made anew. -/
structure OutT (H0 H : AHeap) (v : AV) (l : List Int) : Prop where
  rd : RI H v l
  gr : grows v
  new : ∀ p, p ∈ objs v → H0.size ≤ p
theorem OutT.push {H0 H : AHeap} {v : AV} {l : List Int} (h : OutT H0 H v l) (k : Keeps H0 H) {a : Int} (hl : l.length ≤ 1000000) {r : Option (AV × AHeap)}
    (hA : appU (H.new (.cells [.int .i64 a])) v (.row H.size 0 1 1 true) (some (1, 8, [.int .i64 0])) = r) :
    ∃ v' H', r = some (v', H') ∧ OutT H0 H' v' (l ++ [a]) ∧ Keeps H0 H' := by
  obtain ⟨H1, rfl, f1, s1, o1, rd⟩ := app_of hA (h.rd.keep (by simp)) h.gr (Reads.row' (all := [.int .i64 a]) (by simp) (by simp) (by simp)) (by omega) rfl (by omega) (by omega) (by omega) (by simp)
  simp only [new_size] at s1
  have := k.size
  refine ⟨_, H1, rfl, ⟨by simpa [RI] using rd, by simp, by simp; omega⟩, f1.keeps (by simp [k]) (fun p hp => h.new p hp)⟩

/-- The sorts of a node's kids. -/
def ksort (ns : List Nd) (k : Int) : List Int := if 0 < k then [(ns.getD (k - 1).toNat Nd.zero).sort] else []
theorem ksort_len (ns : List Nd) (k : Int) : (ksort ns k).length ≤ 1 := by unfold ksort; split <;> simp

theorem sorted_loop {H0 H : AHeap} {g : Nat} {most : Int} {ns : List Nd} {o1 o2 o3 : Nat} (h0 : TG H0 g most ns o1 o2 o3) (k0 : Keeps H0 H) {x y z : Int} (hx : x ≤ ns.length) (hy : y ≤ ns.length) (hz : z ≤ ns.length) {e : Env} {r : Rn} (hL : loopL Go.Proofs.Try.prog KT R l_plait_term_Graph_sorted_0 e H = r)
    (e0 : e 0 = some (.ptr g 0)) (e7 : e 7 = some .nils) (e92 : e 92 = some (.agg [.int .i64 x, .int .i64 y, .int .i64 z])) (e93 : e 93 = some (.int .i64 0)) :
    ∃ y' e' H', r = some (y', e', H') ∧ (y' = .exit 1 ∧ Keeps H0 H' ∧ ∃ w, e' 7 = some w ∧ RI H' w (ksort ns x ++ ksort ns y ++ ksort ns z)) ∧ ∀ t, t ∉ defs l_plait_term_Graph_sorted_0 → e' t = e t := by
  have hl := h0.lim
  have hl2 := h0.lim2
  have at1 : ∀ j : Nat, j < ns.length → (flat ns)[j * 11 + 1]? = some (.int .i64 (ns.getD j Nd.zero).sort) := fun j hj => by
    rw [flat_get (n := ns.getD j Nd.zero) (by simp [hj]) (by omega)]; rfl
  refine loop_count l_plait_term_Graph_sorted_0.eq_1 hL 3 (fun i e1 H1 => ∃ w, e1 7 = some w ∧ e1 93 = some (.int .i64 i) ∧ Keeps H0 H1 ∧ OutT H0 H1 w (([x, y, z].take i).flatMap (ksort ns))) _ 0 (by omega) ⟨.nils, e7, e93, k0, ⟨by simpa using RI.nils, by simp, by simp⟩⟩ ?_ ?_
  · rintro i f H1 hf - hi ⟨w, f7, f93, k1, hout⟩
    have hw1 := i64w (n := (i : Int) + 1) (by omega) (by omega)
    have hc : (i : Int) < 3 := by omega
    have h1 := h0.keep k1
    have hlen := slv_len o1 ns
    have hle : (([x, y, z].take i).flatMap (ksort ns)).length ≤ 1000000 := by
      have := ksort_len ns x
      have := ksort_len ns y
      have := ksort_len ns z
      rcases (show i = 0 ∨ i = 1 ∨ i = 2 by omega) with rfl | rfl | rfl <;> simp [List.flatMap_cons] <;> omega
    rcases (show i = 0 ∨ i = 1 ∨ i = 2 by omega) with rfl | rfl | rfl
    · by_cases c2 : 0 < x
      · obtain ⟨j, rfl⟩ : ∃ j : Nat, x = (j : Int) + 1 := ⟨(x - 1).toNat, by omega⟩
        have hj : j < ns.length := by omega
        have hne : ns ≠ [] := by rintro rfl; simp at hj
        have wj : IntKind.i64.wrap (j : Int) = (j : Int) := i64w (by omega) (by omega)
        have cj : (j : Int) < ns.length := by omega
        have hs := slv_row (o := o1) hj
        have hat := at1 j hj
        have hg := h1.og
        have hb := h1.b1 hne
        have kk : ksort ns ((j : Int) + 1) = [(ns.getD j Nd.zero).sort] := by unfold ksort; rw [if_pos (by omega)]; simp
        rw [hs] at hg
        generalize (ns.getD j Nd.zero).sort = s at hat kk
        simp [hf, e0, f7, f93, e92, c2, wj, hg, cj, hb, hat]
        generalize hA : appU _ _ _ _ = q
        obtain ⟨w', H2, rfl, h2, k2⟩ := hout.push k1 hle hA
        simp [f93, k2, kk]
        simpa using h2
      · have kk : ksort ns x = [] := by unfold ksort; rw [if_neg c2]
        simp [hf, f7, f93, e92, c2, k1, kk]
        simpa using hout
    · by_cases c2 : 0 < y
      · obtain ⟨j, rfl⟩ : ∃ j : Nat, y = (j : Int) + 1 := ⟨(y - 1).toNat, by omega⟩
        have hj : j < ns.length := by omega
        have hne : ns ≠ [] := by rintro rfl; simp at hj
        have wj : IntKind.i64.wrap (j : Int) = (j : Int) := i64w (by omega) (by omega)
        have cj : (j : Int) < ns.length := by omega
        have hs := slv_row (o := o1) hj
        have hat := at1 j hj
        have hg := h1.og
        have hb := h1.b1 hne
        have kk : ksort ns ((j : Int) + 1) = [(ns.getD j Nd.zero).sort] := by unfold ksort; rw [if_pos (by omega)]; simp
        rw [hs] at hg
        generalize (ns.getD j Nd.zero).sort = s at hat kk
        simp [hf, e0, f7, f93, e92, c2, wj, hg, cj, hb, hat]
        generalize hA : appU _ _ _ _ = q
        obtain ⟨w', H2, rfl, h2, k2⟩ := hout.push k1 hle hA
        simp [f93, k2, kk]
        simpa using h2
      · have kk : ksort ns y = [] := by unfold ksort; rw [if_neg c2]
        simp [hf, f7, f93, e92, c2, k1, kk]
        simpa using hout
    · by_cases c2 : 0 < z
      · obtain ⟨j, rfl⟩ : ∃ j : Nat, z = (j : Int) + 1 := ⟨(z - 1).toNat, by omega⟩
        have hj : j < ns.length := by omega
        have hne : ns ≠ [] := by rintro rfl; simp at hj
        have wj : IntKind.i64.wrap (j : Int) = (j : Int) := i64w (by omega) (by omega)
        have cj : (j : Int) < ns.length := by omega
        have hs := slv_row (o := o1) hj
        have hat := at1 j hj
        have hg := h1.og
        have hb := h1.b1 hne
        have kk : ksort ns ((j : Int) + 1) = [(ns.getD j Nd.zero).sort] := by unfold ksort; rw [if_pos (by omega)]; simp
        rw [hs] at hg
        generalize (ns.getD j Nd.zero).sort = s at hat kk
        simp [hf, e0, f7, f93, e92, c2, wj, hg, cj, hb, hat]
        generalize hA : appU _ _ _ _ = q
        obtain ⟨w', H2, rfl, h2, k2⟩ := hout.push k1 hle hA
        simp [f93, k2, kk]
        simpa using h2
      · have kk : ksort ns z = [] := by unfold ksort; rw [if_neg c2]
        simp [hf, f7, f93, e92, c2, k1, kk]
        simpa using hout
  · rintro f H1 hf ⟨w, f7, f93, k1, hout⟩
    simp [f93, f7, k1]
    simpa using hout.rd

/-- A variable that the graph can't take. -/
def nameBad (ns : List Nd) (n : Nd) : Bool := decide (n.name = .empty) || match vidx ns n.name with
  | some i => decide (¬ (ns.getD i Nd.zero).sort = n.sort)
  | none => false
def sortedF (ns : List Nd) (n : Nd) : Nd × Int :=
  if n.op = 1 then (n, if rightF n.vw n.vl n.vh = true ∧ n.vw = n.sort ∧ n.p = 0 ∧ n.q = 0 then 0 else 30)
  else if n.op = 2 then (n, if isSort n.sort = true ∧ n.p = 0 ∧ n.q = 0 then (if nameBad ns n then 34 else 0) else 30)
  else ({ n with sort := (sortS n.op n.p n.q (ksort ns n.a ++ ksort ns n.b ++ ksort ns n.c)).1 }, (sortS n.op n.p n.q (ksort ns n.a ++ ksort ns n.b ++ ksort ns n.c)).2)

theorem vidx_lt {ns : List Nd} {s : ByteArray} {i : Nat} (h : vidx ns s = some i) : i < ns.length := by
  unfold vidx at h
  exact (List.findIdx?_eq_some_iff_getElem.1 h).1

theorem sorted_run {H : AHeap} {g : Nat} {most : Int} {ns : List Nd} {o1 o2 o3 : Nat} (h : TG H g most ns o1 o2 o3) {n : Nd} (ha : n.a ≤ ns.length) (hb : n.b ≤ ns.length) (hc : n.c ≤ ns.length) :
    R f_plait_term_Graph_sorted [.ptr g 0, .agg n.cs] H = some (.tup [.agg (sortedF ns n).1.cs, .int .i64 (sortedF ns n).2], H) := by
  obtain ⟨S, hS⟩ : ∃ S, S = sortedF ns n := ⟨_, rfl⟩
  rw [← hS, e_plait_term_Graph_sorted]
  obtain ⟨op, sort, a, b, c, p, q, vw, vl, vh, name⟩ := n
  by_cases c1 : op = 1
  · subst c1
    have hS2 : S = (⟨1, sort, a, b, c, p, q, vw, vl, vh, name⟩, if rightF vw vl vh = true ∧ vw = sort ∧ p = 0 ∧ q = 0 then 0 else 30) := by rw [hS]; unfold sortedF; rw [if_pos rfl]
    rw [hS2]; clear hS2 hS
    cases d1 : rightF vw vl vh with
    | false => simp (maxDischargeDepth := 40) [Nd.cs, c_plait_term_Graph_sorted, bvRight_run, d1]
    | true =>
      by_cases d2 : vw = sort
      · subst d2
        by_cases d3 : p = 0
        · subst d3
          by_cases d4 : q = 0
          · subst d4
            simp (maxDischargeDepth := 40) [Nd.cs, c_plait_term_Graph_sorted, bvRight_run, d1]
          · simp (maxDischargeDepth := 40) [Nd.cs, c_plait_term_Graph_sorted, bvRight_run, d1, d4]
        · simp (maxDischargeDepth := 40) [Nd.cs, c_plait_term_Graph_sorted, bvRight_run, d1, d3]
      · simp (maxDischargeDepth := 40) [Nd.cs, c_plait_term_Graph_sorted, bvRight_run, d1, d2]
  by_cases c2 : op = 2
  · subst c2
    have hS2 : S = (⟨2, sort, a, b, c, p, q, vw, vl, vh, name⟩, if isSort sort = true ∧ p = 0 ∧ q = 0 then (if nameBad ns ⟨2, sort, a, b, c, p, q, vw, vl, vh, name⟩ then 34 else 0) else 30) := by rw [hS]; unfold sortedF; rw [if_neg c1, if_pos rfl]
    rw [hS2]; clear hS2 hS
    cases d1 : isSort sort with
    | false => simp (maxDischargeDepth := 40) [Nd.cs, c_plait_term_Graph_sorted, sort_run, d1]
    | true =>
      by_cases d3 : p = 0
      rotate_left
      · simp (maxDischargeDepth := 40) [Nd.cs, c_plait_term_Graph_sorted, sort_run, d1, d3]
      subst d3
      by_cases d4 : q = 0
      rotate_left
      · simp (maxDischargeDepth := 40) [Nd.cs, c_plait_term_Graph_sorted, sort_run, d1, d4]
      subst d4
      obtain ⟨es, cnt, m1, m2⟩ := h.b3
      have m3 := m2 name
      have og := h.og
      have hlm := h.lim
      have hlm2 := h.lim2
      have lts : g < H.size := h.lg
      have lt3 : o3 < H.size := h.l3
      have nam : nameBad ns ⟨2, sort, a, b, c, 0, 0, vw, vl, vh, name⟩ = (decide (name = ⟨#[]⟩) || match vidx ns name with | some i => decide (¬ (ns.getD i Nd.zero).sort = sort) | none => false) := rfl
      rw [nam]
      cases hv : vidx ns name with
      | none =>
        rw [hv] at m3
        cases hf : findE (.str name) es with
        | some x => rw [hf] at m3; cases m3
        | none =>
          by_cases d5 : name = ⟨#[]⟩
          · simp (maxDischargeDepth := 40) [Nd.cs, c_plait_term_Graph_sorted, sort_run, d1, og, m1, lts, lt3, d5]
          · simp (maxDischargeDepth := 40) [Nd.cs, c_plait_term_Graph_sorted, sort_run, d1, og, m1, hf, lts, lt3, d5]
      | some j =>
        rw [hv] at m3
        cases hf : findE (.str name) es with
        | none => rw [hf] at m3; cases m3
        | some x =>
          rw [hf] at m3
          have hx : x.val = num j := by simpa using m3
          have hj := vidx_lt hv
          have hne : ns ≠ [] := by rintro rfl; simp at hj
          have wj : IntKind.i64.wrap (j : Int) = (j : Int) := i64w (by omega) (by omega)
          have cj : (j : Int) < ns.length := by omega
          have hs := slv_row (o := o1) hj
          have hat : (flat ns)[j * 11 + 1]? = some (.int .i64 (ns.getD j Nd.zero).sort) := by
            rw [flat_get (n := ns.getD j Nd.zero) (by simp [hj]) (by omega)]; rfl
          have hb := h.b1 hne
          have lt1 := h.l1 hne
          have p1 : (0 : Int) < (j : Int) + 1 := by omega
          rw [hs] at og
          obtain ⟨s, hsd⟩ : ∃ s, s = (ns.getD j Nd.zero).sort := ⟨_, rfl⟩
          rw [← hsd] at hat
          simp only [← hsd]
          by_cases d5 : name = ⟨#[]⟩
          · simp (maxDischargeDepth := 40) [Nd.cs, c_plait_term_Graph_sorted, sort_run, d1, og, m1, lts, lt3, d5]
          · by_cases d6 : s = sort
            · have d6' := eq_true d6
              simp (maxDischargeDepth := 40) [Nd.cs, c_plait_term_Graph_sorted, sort_run, d1, og, m1, hf, hx, num, lts, lt3, lt1, d5, p1, wj, cj, hb, hat, d6']
            · simp (maxDischargeDepth := 40) [Nd.cs, c_plait_term_Graph_sorted, sort_run, d1, og, m1, hf, hx, num, lts, lt3, lt1, d5, p1, wj, cj, hb, hat, d6]
  · have hS2 : S = (⟨op, (sortS op p q (ksort ns a ++ ksort ns b ++ ksort ns c)).1, a, b, c, p, q, vw, vl, vh, name⟩, (sortS op p q (ksort ns a ++ ksort ns b ++ ksort ns c)).2) := by rw [hS]; unfold sortedF; rw [if_neg c1, if_neg c2]
    obtain ⟨l, hl⟩ : ∃ l, l = ksort ns a ++ ksort ns b ++ ksort ns c := ⟨_, rfl⟩
    rw [hS2, ← hl]; clear hS2 hS
    have lts : g < H.size := h.lg
    simp (maxDischargeDepth := 40) [Nd.cs, c_plait_term_Graph_sorted, c1, c2]
    generalize hL : loopL _ _ _ _ _ _ = r
    obtain ⟨y, e1, H1, rfl, ⟨rfl, k1, w, e7, hw⟩, fr⟩ := sorted_loop (x := a) (y := b) (z := c) (h.keep (by simp)) (Keeps.refl _) ha hb hc hL (by simp) (by simp) (by simp) (by simp)
    have hK : Keeps H H1 := Keeps.trans (by simp (maxDischargeDepth := 40)) k1
    have hlk : (ksort ns a ++ ksort ns b ++ ksort ns c).length ≤ 9223372036854775807 := by
      have := ksort_len ns a
      have := ksort_len ns b
      have := ksort_len ns c
      simp; omega
    rw [← hl] at hw hlk
    clear hl
    have o2' : H1.obj (H.size + 1) = .cells Nd.zero.cs := by
      rw [k1.obj _ (by simp)]; simp [Nd.cs, Nd.zero]
    simp only [Nd.cs, Nd.zero] at o2'
    have o1' : H1.obj H.size = .cells [.int .i64 op, .int .i64 sort, .int .i64 a, .int .i64 b, .int .i64 c, .int .i64 p, .int .i64 q, .int .i64 vw, u vl, u vh, .str name] := by
      rw [k1.obj _ (by simp)]; simp
    have sz := k1.size
    simp only [new_size] at sz
    have z1 : H.size < H1.size := by omega
    have z2 : H.size + 1 < H1.size := by omega
    have ts := termSort_pair hw hlk (op := op) (p := p) (q := q)
    simp (maxDischargeDepth := 40) [fr, e7, o1', o2', ts, pair, hK]
end Go.Proofs.Ytiaoojghohfkjaa
