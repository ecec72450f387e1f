/- And-inverter graphs: what the document's own functions on them compute. -/
import Derived.Test.YtphkkcocimmmfaaAX3
namespace Go.Proofs.Ytphkkcocimmmfaa
set_option maxRecDepth 100000

/-- A graph of the document's in the heap, and the objects that it lies in. -/
structure RRep (H : AHeap) (o : Nat) (m : Int) (ks : Kd) (lv : AV) : Prop where
  self : H.obj o = .cells [lv, .int .i64 m]
  lo : o < H.size
  rk : Reads H lv 3 ks.length (rcl ks)
  gk : grows lv
  ok : ∀ p, p ∈ objs lv → p ≠ o
def RAt (H : AHeap) (o : Nat) (m : Int) (ks : Kd) (F : List Nat) : Prop := ∃ lv, RRep H o m ks lv ∧ F = o :: objs lv
theorem RAt.lt {H : AHeap} {o : Nat} {m : Int} {ks : Kd} {F : List Nat} (h : RAt H o m ks F) {p : Nat} (hp : p ∈ F) : p < H.size := by
  obtain ⟨lv, h, rfl⟩ := h
  simp at hp
  rcases hp with rfl | hp
  · exact h.lo
  · exact h.rk.lt hp
theorem RRep.keep {H H' : AHeap} {o : Nat} {m : Int} {ks : Kd} {lv : AV} {X : List Nat} (h : RRep H o m ks lv) (k : Fr X H H') (hx : ∀ p, p ∈ o :: objs lv → p ∉ X) : RRep H' o m ks lv := by
  refine ⟨?_, k.lt h.lo, h.rk.frO k fun p hp => hx p (by simp [hp]), h.gk, h.ok⟩
  rw [k.obj _ h.lo (hx _ (by simp))]; exact h.self
theorem RRep.keeps {H H' : AHeap} {o : Nat} {m : Int} {ks : Kd} {lv : AV} (h : RRep H o m ks lv) (k : Keeps H H') : RRep H' o m ks lv := h.keep (k.fr []) (by simp)
theorem RAt.keep {H H' : AHeap} {o : Nat} {m : Int} {ks : Kd} {F X : List Nat} (h : RAt H o m ks F) (k : Fr X H H') (hx : ∀ p, p ∈ F → p ∉ X) : RAt H' o m ks F := by
  obtain ⟨lv, h, rfl⟩ := h
  exact ⟨lv, h.keep k hx, rfl⟩
theorem RAt.keeps {H H' : AHeap} {o : Nat} {m : Int} {ks : Kd} {F : List Nat} (h : RAt H o m ks F) (k : Keeps H H') : RAt H' o m ks F := h.keep (k.fr []) (by simp)

/-- What a call on a graph of the document's comes to. -/
def Rv (H : AHeap) (o : Nat) (m : Int) (F : List Nat) (x : Ans) (r : Option (AV × AHeap)) : Prop :=
  ∃ H' F', r = some (.tup [.int .i64 x.l, .int .i64 x.e], H') ∧ RAt H' o m x.ks F' ∧ Mv F H F' H'
theorem Rv.mk {H H' : AHeap} {o : Nat} {m l e : Int} {F : List Nat} {x : Ans} {js : Kd} {r : Option (AV × AHeap)} (h : some (.tup [.int .i64 l, .int .i64 e], H') = r) (hx : x = ⟨l, e, js⟩) (F' : List Nat) (g : RAt H' o m js F') (k : Mv F H F' H') : Rv H o m F x r := by
  subst hx; exact ⟨H', F', h.symm, g, k⟩

theorem RAt.cut {H H' : AHeap} {o : Nat} {m : Int} {ks js : Kd} {F F' : List Nat} (g0 : RAt H o m ks F) (g : RAt H' o m js F') (hs : Shut H H') : RAt (H.cut H') o m js F' ∧ ∀ p, p ∈ F' → p < H.size := by
  obtain ⟨lv, g, rfl⟩ := g
  obtain ⟨lv0, g0, rfl⟩ := g0
  have hlt : ∀ p, p ∈ objs lv → p < H.size := by
    rcases hs.obj o g0.lo with e | e
    · rw [g.self, g0.self] at e
      simp only [AObj.cells.injEq, List.cons.injEq, and_true] at e
      rw [e]
      exact fun p hp => g0.rk.lt hp
    · rw [g.self] at e
      simp only [closedO, closedL, closed, Bool.and_true] at e
      exact grows_closed g.gk e
  have ho : ∀ p, p < H.size → (H.cut H').obj p = H'.obj p := fun p hp => by simp only [AHeap.cut]; rw [if_pos hp]
  refine ⟨⟨lv, ⟨by rw [ho _ g0.lo]; exact g.self, g0.lo, g.rk.cut hlt, g.gk, g.ok⟩, rfl⟩, fun p hp => ?_⟩
  simp at hp
  rcases hp with rfl | hp
  · exact g0.lo
  · exact hlt p hp
theorem Rv.mkB {H H' : AHeap} {o : Nat} {m l e : Int} {F : List Nat} {x : Ans} {ks js : Kd} {r : Option (AV × AHeap)} (g0 : RAt H o m ks F) (h : some (back [] H (.tup [.int .i64 l, .int .i64 e]) H') = r) (hx : x = ⟨l, e, js⟩) (F' : List Nat) (g : RAt H' o m js F') (k : Mv F H F' H') : Rv H o m F x r := by
  by_cases hs : Shut H H'
  · rw [back_nil (by simp [closed, closedL]) hs] at h
    obtain ⟨g1, g2⟩ := g0.cut g hs
    exact Rv.mk h hx F' g1 ⟨k.fr.cutF, k.new⟩
  · rw [back_not hs] at h
    exact Rv.mk h hx F' g k

section
variable {P : Program} {K : TypeId → Option (List Sc)}
@[simp high] theorem quo2 {t : TypeId} {a : Int} (h0 : 0 ≤ a) (h1 : a ≤ 9223372036854775807) : abin P K .quo t (.int .i64 a) (.int .i64 2) = some (.int .i64 (a / 2)) := by
  rw [bin_quo, if_neg (by decide), Int.tdiv_eq_ediv_of_nonneg h0, i64w (by omega) (by omega)]
@[simp high] theorem rem2 {t : TypeId} {a : Int} (h0 : 0 ≤ a) : abin P K .rem t (.int .i64 a) (.int .i64 2) = some (.int .i64 (a % 2)) := by
  rw [bin_rem, if_neg (by decide), Int.tmod_eq_emod_of_nonneg h0]
end

theorem is8_run {H : AHeap} {o : Nat} {m : Int} {ks : Kd} {F : List Nat} (g : RAt H o m ks F) {l : Int} (hl : l ≤ 9223372036854775807) : R f_plait_plaitref8_Graph_is [.ptr o 0, .int .i64 l] H = some (.bool (decide (isL ks.length l)), H) := by
  obtain ⟨lv, g, rfl⟩ := g
  rw [e_plait_plaitref8_Graph_is]
  by_cases h0 : 0 ≤ l <;> simp [c_plait_plaitref8_Graph_is, g.self, g.rk.len, isL, h0, hl]

theorem put_run {H : AHeap} {o : Nat} {m : Int} {ks : Kd} {F : List Nat} (g : RAt H o m ks F) (hr : Rt m ks) {k : Int × Int} {r : Option (AV × AHeap)}
    (h : R f_plait_plaitref8_Graph_put [.ptr o 0, .agg [.int .i64 k.1, .int .i64 k.2, .bool (decide (k = (0, 0)))]] H = r) : Rv H o m F (putF m ks k) r := by
  have hg := g
  obtain ⟨lv, g, rfl⟩ := g
  rw [e_plait_plaitref8_Graph_put] at h
  have hm := hr.most
  have hl := hr.le
  by_cases hf : m ≤ ks.length
  · simp [c_plait_plaitref8_Graph_put, g.self, g.rk.len, g.lo, hf, -Prod.mk.injEq] at h
    exact Rv.mk h (by simp [putF, hf]) _ hg (Mv.refl _ _)
  · simp [c_plait_plaitref8_Graph_put, g.self, g.rk.len, g.lo, hf, -Prod.mk.injEq] at h
    generalize hb : decide (k = (0, 0)) = b at h
    generalize hA : appU _ _ _ _ = q at h
    obtain ⟨H1, rfl, f1, s1, o1, -⟩ := app_of hA (g.rk.keep (by simp)) g.gk (Reads.row' (all := [.int .i64 k.1, .int .i64 k.2, .bool b]) (by simp) (by simp) (by simp)) (by omega) rfl (by omega) (by omega) (by omega) (by simp)
    simp only [new_size] at s1 o1
    have lo := g.lo
    have ho1 : H1.obj o = .cells [lv, .int .i64 m] := by
      rw [f1.obj o (by simp; omega) (fun hh => (g.ok o hh) rfl)]
      simp [g.self, g.lo]
    have w : IntKind.i64.wrap (2 * ((ks.length : Int) + 1)) = 2 * ((ks.length : Int) + 1) := i64w (by omega) (by omega)
    simp [ho1, w] at h
    refine Rv.mkB hg h (js := ks ++ [k]) (by simp [putF, hf]) [o, H.size + 1 + 1] ?_ ?_
    · refine ⟨.row (H.size + 1 + 1) 0 3 (ks.length + 1) false, ⟨by simp, by simp; omega, ?_, by simp, by simp; omega⟩, by simp⟩
      have e : ks.length + 1 = (ks ++ [k]).length := by simp
      rw [e]
      refine Reads.row' (by simp; omega) ?_ (by rw [rcl_len])
      have : ¬ H.size + 1 + 1 = o := by omega
      simp [this, o1, rcl_append, ← hb]
      simp [rcl]
    · refine ⟨?_, by simp⟩
      exact ((((Keeps.refl H).new' _).new' _).fr (o :: objs lv) |>.trans f1 (fun p hp => .inl (by simp [hp]))).set (.inl (by simp)) _

theorem put_run' {H : AHeap} {o : Nat} {m : Int} {ks : Kd} {F : List Nat} (g : RAt H o m ks F) (hr : Rt m ks) {x y : Int} {b : Bool} (hb : b = decide ((x, y) = ((0 : Int), (0 : Int)))) {r : Option (AV × AHeap)}
    (h : R f_plait_plaitref8_Graph_put [.ptr o 0, .agg [.int .i64 x, .int .i64 y, .bool b]] H = r) : Rv H o m F (putF m ks (x, y)) r := by
  subst hb; exact put_run (k := (x, y)) g hr h

theorem rinput_run {H : AHeap} {o : Nat} {m : Int} {ks : Kd} {F : List Nat} (g : RAt H o m ks F) (hr : Rt m ks) {r : Option (AV × AHeap)} (h : R f_plait_plaitref8_Graph_Input [.ptr o 0] H = r) : Rv H o m F (putF m ks (0, 0)) r := by
  rw [e_plait_plaitref8_Graph_Input] at h
  simp [c_plait_plaitref8_Graph_Input] at h
  generalize hN : R f_plait_plaitref8_Graph_put _ _ = q at h
  obtain ⟨H1, F1, rfl, g1, m1⟩ := put_run' g hr (by simp) hN
  simp at h
  exact Rv.mkB g h (by simp) F1 g1 m1

/-- The cells of one node. -/
theorem loadn_of {H : AHeap} {v : AV} {ks : Kd} (hv : Reads H v 3 ks.length (rcl ks)) (hg : grows v) {i : Nat} {k : Int × Int} (hk : ks[i]? = some k) :
    ∃ po off all, aindexAddr Go.Proofs.Try.prog T_s_plaitref8_Node v (i : Int) = some (.ptr po off) ∧ (∀ H', Keeps H H' → H'.obj po = .cells all) ∧ off + 3 ≤ all.length ∧ po < H.size ∧
      all[off]? = some (.int .i64 k.1) ∧ all[off + 1]? = some (.int .i64 k.2) ∧ all[off + 2]? = some (.bool (decide (k = (0, 0)))) ∧ (all.drop off).take 3 = [.int .i64 k.1, .int .i64 k.2, .bool (decide (k = (0, 0)))] := by
  have hi := (List.getElem?_eq_some_iff.1 hk).1
  have ha := hv.addr (P := Go.Proofs.Try.prog) (t := T_s_plaitref8_Node) (by simp) hi
  obtain ⟨c0, c1, c2⟩ := rcl_at hk
  obtain ⟨h1, h2, h3, h4⟩ := hv
  have hb : i * 3 + 3 ≤ ks.length * 3 := by omega
  cases v <;> first | (exact hg.elim) | skip
  · simp [sliceLen] at h1; omega
  · obtain ⟨rfl, ho⟩ := h4
    simp [sliceLen] at h1
    subst h1
    rename_i o off _
    unfold sliceCells at h2
    simp only at h2
    split at h2 <;> first | (cases h2; done) | skip
    rename_i all hob
    split at h2 <;> first | (cases h2; done) | skip
    rename_i hle
    simp only [Option.some.injEq] at h2
    rw [← h2] at c0 c1 c2
    rw [List.getElem?_take_of_lt (by omega), List.getElem?_drop] at c0 c1 c2
    rw [← Nat.add_assoc] at c1 c2
    refine ⟨o, off + i * 3, all, ha, fun H' kp => by rw [kp.obj _ ho]; exact hob, by omega, ho, c0, c1, c2, ?_⟩
    have g0 := (List.getElem?_eq_some_iff.1 c0)
    have g1 := (List.getElem?_eq_some_iff.1 c1)
    have g2 := (List.getElem?_eq_some_iff.1 c2)
    rw [List.drop_eq_getElem_cons g0.1, List.drop_eq_getElem_cons g1.1, List.drop_eq_getElem_cons g2.1]
    simp [g0.2, g1.2, g2.2]

/-! And: a search. -/
theorem findK_drop {a b : Int} : ∀ {ks : Kd} {i : Nat} {k : Int × Int}, ks[i]? = some k → findK a b (ks.drop i) i = if k = (a, b) then some i else findK a b (ks.drop (i + 1)) (i + 1) := by
  intro ks i k h
  have hi := (List.getElem?_eq_some_iff.1 h).1
  rw [List.drop_eq_getElem_cons hi, (List.getElem?_eq_some_iff.1 h).2, findK]

set_option maxHeartbeats 1000000 in
theorem rand_loop {H : AHeap} {o : Nat} {m : Int} {ks : Kd} {lv : AV} (g : RRep H o m ks lv) (hr : Rt m ks) {x y : Int} (hx : x ≠ 0) {e : Env} {r : Rn} (hL : loopL Go.Proofs.Try.prog KT R l_plait_plaitref8_Graph_And_0 e H = r)
    (e0 : e 0 = some (.ptr o 0)) (e1 : e 1 = some (.int .i64 x)) (e2 : e 2 = some (.int .i64 y)) (e8 : e 8 = some (.int .i64 0)) :
    ∃ z e' H', r = some (z, e', H') ∧ (H' = H ∧ ((z = .exit 0 ∧ findK x y ks 0 = none) ∨ (z = .ret ∧ ∃ i : Nat, findK x y ks 0 = some i ∧ e' 6 = some (.int .i64 (2 * ((i : Int) + 1))) ∧ e' 7 = some (.int .i64 0)))) ∧ ∀ t, t ∉ defs l_plait_plaitref8_Graph_And_0 → e' t = e t := by
  have hm := hr.most
  have hle := hr.le
  refine loop_count l_plait_plaitref8_Graph_And_0.eq_1 hL ks.length (fun i f H1 => H1 = H ∧ f 8 = some (.int .i64 i) ∧ findK x y (ks.drop i) i = findK x y ks 0) _ 0 (Nat.zero_le _) ⟨rfl, e8, by simp⟩ ?_ ?_
  · rintro i f H1 hf - hi ⟨rfl, f8, hfk⟩
    obtain ⟨k, hk⟩ : ∃ k, ks[i]? = some k := ⟨ks[i], List.getElem?_eq_getElem hi⟩
    obtain ⟨po, off, all, a1, a2, a3, a4, c0, c1, c2, -⟩ := loadn_of g.rk g.gk hk
    have a2 := a2 H1 (Keeps.refl H1)
    have w1 : IntKind.i64.wrap ((i : Int) + 1) = (i : Int) + 1 := i64w (by omega) (by omega)
    have w2 : IntKind.i64.wrap (2 * ((i : Int) + 1)) = 2 * ((i : Int) + 1) := i64w (by omega) (by omega)
    have ci : (i : Int) < ks.length := by omega
    rw [findK_drop hk] at hfk
    by_cases h3 : k = (0, 0)
    · rw [if_neg (by rw [h3]; simp; intro e; exact absurd e.symm hx)] at hfk
      subst h3
      simp at c2
      simp [hf, f8, e0, g.self, g.rk.len, ci, a1, a2, c2, w1]
      exact hfk
    · have hb : decide (k = (0, 0)) = false := by simpa using h3
      rw [hb] at c2
      by_cases hk1 : k.1 = x
      · by_cases hk2 : k.2 = y
        · rw [if_pos (Prod.ext hk1 hk2)] at hfk
          simp [hf, f8, e0, e1, e2, g.self, g.rk.len, ci, a1, a2, c0, c1, c2, w1, w2, hk1, hk2]
          exact ⟨i, hfk.symm, rfl⟩
        · rw [if_neg (fun e => hk2 (by rw [e]))] at hfk
          simp [hf, f8, e0, e1, e2, g.self, g.rk.len, ci, a1, a2, c0, c1, c2, w1, hk1, hk2]
          exact hfk
      · rw [if_neg (fun e => hk1 (by rw [e]))] at hfk
        simp [hf, f8, e0, e1, g.self, g.rk.len, ci, a1, a2, c0, c2, w1, hk1]
        exact hfk
  · rintro f H1 hf ⟨rfl, f8, hfk⟩
    simp [hf, f8, e0, g.self, g.rk.len]
    rw [← hfk]; simp [findK]

set_option maxHeartbeats 1000000 in
theorem rand_run {H : AHeap} {o : Nat} {m : Int} {ks : Kd} {F : List Nat} (g : RAt H o m ks F) (hr : Rt m ks) {a b : Int} (ba : a ≤ 9223372036854775807) (bb : b ≤ 9223372036854775807) {r : Option (AV × AHeap)} (h : R f_plait_plaitref8_Graph_And [.ptr o 0, .int .i64 a, .int .i64 b] H = r) : Rv H o m F (andF m ks a b) r := by
  rw [e_plait_plaitref8_Graph_And] at h
  have hm := hr.most
  have hl := hr.le
  have h1 := is8_run g ba
  have h2 := is8_run g bb
  by_cases ha : isL ks.length a
  rotate_left
  · simp [c_plait_plaitref8_Graph_And, h1, ha] at h
    exact Rv.mk h (by simp [andF, ha]) F g (Mv.refl _ _)
  by_cases hb : isL ks.length b
  rotate_left
  · simp [c_plait_plaitref8_Graph_And, h1, h2, ha, hb] at h
    exact Rv.mk h (by simp [andF, hb]) F g (Mv.refl _ _)
  have main : ∀ x y : Int, isL ks.length x → isL ks.length y → x ≤ y → andF m ks a b = and2 m ks x y → ((a = x ∧ b = y ∧ ¬ b < a) ∨ (a = y ∧ b = x ∧ b < a)) → Rv H o m F (andF m ks a b) r := by
    intro x y hx hy hxy hand hab
    rw [hand]
    rw [isL_lt] at hx hy
    have hgo := g
    have hb1 : -9223372036854775808 ≤ x := by omega
    have hb2 : x ≤ 9223372036854775807 := by omega
    by_cases c1 : x = 0
    · rcases hab with ⟨q1, q2, q3⟩ | ⟨q1, q2, q3⟩ <;>
      · simp [c_plait_plaitref8_Graph_And, h1, h2, ha, hb, q3] at h
        replace q1 := q1.symm; replace q2 := q2.symm; subst q1 q2 c1
        simp at h
        exact Rv.mk h (by simp [and2]) _ hgo (Mv.refl _ _)
    by_cases c2 : flip1 x = y
    · rcases hab with ⟨q1, q2, q3⟩ | ⟨q1, q2, q3⟩ <;>
      · simp [c_plait_plaitref8_Graph_And, h1, h2, ha, hb, q3] at h
        replace q1 := q1.symm; replace q2 := q2.symm; subst q1 q2
        simp [c1, c2, hb1, hb2] at h
        exact Rv.mk h (by simp [and2, c2]) _ hgo (Mv.refl _ _)
    by_cases c3 : x = 1
    · rcases hab with ⟨q1, q2, q3⟩ | ⟨q1, q2, q3⟩ <;>
      · simp [c_plait_plaitref8_Graph_And, h1, h2, ha, hb, q3] at h
        replace q1 := q1.symm; replace q2 := q2.symm; subst q1 q2 c3
        simp [c2, hb1, hb2] at h
        exact Rv.mk h (by simp [and2, c2]) _ hgo (Mv.refl _ _)
    by_cases c4 : x = y
    · subst c4
      rcases hab with ⟨q1, q2, q3⟩ | ⟨q1, q2, q3⟩ <;>
      · simp [c_plait_plaitref8_Graph_And, h1, h2, ha, hb, q3] at h
        replace q1 := q1.symm; replace q2 := q2.symm; subst q1 q2
        simp [c1, c2, c3, hb1, hb2] at h
        exact Rv.mk h (by simp [and2, c1, c2, c3]) _ hgo (Mv.refl _ _)
    obtain ⟨lv, gr, rfl⟩ := g
    rcases hab with ⟨q1, q2, q3⟩ | ⟨q1, q2, q3⟩ <;>
    · simp [c_plait_plaitref8_Graph_And, h1, h2, ha, hb, q3] at h
      replace q1 := q1.symm; replace q2 := q2.symm; subst q1 q2
      simp [c1, c2, c3, c4, hb1, hb2] at h
      generalize hL : loopL _ _ _ _ _ _ = q at h
      obtain ⟨z, e', H1, rfl, ⟨rfl, hz⟩, fr⟩ := rand_loop (x := x) (y := y) gr hr c1 hL (by simp) (by simp) (by simp) (by simp)
      rcases hz with ⟨rfl, hn⟩ | ⟨rfl, i, hi, f6, f7⟩
      · simp [fr] at h
        generalize hN : R f_plait_plaitref8_Graph_put _ _ = q at h
        obtain ⟨H2, F2, rfl, g2, m2⟩ := put_run' hgo hr (by simp [c1]) hN
        simp at h
        exact Rv.mkB hgo h (by simp [and2, c1, c2, c3, c4, hn]) F2 g2 m2
      · simp [f6, f7] at h
        exact Rv.mk h (by simp [and2, c1, c2, c3, c4, hi]) _ hgo (Mv.refl _ _)
  by_cases hlt : b < a
  · exact main b a hb ha (by omega) (by simp [andF, ha, hb, hlt]) (.inr ⟨rfl, rfl, hlt⟩)
  · exact main a b ha hb (by omega) (by simp [andF, ha, hb, hlt]) (.inl ⟨rfl, rfl, hlt⟩)

end Go.Proofs.Ytphkkcocimmmfaa
