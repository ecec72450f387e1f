/- And-inverter graphs: what the program's functions on them compute. -/
import Derived.Test.YtdbbkhmiflignaaAM
import Derived.Test.YtdbbkhmiflignaaAT
namespace Go.Proofs.Ytdbbkhmiflignaa

/-- A graph of the program in the heap. -/
structure GRep (H : AHeap) (o : Nat) (m : Int) (ks : Kd) (kv : AV) (mo : Nat) (iv : AV) : Prop where
  self : H.obj o = .cells [.int .i64 m, kv, .map mo, iv]
  lo : o < H.size
  lm : mo < H.size
  ne : o ≠ mo
  rk : Reads H kv 2 ks.length (kc ks)
  gk : grows kv
  ok : ∀ p, p ∈ objs kv → p ≠ o ∧ p ≠ mo
  map : H.obj mo = .map (.many [.i .i64, .i .i64]) (ents ks 0 0) (ents ks 0 0).length
  ri : Reads H iv 1 (insF ks 0).length ((insF ks 0).map (.int .i64))
  gi : grows iv
  oi : ∀ p, p ∈ objs iv → p ≠ o ∧ p ≠ mo ∧ p ∉ objs kv
/-- .. and the objects that it lies in. -/
def GAt (H : AHeap) (o : Nat) (m : Int) (ks : Kd) (F : List Nat) : Prop := ∃ kv mo iv, GRep H o m ks kv mo iv ∧ F = o :: mo :: (objs kv ++ objs iv)

theorem GAt.lt {H : AHeap} {o : Nat} {m : Int} {ks : Kd} {F : List Nat} (h : GAt H o m ks F) {p : Nat} (hp : p ∈ F) : p < H.size := by
  obtain ⟨kv, mo, iv, h, rfl⟩ := h
  simp at hp
  rcases hp with rfl | rfl | hp | hp
  · exact h.lo
  · exact h.lm
  · exact h.rk.lt hp
  · exact h.ri.lt hp
theorem GAt.mem {H : AHeap} {o : Nat} {m : Int} {ks : Kd} {F : List Nat} (h : GAt H o m ks F) : o ∈ F := by
  obtain ⟨kv, mo, iv, h, rfl⟩ := h
  simp
theorem GRep.keep {H H' : AHeap} {o : Nat} {m : Int} {ks : Kd} {kv iv : AV} {mo : Nat} {X : List Nat} (h : GRep H o m ks kv mo iv) (k : Fr X H H') (hx : ∀ p, p ∈ o :: mo :: (objs kv ++ objs iv) → p ∉ X) : GRep H' o m ks kv mo iv := by
  refine ⟨?_, k.lt h.lo, k.lt h.lm, h.ne, h.rk.frO k fun p hp => hx p (by simp [hp]), h.gk, h.ok, ?_, h.ri.frO k fun p hp => hx p (by simp [hp]), h.gi, h.oi⟩
  · rw [k.obj _ h.lo (hx _ (by simp))]; exact h.self
  · rw [k.obj _ h.lm (hx _ (by simp))]; exact h.map
theorem GRep.keeps {H H' : AHeap} {o : Nat} {m : Int} {ks : Kd} {kv iv : AV} {mo : Nat} (h : GRep H o m ks kv mo iv) (k : Keeps H H') : GRep H' o m ks kv mo iv := h.keep (k.fr []) (by simp)
theorem GAt.keep {H H' : AHeap} {o : Nat} {m : Int} {ks : Kd} {F X : List Nat} (h : GAt H o m ks F) (k : Fr X H H') (hx : ∀ p, p ∈ F → p ∉ X) : GAt H' o m ks F := by
  obtain ⟨kv, mo, iv, h, rfl⟩ := h
  exact ⟨kv, mo, iv, h.keep k hx, rfl⟩
theorem GAt.keeps {H H' : AHeap} {o : Nat} {m : Int} {ks : Kd} {F : List Nat} (h : GAt H o m ks F) (k : Keeps H H') : GAt H' o m ks F := h.keep (k.fr []) (by simp)

/-- What a call that writes may do to the heap: the objects F become F'. -/
structure Mv (F : List Nat) (H : AHeap) (F' : List Nat) (H' : AHeap) : Prop where
  fr : Fr F H H'
  new : ∀ p, p ∈ F' → p ∈ F ∨ H.size ≤ p
theorem Mv.refl (F : List Nat) (H : AHeap) : Mv F H F H := ⟨Fr.refl _ _, fun _ h => .inl h⟩
theorem Mv.keeps {F : List Nat} {H H' : AHeap} (k : Keeps H H') : Mv F H F H' := ⟨k.fr F, fun _ h => .inl h⟩
theorem Mv.trans {F G E : List Nat} {A B D : AHeap} (h : Mv F A G B) (k : Mv G B E D) : Mv F A E D := by
  refine ⟨h.fr.trans k.fr h.new, fun p hp => ?_⟩
  rcases k.new p hp with h1 | h1
  · exact h.new p h1
  · exact .inr (Nat.le_trans h.fr.size h1)

set_option maxRecDepth 100000

theorem back_not {z : List Nat} {H H' : AHeap} {v : AV} (h : ¬ Shut H H') : back z H v H' = (v, H') := by unfold back; rw [if_neg (fun h2 => h h2.2)]
theorem Reads.cut {H H' : AHeap} {v : AV} {sz n : Nat} {cs : List AV} (h : Reads H' v sz n cs) (ho : ∀ p, p ∈ objs v → p < H.size) : Reads (H.cut H') v sz n cs := by
  obtain ⟨h1, h2, h3, h4⟩ := h
  refine ⟨h1, ?_, h3, ?_⟩
  · cases v <;> try exact h2
    rename_i o off s m full
    rw [← h2]
    simp only [sliceCells, AHeap.cut]
    rw [if_pos (ho o (by simp))]
  · cases v <;> try exact h4
    rename_i o off s m full
    exact ⟨h4.1, ho o (by simp)⟩
theorem grows_closed {n : Nat} {v : AV} (hg : grows v) (h : closed n v = true) : ∀ p, p ∈ objs v → p < n := by
  cases v <;> first | (exact hg.elim) | simp
  simpa [closed] using h
theorem GAt.cut {H H' : AHeap} {o : Nat} {m : Int} {ks js : Kd} {F F' : List Nat} (g0 : GAt H o m ks F) (g : GAt H' o m js F') (hs : Shut H H') : GAt (H.cut H') o m js F' ∧ ∀ p, p ∈ F' → p < H.size := by
  obtain ⟨kv, mo, iv, g, rfl⟩ := g
  obtain ⟨kv0, mo0, iv0, g0, rfl⟩ := g0
  have hlt : mo < H.size ∧ (∀ p, p ∈ objs kv → p < H.size) ∧ ∀ p, p ∈ objs iv → p < H.size := by
    rcases hs.obj o g0.lo with e | e
    · rw [g.self, g0.self] at e
      simp only [AObj.cells.injEq, List.cons.injEq, AV.map.injEq, and_true, true_and] at e
      obtain ⟨rfl, rfl, rfl⟩ := e
      exact ⟨g0.lm, fun p hp => g0.rk.lt hp, fun p hp => g0.ri.lt hp⟩
    · rw [g.self] at e
      simp only [closedO, closedL, closed, Bool.and_eq_true, decide_eq_true_eq, Bool.true_and, Bool.and_true] at e
      exact ⟨e.2.1, grows_closed g.gk e.1, grows_closed g.gi e.2.2⟩
  have ho : ∀ p, p < H.size → (H.cut H').obj p = H'.obj p := fun p hp => by simp only [AHeap.cut]; rw [if_pos hp]
  refine ⟨⟨kv, mo, iv, ⟨by rw [ho _ g0.lo]; exact g.self, g0.lo, hlt.1, g.ne, g.rk.cut hlt.2.1, g.gk, g.ok, by rw [ho _ hlt.1]; exact g.map, g.ri.cut hlt.2.2, g.gi, g.oi⟩, rfl⟩, fun p hp => ?_⟩
  simp at hp
  rcases hp with rfl | rfl | hp | hp
  · exact g0.lo
  · exact hlt.1
  · exact hlt.2.1 p hp
  · exact hlt.2.2 p hp
theorem Fr.cutF {F : List Nat} {H H' : AHeap} (k : Fr F H H') : Fr F H (H.cut H') :=
  ⟨Nat.le_refl _, fun p hp hF => by simp only [AHeap.cut]; rw [if_pos hp]; exact k.obj p hp hF, fun p hp hF => by simp only [AHeap.cut]; rw [if_pos hp]; exact k.wr p hp hF⟩

theorem lit_run {H : AHeap} {o : Nat} {m : Int} {ks : Kd} {F : List Nat} (g : GAt H o m ks F) {l : Int} : R f_plait_aig_Graph_lit [.ptr o 0, .int .i64 l] H = some (.bool (decide (isL ks.length l)), H) := by
  obtain ⟨kv, mo, iv, g, rfl⟩ := g
  rw [e_plait_aig_Graph_lit]
  by_cases h0 : 0 ≤ l <;> simp [c_plait_aig_Graph_lit, g.self, g.rk.len, isL, h0]

theorem node_full {H : AHeap} {o : Nat} {m : Int} {ks : Kd} {F : List Nat} (g : GAt H o m ks F) {a b : Int} (hf : m ≤ ks.length) {r : Option (AV × AHeap)} (h : R f_plait_aig_Graph_node [.ptr o 0, .agg [.int .i64 a, .int .i64 b]] H = r) :
    r = some (.tup [.int .i64 0, .int .i64 81], H) := by
  obtain ⟨kv, mo, iv, g, rfl⟩ := g
  rw [e_plait_aig_Graph_node] at h
  simp [c_plait_aig_Graph_node, g.self, g.rk.len, g.lo, hf] at h
  exact h.symm
theorem node_run {H : AHeap} {o : Nat} {m : Int} {ks : Kd} {kv iv : AV} {mo : Nat} (g : GRep H o m ks kv mo iv) (hr : Rt m ks) {a b : Int} (hf : ¬ m ≤ ks.length) {r : Option (AV × AHeap)} (h : R f_plait_aig_Graph_node [.ptr o 0, .agg [.int .i64 a, .int .i64 b]] H = r) :
    ∃ H' k, r = some (.tup [.int .i64 (2 * ((ks.length : Int) + 1)), .int .i64 0], H') ∧ H'.obj o = .cells [.int .i64 m, .row k 0 2 (ks.length + 1) false, .map mo, iv] ∧ H.size ≤ k ∧ k < H'.size ∧ H'.obj k = .cells (kc (ks ++ [(a, b)])) ∧ Fr (o :: objs kv) H H' := by
  rw [e_plait_aig_Graph_node] at h
  have hm := hr.most
  have hl := hr.le
  simp [c_plait_aig_Graph_node, g.self, g.rk.len, g.lo, hf] at h
  generalize hA : appU _ _ _ _ = q at h
  obtain ⟨H1, rfl, f1, s1, o1, -⟩ := app_of hA (g.rk.keep (by simp)) g.gk (Reads.row' (all := [.int .i64 a, .int .i64 b]) (by simp) (by simp) (by simp)) (by omega) rfl (by omega) (by omega) (by omega) (by simp)
  simp only [new_size] at s1 o1
  have ho1 : H1.obj o = .cells [.int .i64 m, kv, .map mo, iv] := by
    rw [f1.obj o (by have := g.lo; simp; omega) (fun hh => (g.ok o hh).1 rfl)]
    simp [g.self, g.lo]
  have w : IntKind.i64.wrap (((ks.length : Int) + 1) * 2) = 2 * ((ks.length : Int) + 1) := by rw [i64w (by omega) (by omega)]; omega
  simp [ho1, w] at h
  have hns : ¬ Shut H (H1.set o (.cells [.int .i64 m, .row (H.size + 1 + 1) 0 2 (ks.length + 1) false, .map mo, iv])) := fun hsh => by
    rcases hsh.obj o g.lo with e | e
    · rw [g.self] at e
      simp at e
      have := g.rk.lt (o := H.size + 1 + 1) (by rw [← e]; simp)
      omega
    · simp [closedO, closedL, closed] at e
      omega
  rw [back_not hns] at h
  subst h
  have hk : o ≠ H.size + 1 + 1 := by have := g.lo; omega
  refine ⟨_, H.size + 1 + 1, rfl, by simp, by omega, by simp; omega, ?_, ?_⟩
  · simp [hk.symm, o1, kc_append]; simp [kc]
  · exact (((Keeps.refl H).new' _).new' _).fr _ |>.trans f1 (fun p hp => .inl (by simp [hp])) |>.set (.inl (by simp)) _

/-- What a call on a graph comes to. -/
def Gv (H : AHeap) (o : Nat) (m : Int) (F : List Nat) (x : Ans) (r : Option (AV × AHeap)) : Prop :=
  ∃ H' F', r = some (.tup [.int .i64 x.l, .int .i64 x.e], H') ∧ GAt H' o m x.ks F' ∧ Mv F H F' H'

theorem Gv.mk {H H' : AHeap} {o : Nat} {m l e : Int} {F : List Nat} {x : Ans} {js : Kd} {r : Option (AV × AHeap)} (h : some (.tup [.int .i64 l, .int .i64 e], H') = r) (hx : x = ⟨l, e, js⟩) (F' : List Nat) (g : GAt H' o m js F') (k : Mv F H F' H') : Gv H o m F x r := by
  subst hx; exact ⟨H', F', h.symm, g, k⟩

/-- .. behind a call. -/
theorem Gv.mkB {H H' : AHeap} {o : Nat} {m l e : Int} {F : List Nat} {x : Ans} {ks js : Kd} {r : Option (AV × AHeap)} (g0 : GAt H o m ks F) (h : some (back [] H (.tup [.int .i64 l, .int .i64 e]) H') = r) (hx : x = ⟨l, e, js⟩) (F' : List Nat) (g : GAt H' o m js F') (k : Mv F H F' H') : Gv H o m F x r := by
  by_cases hs : Shut H H'
  · rw [back_nil (by simp [closed, closedL]) hs] at h
    obtain ⟨g1, g2⟩ := g0.cut g hs
    exact Gv.mk h hx F' g1 ⟨k.fr.cutF, k.new⟩
  · rw [back_not hs] at h
    exact Gv.mk h hx F' g k

theorem input_run {H : AHeap} {o : Nat} {m : Int} {ks : Kd} {F : List Nat} (g : GAt H o m ks F) (hr : Rt m ks) {r : Option (AV × AHeap)} (h : R f_plait_aig_Graph_Input [.ptr o 0] H = r) : Gv H o m F (putF m ks (0, 0)) r := by
  rw [e_plait_aig_Graph_Input] at h
  have hm := hr.most
  have hl := hr.le
  simp [c_plait_aig_Graph_Input] at h
  generalize hN : R f_plait_aig_Graph_node _ _ = q at h
  by_cases hf : m ≤ ks.length
  · obtain rfl := node_full g hf hN
    simp at h
    exact Gv.mk h (by simp [putF, hf]) F g (Mv.refl _ _)
  · obtain ⟨kv, mo, iv, g, rfl⟩ := g
    have g0 : GAt H o m ks (o :: mo :: (objs kv ++ objs iv)) := ⟨kv, mo, iv, g, rfl⟩
    obtain ⟨H1, k, rfl, o1, hk, hk1, o2, f1⟩ := node_run g hr hf hN
    simp [o1] at h
    generalize hA : appU _ _ _ _ = q at h
    have hlen := insF_len ks 0
    have ri1 : Reads H1 iv 1 (insF ks 0).length ((insF ks 0).map (.int .i64)) := g.ri.frO f1 (fun p hp => by have := g.oi p hp; simp; exact ⟨this.1, this.2.2⟩)
    obtain ⟨H2, rfl, f2, s2, o3, -⟩ := app_of hA (ri1.keep (by simp)) g.gi (Reads.row' (all := [.int .i64 (2 * ((ks.length : Int) + 1))]) (by simp) (by simp) (by simp)) (by omega) rfl (by omega) (by omega) (by omega) (by simp)
    simp only [new_size] at s2 o3
    have lo1 := f1.lt g.lo
    have lm1 := f1.lt g.lm
    have ho2 : H2.obj o = .cells [.int .i64 m, .row k 0 2 (ks.length + 1) false, .map mo, iv] := by
      rw [f2.obj o (by simp; omega) (fun hh => (g.oi o hh).1 rfl)]
      simp [o1, lo1]
    have hk2 : H2.obj k = .cells (kc (ks ++ [(0, 0)])) := by
      rw [f2.obj k (by simp; omega) (fun hh => by have := g.ri.lt hh; omega)]
      simp [o2, hk1]
    have hm2 : H2.obj mo = .map (.many [.i .i64, .i .i64]) (ents ks 0 0) (ents ks 0 0).length := by
      rw [f2.obj mo (by simp; omega) (fun hh => (g.oi mo hh).2.1 rfl)]
      simp [lm1]
      rw [f1.obj mo g.lm (by simp; exact ⟨fun e => g.ne e.symm, fun hh => (g.ok mo hh).2 rfl⟩)]
      exact g.map
    simp [ho2] at h
    have hz : H.size ≤ H1.size := f1.size
    have hgm : mo < H.size := g.lm
    have hgo : o < H.size := g.lo
    refine Gv.mkB g0 h (js := ks ++ [(0, 0)]) (by simp [putF, hf]) [o, mo, k, H1.size + 1] ?_ ?_
    · refine ⟨.row k 0 2 (ks.length + 1) false, mo, .row (H1.size + 1) 0 1 ((insF ks 0).length + 1) false, ⟨by simp, by simp; omega, by simp; omega, g.ne, ?_, by simp, ?_, ?_, ?_, by simp, ?_⟩, by simp⟩
      · have e : ks.length + 1 = (ks ++ [((0 : Int), (0 : Int))]).length := by simp
        rw [e]
        exact Reads.row' (by simp; omega) (by simp [hk2]; omega) (by rw [kc_len])
      · simp; omega
      · have hne := g.ne
        simp [hm2, ents_input, hne.symm]
      · rw [insF_append]
        simp
        exact Reads.row' (by simp; omega) (by simp [o3]; omega) (by simp)
      · simp; omega
    · refine ⟨?_, by simp; omega⟩
      have f3 : Fr (o :: mo :: (objs kv ++ objs iv)) H H1 := f1.weak (fun p hp => by simp at hp ⊢; rcases hp with hp | hp <;> simp [hp])
      exact ((f3.new _).trans f2 (fun p hp => by simp [hp])).set (.inl (by simp)) _

theorem GRep.find {H : AHeap} {o : Nat} {m : Int} {ks : Kd} {kv iv : AV} {mo : Nat} (_ : GRep H o m ks kv mo iv) {x y : Int} (hx : x ≠ 0) :
    (∃ i x0, findK x y ks 0 = some i ∧ findE (.agg [.int .i64 x, .int .i64 y]) (ents ks 0 0) = some x0 ∧ x0.val = .int .i64 (2 * ((i : Int) + 1))) ∨ (findK x y ks 0 = none ∧ findE (.agg [.int .i64 x, .int .i64 y]) (ents ks 0 0) = none) := by
  have h := ents_find (a := x) (c := y) (by simp [hx]) ks 0 0
  cases hf : findK x y ks 0 with
  | none => rw [hf] at h; simp at h; exact .inr ⟨rfl, h⟩
  | some i =>
    rw [hf] at h
    simp only [Option.map_some, Option.map_eq_some_iff] at h
    obtain ⟨x0, h1, h2⟩ := h
    exact .inl ⟨i, x0, rfl, h1, h2⟩

set_option maxHeartbeats 1000000 in
theorem and_run {H : AHeap} {o : Nat} {m : Int} {ks : Kd} {F : List Nat} (g : GAt H o m ks F) (hr : Rt m ks) {a b : Int} {r : Option (AV × AHeap)} (h : R f_plait_aig_Graph_And [.ptr o 0, .int .i64 a, .int .i64 b] H = r) : Gv H o m F (andF m ks a b) r := by
  rw [e_plait_aig_Graph_And] at h
  have hm := hr.most
  have hl := hr.le
  have hlit := fun l => lit_run g (l := l)
  by_cases ha : isL ks.length a
  rotate_left
  · simp [c_plait_aig_Graph_And, hlit, ha] at h
    exact Gv.mk h (by simp [andF, ha]) F g (Mv.refl _ _)
  by_cases hb : isL ks.length b
  rotate_left
  · simp [c_plait_aig_Graph_And, hlit, ha, hb] at h
    exact Gv.mk h (by simp [andF, hb]) F g (Mv.refl _ _)
  have main : ∀ x y : Int, isL ks.length x → isL ks.length y → x ≤ y → andF m ks a b = and2 m ks x y → ((a = x ∧ b = y ∧ ¬ b < a) ∨ (a = y ∧ b = x ∧ b < a)) → Gv H o m F (andF m ks a b) r := by
    intro x y hx hy hxy hand hab
    rw [hand]
    rw [isL_lt] at hx hy
    have hgo := g
    obtain ⟨kv, mo, iv, g, rfl⟩ := g
    have lo := g.lo
    have lm := g.lm
    have gs := g.self
    have gm := g.map
    have hb1 : -9223372036854775808 ≤ x := by omega
    have hb2 : x ≤ 9223372036854775807 := by omega
    by_cases c1 : x = 0
    · rcases hab with ⟨h1, h2, h3⟩ | ⟨h1, h2, h3⟩ <;>
      · simp [c_plait_aig_Graph_And, hlit, ha, hb, h3] at h
        replace h1 := h1.symm; replace h2 := h2.symm; subst h1 h2 c1
        simp at h
        exact Gv.mk h (by simp [and2]) _ hgo (Mv.refl _ _)
    by_cases c2 : flip1 x = y
    · rcases hab with ⟨h1, h2, h3⟩ | ⟨h1, h2, h3⟩ <;>
      · simp [c_plait_aig_Graph_And, hlit, ha, hb, h3] at h
        replace h1 := h1.symm; replace h2 := h2.symm; subst h1 h2
        simp [c1, c2, hb1, hb2] at h
        exact Gv.mk h (by simp [and2, c2]) _ hgo (Mv.refl _ _)
    by_cases c3 : x = 1
    · rcases hab with ⟨h1, h2, h3⟩ | ⟨h1, h2, h3⟩ <;>
      · simp [c_plait_aig_Graph_And, hlit, ha, hb, h3] at h
        replace h1 := h1.symm; replace h2 := h2.symm; subst h1 h2 c3
        simp [c2, hb1, hb2] at h
        exact Gv.mk h (by simp [and2, c2]) _ hgo (Mv.refl _ _)
    by_cases c4 : x = y
    · subst c4
      rcases hab with ⟨h1, h2, h3⟩ | ⟨h1, h2, h3⟩ <;>
      · simp [c_plait_aig_Graph_And, hlit, ha, hb, h3] at h
        replace h1 := h1.symm; replace h2 := h2.symm; subst h1 h2
        simp [c1, c2, c3, hb1, hb2] at h
        exact Gv.mk h (by simp [and2, c1, c2, c3]) _ hgo (Mv.refl _ _)
    have hne := Nat.ne_of_lt lo
    rcases g.find (y := y) c1 with ⟨i, x0, f1, f2, f3⟩ | ⟨f1, f2⟩
    · rcases hab with ⟨h1, h2, h3⟩ | ⟨h1, h2, h3⟩ <;>
      · simp [c_plait_aig_Graph_And, hlit, ha, hb, h3] at h
        replace h1 := h1.symm; replace h2 := h2.symm; subst h1 h2
        simp [c1, c2, c3, c4, hb1, hb2, lo, lm, gs, gm, f2, f3] at h
        exact Gv.mkB hgo h (by simp [and2, c1, c2, c3, c4, f1]) _ (hgo.keeps (by simp)) (Mv.keeps (by simp))
    · rcases hab with ⟨h1, h2, h3⟩ | ⟨h1, h2, h3⟩ <;>
      · simp [c_plait_aig_Graph_And, hlit, ha, hb, h3] at h
        replace h1 := h1.symm; replace h2 := h2.symm; subst h1 h2
        simp [c1, c2, c3, c4, hb1, hb2, lo, lm, gs, gm, f2] at h
        generalize hN : R f_plait_aig_Graph_node _ _ = q at h
        generalize hH1 : AHeap.set _ _ _ = H1 at h hN
        have k1 : Keeps H H1 := by rw [← hH1]; simp
        have z1 : H1.size = H.size + 1 := by rw [← hH1]; simp
        have c8 : H1.obj H.size = .cells [.int .i64 x, .int .i64 y] := by rw [← hH1]; simp
        have g1 := g.keeps k1
        by_cases hf : m ≤ ks.length
        · obtain rfl := node_full (F := o :: mo :: (objs kv ++ objs iv)) ⟨kv, mo, iv, g1, rfl⟩ hf hN
          simp [k1] at h
          exact Gv.mk h (by simp [and2, c1, c2, c3, c4, f1, putF, hf]) _ hgo (Mv.refl _ _)
        · obtain ⟨H2, k, rfl, o1, hk, hk1, o2, fr1⟩ := node_run g1 hr hf hN
          have c8' : H2.obj H.size = .cells [.int .i64 x, .int .i64 y] := by
            rw [fr1.obj _ (by omega) (fun hh => by simp at hh; rcases hh with hh | hh; omega; have := g.rk.lt hh; omega)]; exact c8
          have hm2 : H2.obj mo = .map (.many [.i .i64, .i .i64]) (ents ks 0 0) (ents ks 0 0).length := by
            rw [fr1.obj mo g1.lm (by simp; exact ⟨fun e => g.ne e.symm, fun hh => (g.ok mo hh).2 rfl⟩)]; exact g1.map
          simp [o1, c8', hm2, f2] at h
          have hne := g.ne
          have hsz := fr1.size
          refine Gv.mkB hgo h (js := ks ++ [(x, y)]) (by simp [and2, c1, c2, c3, c4, f1, putF, hf]) (o :: mo :: k :: objs iv) ?_ ?_
          · refine ⟨.row k 0 2 (ks.length + 1) false, mo, iv, ⟨by simp [o1, hne], by simp; omega, by simp; omega, g.ne, ?_, by simp, ?_, ?_, ?_, g.gi, ?_⟩, by simp⟩
            · have e : ks.length + 1 = (ks ++ [(x, y)]).length := by simp
              rw [e]
              exact Reads.row' (by simp; omega) (by simp [o2]; omega) (by rw [kc_len])
            · simp; omega
            · have e : (x, y) ≠ ((0 : Int), (0 : Int)) := by simp [c1]
              simp [ents_append _ _ _ _ e]
            · rw [insF_append, if_neg (by simp [c1])]
              simp
              exact ((g1.ri.frO fr1 (fun p hp => by have := g.oi p hp; simp; exact ⟨this.1, this.2.2⟩)).frO ((Fr.refl [mo] H2).set (.inl (by simp)) _) (fun p hp => by have := g.oi p hp; simp; exact this.2.1))
            · intro p hp
              have := g.oi p hp
              have h4 := g.ri.lt hp
              exact ⟨this.1, this.2.1, by simp; omega⟩
          · refine ⟨?_, fun p hp => ?_⟩
            · have f3 : Fr (o :: mo :: (objs kv ++ objs iv)) H H2 := (k1.fr _).trans fr1 (fun p hp => by simp at hp ⊢; rcases hp with hp | hp <;> simp [hp])
              exact f3.set (.inl (by simp)) _
            · simp at hp ⊢
              rcases hp with hp | hp | hp | hp
              · simp [hp]
              · simp [hp]
              · right; omega
              · simp [hp]
  by_cases hlt : b < a
  · exact main b a hb ha (by omega) (by simp [andF, ha, hb, hlt]) (.inr ⟨rfl, rfl, hlt⟩)
  · exact main a b ha hb (by omega) (by simp [andF, ha, hb, hlt]) (.inl ⟨rfl, rfl, hlt⟩)

theorem turned_run {l e : Int} (h0 : -9223372036854775808 ≤ l) (h1 : l ≤ 9223372036854775807) {H : AHeap} : R f_aig_turned [.int .i64 l, .int .i64 e] H = some (.tup [.int .i64 (if e = 0 then flip1 l else 0), .int .i64 e], H) := by
  rw [e_aig_turned]
  by_cases h : e = 0 <;> simp [c_aig_turned, h, h0, h1]

theorem isL_i64 {m : Int} {ks : Kd} (hr : Rt m ks) {l : Int} (h : isL ks.length l) : -9223372036854775808 ≤ l ∧ l ≤ 9223372036854775807 := by
  have := hr.most
  have := hr.le
  rw [isL_lt] at h
  omega

theorem or_run {H : AHeap} {o : Nat} {m : Int} {ks : Kd} {F : List Nat} (g : GAt H o m ks F) (hr : Rt m ks) {a b : Int} {r : Option (AV × AHeap)} (h : R f_plait_aig_Graph_Or [.ptr o 0, .int .i64 a, .int .i64 b] H = r) : Gv H o m F (orF m ks a b) r := by
  rw [e_plait_aig_Graph_Or] at h
  have hlit := fun l => lit_run g (l := l)
  by_cases ha : isL ks.length a
  rotate_left
  · simp [c_plait_aig_Graph_Or, hlit, ha] at h
    exact Gv.mk h (by simp [orF, ha]) F g (Mv.refl _ _)
  by_cases hb : isL ks.length b
  rotate_left
  · simp [c_plait_aig_Graph_Or, hlit, ha, hb] at h
    exact Gv.mk h (by simp [orF, hb]) F g (Mv.refl _ _)
  have ia := isL_i64 hr ha
  have ib := isL_i64 hr hb
  simp [c_plait_aig_Graph_Or, hlit, ha, hb, ia.1, ia.2, ib.1, ib.2] at h
  generalize hN : R f_plait_aig_Graph_And _ _ = q at h
  obtain ⟨H1, F1, rfl, g1, m1⟩ := and_run g hr hN
  have hf := hr.and (flip1 a) (flip1 b)
  have hi := isL_i64 hf.rt hf.lit
  simp [turned_run hi.1 hi.2] at h
  refine Gv.mkB g h (js := (andF m ks (flip1 a) (flip1 b)).ks) ?_ F1 g1 m1
  simp only [orF, if_pos (And.intro ha hb), turnF]
  split <;> simp [*]

theorem either_run {H : AHeap} {o : Nat} {m : Int} {ks : Kd} {F : List Nat} (g : GAt H o m ks F) (hr : Rt m ks) {a b c d : Int} {r : Option (AV × AHeap)} (h : R f_plait_aig_Graph_either [.ptr o 0, .int .i64 a, .int .i64 b, .int .i64 c, .int .i64 d] H = r) : Gv H o m F (eitherF m ks a b c d) r := by
  rw [e_plait_aig_Graph_either] at h
  simp [c_plait_aig_Graph_either] at h
  generalize hN : R f_plait_aig_Graph_And _ _ = q at h
  obtain ⟨H1, F1, rfl, g1, m1⟩ := and_run g hr hN
  have hf := hr.and a b
  by_cases h1 : (andF m ks a b).e = 0
  rotate_left
  · simp [h1] at h
    exact Gv.mkB g h (by simp [eitherF, h1]) F1 g1 m1
  simp [h1] at h
  generalize hN2 : R f_plait_aig_Graph_And _ _ = q at h
  obtain ⟨H2, F2, rfl, g2, m2⟩ := and_run g1 hf.rt hN2
  have hf2 := hf.rt.and c d
  by_cases h2 : (andF m (andF m ks a b).ks c d).e = 0
  rotate_left
  · simp [h2] at h
    exact Gv.mkB g h (by simp [eitherF, h1, h2]) F2 g2 (m1.trans m2)
  simp [h2] at h
  generalize hN3 : R f_plait_aig_Graph_Or _ _ = q at h
  obtain ⟨H3, F3, rfl, g3, m3⟩ := or_run g2 hf2.rt hN3
  simp at h
  exact Gv.mkB g h (by simp [eitherF, h1, h2]) F3 g3 ((m1.trans m2).trans m3)

theorem xor_run {H : AHeap} {o : Nat} {m : Int} {ks : Kd} {F : List Nat} (g : GAt H o m ks F) (hr : Rt m ks) {a b : Int} {r : Option (AV × AHeap)} (h : R f_plait_aig_Graph_Xor [.ptr o 0, .int .i64 a, .int .i64 b] H = r) : Gv H o m F (xorF m ks a b) r := by
  rw [e_plait_aig_Graph_Xor] at h
  have hlit := fun l => lit_run g (l := l)
  by_cases ha : isL ks.length a
  rotate_left
  · simp [c_plait_aig_Graph_Xor, hlit, ha] at h
    exact Gv.mk h (by simp [xorF, ha]) F g (Mv.refl _ _)
  by_cases hb : isL ks.length b
  rotate_left
  · simp [c_plait_aig_Graph_Xor, hlit, ha, hb] at h
    exact Gv.mk h (by simp [xorF, hb]) F g (Mv.refl _ _)
  have ia := isL_i64 hr ha
  have ib := isL_i64 hr hb
  simp [c_plait_aig_Graph_Xor, hlit, ha, hb, ia.1, ia.2, ib.1, ib.2] at h
  generalize hN : R f_plait_aig_Graph_either _ _ = q at h
  obtain ⟨H1, F1, rfl, g1, m1⟩ := either_run g hr hN
  simp at h
  exact Gv.mkB g h (by simp [xorF, ha, hb]) F1 g1 m1

theorem nodes_run {H : AHeap} {o : Nat} {m : Int} {ks : Kd} {F : List Nat} (g : GAt H o m ks F) : R f_plait_aig_Graph_Nodes [.ptr o 0] H = some (.int .i64 ks.length, H) := by
  obtain ⟨kv, mo, iv, g, rfl⟩ := g
  rw [e_plait_aig_Graph_Nodes]
  simp [c_plait_aig_Graph_Nodes, g.self, g.rk.len]

theorem kids_run {H : AHeap} {o : Nat} {m : Int} {ks : Kd} {F : List Nat} (g : GAt H o m ks F) (hr : Rt m ks) {n : Int} : Pure R f_plait_aig_Graph_Kids [.ptr o 0, .int .i64 n] H (.tup [.int .i64 (kidsF ks n).1, .int .i64 (kidsF ks n).2.1, .bool (kidsF ks n).2.2]) := by
  obtain ⟨kv, mo, iv, g, rfl⟩ := g
  have hm := hr.most
  have hl := hr.le
  unfold Pure
  rw [e_plait_aig_Graph_Kids]
  by_cases h1 : 1 ≤ n
  rotate_left
  · have h1' : n < 1 := by omega
    simp [c_plait_aig_Graph_Kids, h1', kidsF, h1]
  obtain ⟨i, rfl⟩ : ∃ i : Nat, n = i + 1 := ⟨(n - 1).toNat, by omega⟩
  have h1' : ¬ (i : Int) + 1 < 1 := by omega
  by_cases h2 : i < ks.length
  rotate_left
  · have h2' : (ks.length : Int) < (i : Int) + 1 := by omega
    simp [c_plait_aig_Graph_Kids, h1', h2', kidsF, g.self, g.rk.len]
    rw [List.getElem?_eq_none (by omega)]
    simp
  obtain ⟨k, hk⟩ : ∃ k, ks[i]? = some k := ⟨ks[i], List.getElem?_eq_getElem h2⟩
  have w : IntKind.i64.wrap (i : Int) = i := i64w (by omega) (by omega)
  have h2' : ¬ (ks.length : Int) < (i : Int) + 1 := by omega
  have ad := g.rk.addr (P := Go.Proofs.Try.prog) (t := T_s_a2_int) (by simp) h2
  have at1 := g.rk.atN (P := Go.Proofs.Try.prog) (t := T_a2_int) (by simp) h2
  rw [kc_at hk] at at1
  by_cases h3 : k = (0, 0)
  · subst h3
    simp [c_plait_aig_Graph_Kids, h1', h2', kidsF, g.self, g.rk.len, hk, w, ad, at1]
  · have h3' : ¬ (k.1 = 0 ∧ k.2 = 0) := fun e => h3 (Prod.ext e.1 e.2)
    have h3'' : k.1 = 0 → ¬ k.2 = 0 := fun e e' => h3' ⟨e, e'⟩
    simp [c_plait_aig_Graph_Kids, h1', h2', kidsF, g.self, g.rk.len, hk, w, ad, at1, h3', h3]
    all_goals simp (maxDischargeDepth := 40)
    all_goals simp only [if_pos h1, and_self]

/-- A slice of numbers that is never written any more. -/
def RetI (H : AHeap) (l : List Int) (r : Option (AV × AHeap)) : Prop := ∃ v, r = some (v, H) ∧ ∀ H', Reads H' v 1 l.length (l.map (.int .i64))
/-- A slice of numbers, made anew. -/
def RetC (H : AHeap) (l : List Int) (r : Option (AV × AHeap)) : Prop := ∃ v H', r = some (v, H') ∧ Keeps H H' ∧ Reads H' v 1 l.length (l.map (.int .i64)) ∧ grows v ∧ ∀ p, p ∈ objs v → H.size ≤ p
theorem back_reads {H H' : AHeap} {w : AV} {l : List Int} (k : Keeps H H') (rd : Reads H' w 1 l.length (l.map (.int .i64))) (gr : grows w) (new : ∀ p, p ∈ objs w → H.size ≤ p) : ∃ v, back [0] H w H' = (v, H) ∧ ∀ H2, Reads H2 v 1 l.length (l.map (.int .i64)) := by
  cases w <;> first | (exact gr.elim) | skip
  · have e : l = [] := by
      have := rd.len
      simp [sliceLen] at this
      cases l with
      | nil => rfl
      | cons a l => simp at this
    subst e
    refine ⟨.nils, ?_, fun _ => Reads.nils⟩
    rw [back_cons (by simp [frz]) k.shut, cut_keeps k]
    simp [frz]
  · rename_i o off sz m full
    obtain ⟨g1, g2, g3, g4⟩ := rd
    obtain ⟨rfl, g4⟩ := g4
    simp [sliceLen] at g1
    subst g1
    have ho : ¬ o < H.size := by have := new o (by simp); omega
    unfold sliceCells at g2
    simp only at g2
    split at g2 <;> first | (cases g2; done) | skip
    rename_i all hob
    split at g2 <;> first | (cases g2; done) | skip
    rename_i hle
    simp only [Option.some.injEq] at g2
    have hf : frz H' H.size [0] (.row o off 1 l.length full) = .lst 1 l.length (l.map (.int .i64)) := by
      rw [frz_row, if_neg ho, hob, frzO_cells, if_pos hle, g2, frz_nil', List.map_id]
    refine ⟨.lst 1 l.length (l.map (.int .i64)), ?_, fun _ => Reads.lst (by simp)⟩
    rw [back_cons (by rw [hf]; simp only [closed]; rw [closedL_all, List.all_map, List.all_eq_true]; intro x _; rfl) k.shut, cut_keeps k, hf]

theorem ints_one (l : List Int) : allOne (l.map (.int .i64)) = true := by
  induction l with
  | nil => rfl
  | cons a l ih => simpa using ih
theorem bools_one (l : List Bool) : allOne (l.map .bool) = true := by
  induction l with
  | nil => rfl
  | cons a l ih => simpa using ih

theorem back_grow {H H' : AHeap} {w : AV} {l : List Int} (k : Keeps H H') (rd : Reads H' w 1 l.length (l.map (.int .i64))) (gr : grows w) (new : ∀ p, p ∈ objs w → H.size ≤ p) : RetC H l (some (back [] H w H')) := by
  cases w <;> first | (exact gr.elim) | skip
  · have e : l = [] := by
      have := rd.len
      simp [sliceLen] at this
      cases l with
      | nil => rfl
      | cons a l => simp at this
    subst e
    rw [back_k (by simp [closed]) k]
    exact ⟨_, _, rfl, Keeps.refl H, Reads.nils, by simp, by simp⟩
  · rename_i o off sz m full
    have ho : ¬ o < H.size := by have := new o (by simp); omega
    have hb : back [] H (.row o off sz m full) H' = (.row o off sz m full, H') := by
      unfold back
      rw [if_neg]
      rintro ⟨h, -⟩
      simp [frz, ho] at h
    rw [hb]
    exact ⟨_, _, rfl, k, rd, gr, new⟩
theorem clone_run {H : AHeap} {v : AV} {l : List Int} (hv : Reads H v 1 l.length (l.map (.int .i64))) (hg : grows v) (hl : l.length ≤ 1000000) {r : Option (AV × AHeap)} (h : R f_slices_Clone_int_int [v] H = r) : RetC H l r := by
  rw [e_slices_Clone_int_int] at h
  cases v <;> first | (exact hg.elim) | skip
  · simp [c_slices_Clone_int_int] at h
    subst h
    have hl0 := hv.len
    simp at hl0
    have : l = [] := List.eq_nil_of_length_eq_zero hl0.symm
    subst this
    exact ⟨_, _, rfl, Keeps.refl H, Reads.nils, by simp, by simp⟩
  · simp [c_slices_Clone_int_int] at h
    generalize hA : appU _ _ _ _ = q at h
    obtain ⟨v', H', rfl, x1, fr, x2, rd⟩ := app_any hA (Reads.row' (all := []) (by simp) (by simp) (by simp)) (by simp) (hv.keep (by simp)) rfl (by omega) (by omega) (by omega) (ints_one l)
    simp at h
    subst h
    refine back_grow (fr.keeps (by simp) (by simp)) (by simpa using rd) x1 fun p hp => ?_
    rcases x2 p hp with hh | ⟨hh, -⟩
    · simp at hh; omega
    · rw [hh]; simp

theorem inputs_run {H : AHeap} {o : Nat} {m : Int} {ks : Kd} {F : List Nat} (g : GAt H o m ks F) (hr : Rt m ks) {r : Option (AV × AHeap)} (h : R f_plait_aig_Graph_Inputs [.ptr o 0] H = r) : RetI H (insF ks 0) r := by
  obtain ⟨kv, mo, iv, g, rfl⟩ := g
  rw [e_plait_aig_Graph_Inputs] at h
  simp [c_plait_aig_Graph_Inputs, g.self] at h
  generalize hN : R f_slices_Clone_int_int _ _ = q at h
  have := hr.most
  have := hr.le
  have := insF_len ks 0
  obtain ⟨v, H1, rfl, k1, rd, gr, new⟩ := clone_run g.ri g.gi (by omega) hN
  obtain ⟨w, hb, hw⟩ := back_reads k1 rd gr new
  simp [hb] at h
  subst h
  exact ⟨_, rfl, hw⟩

theorem loadb_of {H : AHeap} {v : AV} {l : List Bool} (hv : Reads H v 1 l.length (l.map .bool)) {i : Nat} (hi : i < l.length) : aindexAddr Go.Proofs.Try.prog T_s_bool v (i : Int) = some (ixp v 1 i) ∧ ∀ H', Keeps H H' → aload Go.Proofs.Try.prog H' T_bool (ixp v 1 i) = some (.bool (l.getD i false)) := by
  refine ⟨hv.addr (by simp) hi, fun H' k => ?_⟩
  rw [(hv.keep k).at (by simp) rfl hi]
  simp [List.getD_eq_getElem?_getD, hi]
theorem loadk_of {H : AHeap} {v : AV} {ks : Kd} (hv : Reads H v 2 ks.length (kc ks)) {i : Nat} {k : Int × Int} (hk : ks[i]? = some k) : aindexAddr Go.Proofs.Try.prog T_s_a2_int v (i : Int) = some (ixp v 2 i) ∧ ∀ H', Keeps H H' → aload Go.Proofs.Try.prog H' T_a2_int (ixp v 2 i) = some (.agg [.int .i64 k.1, .int .i64 k.2]) := by
  have hi := (List.getElem?_eq_some_iff.1 hk).1
  refine ⟨hv.addr (by simp) hi, fun H' h => ?_⟩
  rw [(hv.keep h).atN (by simp) hi, kc_at hk]

theorem rep_false {n i : Nat} (hi : i < n) : List.replicate (n - i) false = false :: List.replicate (n - (i + 1)) false := by
  rw [show n - i = (n - (i + 1)) + 1 from by omega]; rfl
/-- What was reckoned so far, with one more. -/
theorem vals_set {acc : List Bool} {n i : Nat} (ha : acc.length = i + 1) (hi : i < n) (b : Bool) : ((acc ++ List.replicate (n - i) false).map AV.bool).set (i + 1) (.bool b) = ((acc ++ [b]) ++ List.replicate (n - (i + 1)) false).map AV.bool := by
  rw [rep_false hi]
  simp [ha]
theorem vals_at {acc z : List Bool} {j : Nat} (hj : j < acc.length) : ((acc ++ z).map AV.bool)[j]? = some (.bool (acc.getD j false)) := by
  simp [List.getD_eq_getElem?_getD, List.getElem?_append, hj]

end Go.Proofs.Ytdbbkhmiflignaa
