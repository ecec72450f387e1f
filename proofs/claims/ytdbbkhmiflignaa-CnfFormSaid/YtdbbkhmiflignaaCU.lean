/- The statements' own script of an encoder, plain: its state, and what holds of it. -/
import Derived.Test.YtdbbkhmiflignaaCT
namespace Go.Proofs.Ytdbbkhmiflignaa
set_option maxRecDepth 100000

/-- A script's state: the graph, the encoder, all clauses, the roots and their literals. -/
structure PS where
  ks : Kd
  E : En
  C : List (List Int)
  lits : List Int
  roots : List Int
def PS.root (s : PS) (l : Int) : PS := ⟨s.ks, (rootF s.ks s.E l).1, s.C ++ (rootF s.ks s.E l).2, s.lits ++ [l], s.roots ++ [(rootF s.ks s.E l).1.lit l]⟩
def PS.grow (s : PS) (ks : Kd) : PS := { s with ks := ks }
def PS.fresh (s : PS) : PS := { s with E := s.E.next }
/-- A step of the script. -/
def PS.step (s : PS) (t : Int × Int × Int) : PS :=
  let n := 2 * (s.ks.length : Int) + 2
  if t.1 = 0 then (if (insF s.ks 0).length < 5 then s.grow (putF 60 s.ks (0, 0)).ks else s)
  else if t.1 = 1 ∨ t.1 = 2 ∨ t.1 = 3 then s.grow (andF 60 s.ks (placeF t.2.1 n) (placeF t.2.2 n)).ks
  else if t.1 = 4 then s.grow (xorF 60 s.ks (placeF t.2.1 n) (placeF t.2.2 n)).ks
  else if t.1 = 5 ∨ t.1 = 6 ∨ t.1 = 7 then s.root (placeF t.2.1 n)
  else if t.1 = 8 then s.fresh
  else s
def PS.play (s : PS) : List (Int × Int × Int) → PS
  | [] => s
  | t :: ts => (s.step t).play ts
def PS.start (first : Int) : PS := ⟨[], En.start first, [], [], []⟩

theorem cnt_giveF : ∀ {ns : List Int} {E : En} {C : List (List Int)} {n : Nat}, ns.Pairwise (· < ·) → (∀ x, x ∈ ns → E.vr x = none ∧ 0 ≤ x ∧ x < n) → cntV (giveF ns E C).1 n = cntV E n + ns.length
  | [], _, _, _, _, _ => rfl
  | m :: ns, E, C, n, hp, h => by
    unfold giveF
    obtain ⟨p1, p2⟩ := List.pairwise_cons.1 hp
    have hm := h m (by simp)
    rw [cnt_giveF p2 fun x hx => ?_, cntV_give E hm.1 hm.2.1 hm.2.2, List.length_cons]
    · omega
    · have h1 := h x (by simp [hx])
      refine ⟨?_, h1.2⟩
      show (if x = m then some (E.last + 1) else E.vr x) = none
      rw [if_neg (by have := p1 x hx; omega)]
      exact h1.1
theorem cnt_root {m : Int} {ks : Kd} {E : En} {C : List (List Int)} (hr : Rt m ks) (hV : EnV ks E) (hC : EnC ks E C []) {l : Int} (hl : isL ks.length l) {n : Nat} (hn : ks.length < n) : cntV (rootF ks E l).1 n = cntV E n + (needF ks E l).length := by
  have h0 := root_st hr hV hC hl
  have hm : measF ks ((giveF (needF ks E l) E []).1, C ++ (giveF (needF ks E l) E []).2, [asksF l]) ≤ fuelF ks := by
    have := leftN_le (giveF (needF ks E l) E []).1 (ks.length + 1)
    unfold measF fuelF
    simp only [List.length_singleton]
    omega
  obtain ⟨s1, s2, s3, -⟩ := StOK.steps hr (fuelF ks) h0 hm
  rw [stepsF_app] at s3
  simp only at s3
  have e : (rootF ks E l).1.vr = (giveF (needF ks E l) E []).1.vr := s3
  rw [cntV_congr e, cnt_giveF need_rises fun x hx => ?_]
  obtain ⟨h1, h2, h3⟩ := need_mem.1 hx
  refine ⟨h2, ?_⟩
  rcases h1 with h1 | h1
  · have := cone_pos h1; omega
  · omega
/-- What holds of a script's state behind k steps. -/
structure PI (first : Int) (s : PS) (k : Nat) : Prop where
  rt : Rt 60 s.ks
  ev : EnV s.ks s.E
  ec : EnC s.ks s.E s.C []
  fs : s.E.first = first
  last : s.E.last ≤ first - 1 + k + cntV s.E 61
  lr : s.roots.length = s.lits.length
  lk : s.lits.length ≤ k
theorem PI.start {first : Int} (h : 1 ≤ first) : PI first (PS.start first) 0 :=
  ⟨⟨by simp [PS.start], by omega, fun i k h => by simp [PS.start] at h⟩, EnV.start h, EnC.start, rfl, by show first - 1 ≤ _; omega, rfl, Nat.le_refl _⟩
theorem PI.le {first : Int} {s : PS} {k : Nat} (h : PI first s k) : s.ks.length ≤ 60 := by have := h.rt.most; omega
theorem PI.more {first : Int} {s : PS} {k : Nat} (h : PI first s k) : PI first s (k + 1) :=
  ⟨h.rt, h.ev, h.ec, h.fs, by have := h.last; omega, h.lr, by have := h.lk; omega⟩
theorem PI.grow {first : Int} {s : PS} {k : Nat} (h : PI first s k) {ks : Kd} (hf : ∃ t, ks = s.ks ++ t) (hr : Rt 60 ks) : PI first (s.grow ks) (k + 1) := by
  obtain ⟨t, rfl⟩ := hf
  exact ⟨hr, h.ev.more t, h.ec.more h.ev t, h.fs, by have := h.last; show s.E.last ≤ _; show _ ≤ first - 1 + (k + 1 : Nat) + (cntV s.E 61 : Int); omega, h.lr, by have := h.lk; show s.lits.length ≤ _; omega⟩
theorem PI.fresh {first : Int} {s : PS} {k : Nat} (h : PI first s k) : PI first s.fresh (k + 1) := by
  refine ⟨h.rt, h.ev.next, h.ec.next, h.fs, ?_, h.lr, by have := h.lk; show s.lits.length ≤ _; omega⟩
  have := h.last
  have e : cntV s.E.next 61 = cntV s.E 61 := cntV_congr rfl 61
  show s.E.last + 1 ≤ first - 1 + (k + 1 : Nat) + (cntV s.E.next 61 : Int)
  rw [e]; omega
theorem PI.root {first : Int} {s : PS} {k : Nat} (h : PI first s k) {l : Int} (hl : isL s.ks.length l) : PI first (s.root l) (k + 1) := by
  have hk := root_ok h.rt h.ev h.ec hl
  have hc := cnt_root h.rt h.ev h.ec hl (n := 61) (by have := h.le; omega)
  refine ⟨h.rt, hk.v, hk.c, hk.first.trans h.fs, ?_, by simp [PS.root, h.lr], by have := h.lk; simp [PS.root]; omega⟩
  have := h.last
  have h2 := hk.last
  show (rootF s.ks s.E l).1.last ≤ first - 1 + (k + 1 : Nat) + (cntV (rootF s.ks s.E l).1 61 : Int)
  rw [hc]; omega
theorem PI.lastB {first : Int} {s : PS} {k : Nat} (h : PI first s k) : s.E.last ≤ first - 1 + k + 61 := by
  have := h.last
  have := cntV_le s.E 61
  omega
end Go.Proofs.Ytdbbkhmiflignaa
