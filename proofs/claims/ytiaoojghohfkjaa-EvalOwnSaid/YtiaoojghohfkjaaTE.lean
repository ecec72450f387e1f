/- Graphs of terms: formed, sorted. -/
import Derived.Test.YtiaoojghohfkjaaTD
namespace Go.Proofs.Ytiaoojghohfkjaa
set_option maxRecDepth 100000
set_option maxHeartbeats 4000000

/-- A node's kid, at its place. -/
def kidOK (N a : Int) (i : Nat) (k : Int) : Bool := if (i : Int) < a then decide (1 ≤ k ∧ k ≤ N) else decide (k = 0)
def kidsOK (N a : Int) (l : List Int) (i : Nat) : Bool := match l with
  | [] => true
  | k :: l => kidOK N a i k && kidsOK N a l (i + 1)
def formedF (N : Int) (n : Nd) : Bool :=
  kidsOK N (arity n.op) [n.a, n.b, n.c] 0 && (decide (0 ≤ arity n.op) && (decide (n.op = 1) || decide (n.vw = 0 ∧ n.vl = 0#64 ∧ n.vh = 0#64)) && (decide (n.op = 2) || decide (n.name = .empty)))

theorem formed_loop {H : AHeap} {g : Nat} {most : Int} {ns : List Nd} {o1 o2 o3 : Nat} (h : TG H g most ns o1 o2 o3) {a x y z : Int} {e : Env} {r : Rn} (hL : loopL Go.Proofs.Try.prog KT R l_plait_term_Graph_formed_0 e H = r)
    (e0 : e 0 = some (.ptr g 0)) (e5 : e 5 = some (.int .i64 a)) (e17 : e 17 = some (.agg [.int .i64 x, .int .i64 y, .int .i64 z])) (e18 : e 18 = some (.int .i64 0)) :
    ∃ y' e' H', r = some (y', e', H') ∧ (H' = H ∧ ((y' = .exit 0 ∧ kidsOK ns.length a [x, y, z] 0 = true) ∨ (y' = .ret ∧ kidsOK ns.length a [x, y, z] 0 = false ∧ e' 4 = some (.bool false)))) ∧ ∀ t, t ∉ defs l_plait_term_Graph_formed_0 → e' t = e t := by
  refine loop_count l_plait_term_Graph_formed_0.eq_1 hL 3 (fun i e1 H1 => e1 18 = some (.int .i64 i) ∧ H1 = H ∧ (0 < i → kidOK ns.length a 0 x = true) ∧ (1 < i → kidOK ns.length a 1 y = true) ∧ (2 < i → kidOK ns.length a 2 z = true)) _ 0 (by omega) ⟨e18, rfl, by simp, by simp, by simp⟩ ?_ ?_
  · rintro i f H1 hf - hi ⟨f18, rfl, k0, k1, k2⟩
    have hw1 := i64w (n := (i : Int) + 1) (by omega) (by omega)
    have hc : (i : Int) < 3 := by omega
    have hlen := slv_len o1 ns
    have K : ∀ k : Int, kidOK ns.length a i k = if (i : Int) < a then decide (1 ≤ k ∧ k ≤ ns.length) else decide (k = 0) := fun k => rfl
    rcases (show i = 0 ∨ i = 1 ∨ i = 2 by omega) with rfl | rfl | rfl
    · have K0 := K x
      rw [show (((0 : Nat) : Int)) = 0 from rfl] at K0
      by_cases c1 : (0 : Int) < a
      · have c1' : ¬ a ≤ 0 := by omega
        by_cases c2 : x < 1
        · have kf : kidOK ns.length a 0 x = false := by rw [K0]; simp [c1]; omega
          have kk : kidsOK ns.length a [x, y, z] 0 = false := by simp [kidsOK, kf]
          simp [hf, e5, e17, f18, c1, c2, kk]
        · by_cases c3 : (ns.length : Int) < x
          · have kf : kidOK ns.length a 0 x = false := by rw [K0]; simp [c1]; omega
            have kk : kidsOK ns.length a [x, y, z] 0 = false := by simp [kidsOK, kf]
            simp [hf, e0, e5, e17, f18, c1, c2, c3, h.og, hlen, kk]
          · have kt : kidOK ns.length a 0 x = true := by rw [K0]; simp [c1]; omega
            simp [hf, e0, e5, e17, f18, c1, c1', c2, c3, h.og, hlen, kt]
      · have c1' : a ≤ 0 := by omega
        by_cases c2 : x = 0
        · have kt : kidOK ns.length a 0 0 = true := by rw [c2] at K0; rw [K0]; simp [c1]
          subst c2
          simp [hf, e5, e17, f18, c1, c1', kt]
        · have kf : kidOK ns.length a 0 x = false := by rw [K0]; simp [c1, c2]
          have kk : kidsOK ns.length a [x, y, z] 0 = false := by simp [kidsOK, kf]
          simp [hf, e5, e17, f18, c1, c1', c2, kk]
    · have K0 := K y
      rw [show (((1 : Nat) : Int)) = 1 from rfl] at K0
      by_cases c1 : (1 : Int) < a
      · have c1' : ¬ a ≤ 1 := by omega
        by_cases c2 : y < 1
        · have kf : kidOK ns.length a 1 y = false := by rw [K0]; simp [c1]; omega
          have kk : kidsOK ns.length a [x, y, z] 0 = false := by simp [kidsOK, kf]
          simp [hf, e5, e17, f18, c1, c2, kk]
        · by_cases c3 : (ns.length : Int) < y
          · have kf : kidOK ns.length a 1 y = false := by rw [K0]; simp [c1]; omega
            have kk : kidsOK ns.length a [x, y, z] 0 = false := by simp [kidsOK, kf]
            simp [hf, e0, e5, e17, f18, c1, c2, c3, h.og, hlen, kk]
          · have kt : kidOK ns.length a 1 y = true := by rw [K0]; simp [c1]; omega
            simp [hf, e0, e5, e17, f18, c1, c1', c2, c3, h.og, hlen, kt, k0 (by omega)]
      · have c1' : a ≤ 1 := by omega
        by_cases c2 : y = 0
        · have kt : kidOK ns.length a 1 0 = true := by rw [c2] at K0; rw [K0]; simp [c1]
          subst c2
          simp [hf, e5, e17, f18, c1, c1', kt, k0 (by omega)]
        · have kf : kidOK ns.length a 1 y = false := by rw [K0]; simp [c1, c2]
          have kk : kidsOK ns.length a [x, y, z] 0 = false := by simp [kidsOK, kf]
          simp [hf, e5, e17, f18, c1, c1', c2, kk]
    · have K0 := K z
      rw [show (((2 : Nat) : Int)) = 2 from rfl] at K0
      by_cases c1 : (2 : Int) < a
      · have c1' : ¬ a ≤ 2 := by omega
        by_cases c2 : z < 1
        · have kf : kidOK ns.length a 2 z = false := by rw [K0]; simp [c1]; omega
          have kk : kidsOK ns.length a [x, y, z] 0 = false := by simp [kidsOK, kf]
          simp [hf, e5, e17, f18, c1, c2, kk]
        · by_cases c3 : (ns.length : Int) < z
          · have kf : kidOK ns.length a 2 z = false := by rw [K0]; simp [c1]; omega
            have kk : kidsOK ns.length a [x, y, z] 0 = false := by simp [kidsOK, kf]
            simp [hf, e0, e5, e17, f18, c1, c2, c3, h.og, hlen, kk]
          · have kt : kidOK ns.length a 2 z = true := by rw [K0]; simp [c1]; omega
            simp [hf, e0, e5, e17, f18, c1, c1', c2, c3, h.og, hlen, kt, k0 (by omega), k1 (by omega)]
      · have c1' : a ≤ 2 := by omega
        by_cases c2 : z = 0
        · have kt : kidOK ns.length a 2 0 = true := by rw [c2] at K0; rw [K0]; simp [c1]
          subst c2
          simp [hf, e5, e17, f18, c1, c1', kt, k0 (by omega), k1 (by omega)]
        · have kf : kidOK ns.length a 2 z = false := by rw [K0]; simp [c1, c2]
          have kk : kidsOK ns.length a [x, y, z] 0 = false := by simp [kidsOK, kf]
          simp [hf, e5, e17, f18, c1, c1', c2, kk]
  · rintro f H1 hf ⟨f18, rfl, k0, k1, k2⟩
    simp [f18, kidsOK, k0, k1, k2]

theorem formed_run {H : AHeap} {g : Nat} {most : Int} {ns : List Nd} {o1 o2 o3 : Nat} (h : TG H g most ns o1 o2 o3) {n : Nd} : R f_plait_term_Graph_formed [.ptr g 0, .agg n.cs] H = some (.bool (formedF ns.length n), H) := by
  obtain ⟨S, hS⟩ : ∃ S, S = formedF ns.length n := ⟨_, rfl⟩
  rw [← hS, e_plait_term_Graph_formed]
  obtain ⟨op, sort, a, b, c, p, q, vw, vl, vh, name⟩ := n
  simp [Nd.cs, c_plait_term_Graph_formed, arity_run]
  generalize hL : loopL _ _ _ _ _ _ = r
  obtain ⟨y, e1, H1, rfl, ⟨rfl, h1⟩, fr⟩ := formed_loop (a := arity op) (x := a) (y := b) (z := c) (h.keep (by simp)) hL (by simp) (by simp) (by simp) (by simp)
  have hS2 : S = (kidsOK ns.length (arity op) [a, b, c] 0 && (decide (0 ≤ arity op) && (decide (op = 1) || decide (vw = 0 ∧ vl = 0#64 ∧ vh = 0#64)) && (decide (op = 2) || decide (name = .empty)))) := hS
  rw [hS2]; clear hS2 hS
  rcases h1 with ⟨rfl, h1⟩ | ⟨rfl, h1, h2⟩
  · rw [h1, Bool.true_and]
    have z1 : (0 : Int) ≤ arity 1 := by decide
    have z2 : (0 : Int) ≤ arity 2 := by decide
    by_cases c1 : 0 ≤ arity op
    · by_cases c2 : op = 1
      · subst c2
        simp [fr, z1, show (ByteArray.empty) = ⟨#[]⟩ from rfl]
      · cases hz : (decide (vw = 0) && (decide (vl = 0#64) && decide (vh = 0#64))) with
        | true =>
          by_cases c3 : op = 2
          · subst c3
            simp [fr, hz, z2]
          · simp [fr, c1, c2, c3, hz, show (ByteArray.empty) = ⟨#[]⟩ from rfl]
        | false =>
          by_cases c3 : op = 2
          · subst c3
            simp [fr, hz, z2]
          · simp [fr, c1, c2, c3, hz, show (ByteArray.empty) = ⟨#[]⟩ from rfl]
    · simp [fr, c1]
  · rw [h1, Bool.false_and]
    simp [h2]
end Go.Proofs.Ytiaoojghohfkjaa
