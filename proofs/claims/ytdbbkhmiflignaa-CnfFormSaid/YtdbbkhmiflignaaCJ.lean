/- The encoder of clauses, plain: three clauses a node at most. -/
import Derived.Test.YtdbbkhmiflignaaCI
namespace Go.Proofs.Ytdbbkhmiflignaa
set_option maxRecDepth 100000

/-- All clauses that there may be. -/
def allF (ks : Kd) (E : En) : Nat → List (List Int)
  | 0 => [[E.v 0]]
  | n + 1 => clausesF ks E (((n : Nat) : Int) + 1, 1) ++ clausesF ks E (((n : Nat) : Int) + 1, 2) ++ allF ks E n
theorem allF_len (ks : Kd) (E : En) : ∀ n, (allF ks E n).length ≤ 3 * n + 1
  | 0 => by simp [allF]
  | n + 1 => by
    have := allF_len ks E n
    have a : (clausesF ks E (((n : Nat) : Int) + 1, 1)).length ≤ 2 := by unfold clausesF; split <;> simp
    have b : (clausesF ks E (((n : Nat) : Int) + 1, 2)).length ≤ 1 := by unfold clausesF; split <;> simp
    rw [allF, List.length_append, List.length_append]
    omega
theorem allF_one (ks : Kd) (E : En) : ∀ n, [E.v 0] ∈ allF ks E n
  | 0 => by simp [allF]
  | n + 1 => by rw [allF]; simp [allF_one ks E n]
theorem allF_mem (ks : Kd) (E : En) {s : Int} (hs : s = 1 ∨ s = 2) {x : Int} {c : List Int} (hc : c ∈ clausesF ks E (x, s)) : ∀ {n : Nat}, 1 ≤ x → x ≤ n → c ∈ allF ks E n
  | 0, h0, h1 => by omega
  | n + 1, h0, h1 => by
    rw [allF, List.mem_append, List.mem_append]
    by_cases e : x = (n : Int) + 1
    · subst e
      rcases hs with rfl | rfl
      · exact .inl (.inl hc)
      · exact .inl (.inr hc)
    · exact .inr (allF_mem ks E hs hc h0 (by omega))
theorem EnC.few {m : Int} {ks : Kd} {E : En} {C : List (List Int)} {st : List (Int × Int)} (hr : Rt m ks) (hV : EnV ks E) (h : EnC ks E C st) : C.length ≤ 3 * ks.length + 1 := by
  refine Nat.le_trans (len_sub h.nodup (m := allF ks E ks.length) fun c hc => ?_) (allF_len ks E _)
  have go : ∀ {s x : Int}, (s = 1 ∨ s = 2) → (E.t1 x = true ∨ E.t2 x = true) → c ∈ clausesF ks E (x, s) → c ∈ allF ks E ks.length := fun {s x} hs ht hx => by
    obtain ⟨v, hv⟩ := hV.told x ht
    have r := hV.rng _ _ hv
    refine allF_mem ks E hs hx ?_ r.2.1
    cases hk : (kidsF ks x).2.2 with
    | false => rw [(clauses_none hk).1] at hx; cases hx
    | true =>
      obtain ⟨k, va, vb, p⟩ := hV.parts hr hv hk
      have := p.node
      omega
  rcases (h.mem c).1 hc with ⟨n, h1, h2⟩ | ⟨n, h1, h2⟩ | ⟨v, h1, rfl⟩
  · exact go (.inl rfl) (.inl h1) h2
  · exact go (.inr rfl) (.inr h1) h2
  · have : E.v 0 = v := by unfold En.v; rw [h1]; rfl
    rw [← this]; exact allF_one ks E _
end Go.Proofs.Ytdbbkhmiflignaa
