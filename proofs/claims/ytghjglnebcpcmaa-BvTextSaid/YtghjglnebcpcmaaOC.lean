/- Outputs that grow, of elements of several cells; frozen at a call's end. -/
import Derived.Test.YtghjglnebcpcmaaALC
namespace Go.Proofs.Ytghjglnebcpcmaa
set_option maxRecDepth 100000

/-- A choice where something holds. -/
theorem choose_on {α β : Type} (b : β) {Q : α → Prop} {P : α → β → Prop} (h : ∀ x, Q x → ∃ y, P x y) : ∃ f : α → β, ∀ x, Q x → P x (f x) := by
  have : ∀ x, ∃ y, Q x → P x y := fun x => by
    by_cases q : Q x
    · obtain ⟨y, hy⟩ := h x q
      exact ⟨y, fun _ => hy⟩
    · exact ⟨b, fun h => absurd h q⟩
  exact ⟨fun x => (this x).choose, fun x => (this x).choose_spec⟩
/-- An output that grows, made anew behind H0. -/
structure OutC (H0 H : AHeap) (v : AV) (sz n : Nat) (cs : List AV) : Prop where
  rd : Reads H v sz n cs
  gr : grows v
  new : ∀ p, p ∈ objs v → H0.size ≤ p
theorem OutC.nils {H0 H : AHeap} {sz : Nat} : OutC H0 H .nils sz 0 [] := ⟨Reads.nils, by simp, by simp⟩
theorem OutC.keep {H0 H H' : AHeap} {v : AV} {sz n : Nat} {cs : List AV} (h : OutC H0 H v sz n cs) (k : Keeps H H') : OutC H0 H' v sz n cs := ⟨h.rd.keep k, h.gr, h.new⟩
theorem OutC.base {H0 H1 H : AHeap} {v : AV} {sz n : Nat} {cs : List AV} (h : OutC H1 H v sz n cs) (k : H0.size ≤ H1.size) : OutC H0 H v sz n cs := ⟨h.rd, h.gr, fun p hp => Nat.le_trans k (h.new p hp)⟩
theorem OutC.push {H0 H : AHeap} {v : AV} {sz n : Nat} {cs c z : List AV} {by_ : Nat} (h : OutC H0 H v sz n cs) (k : Keeps H0 H) {r : Option (AV × AHeap)}
    (hA : appU (H.new (.cells c)) v (.row H.size 0 sz 1 true) (some (sz, by_, z)) = r) (hc : c.length = sz) (hz : z.length = sz) (hs : 0 < sz) (h1 : (n + 1) * by_ ≤ 140737488355328) (h2 : n + 1 ≤ 9223372036854775807) (ho : allOne c = true) :
    ∃ v' H', r = some (v', H') ∧ OutC H0 H' v' sz (n + 1) (cs ++ c) ∧ Keeps H0 H' ∧ H.size < H'.size ∧ (∀ p, p < H.size → p ∉ objs v → H'.obj p = H.obj p) ∧ ∀ p, p ∈ objs v' → H.size ≤ p := by
  obtain ⟨H1, rfl, f1, s1, o1, rd⟩ := app_of hA (h.rd.keep (Keeps.new H _)) h.gr (Reads.row' (all := c) (by simp) (by simp) (by omega)) (by omega) hz hs h1 h2 ho
  simp only [new_size] at s1
  have := k.size
  refine ⟨_, H1, rfl, ⟨rd, by simp, by simp; omega⟩, f1.keeps (k.new' _) (fun p hp => h.new p hp), by omega, fun p hp hn => ?_, by simp⟩
  rw [f1.obj p (by simp; omega) hn, new_old (by omega)]
theorem frz_out {H H' : AHeap} {v : AV} {sz n : Nat} {cs : List AV} (h : OutC H H' v sz n cs) (hcl : closedL H.size cs = true) : ∃ w, frz H' H.size [0] v = w ∧ closed H.size w = true ∧ ∀ H2, Reads H2 w sz n cs := by
  obtain ⟨rd, gr, new⟩ := h
  cases v <;> first | (exact gr.elim) | skip
  · have hn : n = 0 := by
      have := rd.len
      simp [sliceLen] at this
      omega
    subst hn
    have : cs = [] := List.eq_nil_of_length_eq_zero (by simpa using rd.size)
    subst this
    exact ⟨.nils, by simp, by simp, fun _ => Reads.nils⟩
  · rename_i o off s m full
    obtain ⟨g1, g2, g3, g4⟩ := rd
    obtain ⟨rfl, g4⟩ := g4
    simp [sliceLen] at g1
    subst g1
    have ho : ¬ o < H.size := by have := new o (by simp); omega
    unfold sliceCells at g2
    simp only at g2
    split at g2 <;> first | (cases g2; done) | skip
    rename_i all hob
    split at g2 <;> first | (cases g2; done) | skip
    rename_i hle
    simp only [Option.some.injEq] at g2
    refine ⟨.lst s m cs, ?_, by simpa using hcl, fun _ => Reads.lst g3⟩
    rw [frz_row, if_neg ho, hob, frzO_cells, if_pos hle, g2, frz_nil', List.map_id]
theorem back_out {H H' : AHeap} {v : AV} {sz n : Nat} {cs : List AV} (k : Keeps H H') (h : OutC H H' v sz n cs) (hcl : closedL H.size cs = true) : ∃ w, back [0] H v H' = (w, H) ∧ ∀ H2, Reads H2 w sz n cs := by
  obtain ⟨w, h1, h2, h3⟩ := frz_out h hcl
  exact ⟨w, by rw [back_cons (by rw [h1]; exact h2) k.shut, cut_keeps k, h1], h3⟩
theorem back_outI {H H' : AHeap} {v : AV} {sz n : Nat} {cs : List AV} {kk : IntKind} {i : Int} (k : Keeps H H') (h : OutC H H' v sz n cs) (hcl : closedL H.size cs = true) : ∃ w, back [0, 0] H (.tup [v, .int kk i]) H' = (.tup [w, .int kk i], H) ∧ ∀ H2, Reads H2 w sz n cs := by
  obtain ⟨w, h1, h2, h3⟩ := frz_out h hcl
  have he : frz H' H.size [0, 0] (.tup [v, .int kk i]) = .tup [w, .int kk i] := by rw [frz_tup]; simp only [List.map_cons, List.map_nil, h1, frz_int]
  exact ⟨w, by rw [back_cons (by rw [he]; simp [h2]) k.shut, cut_keeps k, he], h3⟩
end Go.Proofs.Ytghjglnebcpcmaa
