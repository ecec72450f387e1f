/- The interpreter is right: each operation that makes no call. -/
import Derived.Test.YtphkkcocimmmfaaAL9
namespace Go.Proofs.Ytphkkcocimmmfaa
open Go.RowKit

section
variable {P : Program} {K : TypeId → Option (List Sc)}

theorem put_fold : ∀ (vs : List Value) (cells : Array Value) (off : Nat), off + vs.length ≤ cells.size →
    ((vs.zipIdx).foldl (fun cs (c, j) => cs.setIfInBounds (off + j) c) cells).toList = cells.toList.take off ++ vs ++ cells.toList.drop (off + vs.length) := by
  have gen : ∀ (vs : List Value) (k : Nat) (cells : Array Value) (off : Nat), off + k + vs.length ≤ cells.size →
      ((vs.zipIdx k).foldl (fun cs (c, j) => cs.setIfInBounds (off + j) c) cells).toList = cells.toList.take (off + k) ++ vs ++ cells.toList.drop (off + k + vs.length) := by
    intro vs
    induction vs with
    | nil => intro k cells off _; simp
    | cons v vs ih =>
      intro k cells off h
      simp only [List.length_cons] at h
      simp only [List.zipIdx_cons, List.foldl_cons]
      rw [ih (k + 1) _ off (by simp; omega)]
      have hlt : off + k < cells.toList.length := by simp; omega
      simp only [Array.toList_setIfInBounds, List.length_cons]
      rw [show off + (k + 1) = (off + k) + 1 from by omega, List.take_add_one, List.take_set_of_le (Nat.le_refl _), List.getElem?_set_self hlt, List.drop_set_of_lt (by omega)]
      rw [show off + k + 1 + vs.length = off + k + (vs.length + 1) from by omega]
      simp
  intro vs cells off h
  have := gen vs 0 cells off (by omega)
  simpa using this

theorem fill_sound {S : St} {pa : Nat → Option (Nat × Nat)} : ∀ {ps : List (Nat × AV)} {vs : List (Nat × Value)} {cs cs' : List AV} {cells : Array Value}, ps.length = vs.length → (∀ (i : Nat) (a : Nat × AV) (b : Nat × Value), ps[i]? = some a → vs[i]? = some b → a.1 = b.1 ∧ VR S a.2 b.2) →
    VRs S cs cells.toList → fillC pa cs ps = some cs' → ∃ out, Instr.fill pa cells vs = some out ∧ VRs S cs' out.toList
  | [], [], cs, cs', cells, _, _, hc, h => by simp [fillC] at h; subst h; exact ⟨cells, rfl, hc⟩
  | [], _ :: _, _, _, _, hl, _, _, _ => by simp at hl
  | _ :: _, [], _, _, _, hl, _, _, _ => by simp at hl
  | (i, a) :: ps, (j, v) :: vs, cs, cs', cells, hl, hr, hc, h => by
    obtain ⟨e1, e2⟩ := hr 0 (i, a) (j, v) (by simp) (by simp)
    simp only at e1 e2
    subst e1
    simp only [fillC, Option.bind_eq_some_iff] at h
    obtain ⟨⟨off, sz⟩, hp, h⟩ := h
    simp only at h
    split at h <;> first | (cases h; done) | skip
    rename_i hcond
    have hcl := hc.length
    have hvl := e2.cells.length
    simp only [Array.length_toList] at hcl hvl
    have hfold := put_fold v.cells.toList cells off (by simp; omega)
    have hsound : VRs S (putCells cs off a.cells) (v.cells.zipIdx.foldl (fun cs (c, j) => cs.setIfInBounds (off + j) c) cells).toList := by
      rw [← Array.foldl_toList, Array.toList_zipIdx]
      rw [hfold]
      exact putCells_sound hc e2.cells off
    obtain ⟨out, ho, hv⟩ := fill_sound (by simpa using hl) (fun k x y hx hy => hr (k + 1) x y (by simpa using hx) (by simpa using hy)) hsound h
    refine ⟨out, ?_, hv⟩
    simp only [Instr.fill, hp]
    rw [if_neg (by simp; omega)]
    exact ho

theorem evalParts_sound {S : St} {e : Env} {a : Act} (hE : EnvR S e a.tmps) : ∀ {ps : List (Nat × Operand)} {l : List (Nat × AV)}, evalParts e ps = some l → l.length = (ps.map fun (i, x) => (i, a.eval x)).length ∧
    ∀ (i : Nat) (x : Nat × AV) (y : Nat × Value), l[i]? = some x → (ps.map fun (i, x) => (i, a.eval x))[i]? = some y → x.1 = y.1 ∧ VR S x.2 y.2
  | [], l, h => by simp [evalParts] at h; subst h; simp
  | (i, x) :: ps, l, h => by
    simp only [evalParts, Option.bind_eq_some_iff, Option.map_eq_some_iff] at h
    obtain ⟨v, hv, l', hl, rfl⟩ := h
    obtain ⟨h1, h2⟩ := evalParts_sound hE hl
    refine ⟨by simp at h1 ⊢; exact h1, ?_⟩
    intro j y z hy hz
    cases j with
    | zero => simp at hy hz; subst hy; subst hz; exact ⟨rfl, evalOpd_sound hE hv⟩
    | succ j => exact h2 j y z (by simpa using hy) (by simpa using hz)

theorem places_run : ∀ {fs : List Field} {pl : List (Nat × Nat)}, places P fs = some pl → ∀ w, (fs.mapM fun f => (do pure (f.offset, ← sizeOf f.type) : Sem (Nat × Nat))).run P w = .ok pl w
  | [], pl, h, w => by simp [places] at h; subst h; rfl
  | f :: fs, pl, h, w => by
    simp only [places, Option.bind_eq_some_iff, Option.map_eq_some_iff] at h
    obtain ⟨s, hs, l, hl, rfl⟩ := h
    have ih := places_run hl w
    simp at ih
    simp [List.mapM_cons, run_sizeOf hs, ih]

theorem abuild_sound {S : St} {t : TypeId} {e : Env} {a : Act} (hE : EnvR S e a.tmps) {ps : Array (Nat × Operand)} {l : List (Nat × AV)} (hl : evalParts e ps.toList = some l) {v : AV} (h : abuild P t l = some v) :
    ∃ z, (Instr.build t (ps.map fun (i, x) => (i, a.eval x))).run P S.w = .ok z S.w ∧ VR S v z := by
  obtain ⟨p1, p2⟩ := evalParts_sound hE hl
  unfold abuild at h
  simp only [Option.bind_eq_some_iff] at h
  obtain ⟨z, hz, h⟩ := h
  obtain ⟨i, zv, hi, hzz, hvz⟩ := tZ_some S hz
  split at h <;> first | (cases h; done) | skip
  · rename_i fs hu
    simp only [Option.bind_eq_some_iff, Option.map_eq_some_iff] at h
    obtain ⟨pl, hpl, cs, hf, rfl⟩ := h
    obtain ⟨out, ho, hv⟩ := fill_sound p1 p2 hvz hf
    refine ⟨.agg out, ?_, by have := VR.agg (S := S) _ _ hv; simpa using this⟩
    have hm := places_run hpl S.w
    have hm' : (fs.mapM fun f => (do pure (f.offset, ← sizeOf f.type) : Sem (Nat × Nat))).run P S.w = .ok pl.toArray S.w := by
      rw [Array.mapM_eq_mapM_toList]
      simp only [Sem.run_map, hm]
      rfl
    have ho' : Instr.fill (fun x => pl.toArray[x]?) zv.cells (ps.map fun (i, x) => (i, a.eval x)).toList = some out := by simpa using ho
    simp only [Instr.build, Sem.run_bind, run_zeroValue hi hzz, Result.andThen_ok, run_underlying hu, hm', ho']
    rfl
  · rename_i n e' hu
    simp only [Option.bind_eq_some_iff, Option.map_eq_some_iff] at h
    obtain ⟨s, hs, cs, hf, rfl⟩ := h
    obtain ⟨out, ho, hv⟩ := fill_sound p1 p2 hvz hf
    refine ⟨.agg out, ?_, by have := VR.agg (S := S) _ _ hv; simpa using this⟩
    have ho' : Instr.fill (fun i => some (i * s, s)) zv.cells (ps.map fun (i, x) => (i, a.eval x)).toList = some out := by simpa using ho
    simp only [Instr.build, Sem.run_bind, run_zeroValue hi hzz, Result.andThen_ok, run_underlying hu, run_sizeOf hs, ho']
    rfl

theorem abuildSlice_sound {S : St} (hS : Sim S) {t : TypeId} {n : Nat} {e : Env} {a : Act} (hE : EnvR S e a.tmps) {ps : Array (Nat × Operand)} {l : List (Nat × AV)} (hl : evalParts e ps.toList = some l) {v : AV} {H' : AHeap} (h : abuildSlice P S.H t n l = some (v, H')) :
    ∃ (T : St) (r : Value), (Instr.buildSlice t n (ps.map fun (i, x) => (i, a.eval x))).run P S.w = .ok r T.w ∧ T.H = H' ∧ Sim T ∧ Ext S T ∧ VR T v r := by
  obtain ⟨p1, p2⟩ := evalParts_sound hE hl
  unfold abuildSlice at h
  split at h <;> first | (cases h; done) | skip
  rename_i e' hu
  simp only [Option.bind_eq_some_iff] at h
  obtain ⟨s, hs, z, hz, h⟩ := h
  obtain ⟨i, zv, hi, hzz, hvz⟩ := tZ_some S hz
  have hs' : i.size = s := by simpa [tS, hi] using hs
  subst hs'
  split at h <;> first | (cases h; done) | skip
  rename_i hc
  simp only [Option.map_eq_some_iff] at h
  obtain ⟨cs, hf, h⟩ := h
  cases h
  have hzs : zv.cells.size = i.size := by have := hvz.length; simp at this; omega
  obtain ⟨out, ho, hv⟩ := fill_sound p1 p2 (cells := (Array.range (n * zv.cells.size)).map (zv.cells[· % zv.cells.size]!)) (zeros_toList hvz (by omega) n) hf
  obtain ⟨g1, g2, g3, g4⟩ := alloc_cells hS hv (c := out) (e := e') [] (by simp) (Grew.alloc S.w _)
  have hlen : out.size = n * i.size := by
    have key : ∀ {ps : List (Nat × AV)} {cs cs' : List AV}, fillC (fun k => some (k * i.size, i.size)) cs ps = some cs' → cs'.length = cs.length := by
      intro ps
      induction ps with
      | nil => intro cs cs' h; simp [fillC] at h; subst h; rfl
      | cons p ps ih =>
        intro cs cs' h
        simp only [fillC, Option.bind_some] at h
        split at h <;> first | (cases h; done) | skip
        rw [ih h]
        simp [putCells]
        omega
    have h1 := key hf
    have h2 := hv.length
    simp at h1 h2
    rw [← h2, h1, hc.2.1]
  have hrun : (Instr.buildSlice t n (ps.map fun (i, x) => (i, a.eval x))).run P S.w = .ok (.slice (some ⟨S.w.heap.size, 0, none⟩) n n) (S.w.alloc (.cells out e')) := by
    have nb : ¬ (16777216 < n * i.size) := by omega
    rw [hzs] at ho
    by_cases hn : n = 0
    · subst hn
      have ho2 : Instr.fill (fun k => some (k * i.size, i.size)) #[] (ps.map fun (i, x) => (i, a.eval x)).toList = some out := by simpa [show Array.range 0 = #[] from rfl] using ho
      simp only [Instr.buildSlice, Sem.run_bind, run_underlying hu, Result.andThen_ok, run_sizeOf hs]
      simp [newRow, show Array.range 0 = #[] from rfl]
      simp at ho2
      simp [ho2]
    · have hn' : ¬ (n * i.size = 0) := by
        intro h; rcases Nat.mul_eq_zero.1 h with h | h <;> omega
      simp only [Instr.buildSlice, Sem.run_bind, run_underlying hu, Result.andThen_ok, run_sizeOf hs]
      simp [nb, hn', run_zeroValue hi hzz, newRow, hzs]
      simp at ho
      simp [ho]
  refine ⟨_, _, hrun, rfl, g1, g2, ?_⟩
  have := VR.row_new (S := S.alloc (.cells cs) (S.w.alloc (.cells out e'))) (H := S.H.size) i.size n n _ true
    (by simp [St.alloc, AHeap.new]) (by rw [g3]; exact g4) (by rw [g3]) (by omega) (Nat.le_refl _) (by
      have : n ≤ n * i.size := Nat.le_mul_of_pos_right n hc.2.2
      omega) (fun _ => rfl)
  rwa [g3] at this

end
end Go.Proofs.Ytphkkcocimmmfaa
