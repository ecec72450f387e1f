/- The interpreter is right: slices, stores, new memory. -/
import Derived.Test.YtphkkcocimmmfaaAL5
import Derived.Laws.Append
namespace Go.Proofs.Ytphkkcocimmmfaa
open Go.RowKit

section
variable {P : Program} {K : TypeId → Option (List Sc)}

/-- A slice in the world: its cells can be read. -/
def ReadsAt (w : World) (a : Option Addr) (xs : List Value) : Prop := xs = [] ∨ ∃ b off, a = some ⟨b, off, none⟩ ∧ ∀ j x, xs[j]? = some x → w.cell? ⟨b, off + j, none⟩ = some x

theorem VRs.nil_iff {S : St} {as : List AV} {xs : List Value} (h : VRs S as xs) : as = [] ↔ xs = [] := by
  cases h <;> simp

theorem slice_sound {S : St} (hS : Sim S) {s : AV} {y : Value} (hv : VR S s y) {n : Nat} {cs : List AV} (hn : sliceLen s = some n) (hc : sliceCells S.H s = some cs) :
    ∃ a cap xs, y = .slice a n cap ∧ n ≤ cap ∧ VRs S cs xs ∧ ReadsAt S.w a xs := by
  cases hv <;> first
    | (simp [sliceLen] at hn; done)
    | skip
  case nils => simp [sliceLen, sliceCells] at hn hc; subst hn hc; exact ⟨none, 0, [], rfl, Nat.le_refl _, .nil, .inl rfl⟩
  case row o off sz n' cap m full ho hm h1 h2 h3 h4 =>
    simp [sliceLen] at hn
    subst hn
    simp only [sliceCells] at hc
    split at hc
    · rename_i cs' hobj
      split at hc
      · rename_i hle
        cases hc
        have hr := hS.objs o ho
        rw [hobj] at hr
        obtain ⟨c, e, xs, _, g2, _, _, g5⟩ := hr.cellsOf
        refine ⟨_, cap, _, rfl, h2, (g2.drop off).take _, .inr ⟨_, _, rfl, fun j x hj => ?_⟩⟩
        rw [List.getElem?_take] at hj
        split at hj
        · rw [List.getElem?_drop] at hj
          rw [Nat.add_assoc]
          exact g5 _ x hj
        · cases hj
      · cases hc
    · cases hc
  case row0 o off sz off' m full ho hm =>
    simp [sliceLen] at hn
    subst hn
    simp only [sliceCells] at hc
    split at hc
    · split at hc
      · cases hc
        exact ⟨_, 0, [], rfl, Nat.le_refl _, by simp; exact .nil, .inl rfl⟩
      · cases hc
    · cases hc
  case lst0 sz cap a => simp [sliceLen, sliceCells] at hn hc; subst hn hc; exact ⟨a, cap, [], rfl, Nat.zero_le _, .nil, .inl rfl⟩
  case lst sz n' cap cs' b off xs hs hl hb hno hcell hle =>
    simp [sliceLen, sliceCells] at hn hc; subst hn hc
    exact ⟨_, cap, xs, rfl, hle, hs, .inr ⟨b, off, rfl, hcell⟩⟩

theorem reads_loadCells {w w' : World} (hw : w'.heap = w.heap) {a : Addr} {xs : List Value} (h : ReadsAt w (some a) xs) : (loadCells a xs.length).run P w' = .ok xs.toArray w' := by
  rcases h with rfl | ⟨b, off, he, hc⟩
  · rfl
  · cases he
    refine run_loadCells_list (P := P) w' ⟨b, off, none⟩ xs fun j x hj => ?_
    rw [add_plain, World.cell?_heap (w := w) (w' := w') (by rw [hw])]
    exact hc j x hj

theorem firstCells_sound {w w' : World} (hw : w'.heap = w.heap) {a : Option Addr} {n cap sz : Nat} {xs : List Value} (h : ReadsAt w a xs) (hl : xs.length = n * sz) :
    (Builtin.firstCells sz n (.slice a n cap)).run P w' = .ok xs.toArray w' := by
  cases a with
  | none =>
    rcases h with rfl | ⟨b, off, he, _⟩
    · rfl
    · cases he
  | some a => simp only [Builtin.firstCells]; rw [← hl]; exact reads_loadCells hw h

theorem putCells_sound {S : St} {cs : List AV} {xs : List Value} {new : List AV} {ys : List Value} (hs : VRs S cs xs) (hn : VRs S new ys) (off : Nat) : VRs S (putCells cs off new) (xs.take off ++ ys ++ xs.drop (off + ys.length)) := by
  unfold putCells
  rw [hn.length]
  exact ((hs.take off).append hn).append (hs.drop _)

/-- Cells of an object are stored. -/
theorem store_cells {S : St} (hS : Sim S) {o : Nat} (ho : o < S.H.size) {cs : List AV} (hobj : S.H.obj o = .cells cs) {off : Nat} {new : List AV} {ys : List Value} (hn : VRs S new ys) (h1 : allOne new = true) (hle : off + new.length ≤ cs.length) :
    ∃ w', (storeCells ⟨(S.ι o).1, (S.ι o).2 + off, none⟩ ys).run P S.w = .ok () w' ∧ Sim (S.put o (.cells (putCells cs off new)) w') ∧ Ext S (S.put o (.cells (putCells cs off new)) w') := by
  have hr := hS.objs o ho
  rw [hobj] at hr
  obtain ⟨c, e, xs, g1, g2, g3, g4, g5⟩ := hr.cellsOf
  have hl := g2.length
  have hl' := hn.length
  have hst := run_storeCells_at P (S.ι o).1 ((S.ι o).2 + off) e ys 0 c S.w g1 (by omega) (hn.ones h1)
  simp only [Nat.add_zero] at hst
  refine ⟨_, hst, put_cells hS ho hobj g1 (putCells_sound g2 hn off) ?_ ?_ ?_ (Wrote.setRow g1)⟩
  · simp; omega
  · simp; omega
  · intro j x hj
    simp only [List.getElem?_toArray]
    by_cases hj1 : j < off
    · rw [List.append_assoc, List.getElem?_append_left (by simp; omega), List.getElem?_take, if_pos hj1] at hj
      rw [List.append_assoc, List.getElem?_append_left (by simp; omega), List.getElem?_take, if_pos (by omega)]
      rw [Array.getElem?_toList]
      exact g4 j x hj
    · rw [List.append_assoc, List.getElem?_append_right (by simp; omega)] at hj
      rw [List.append_assoc, List.getElem?_append_right (by simp; omega)]
      simp only [List.length_take, Array.length_toList] at hj ⊢
      rw [show min off xs.length = off from by omega] at hj
      rw [show min ((S.ι o).2 + off) c.size = (S.ι o).2 + off from by omega]
      rw [show (S.ι o).2 + j - ((S.ι o).2 + off) = j - off from by omega]
      by_cases hj2 : j - off < ys.length
      · rw [List.getElem?_append_left hj2] at hj ⊢
        exact hj
      · rw [List.getElem?_append_right (by omega)] at hj ⊢
        rw [List.getElem?_drop] at hj ⊢
        rw [Array.getElem?_toList]
        have := g4 _ x hj
        rw [show (S.ι o).2 + off + ys.length + (j - off - ys.length) = (S.ι o).2 + (off + ys.length + (j - off - ys.length)) from by omega]
        exact this

theorem putCells_one (cs : List AV) (off : Nat) (v : AV) (h : off < cs.length) : putCells cs off [v] = cs.set off v := by
  unfold putCells
  rw [List.set_eq_take_append_cons_drop, if_pos h]
  simp

theorem run_storeVar {t : TypeId} {n : Nat} (h : tS P t = some n) {v : Value} (hn : v.cells.size = n) (a : Addr) (w : World) : (storeVar t a v).run P w = (storeCells a v.cells.toList).run P w := by
  subst hn
  simp [storeVar, run_sizeOf h]

theorem astore_sound {S : St} (hS : Sim S) {t : TypeId} {a v : AV} {x y : Value} {H' : AHeap} (ha : VR S a x) (hv : VR S v y) (h : astore P S.H t a v = some H') :
    ∃ w', (Instr.storeAt t x y).run P S.w = .ok () w' ∧ ∃ T : St, T.w = w' ∧ T.H = H' ∧ Sim T ∧ Ext S T := by
  unfold astore at h
  split at h <;> first | (cases h; done) | skip
  rename_i o off
  split at h <;> first | (cases h; done) | skip
  rename_i cs hobj
  cases ha with
  | ptr _ _ m ho hm =>
    split at h
    · rename_i new
      split at h
      · rename_i hc
        cases h
        cases hv with
        | agg _ ys hs =>
          obtain ⟨w', h1, h2, h3⟩ := store_cells (P := P) hS ho hobj hs hc.2.2 hc.2.1
          refine ⟨w', ?_, _, rfl, rfl, h2, h3⟩
          simp only [Instr.storeAt, Instr.sureAddr, Sem.run_bind, Sem.run_pure, Result.andThen_ok]
          rw [run_storeVar hc.1 (by simp [Value.cells, hs.length])]
          exact h1
      · cases h
    · split at h
      · rename_i hc
        cases h
        have hcells : v.cells = [v] := by
          cases v <;> first | rfl | (simp [AV.one] at hc)
        have hs := hv.cells
        rw [hcells] at hs
        obtain ⟨w', h1, h2, h3⟩ := store_cells (P := P) hS ho hobj hs (by simp [allOne, hc.2.2]) (off := off) (by have := hc.2.1; simp; omega)
        rw [putCells_one cs off v hc.2.1] at h2 h3
        refine ⟨w', ?_, _, rfl, rfl, h2, h3⟩
        simp only [Instr.storeAt, Instr.sureAddr, Sem.run_bind, Sem.run_pure, Result.andThen_ok]
        rw [run_storeVar hc.1 (by have := hs.length; simp at this; omega)]
        exact h1
      · cases h

theorem VR.row_new {S : St} {H : Nat} (sz n cap m : Nat) (full : Bool) (hH : H < S.H.size) (hm : cellsAt S.w (S.ι H).1 m) (h0 : (S.ι H).2 = 0) (hle : cap * sz ≤ m) (h1 : n ≤ cap) (h2 : cap ≤ 9223372036854775807) (h3 : full = true → cap = n) :
    VR S (.row H 0 sz n full) (.slice (some ⟨(S.ι H).1, 0, none⟩) n cap) := by
  have := VR.row (S := S) H 0 sz n cap m full hH hm (by omega) h1 h2 h3
  rwa [h0] at this

theorem VR.ptr_new {S : St} {H : Nat} {m : Nat} (hH : H < S.H.size) (hm : cellsAt S.w (S.ι H).1 m) (h0 : (S.ι H).2 = 0) : VR S (.ptr H 0) (.pointer (some ⟨(S.ι H).1, 0, none⟩)) := by
  have := VR.ptr (S := S) H 0 m hH hm
  rwa [h0] at this

/-- A new object that holds a value. -/
theorem newVar_sound {S : St} (hS : Sim S) {cs : List AV} {xs : List Value} (hv : VRs S cs xs) (e : TypeId) :
    ∃ T : St, T.w = S.w.alloc (.cells xs.toArray e) ∧ T.H = S.H.new (.cells cs) ∧ Sim T ∧ Ext S T ∧ VR T (.ptr S.H.size 0) (.pointer (some ⟨S.w.heap.size, 0, none⟩)) := by
  obtain ⟨h1, h2, h3, h4⟩ := alloc_cells hS hv (c := xs.toArray) (e := e) [] (by simp) (Grew.alloc S.w _)
  refine ⟨_, rfl, rfl, h1, h2, ?_⟩
  have := VR.ptr_new (S := S.alloc (.cells cs) (S.w.alloc (.cells xs.toArray e))) (H := S.H.size) (m := xs.toArray.size) (by simp [St.alloc, AHeap.new]) (by rw [h3]; exact h4) (by rw [h3])
  rwa [h3] at this

theorem ofCells_length : ∀ {vs : List Value} {as : List AV}, ofCells vs = some as → as.length = vs.length
  | [], as, h => by simp [ofCells] at h; subst h; rfl
  | v :: vs, as, h => by
    simp only [ofCells, Option.bind_eq_some_iff, Option.map_eq_some_iff] at h
    obtain ⟨a, ha, bs, hb, rfl⟩ := h
    simp [ofCells_length hb]

theorem run_zeroValue {t : TypeId} {i : TypeInfo} {z : Value} (h : P.info? t = some i) (hz : i.zero = some z) (w : World) : (zeroValue t).run P w = .ok z w := by
  simp [zeroValue, run_typeInfo h, hz]

theorem tZ_some (S : St) {t : TypeId} {z : List AV} (h : tZ P t = some z) : ∃ i zv, P.info? t = some i ∧ i.zero = some zv ∧ VRs S z zv.cells.toList := by
  simp only [tZ, Option.bind_eq_some_iff] at h
  obtain ⟨i, hi, zv, hz, hc⟩ := h
  exact ⟨i, zv, hi, hz, ofCells_sound S hc⟩

theorem tZV_some (S : St) {t : TypeId} {z : AV} (h : tZV P t = some z) : ∃ zv, (∀ w, (zeroValue t).run P w = .ok zv w) ∧ VR S z zv := by
  simp only [tZV, Option.bind_eq_some_iff] at h
  obtain ⟨i, hi, zv, hz, hc⟩ := h
  exact ⟨zv, fun w => run_zeroValue hi hz w, ofValue_sound S hc⟩

end
end Go.Proofs.Ytphkkcocimmmfaa
