/- The interpreter is right: each operation that makes no call. The interpreter is right: an operation. Regions that draw their order: operations that do not touch one another may change places. The interpreter is right: regions. The interpreter is right: regions that draw their order. What a call leav -/
import Derived.Test.YtghjglnebcpcmaaALA
import Derived.Orders
import Derived.LoopN
/-! The interpreter is right: each operation that makes no call. -/
namespace Go.Proofs.Ytghjglnebcpcmaa
open Go.RowKit

section
variable {P : Program} {K : TypeId → Option (List Sc)}

theorem put_fold : ∀ (vs : List Value) (cells : Array Value) (off : Nat), off + vs.length ≤ cells.size →
    ((vs.zipIdx).foldl (fun cs (c, j) => cs.setIfInBounds (off + j) c) cells).toList = cells.toList.take off ++ vs ++ cells.toList.drop (off + vs.length) := by
  have gen : ∀ (vs : List Value) (k : Nat) (cells : Array Value) (off : Nat), off + k + vs.length ≤ cells.size →
      ((vs.zipIdx k).foldl (fun cs (c, j) => cs.setIfInBounds (off + j) c) cells).toList = cells.toList.take (off + k) ++ vs ++ cells.toList.drop (off + k + vs.length) := by
    intro vs
    induction vs with
    | nil => intro k cells off _; simp
    | cons v vs ih =>
      intro k cells off h
      simp only [List.length_cons] at h
      simp only [List.zipIdx_cons, List.foldl_cons]
      rw [ih (k + 1) _ off (by simp; omega)]
      have hlt : off + k < cells.toList.length := by simp; omega
      simp only [Array.toList_setIfInBounds, List.length_cons]
      rw [show off + (k + 1) = (off + k) + 1 from by omega, List.take_add_one, List.take_set_of_le (Nat.le_refl _), List.getElem?_set_self hlt, List.drop_set_of_lt (by omega)]
      rw [show off + k + 1 + vs.length = off + k + (vs.length + 1) from by omega]
      simp
  intro vs cells off h
  have := gen vs 0 cells off (by omega)
  simpa using this

theorem fill_sound {S : St} {pa : Nat → Option (Nat × Nat)} : ∀ {ps : List (Nat × AV)} {vs : List (Nat × Value)} {cs cs' : List AV} {cells : Array Value}, ps.length = vs.length → (∀ (i : Nat) (a : Nat × AV) (b : Nat × Value), ps[i]? = some a → vs[i]? = some b → a.1 = b.1 ∧ VR S a.2 b.2) →
    VRs S cs cells.toList → fillC pa cs ps = some cs' → ∃ out, Instr.fill pa cells vs = some out ∧ VRs S cs' out.toList
  | [], [], cs, cs', cells, _, _, hc, h => by simp [fillC] at h; subst h; exact ⟨cells, rfl, hc⟩
  | [], _ :: _, _, _, _, hl, _, _, _ => by simp at hl
  | _ :: _, [], _, _, _, hl, _, _, _ => by simp at hl
  | (i, a) :: ps, (j, v) :: vs, cs, cs', cells, hl, hr, hc, h => by
    obtain ⟨e1, e2⟩ := hr 0 (i, a) (j, v) (by simp) (by simp)
    simp only at e1 e2
    subst e1
    simp only [fillC, Option.bind_eq_some_iff] at h
    obtain ⟨⟨off, sz⟩, hp, h⟩ := h
    simp only at h
    split at h <;> first | (cases h; done) | skip
    rename_i hcond
    have hcl := hc.length
    have hvl := e2.cells.length
    simp only [Array.length_toList] at hcl hvl
    have hfold := put_fold v.cells.toList cells off (by simp; omega)
    have hsound : VRs S (putCells cs off a.cells) (v.cells.zipIdx.foldl (fun cs (c, j) => cs.setIfInBounds (off + j) c) cells).toList := by
      rw [← Array.foldl_toList, Array.toList_zipIdx]
      rw [hfold]
      exact putCells_sound hc e2.cells off
    obtain ⟨out, ho, hv⟩ := fill_sound (by simpa using hl) (fun k x y hx hy => hr (k + 1) x y (by simpa using hx) (by simpa using hy)) hsound h
    refine ⟨out, ?_, hv⟩
    simp only [Instr.fill, hp]
    rw [if_neg (by simp; omega)]
    exact ho

theorem evalParts_sound {S : St} {e : Env} {a : Act} (hE : EnvR S e a.tmps) : ∀ {ps : List (Nat × Operand)} {l : List (Nat × AV)}, evalParts e ps = some l → l.length = (ps.map fun (i, x) => (i, a.eval x)).length ∧
    ∀ (i : Nat) (x : Nat × AV) (y : Nat × Value), l[i]? = some x → (ps.map fun (i, x) => (i, a.eval x))[i]? = some y → x.1 = y.1 ∧ VR S x.2 y.2
  | [], l, h => by simp [evalParts] at h; subst h; simp
  | (i, x) :: ps, l, h => by
    simp only [evalParts, Option.bind_eq_some_iff, Option.map_eq_some_iff] at h
    obtain ⟨v, hv, l', hl, rfl⟩ := h
    obtain ⟨h1, h2⟩ := evalParts_sound hE hl
    refine ⟨by simp at h1 ⊢; exact h1, ?_⟩
    intro j y z hy hz
    cases j with
    | zero => simp at hy hz; subst hy; subst hz; exact ⟨rfl, evalOpd_sound hE hv⟩
    | succ j => exact h2 j y z (by simpa using hy) (by simpa using hz)

theorem places_run : ∀ {fs : List Field} {pl : List (Nat × Nat)}, places P fs = some pl → ∀ w, (fs.mapM fun f => (do pure (f.offset, ← sizeOf f.type) : Sem (Nat × Nat))).run P w = .ok pl w
  | [], pl, h, w => by simp [places] at h; subst h; rfl
  | f :: fs, pl, h, w => by
    simp only [places, Option.bind_eq_some_iff, Option.map_eq_some_iff] at h
    obtain ⟨s, hs, l, hl, rfl⟩ := h
    have ih := places_run hl w
    simp at ih
    simp [List.mapM_cons, run_sizeOf hs, ih]

theorem abuild_sound {S : St} {t : TypeId} {e : Env} {a : Act} (hE : EnvR S e a.tmps) {ps : Array (Nat × Operand)} {l : List (Nat × AV)} (hl : evalParts e ps.toList = some l) {v : AV} (h : abuild P t l = some v) :
    ∃ z, (Instr.build t (ps.map fun (i, x) => (i, a.eval x))).run P S.w = .ok z S.w ∧ VR S v z := by
  obtain ⟨p1, p2⟩ := evalParts_sound hE hl
  unfold abuild at h
  simp only [Option.bind_eq_some_iff] at h
  obtain ⟨z, hz, h⟩ := h
  obtain ⟨i, zv, hi, hzz, hvz⟩ := tZ_some S hz
  split at h <;> first | (cases h; done) | skip
  · rename_i fs hu
    simp only [Option.bind_eq_some_iff, Option.map_eq_some_iff] at h
    obtain ⟨pl, hpl, cs, hf, rfl⟩ := h
    obtain ⟨out, ho, hv⟩ := fill_sound p1 p2 hvz hf
    refine ⟨.agg out, ?_, by have := VR.agg (S := S) _ _ hv; simpa using this⟩
    have hm := places_run hpl S.w
    have hm' : (fs.mapM fun f => (do pure (f.offset, ← sizeOf f.type) : Sem (Nat × Nat))).run P S.w = .ok pl.toArray S.w := by
      rw [Array.mapM_eq_mapM_toList]
      simp only [Sem.run_map, hm]
      rfl
    have ho' : Instr.fill (fun x => pl.toArray[x]?) zv.cells (ps.map fun (i, x) => (i, a.eval x)).toList = some out := by simpa using ho
    simp only [Instr.build, Sem.run_bind, run_zeroValue hi hzz, Result.andThen_ok, run_underlying hu, hm', ho']
    rfl
  · rename_i n e' hu
    simp only [Option.bind_eq_some_iff, Option.map_eq_some_iff] at h
    obtain ⟨s, hs, cs, hf, rfl⟩ := h
    obtain ⟨out, ho, hv⟩ := fill_sound p1 p2 hvz hf
    refine ⟨.agg out, ?_, by have := VR.agg (S := S) _ _ hv; simpa using this⟩
    have ho' : Instr.fill (fun i => some (i * s, s)) zv.cells (ps.map fun (i, x) => (i, a.eval x)).toList = some out := by simpa using ho
    simp only [Instr.build, Sem.run_bind, run_zeroValue hi hzz, Result.andThen_ok, run_underlying hu, run_sizeOf hs, ho']
    rfl

theorem abuildSlice_run {S : St} {t : TypeId} {n : Nat} {e : Env} {a : Act} (hE : EnvR S e a.tmps) {ps : Array (Nat × Operand)} {l : List (Nat × AV)} (hl : evalParts e ps.toList = some l) {H : AHeap} {v : AV} {H' : AHeap} (h : abuildSlice P H t n l = some (v, H')) :
    ∃ (cs : List AV) (s : Nat) (out : Array Value) (e' : TypeId), (∀ G : AHeap, abuildSlice P G t n l = some (.row G.size 0 s n true, G.new (.cells cs))) ∧ v = .row H.size 0 s n true ∧ H' = H.new (.cells cs) ∧ (Instr.buildSlice t n (ps.map fun (i, x) => (i, a.eval x))).run P S.w = .ok (.slice (some ⟨S.w.heap.size, 0, none⟩) n n) (S.w.alloc (.cells out e')) ∧ VRs S cs out.toList ∧ out.size = n * s ∧ 0 < s ∧ n * s ≤ 16777216 := by
  obtain ⟨p1, p2⟩ := evalParts_sound hE hl
  unfold abuildSlice at h
  split at h <;> first | (cases h; done) | skip
  rename_i e' hu
  simp only [Option.bind_eq_some_iff] at h
  obtain ⟨s, hs, z, hz, h⟩ := h
  obtain ⟨i, zv, hi, hzz, hvz⟩ := tZ_some S hz
  have hs' : i.size = s := by simpa [tS, hi] using hs
  subst hs'
  split at h <;> first | (cases h; done) | skip
  rename_i hc
  simp only [Option.map_eq_some_iff] at h
  obtain ⟨cs, hf, h⟩ := h
  cases h
  have hzs : zv.cells.size = i.size := by have := hvz.length; simp at this; omega
  obtain ⟨out, ho, hv⟩ := fill_sound p1 p2 (cells := (Array.range (n * zv.cells.size)).map (zv.cells[· % zv.cells.size]!)) (zeros_toList hvz (by omega) n) hf
  have hlen : out.size = n * i.size := by
    have key : ∀ {ps : List (Nat × AV)} {cs cs' : List AV}, fillC (fun k => some (k * i.size, i.size)) cs ps = some cs' → cs'.length = cs.length := by
      intro ps
      induction ps with
      | nil => intro cs cs' h; simp [fillC] at h; subst h; rfl
      | cons p ps ih =>
        intro cs cs' h
        simp only [fillC, Option.bind_some] at h
        split at h <;> first | (cases h; done) | skip
        rw [ih h]
        simp [putCells]
        omega
    have h1 := key hf
    have h2 := hv.length
    simp at h1 h2
    rw [← h2, h1, hc.2.1]
  have hrun : (Instr.buildSlice t n (ps.map fun (i, x) => (i, a.eval x))).run P S.w = .ok (.slice (some ⟨S.w.heap.size, 0, none⟩) n n) (S.w.alloc (.cells out e')) := by
    have nb : ¬ (16777216 < n * i.size) := by omega
    rw [hzs] at ho
    by_cases hn : n = 0
    · subst hn
      have ho2 : Instr.fill (fun k => some (k * i.size, i.size)) #[] (ps.map fun (i, x) => (i, a.eval x)).toList = some out := by simpa [show Array.range 0 = #[] from rfl] using ho
      simp only [Instr.buildSlice, Sem.run_bind, run_underlying hu, Result.andThen_ok, run_sizeOf hs]
      simp [newRow, show Array.range 0 = #[] from rfl]
      simp at ho2
      simp [ho2]
    · have hn' : ¬ (n * i.size = 0) := by
        intro h; rcases Nat.mul_eq_zero.1 h with h | h <;> omega
      simp only [Instr.buildSlice, Sem.run_bind, run_underlying hu, Result.andThen_ok, run_sizeOf hs]
      simp [nb, hn', run_zeroValue hi hzz, newRow, hzs]
      simp at ho
      simp [ho]
  exact ⟨cs, i.size, out, e', fun G => by simp only [abuildSlice, hu, hs, hz, Option.bind_some, if_pos hc, hf, Option.map_some], rfl, rfl, hrun, hv, hlen, hc.2.2, hc.1⟩

theorem abuildSlice_sound {S : St} (hS : Sim S) {t : TypeId} {n : Nat} {e : Env} {a : Act} (hE : EnvR S e a.tmps) {ps : Array (Nat × Operand)} {l : List (Nat × AV)} (hl : evalParts e ps.toList = some l) {v : AV} {H' : AHeap} (h : abuildSlice P S.H t n l = some (v, H')) :
    ∃ (T : St) (r : Value), (Instr.buildSlice t n (ps.map fun (i, x) => (i, a.eval x))).run P S.w = .ok r T.w ∧ T.H = H' ∧ Sim T ∧ Ext S T ∧ VR T v r := by
  obtain ⟨cs, s, out, e', _, rfl, rfl, hrun, hv, hlen, hp, hb⟩ := abuildSlice_run hE hl h
  obtain ⟨g1, g2, g3, g4⟩ := alloc_cells hS hv (c := out) (e := e') [] (by simp) (Grew.alloc S.w _)
  refine ⟨_, _, hrun, rfl, g1, g2, ?_⟩
  have := VR.row_new (S := S.alloc (.cells cs) (S.w.alloc (.cells out e'))) (H := S.H.size) s n n _ true
    (by simp [St.alloc, AHeap.new]) (by rw [g3]; exact g4) (by rw [g3]) (by omega) (Nat.le_refl _) (by
      have : n ≤ n * s := Nat.le_mul_of_pos_right n hp
      omega) (fun _ => rfl)
  rwa [g3] at this

/-- Plain cells are what they are, whatever else there is. -/
theorem plain_vrs {S U : St} {cs : List AV} (h : cs.all plainV = true) : ∀ {xs : List Value}, VRs S cs xs → VRs U cs xs := by
  induction cs with
  | nil => intro xs k; cases k; exact .nil
  | cons c cs ih =>
    intro xs k
    simp only [List.all_cons, Bool.and_eq_true] at h
    cases k with
    | cons _ x _ xs ha hs =>
      refine .cons c x cs xs ?_ (ih h.2 hs)
      cases c <;> simp [plainV] at h <;> cases ha <;> constructor

end
end Go.Proofs.Ytghjglnebcpcmaa
/-! The interpreter is right: an operation. -/
namespace Go.Proofs.Ytghjglnebcpcmaa
open Go.RowKit

section
variable {P : Program} {K : TypeId → Option (List Sc)}

/-- The operation yields x (nothing: undef) and leaves the world w'. -/
def Gives (P : Program) (s : Sem Next) (w : World) (x : Value) (w' : World) : Prop := s.run P w = .ok (.value x) w' ∨ (s.run P w = .ok .skip w' ∧ x = undef)

def OpOK (P : Program) (S : St) (s : Sem Next) (v : AV) (H' : AHeap) : Prop := ∃ (T : St) (x : Value), Gives P s S.w x T.w ∧ T.H = H' ∧ Sim T ∧ Ext S T ∧ VR T v x

theorem OpOK.value {S T : St} {s : Sem Value} {v : AV} {H' : AHeap} {x : Value} (hr : s.run P S.w = .ok x T.w) (hH : T.H = H') (hS : Sim T) (hE : Ext S T) (hv : VR T v x) : OpOK P S (do pure (.value (← s))) v H' :=
  ⟨T, x, .inl (by simp [hr]), hH, hS, hE, hv⟩

theorem OpOK.same {S : St} {s : Sem Value} {v : AV} (hS : Sim S) (h : ∃ x, s.run P S.w = .ok x S.w ∧ VR S v x) : OpOK P S (do pure (.value (← s))) v S.H :=
  let ⟨_, hr, hv⟩ := h; .value hr rfl hS (Ext.refl S) hv

theorem OpOK.unit {S : St} {s : Sem Unit} {H' : AHeap} (h : ∃ T : St, s.run P S.w = .ok () T.w ∧ T.H = H' ∧ Sim T ∧ Ext S T) : OpOK P S (do s; pure .skip) (.tup []) H' :=
  let ⟨T, hr, hH, hT, hE⟩ := h
  ⟨T, undef, .inr ⟨by simp [hr], rfl⟩, hH, hT, hE, .tup [] [] .nil⟩

theorem map_arr {α β : Type} (f : α → β) (xs : Array α) : xs.map f = (xs.toList.map f).toArray := by
  apply Array.ext'
  simp

theorem evalOpt_sound {S : St} {e : Env} {a : Act} (hE : EnvR S e a.tmps) {o : Option Operand} {v : Option AV} (h : evalOpt e o = some v) : OptVR S v (o.map a.eval) := by
  cases o with
  | none => simp [evalOpt] at h; subst h; trivial
  | some x =>
    simp [evalOpt] at h
    obtain ⟨w, hw, rfl⟩ := h
    exact evalOpd_sound hE hw

theorem abuiltin_sound (hK : KeysOK P K) {S : St} (hS : Sim S) {e : Env} {a : Act} (hE : EnvR S e a.tmps) {b : Builtin} {ts : Array TypeId} {args : Array Operand} {ty : TypeId} {cs : Array Bool} {v : AV} {H' : AHeap} (h : abuiltin P K e S.H b ts.toList args.toList = some (v, H')) :
    OpOK P S (builtin b ts ty cs (args.map a.eval)) v H' := by
  unfold abuiltin at h
  simp only [Option.bind_eq_some_iff] at h
  obtain ⟨as, has, h⟩ := h
  have hargs := evalOpds_sound hE has
  split at h <;> first | (cases h; done) | skip
  · rename_i t ts' x hts
    simp only [Option.map_eq_some_iff, Prod.mk.injEq] at h
    obtain ⟨u, hu, rfl, rfl⟩ := h
    have ha : args.map a.eval = (args.toList.map a.eval).toArray := map_arr _ _
    have ht : ts = (t :: ts').toArray := by rw [← hts]
    rw [ha, ht]
    generalize args.toList.map a.eval = ys at hargs
    cases hargs with
    | cons _ y _ _ hy hn => cases hn; exact OpOK.same hS (alen_sound hS hy hu ts')
  · rename_i t t' s x hts
    split at h
    · rename_i htt
      subst htt
      have ha : args.map a.eval = (args.toList.map a.eval).toArray := map_arr _ _
      have ht : ts = #[t', t'] := by rw [← Array.toList_inj, hts]
      rw [ha, ht]
      generalize args.toList.map a.eval = ys at hargs
      cases hargs with
      | cons _ y _ _ hy hn =>
        cases hn with
        | cons _ z _ _ hz hn' =>
          cases hn'
          obtain ⟨T, r, h1, h2, h3, h4, h5⟩ := aappend_sound (ty := ty) hS hy hz h
          exact OpOK.value h1 h2 h3 h4 h5
    · split at h <;> first | (cases h; done) | skip
      rename_i k hk
      have ha : args.map a.eval = (args.toList.map a.eval).toArray := map_arr _ _
      have ht : ts = #[t, t'] := by rw [← Array.toList_inj, hts]
      rw [ha, ht]
      generalize args.toList.map a.eval = ys at hargs
      cases hargs with
      | cons _ y _ _ hy hn =>
        cases hn with
        | cons _ z _ _ hz hn' =>
          cases hn'
          cases hz
          obtain ⟨T, r, h1, h2, h3, h4, h5⟩ := aextend_sound (ty := ty) hS hk hy h
          exact OpOK.value h1 h2 h3 h4 h5
  · rename_i t ts' m k hts
    simp only [Option.map_eq_some_iff, Prod.mk.injEq] at h
    obtain ⟨u, hu, rfl, rfl⟩ := h
    have ha : args.map a.eval = (args.toList.map a.eval).toArray := map_arr _ _
    have ht : ts = (t :: ts').toArray := by rw [← hts]
    rw [ha, ht]
    generalize args.toList.map a.eval = ys at hargs
    cases hargs with
    | cons _ y _ _ hy hn =>
      cases hn with
      | cons _ z _ _ hz hn' =>
        cases hn'
        obtain ⟨T, h1, h2, h3, h4⟩ := adelete_sound (_t' := t) (ty := ty) hK hS hy hz hu ts'
        exact OpOK.value h1 h2 h3 h4 (.tup [] [] .nil)
  · rename_i t ts' o hts
    split at h <;> first | (cases h; done) | skip
    rename_i kt et sh es clock hu hobj
    cases h
    have ha : args.map a.eval = (args.toList.map a.eval).toArray := map_arr _ _
    have ht : ts = (t :: ts').toArray := by rw [← hts]
    rw [ha, ht]
    generalize args.toList.map a.eval = ys at hargs
    cases hargs with
    | cons _ y _ _ hy hn =>
      cases hn
      cases hy with
      | map _ ho =>
        obtain ⟨ms, hb, hEn⟩ := mapObj hS ho hobj
        have hget := run_getMap (P := P) hb
        obtain ⟨g1, g2⟩ := put_map hS ho hobj hb (clock' := clock) (es' := []) (ms' := []) .nil
        have hset := run_setMap (P := P) hb (.map #[] clock)
        refine OpOK.value (T := S.put o (.map sh [] clock) _) ?_ rfl g1 g2 (.tup [] [] .nil)
        simp [Builtin.clear_, run_underlying hu, hget, hset, St.put]
  · rename_i x r hts
    simp only [Option.map_eq_some_iff, Prod.mk.injEq] at h
    obtain ⟨u, hu, rfl, rfl⟩ := h
    have ha : args.map a.eval = (args.toList.map a.eval).toArray := map_arr _ _
    rw [ha]
    generalize args.toList.map a.eval = ys at hargs
    cases hargs with
    | cons _ y _ ys' hy hn =>
      obtain ⟨z, hz, hv⟩ := foldMin_sound (P := P) (w := S.w) hn hy hu
      exact OpOK.same hS ⟨z, by simpa [Builtin.min_] using hz, hv⟩
  · rename_i x r hts
    simp only [Option.map_eq_some_iff, Prod.mk.injEq] at h
    obtain ⟨u, hu, rfl, rfl⟩ := h
    have ha : args.map a.eval = (args.toList.map a.eval).toArray := map_arr _ _
    rw [ha]
    generalize args.toList.map a.eval = ys at hargs
    cases hargs with
    | cons _ y _ ys' hy hn =>
      obtain ⟨z, hz, hv⟩ := foldMax_sound (P := P) (w := S.w) hn hy hu
      exact OpOK.same hS ⟨z, by simpa [Builtin.max_] using hz, hv⟩

theorem fieldAt_some {s : TypeId} {f : Nat} {fd : Field} (h : fieldAt P s f = some fd) : ∃ fs, P.underlying s = some (.struct fs) ∧ fs[f]? = some fd := by
  unfold fieldAt at h
  split at h
  · exact ⟨_, ‹_›, h⟩
  · cases h

theorem byteN_sound {S : St} : ∀ {cs : List AV} {xs : List Value} {ns : List Int}, VRs S cs xs → byteN cs = some ns → xs = ns.map (Value.int .u8)
  | [], _, ns, h, hb => by
    cases h
    simp [byteN] at hb
    subst hb
    rfl
  | c :: cs, _, ns, h, hb => by
    cases h with
    | cons _ x _ xs h1 h2 =>
      cases c <;> first | (simp [byteN] at hb; done) | skip
      rename_i k n
      cases k <;> first | (simp [byteN] at hb; done) | skip
      simp only [byteN, Option.map_eq_some_iff] at hb
      obtain ⟨ms, hm, rfl⟩ := hb
      cases h1
      rw [byteN_sound h2 hm]
      rfl
theorem strOf_sound {S : St} (hS : Sim S) {x : AV} {y : Value} {s : ByteArray} (hx : VR S x y) (h : strOf S.H x = some s) : (Conv.bytesToString y).run P S.w = .ok (.string s) S.w := by
  unfold strOf at h
  simp only [Option.bind_eq_some_iff] at h
  obtain ⟨cs, hc, n, hn, ns, hb, h⟩ := h
  split at h <;> first | (cases h; done) | skip
  rename_i hl
  cases h
  obtain ⟨as, cap, olds, rfl, hcs, hvo, hro⟩ := slice_sound hS hx hn hc
  have he := byteN_sound hvo hb
  have hlen : olds.length = n := by rw [← hvo.length]; exact hl
  cases as with
  | none =>
    rcases hro with h0 | ⟨b, off, h0, _⟩
    · subst h0
      have : ns = [] := by
        cases ns with
        | nil => rfl
        | cons a l => simp at he
      subst this
      rfl
    · cases h0
  | some a =>
    have hr := reads_loadCells (P := P) (w' := S.w) rfl hro
    rw [hlen, he] at hr
    exact run_bytesToString S.w a n cap ns hr
theorem aconvert_sound {S : St} (hS : Sim S) {s d : TypeId} {x v : AV} {y : Value} {H' : AHeap} (hx : VR S x y) (h : aconvert P S.H s d x = some (v, H')) : H' = S.H ∧ ∃ z, (convert s d y).run P S.w = .ok z S.w ∧ VR S v z := by
  unfold aconvert at h
  split at h <;> first | (cases h; done) | skip
  · rename_i ds k k' n h1 h2
    cases h; cases hx
    refine ⟨rfl, _, ?_, .int _ _⟩
    simp only [convert, Sem.run_bind, run_underlying h1, run_underlying h2, Result.andThen_ok]
    cases ds <;> rfl
  · rename_i ds st h1 h2
    cases h; cases hx
    refine ⟨rfl, _, ?_, .str _⟩
    simp only [convert, Sem.run_bind, run_underlying h1, run_underlying h2, Result.andThen_ok]
    cases ds <;> rfl
  · rename_i e h1 h2 hns
    split at h <;> first | (cases h; done) | skip
    rename_i hu
    simp only [Option.map_eq_some_iff, Prod.mk.injEq] at h
    obtain ⟨st, hst, rfl, rfl⟩ := h
    have hr := strOf_sound (P := P) hS hx hst
    refine ⟨rfl, _, ?_, .str _⟩
    have hy : ∃ a n c, y = .slice a n c := by
      unfold strOf at hst
      simp only [Option.bind_eq_some_iff] at hst
      obtain ⟨cs, hc, n, hn', -⟩ := hst
      obtain ⟨as, cap, olds, rfl, -⟩ := slice_sound hS hx hn' hc
      exact ⟨_, _, _, rfl⟩
    obtain ⟨a, n, c, rfl⟩ := hy
    rw [run_convert_bytes_string S.w s d e a n c h1 hu h2]
    exact hr
/-- The bytes of a string, in memory of their own. -/
theorem byteC_sound (S : St) (b : ByteArray) : VRs S (byteC b) (b.data.toList.map fun x => Value.int .u8 x.toNat) := by
  unfold byteC
  induction b.data.toList with
  | nil => exact .nil
  | cons x l ih => exact .cons _ _ _ _ (.int _ _) ih
theorem grew_freeze (w : World) (c : Array Value) (e : TypeId) : Grew w ((w.drew.alloc (.cells c e)).freeze ⟨w.heap.size, c.size, none⟩ 1) (.cells c e (c.size, c.size + 1)) := by
  refine ⟨rfl, rfl, rfl, ?_⟩
  have ha : (w.drew.alloc (.cells c e)).heap = w.heap.push (.cells c e) := rfl
  unfold World.freeze
  rw [if_neg (by decide)]
  dsimp only
  rw [ha]
  apply Array.ext_getElem?
  intro i
  simp only [Array.getElem?_modify, Array.getElem?_push]
  by_cases h : i = w.heap.size
  · subst h
    simp
  · have h2 : ¬ w.heap.size = i := fun q => h q.symm
    simp [h, h2]
/-- A row's block is frozen behind its end. -/
theorem mark_sim {S : St} (hS : Sim S) {o : Nat} (ho : o < S.H.size) {cs : List AV} (hobj : S.H.obj o = .cells cs) {c : Array Value} {e : TypeId} {fr fr' : Nat × Nat} (hb : S.w.heap[(S.ι o).1]? = some (.cells c e fr)) (hfr : fr' = (0, 0) ∨ c.size ≤ fr'.1) {w' : World} (hw : Wrote S.w w' (S.ι o).1 (.cells c e fr')) :
    ∃ T : St, T.w = w' ∧ T.H = S.H ∧ Sim T ∧ Ext S T := by
  have hl : (S.H.obj o).live := by rw [hobj]; trivial
  have hcell : ∀ b m, cellsAt S.w b m → cellsAt w' b m := by
    rintro b m ⟨c1, e1, fr1, h1, h2⟩
    by_cases h : b = (S.ι o).1
    · subst h
      rw [hb] at h1
      cases h1
      exact ⟨c, e, _, hw.here, h2⟩
    · exact ⟨c1, e1, fr1, by rw [hw.other b h]; exact h1, h2⟩
  have hE : Ext S ⟨S.ι, S.H, w', S.fz⟩ := by
    refine ⟨hw.os, hw.tape, hw.output, Nat.le_of_eq hw.size.symm, Nat.le_refl _, fun _ _ => rfl, hcell, fun b hb2 hn => ⟨?_, hn⟩, fun _ => Nat.le_refl _, fun _ _ _ => rfl, fun _ h => h, fun _ h => .inl h⟩
    exact hw.other b fun h => hn ⟨o, ho, hl, h.symm⟩
  refine ⟨⟨S.ι, S.H, w', S.fz⟩, rfl, rfl, ⟨fun k hk => ?_, hS.inj, fun k hk => ?_, fun b hb2 => ?_⟩, hE⟩
  · by_cases h : (S.ι k).1 = (S.ι o).1
    · have hk2 := hS.objs k hk
      show ObjR ⟨S.ι, S.H, w', S.fz⟩ k (S.H.obj k)
      cases hx : S.H.obj k with
      | dead => exact .dead
      | cells ds =>
        rw [hx] at hk2
        obtain ⟨c2, e2, xs, ⟨fr2, q1, q2⟩, q3, q4, q5, -⟩ := hk2.cellsOf
        rw [h, hb] at q1
        cases q1
        exact .cells ds c e xs ⟨fr', by show w'.heap[(S.ι k).1]? = _; rw [h]; exact hw.here, hfr⟩ (q3.ext hE) q4 q5
      | map sh es clock =>
        rw [hx] at hk2
        cases hk2 with
        | map _ _ ms _ q1 q2 => rw [h, hb] at q1; cases q1
      | iter s pos =>
        rw [hx] at hk2
        cases hk2 with
        | iter _ _ q1 => rw [h, hb] at q1; cases q1
    · exact ObjR.same hE hk (hw.other _ h) (hS.objs k hk)
  · show (S.ι k).1 < w'.heap.size
    rw [hw.size]
    exact hS.below k hk
  · show b < w'.heap.size
    rw [hw.size]
    exact hS.lo b hb2
theorem wrote_freeze {w : World} {b : Nat} {c : Array Value} {e : TypeId} {fr : Nat × Nat} (h : w.heap[b]? = some (.cells c e fr)) (hfr : fr = (0, 0) ∨ c.size ≤ fr.1) : ∃ fr', (fr' = (0, 0) ∨ c.size ≤ fr'.1) ∧ Wrote w (w.freeze ⟨b, c.size, none⟩ 1) b (.cells c e fr') := by
  have hlt : b < w.heap.size := (Array.getElem?_eq_some_iff.1 h).1
  refine ⟨if fr.1 == fr.2 then (c.size, c.size + 1) else (min fr.1 c.size, max fr.2 (c.size + 1)), .inr ?_, ?_⟩
  · split
    · exact Nat.le_refl _
    · rename_i hne
      rcases hfr with hfr | hfr
      · subst hfr; simp at hne
      · simp only; omega
  · unfold World.freeze
    rw [if_neg (by decide)]
    refine ⟨rfl, rfl, rfl, by simp, ?_, fun k hk => ?_⟩
    · simp only [Array.getElem?_modify, if_true, h, Option.map_some]
    · simp only [Array.getElem?_modify]
      rw [if_neg (fun q => hk q.symm)]
theorem amark_sound {S : St} (hS : Sim S) {s d : TypeId} {x v : AV} {y : Value} (hx : VR S x y) (h : amark P S.H s d x = some v) :
    ∃ (T : St) (r : Value), (convert s d y).run P S.w = .ok r T.w ∧ T.H = S.H ∧ Sim T ∧ Ext S T ∧ VR T v r := by
  unfold amark at h
  split at h <;> first | (cases h; done) | skip
  rename_i e e' o off sz n full h1 h2
  split at h <;> first | (cases h; done) | skip
  rename_i hsd
  subst hsd
  rw [h1] at h2
  cases h2
  split at h <;> first | (cases h; done) | skip
  rename_i hu
  simp only [Option.map_eq_some_iff] at h
  obtain ⟨cs, hcs, rfl⟩ := h
  obtain ⟨ds, hobj⟩ : ∃ ds, S.H.obj o = .cells ds := by
    simp only [sliceCells] at hcs
    split at hcs
    · rename_i ds hh; exact ⟨ds, hh⟩
    · cases hcs
  obtain ⟨a, k, cp, rfl, ho, ha⟩ : ∃ a k cp, y = .slice (some ⟨(S.ι o).1, a, none⟩) k cp ∧ o < S.H.size ∧ True := by
    cases hx with
    | row _ _ _ _ _ M _ ho hM g1 g2 g3 g4 => exact ⟨_, _, _, rfl, ho, trivial⟩
    | row0 _ _ _ offY M _ ho hM => exact ⟨_, _, _, rfl, ho, trivial⟩
  have hr := hS.objs o ho
  rw [hobj] at hr
  obtain ⟨c, e0, xs, ⟨fr, q1, q2⟩, q3, q4, q5, -⟩ := hr.cellsOf
  obtain ⟨fr', hfr', hW⟩ := wrote_freeze q1 q2
  obtain ⟨T, t1, t2, t3, t4⟩ := mark_sim hS ho hobj q1 hfr' hW
  refine ⟨T, .slice (some ⟨(S.ι o).1, a, none⟩) k cp, ?_, t2, t3, t4, hx.ext t4⟩
  rw [t1]
  have hsh : (shape (S.ι o).1 : Sem (Option (TypeId × Nat))).run P S.w = .ok (some (e0, c.size)) S.w := by
    show Result.ok (World.shape? S.w (S.ι o).1) _ = _
    simp [World.shape?, q1]
  have hf : (freeze ⟨(S.ι o).1, c.size, none⟩ 1 : Sem Unit).run P S.w = .ok () (S.w.freeze ⟨(S.ι o).1, c.size, none⟩ 1) := rfl
  simp only [convert, Sem.run_bind, run_underlying h1, run_underlying hu, Result.andThen_ok, beq_self_eq_true, markStringish, hsh, hf, Sem.run_pure]
theorem abytes_sound {S : St} (hS : Sim S) {s d : TypeId} {x v : AV} {y : Value} {H' : AHeap} (hx : VR S x y) (h : abytes P S.H s d x = some (v, H')) :
    ∃ (T : St) (r : Value), (convert s d y).run P S.w = .ok r T.w ∧ T.H = H' ∧ Sim T ∧ Ext S T ∧ VR T v r := by
  unfold abytes at h
  split at h <;> first | (cases h; done) | skip
  rename_i e b h1 h2
  split at h <;> first | (cases h; done) | skip
  rename_i hu
  split at h <;> first | (cases h; done) | skip
  rename_i hsz
  cases h
  cases hx
  obtain ⟨vals, hvals⟩ : ∃ vals, vals = b.data.toList.map fun x => Value.int .u8 (x.toNat : Int) := ⟨_, rfl⟩
  have hlen : vals.length = b.size := by rw [hvals, List.length_map, Array.length_toList]; rfl
  have hcap := grownCap_ge S.w b.size 0 e
  have hcapm : grownCap S.w b.size 0 e ≤ 9223372036854775807 := by
    have := grownCap_le_maxLen S.w b.size 0 e (by simp only [maxLen]; omega)
    simpa only [maxLen] using this
  obtain ⟨k, hk⟩ : ∃ k, k = grownCap S.w b.size 0 e := ⟨_, rfl⟩
  obtain ⟨arr, harr⟩ : ∃ arr : Array Value, arr = (b.data.map fun b => Value.int .u8 (b.toNat : Int)) ++ Array.replicate (k - b.size) (.int .u8 0) := ⟨_, rfl⟩
  have hal : arr.toList = vals ++ List.replicate (k - b.size) (.int .u8 0) := by rw [harr, hvals]; simp
  have has : arr.size = k := by
    rw [← Array.length_toList, hal]
    simp [hlen]
    omega
  have hrun : (convert s d (.string b)).run P S.w = .ok (.slice (some ⟨S.w.heap.size, 0, none⟩) b.size k) ((S.w.drew.alloc (.cells arr e)).freeze ⟨S.w.heap.size, arr.size, none⟩ 1) := by
    have hf : ∀ (w : World), (freeze ⟨S.w.heap.size, arr.size, none⟩ 1 : Sem Unit).run P w = .ok () (w.freeze ⟨S.w.heap.size, arr.size, none⟩ 1) := fun _ => rfl
    have hsh : (shape S.w.heap.size : Sem (Option (TypeId × Nat))).run P (S.w.drew.alloc (.cells arr e)) = .ok (some (e, arr.size)) (S.w.drew.alloc (.cells arr e)) := by
      show Result.ok (World.shape? (S.w.drew.alloc (.cells arr e)) S.w.heap.size) _ = _
      congr 1
      show (match (S.w.heap.push (.cells arr e (0, 0)))[S.w.heap.size]? with
        | some (.cells c elem _) => some (elem, c.size)
        | _ => none) = _
      simp
    simp only [convert, Sem.run_bind, run_underlying h1, run_underlying h2, run_underlying hu, Result.andThen_ok, Conv.stringToBytes, run_choose, Question.forced, Bool.false_eq_true, if_false]
    rw [show (Question.appendCap b.size 0 e).cut (S.w.tape S.w.drawn (.appendCap b.size 0 e)) = k from by rw [hk]; rfl]
    rw [← harr]
    simp only [newRow, markStringish, Sem.run_bind, Result.andThen_ok]
    rw [show (newObj (Obj.cells arr e)).run P { heap := S.w.heap, tape := S.w.tape, drawn := S.w.drawn + 1, os := S.w.os, output := S.w.output } = .ok S.w.heap.size (S.w.drew.alloc (.cells arr e)) from rfl]
    simp only [Result.andThen_ok, Sem.run_pure, hsh, hf]
  obtain ⟨q1, q2, q3, q4⟩ := alloc_cellsF hS (byteC_sound S b) (c := arr) (e := e) (fr := (arr.size, arr.size + 1)) (.inr (Nat.le_refl _)) (List.replicate (k - b.size) (.int .u8 0)) (by rw [hal, hvals]) (grew_freeze S.w arr e)
  refine ⟨_, _, hrun, rfl, q1, q2, ?_⟩
  have := VR.row_new (S := S.alloc (.cells (byteC b)) ((S.w.drew.alloc (.cells arr e)).freeze ⟨S.w.heap.size, arr.size, none⟩ 1)) (H := S.H.size) 1 b.size k _ false
    (by simp [St.alloc, AHeap.new]) (by rw [q3]; exact q4) (by rw [q3]) (by omega) (by omega) (by omega) (by simp)
  rwa [q3] at this

theorem clOf_ne {r : Option (FuncId × List AV)} {v : AV} {H' : AHeap} (h : clOf r = .pr (some (v, H'))) : False := by
  unfold clOf at h
  split at h <;> cases h

theorem prim_sound (hK : KeysOK P K) {S : St} (hS : Sim S) {o : Oper} {e : Env} {a : Act} (hE : EnvR S e a.tmps) {v : AV} {H' : AHeap} (h : step1 P K o.op e S.H = .pr (some (v, H'))) : OpOK P S (execOp a.eval o) v H' := by
  obtain ⟨dst, op, ty, pos, after, guard⟩ := o
  simp only at h
  cases op with
  | move x =>
    simp only [step1, Stp.pr.injEq, Option.map_eq_some_iff, Prod.mk.injEq] at h
    obtain ⟨u, hu, rfl, rfl⟩ := h
    exact ⟨S, _, .inl rfl, rfl, hS, Ext.refl S, evalOpd_sound hE hu⟩
  | assign x =>
    simp only [step1, Stp.pr.injEq, Option.map_eq_some_iff, Prod.mk.injEq] at h
    obtain ⟨u, hu, rfl, rfl⟩ := h
    exact ⟨S, _, .inl rfl, rfl, hS, Ext.refl S, evalOpd_sound hE hu⟩
  | pick c x y =>
    simp only [step1, Stp.pr.injEq] at h
    split at h <;> first | (cases h; done) | skip
    rename_i t ht
    simp only [Option.map_eq_some_iff, Prod.mk.injEq] at h
    obtain ⟨u, hu, rfl, rfl⟩ := h
    have hc := evalOpd_sound hE ht
    generalize hcv : a.eval c = cv at hc
    cases hc
    cases t
    · exact ⟨S, _, .inl (by simp [execOp, hcv, asBool]; rfl), rfl, hS, Ext.refl S, evalOpd_sound hE (by simpa using hu)⟩
    · exact ⟨S, _, .inl (by simp [execOp, hcv, asBool]; rfl), rfl, hS, Ext.refl S, evalOpd_sound hE (by simpa using hu)⟩
  | alloc t =>
    simp only [step1, Stp.pr.injEq, Option.map_eq_some_iff, Prod.mk.injEq] at h
    obtain ⟨z, hz, rfl, rfl⟩ := h
    obtain ⟨i, zv, hi, hzz, hvz⟩ := tZ_some S hz
    obtain ⟨T, h1, h2, h3, h4, h5⟩ := newVar_sound hS hvz t
    exact OpOK.value (by simp [Instr.alloc, run_zeroValue hi hzz, newVar, newRow, h1]) h2 h3 h4 h5
  | box t x =>
    simp only [step1, Stp.pr.injEq, Option.map_eq_some_iff, Prod.mk.injEq] at h
    obtain ⟨u, hu, rfl, rfl⟩ := h
    obtain ⟨T, h1, h2, h3, h4, h5⟩ := newVar_sound hS (evalOpd_sound hE hu).cells t
    exact OpOK.value (by simp [Instr.box, newVar, newRow, h1]) h2 h3 h4 h5
  | build t ps =>
    simp only [step1, Stp.pr.injEq, Option.bind_eq_some_iff, Option.map_eq_some_iff, Prod.mk.injEq] at h
    obtain ⟨l, hl, u, hu, rfl, rfl⟩ := h
    exact OpOK.same hS (abuild_sound hE hl hu)
  | buildSlice t n ps =>
    simp only [step1, Stp.pr.injEq, Option.bind_eq_some_iff] at h
    obtain ⟨l, hl, h⟩ := h
    obtain ⟨T, r, h1, h2, h3, h4, h5⟩ := abuildSlice_sound hS hE hl h
    exact OpOK.value h1 h2 h3 h4 h5
  | load t x =>
    simp only [step1, Stp.pr.injEq, Option.bind_eq_some_iff, Option.map_eq_some_iff, Prod.mk.injEq] at h
    obtain ⟨p, hp, u, hu, rfl, rfl⟩ := h
    exact OpOK.same hS (aload_sound hS (evalOpd_sound hE hp) hu)
  | store t x y =>
    simp only [step1, Stp.pr.injEq, Option.bind_eq_some_iff, Option.map_eq_some_iff, Prod.mk.injEq] at h
    obtain ⟨p, hp, u, hu, H2, h2, rfl, rfl⟩ := h
    obtain ⟨w', g1, T, g2, g3, g4, g5⟩ := astore_sound hS (evalOpd_sound hE hp) (evalOpd_sound hE hu) h2
    exact OpOK.unit ⟨T, by rw [g2]; exact g1, g3, g4, g5⟩
  | nilCheck x =>
    simp only [step1, Stp.pr.injEq] at h
    split at h <;> first | (cases h; done) | skip
    all_goals
      rename_i hx
      cases h
      have hv := evalOpd_sound hE hx
      refine ⟨S, a.eval x, .inl ?_, rfl, hS, Ext.refl S, hv⟩
      generalize hxe : a.eval x = y at hv ⊢
      cases hv
      simp [execOp, hxe]
  | binOp op t x y yt =>
    simp only [step1, Stp.pr.injEq, Option.bind_eq_some_iff, Option.map_eq_some_iff, Prod.mk.injEq] at h
    obtain ⟨p, hp, q, hq, u, hu, rfl, rfl⟩ := h
    exact OpOK.same hS (abin_sound hK (evalOpd_sound hE hp) (evalOpd_sound hE hq) hu)
  | unOp op t x =>
    simp only [step1, Stp.pr.injEq, Option.bind_eq_some_iff, Option.map_eq_some_iff, Prod.mk.injEq] at h
    obtain ⟨p, hp, u, hu, rfl, rfl⟩ := h
    exact OpOK.same hS (aun_sound (evalOpd_sound hE hp) hu)
  | convert s d x =>
    simp only [step1, Stp.pr.injEq, Option.bind_eq_some_iff] at h
    obtain ⟨p, hp, h⟩ := h
    split at h
    · obtain ⟨T, r, g1, g2, g3, g4, g5⟩ := abytes_sound hS (evalOpd_sound hE hp) h
      exact OpOK.value g1 g2 g3 g4 g5
    · unfold aconv at h
      split at h
      · rename_i v' hm
        cases h
        obtain ⟨T, r, g1, g2, g3, g4, g5⟩ := amark_sound hS (evalOpd_sound hE hp) hm
        exact OpOK.value g1 g2 g3 g4 g5
      · obtain ⟨rfl, hz⟩ := aconvert_sound hS (evalOpd_sound hE hp) h
        exact OpOK.same hS hz
  | makeInterface t x =>
    simp only [step1, Stp.pr.injEq, Option.bind_eq_some_iff] at h
    obtain ⟨p, hp, h⟩ := h
    split at h <;> first | (cases h; done) | skip
    rename_i d hni hu
    cases h
    refine OpOK.same hS ⟨.iface t (a.eval x), ?_, .ifc t p _ (evalOpd_sound hE hp)⟩
    simp only [Instr.makeInterface, Sem.run_bind, run_underlying hu, Result.andThen_ok]
    cases d <;> first | rfl | exact (hni _ rfl).elim
  | makeFunc f first cap =>
    simp only [step1, Stp.pr.injEq, Option.bind_eq_some_iff, Option.map_eq_some_iff, Prod.mk.injEq] at h
    obtain ⟨p, hp, q, hq, rfl, rfl⟩ := h
    refine OpOK.same hS ⟨.func f (first.map a.eval) (cap.map a.eval), rfl, ?_⟩
    rw [map_arr, map_arr]
    exact VR.fn (S := S) f p q _ _ (evalOpds_sound hE hp) (evalOpds_sound hE hq)
  | makeMap t r =>
    cases r with
    | some r => simp [step1] at h
    | none =>
      simp only [step1, Stp.pr.injEq] at h
      split at h <;> first | (cases h; done) | skip
      rename_i kt et hu
      simp only [Option.map_eq_some_iff, Prod.mk.injEq] at h
      obtain ⟨sh, hsh, rfl, rfl⟩ := h
      obtain ⟨h1, h2, h3⟩ := alloc_obj hS (x := .map sh [] 0) (Grew.alloc S.w (.map #[] 0)) (fun T hw hb => .map sh [] [] 0 (by rw [hb, hw]; exact (Grew.alloc S.w _).new) .nil)
      refine OpOK.value (T := S.alloc (.map sh [] 0) (S.w.alloc (.map #[] 0))) (x := .map (some S.w.heap.size)) rfl rfl h1 h2 ?_
      have := VR.map (S := S.alloc (.map sh [] 0) (S.w.alloc (.map #[] 0))) S.H.size (by simp [St.alloc, AHeap.new])
      rwa [h3] at this
  | makeSlice t l c =>
    simp only [step1, Stp.pr.injEq] at h
    split at h <;> first | (cases h; done) | skip
    rename_i k n k' m hl hc
    have vl := evalOpd_sound hE hl
    have vc := evalOpd_sound hE hc
    obtain ⟨T, r, h1, h2, h3, h4, h5⟩ := amake_sound (k := k) (k' := k') hS h
    generalize hle : a.eval l = y at vl
    generalize hce : a.eval c = z at vc
    cases vl; cases vc
    exact OpOK.value (by rw [hle, hce]; exact h1) h2 h3 h4 h5
  | slice t x lo hi mx =>
    simp only [step1, Stp.pr.injEq, Option.bind_eq_some_iff, Option.map_eq_some_iff, Prod.mk.injEq] at h
    obtain ⟨p, hp, l, hl, u, hu, m, hm, r, hr, rfl, rfl⟩ := h
    exact OpOK.same hS (aslice_sound hS (evalOpd_sound hE hp) (evalOpt_sound hE hl) (evalOpt_sound hE hu) (evalOpt_sound hE hm) hr)
  | fieldAddr t x f =>
    simp only [step1, Stp.pr.injEq, Option.bind_eq_some_iff] at h
    obtain ⟨fd, hfd, n, hn, h⟩ := h
    obtain ⟨fs, hu, hf⟩ := fieldAt_some hfd
    split at h <;> first | (cases h; done) | skip
    rename_i hpos
    have hn0 : n ≠ 0 := by omega
    split at h <;> first | (cases h; done) | skip
    · rename_i o off hx
      cases h
      have hv := evalOpd_sound hE hx
      generalize hxe : a.eval x = y at hv
      cases hv with
      | ptr _ _ m ho hm =>
        refine OpOK.same hS ⟨_, ?_, .ptr o (off + fd.offset) m ho hm⟩
        simp [Instr.fieldAt, run_underlying hu, hf, hxe, Instr.sureAddr, fieldPlace, run_sizeOf hn, hn0, add_plain, Nat.add_assoc]
    · rename_i cs off hx
      cases h
      have hv := evalOpd_sound hE hx
      generalize hxe : a.eval x = y at hv
      cases hv with
      | ptrl _ b base _ xs hs hb hno hc =>
        refine OpOK.same hS ⟨_, ?_, .ptrl cs b base (off + fd.offset) xs hs hb hno hc⟩
        simp [Instr.fieldAt, run_underlying hu, hf, hxe, Instr.sureAddr, fieldPlace, run_sizeOf hn, hn0, add_plain, Nat.add_assoc]
  | field t x f =>
    simp only [step1, Stp.pr.injEq, Option.bind_eq_some_iff] at h
    obtain ⟨fd, hfd, h⟩ := h
    obtain ⟨fs, hu, hf⟩ := fieldAt_some hfd
    split at h <;> first | (cases h; done) | skip
    rename_i cs hx
    simp only [Option.map_eq_some_iff, Prod.mk.injEq] at h
    obtain ⟨r, hr, rfl, rfl⟩ := h
    have hv := evalOpd_sound hE hx
    generalize hxe : a.eval x = y at hv
    cases hv with
    | agg _ xs hs =>
      obtain ⟨z, hz, hvz⟩ := part_sound (P := P) (w := S.w) hs hr
      exact OpOK.same hS ⟨z, by simp [Instr.field, run_underlying hu, hf, hxe, asAgg, hz], hvz⟩
  | indexAddr t x i =>
    simp only [step1, Stp.pr.injEq, Option.bind_eq_some_iff] at h
    obtain ⟨p, hp, h⟩ := h
    split at h <;> first | (cases h; done) | skip
    rename_i k n hi
    simp only [Option.map_eq_some_iff, Prod.mk.injEq] at h
    obtain ⟨r, hr, rfl, rfl⟩ := h
    have hv := evalOpd_sound hE hi
    generalize hie : a.eval i = y at hv
    cases hv
    obtain ⟨z, hz, hvz⟩ := aindexAddr_sound (k := k) (evalOpd_sound hE hp) hr
    exact OpOK.same hS ⟨z, by rw [hie]; exact hz, hvz⟩
  | index t x i =>
    simp only [step1, Stp.pr.injEq, Option.bind_eq_some_iff] at h
    obtain ⟨p, hp, h⟩ := h
    split at h <;> first | (cases h; done) | skip
    rename_i k n hi
    simp only [Option.map_eq_some_iff, Prod.mk.injEq] at h
    obtain ⟨r, hr, rfl, rfl⟩ := h
    have hv := evalOpd_sound hE hi
    generalize hie : a.eval i = y at hv
    cases hv
    obtain ⟨z, hz, hvz⟩ := aindex_sound (k := k) (evalOpd_sound hE hp) hr
    exact OpOK.same hS ⟨z, by rw [hie]; exact hz, hvz⟩
  | lookup t m k ok =>
    simp only [step1, Stp.pr.injEq, Option.bind_eq_some_iff, Option.map_eq_some_iff, Prod.mk.injEq] at h
    obtain ⟨p, hp, q, hq, r, hr, rfl, rfl⟩ := h
    exact OpOK.same hS (alookup_sound hK hS (evalOpd_sound hE hp) (evalOpd_sound hE hq) hr)
  | mapUpdate t m k x =>
    simp only [step1, Stp.pr.injEq, Option.bind_eq_some_iff, Option.map_eq_some_iff, Prod.mk.injEq] at h
    obtain ⟨p, hp, q, hq, r, hr, H2, h2, rfl, rfl⟩ := h
    exact OpOK.unit (amapUpdate_sound hK hS (evalOpd_sound hE hp) (evalOpd_sound hE hq) (evalOpd_sound hE hr) h2)
  | insert t m k x =>
    simp only [step1, Stp.pr.injEq, Option.bind_eq_some_iff, Option.map_eq_some_iff, Prod.mk.injEq] at h
    obtain ⟨p, hp, q, hq, r, hr, H2, h2, rfl, rfl⟩ := h
    exact OpOK.unit (amapUpdate_sound hK hS (evalOpd_sound hE hp) (evalOpd_sound hE hq) (evalOpd_sound hE hr) h2)
  | mapEntry t m k =>
    simp only [step1, Stp.pr.injEq, Option.bind_eq_some_iff] at h
    obtain ⟨p, hp, q, hq, h⟩ := h
    obtain ⟨T, r, h1, h2, h3, h4, h5⟩ := amapEntry_sound hK hS (evalOpd_sound hE hp) (evalOpd_sound hE hq) h
    exact OpOK.value h1 h2 h3 h4 h5
  | entryStore t m s x =>
    simp only [step1, Stp.pr.injEq, Option.bind_eq_some_iff] at h
    obtain ⟨p, hp, q, hq, h⟩ := h
    split at h <;> first | (cases h; done) | skip
    rename_i k n hs
    simp only [Option.map_eq_some_iff, Prod.mk.injEq] at h
    obtain ⟨H2, h2, rfl, rfl⟩ := h
    have hv := evalOpd_sound hE hs
    generalize hse : a.eval s = y at hv
    cases hv
    obtain ⟨T, g1, g2⟩ := aentryStore_sound (P := P) (t := t) (k := k) hS (evalOpd_sound hE hp) (evalOpd_sound hE hq) h2
    exact OpOK.unit ⟨T, by rw [hse]; exact g1, g2⟩
  | extract t i =>
    simp only [step1, Stp.pr.injEq] at h
    split at h <;> first | (cases h; done) | skip
    rename_i vs ht
    simp only [Option.map_eq_some_iff, Prod.mk.injEq] at h
    obtain ⟨r, hr, rfl, rfl⟩ := h
    have hv := evalOpd_sound hE ht
    generalize hte : a.eval t = y at hv
    cases hv with
    | tup _ xs hs =>
      obtain ⟨x, hx, hvx⟩ := hs.get hr
      exact OpOK.same hS ⟨x, by simp [Instr.extract, hte, hx], hvx⟩
  | call c =>
    simp only [step1] at h
    split at h
    · rename_i b hb
      simp only [Stp.pr.injEq] at h
      have := abuiltin_sound (ty := ty) (cs := c.args.map fun | .const _ => true | _ => false) hK hS hE h
      unfold OpOK Gives at this ⊢
      have he : (execOp a.eval ⟨dst, .call c, ty, pos, after, guard⟩) = builtin b c.argTypes ty (c.args.map fun | .const _ => true | _ => false) (c.args.map a.eval) := by
        simp only [execOp, resolve, hb]
        rfl
      rw [he]
      exact this
    · exact (clOf_ne h).elim
    · cases h
  | _ => simp [step1] at h

/-- A function that can be entered: it has a body, and is none of the model's own. -/
def Enterable (P : Program) (f : FuncId) : Prop := ∃ fn, P.funcs[f]? = some fn ∧ fn.body.isSome = true ∧ (fn.name == "runtime.NumGoroutine") = false

theorem call_sound {S : St} {o : Oper} {e : Env} {a : Act} (hE : EnvR S e a.tmps) {f : FuncId} {as : List AV} (h : step1 P K o.op e S.H = .cl f as) :
    ∃ vs, (execOp a.eval o).run P S.w = (callFunc f vs).run P S.w ∧ VRs S as vs.toList := by
  obtain ⟨dst, op, ty, pos, after, guard⟩ := o
  simp only at h
  cases op <;> simp only [step1] at h <;> (try (cases h; done))
  case makeMap t r => cases r <;> simp at h
  case call c =>
    split at h
    · cases h
    · rename_i fo hfo
      unfold clOf at h
      split at h <;> first | (cases h; done) | skip
      rename_i g bs heq
      cases h
      simp only [Option.bind_eq_some_iff] at heq
      obtain ⟨cs, hcs, heq⟩ := heq
      split at heq <;> first | (cases heq; done) | skip
      rename_i f' first cap hv
      cases heq
      have hargs := evalOpds_sound hE hcs
      have hfv := evalOpd_sound hE hv
      generalize hfe : a.eval fo = y at hfv
      cases hfv with
      | fn _ _ _ xs ys hx hy =>
        refine ⟨xs.toArray ++ c.args.map a.eval ++ ys.toArray, ?_, ?_⟩
        · simp only [execOp, resolve, hfo, hfe, Deferred.ofValue, Sem.run_bind, Sem.run_pure, Result.andThen_ok, invoke]
        · have := (hx.append hargs).append hy
          simpa using this
    · cases h

theorem call_enter {f : FuncId} (hf : Enterable P f) (vs : Array Value) (w : World) : (callFunc f vs).run P w = .ok (.enter f vs) w := by
  obtain ⟨fn, hfn, hb, hname⟩ := hf
  have hbody : fn.body.isNone = false := by cases hh : fn.body <;> simp_all
  simp only [callFunc, Sem.run_bind, Result.andThen_ok, run_program, hfn, hname, hbody]
  rfl

end
end Go.Proofs.Ytghjglnebcpcmaa
/-! Regions that draw their order: operations that do not touch one another may change places. -/
namespace Go.Proofs.Ytghjglnebcpcmaa
open Go.RowKit

section
variable {P : Program} {K : TypeId → Option (List Sc)}

theorem evalOpds_env {e e' : Env} : ∀ {xs : List Operand}, (∀ x ∈ xs, evalOpd e x = evalOpd e' x) → evalOpds e xs = evalOpds e' xs
  | [], _ => rfl
  | x :: xs, h => by simp only [evalOpds]; rw [h x (by simp), evalOpds_env (fun y hy => h y (by simp [hy]))]
theorem evalParts_env {e e' : Env} : ∀ {xs : List (Nat × Operand)}, (∀ x ∈ xs, evalOpd e x.2 = evalOpd e' x.2) → evalParts e xs = evalParts e' xs
  | [], _ => rfl
  | (i, x) :: xs, h => by simp only [evalParts]; rw [h (i, x) (by simp), evalParts_env (fun y hy => h y (by simp [hy]))]
theorem evalOpt_env {e e' : Env} {x : Option Operand} (h : ∀ y ∈ x, evalOpd e y = evalOpd e' y) : evalOpt e x = evalOpt e' x := by
  cases x with
  | none => rfl
  | some x => simp only [evalOpt]; rw [h x rfl]

theorem abuiltin_env {e e' : Env} {H : AHeap} {b : Builtin} {ts : List TypeId} {xs : List Operand} (h : ∀ x ∈ xs, evalOpd e x = evalOpd e' x) : abuiltin P K e H b ts xs = abuiltin P K e' H b ts xs := by
  unfold abuiltin
  rw [evalOpds_env h]

/-- An operation looks at its operands alone. -/
theorem step1_env {o : Op} {e e' : Env} {H : AHeap} (h : ∀ x ∈ o.operands.toList, evalOpd e x = evalOpd e' x) : step1 P K o e H = step1 P K o e' H := by
  cases o with
  | build t ps =>
    simp only [step1]
    rw [evalParts_env (fun x hx => h x.2 (by simp only [Op.operands]; exact List.mem_map.2 ⟨x, hx, rfl⟩))]
  | buildSlice t n ps =>
    simp only [step1]
    rw [evalParts_env (fun x hx => h x.2 (by simp only [Op.operands]; exact List.mem_map.2 ⟨x, hx, rfl⟩))]
  | makeFunc f a b =>
    simp only [step1]
    rw [evalOpds_env (xs := a.toList) (fun x hx => h x (by simp only [Op.operands]; simp at hx ⊢; exact .inl hx)), evalOpds_env (xs := b.toList) (fun x hx => h x (by simp only [Op.operands]; simp at hx ⊢; exact .inr hx))]
  | slice t x lo hi mx =>
    simp only [step1]
    rw [h x (by simp [Op.operands]), evalOpt_env (x := lo) (fun y hy => h y (by cases hy; simp [Op.operands])), evalOpt_env (x := hi) (fun y hy => h y (by cases hy; simp [Op.operands])), evalOpt_env (x := mx) (fun y hy => h y (by cases hy; simp [Op.operands]))]
  | call c =>
    simp only [step1]
    have hargs : ∀ x ∈ c.args.toList, evalOpd e x = evalOpd e' x := fun x hx => h x (by simp only [Op.operands, Call.operands]; simp at hx ⊢; exact .inr hx)
    cases hc : c.callee with
    | builtin b => simp only []; rw [abuiltin_env hargs]
    | value f =>
      simp only []
      rw [evalOpds_env hargs, h f (by simp [Op.operands, Call.operands, hc])]
    | invoke r n => rfl
  | makeMap t r => cases r <;> rfl
  | alloc t => rfl
  | move x => simp only [step1]; rw [h x (by simp [Op.operands])]
  | assign x => simp only [step1]; rw [h x (by simp [Op.operands])]
  | pick c x y => simp only [step1]; rw [h c (by simp [Op.operands]), h x (by simp [Op.operands]), h y (by simp [Op.operands])]
  | box t x => simp only [step1]; rw [h x (by simp [Op.operands])]
  | load t x => simp only [step1]; rw [h x (by simp [Op.operands])]
  | store t x y => simp only [step1]; rw [h x (by simp [Op.operands]), h y (by simp [Op.operands])]
  | nilCheck x => simp only [step1]; rw [h x (by simp [Op.operands])]
  | binOp op t x y yt => simp only [step1]; rw [h x (by simp [Op.operands]), h y (by simp [Op.operands])]
  | unOp op t x => simp only [step1]; rw [h x (by simp [Op.operands])]
  | convert s d x => simp only [step1]; rw [h x (by simp [Op.operands])]
  | makeInterface t x => simp only [step1]; rw [h x (by simp [Op.operands])]
  | makeSlice t x y => simp only [step1]; rw [h x (by simp [Op.operands]), h y (by simp [Op.operands])]
  | fieldAddr t x f => simp only [step1]; rw [h x (by simp [Op.operands])]
  | field t x f => simp only [step1]; rw [h x (by simp [Op.operands])]
  | indexAddr t x y => simp only [step1]; rw [h x (by simp [Op.operands]), h y (by simp [Op.operands])]
  | index t x y => simp only [step1]; rw [h x (by simp [Op.operands]), h y (by simp [Op.operands])]
  | lookup t x y ok => simp only [step1]; rw [h x (by simp [Op.operands]), h y (by simp [Op.operands])]
  | mapUpdate t x y z => simp only [step1]; rw [h x (by simp [Op.operands]), h y (by simp [Op.operands]), h z (by simp [Op.operands])]
  | insert t x y z => simp only [step1]; rw [h x (by simp [Op.operands]), h y (by simp [Op.operands]), h z (by simp [Op.operands])]
  | mapEntry t x y => simp only [step1]; rw [h x (by simp [Op.operands]), h y (by simp [Op.operands])]
  | entryStore t x y z => simp only [step1]; rw [h x (by simp [Op.operands]), h y (by simp [Op.operands]), h z (by simp [Op.operands])]
  | extract x i => simp only [step1]; rw [h x (by simp [Op.operands])]
  | _ => rfl

/-- What only computes does not ask for memory. -/
theorem step1_pure {o : Op} (hc : cls o = 0) {e : Env} {H : AHeap} {v : AV} {H' : AHeap} (h : step1 P K o e H = .pr (some (v, H'))) : H' = H ∧ ∀ G, step1 P K o e G = .pr (some (v, G)) := by
  cases o with
  | move x => simp only [step1, Stp.pr.injEq, Option.map_eq_some_iff, Prod.mk.injEq] at h; obtain ⟨u, hu, rfl, rfl⟩ := h; exact ⟨rfl, fun G => by simp [step1, hu]⟩
  | assign x => simp only [step1, Stp.pr.injEq, Option.map_eq_some_iff, Prod.mk.injEq] at h; obtain ⟨u, hu, rfl, rfl⟩ := h; exact ⟨rfl, fun G => by simp [step1, hu]⟩
  | pick c x y =>
    simp only [step1, Stp.pr.injEq] at h
    split at h <;> first | (cases h; done) | skip
    rename_i hcv
    simp only [Option.map_eq_some_iff, Prod.mk.injEq] at h
    obtain ⟨u, hu, rfl, rfl⟩ := h
    exact ⟨rfl, fun G => by simp only [step1, hcv, hu, Option.map_some]⟩
  | unOp op t x => simp only [step1, Stp.pr.injEq, Option.bind_eq_some_iff, Option.map_eq_some_iff, Prod.mk.injEq] at h; obtain ⟨p, hp, u, hu, rfl, rfl⟩ := h; exact ⟨rfl, fun G => by simp [step1, hp, hu]⟩
  | binOp op t x y yt => simp only [step1, Stp.pr.injEq, Option.bind_eq_some_iff, Option.map_eq_some_iff, Prod.mk.injEq] at h; obtain ⟨p, hp, q, hq, u, hu, rfl, rfl⟩ := h; exact ⟨rfl, fun G => by simp [step1, hp, hq, hu]⟩
  | fieldAddr t x f =>
    simp only [step1, Stp.pr.injEq, Option.bind_eq_some_iff] at h
    obtain ⟨fd, hfd, n, hn, h⟩ := h
    split at h <;> first | (cases h; done) | skip
    rename_i hp
    split at h <;> first | (cases h; done) | skip
    all_goals (rename_i hx; cases h; exact ⟨rfl, fun G => by simp [step1, hfd, hn, hp, hx]⟩)
  | field t x f =>
    simp only [step1, Stp.pr.injEq, Option.bind_eq_some_iff] at h
    obtain ⟨fd, hfd, h⟩ := h
    split at h <;> first | (cases h; done) | skip
    rename_i hx
    simp only [Option.map_eq_some_iff, Prod.mk.injEq] at h
    obtain ⟨u, hu, rfl, rfl⟩ := h
    exact ⟨rfl, fun G => by simp [step1, hfd, hx, hu]⟩
  | extract x i =>
    simp only [step1, Stp.pr.injEq] at h
    split at h <;> first | (cases h; done) | skip
    rename_i hx
    simp only [Option.map_eq_some_iff, Prod.mk.injEq] at h
    obtain ⟨u, hu, rfl, rfl⟩ := h
    exact ⟨rfl, fun G => by simp [step1, hx, hu]⟩
  | nilCheck x =>
    simp only [step1, Stp.pr.injEq] at h
    split at h <;> first | (cases h; done) | skip
    all_goals (rename_i hx; cases h; exact ⟨rfl, fun G => by simp [step1, hx]⟩)
  | makeInterface t x =>
    simp only [step1, Stp.pr.injEq, Option.bind_eq_some_iff] at h
    obtain ⟨p, hp, h⟩ := h
    split at h <;> first | (cases h; done) | skip
    rename_i d hni hu
    cases h
    refine ⟨rfl, fun G => ?_⟩
    simp only [step1, hp, Option.bind_some, hu]
  | makeFunc f a b => simp only [step1, Stp.pr.injEq, Option.bind_eq_some_iff, Option.map_eq_some_iff, Prod.mk.injEq] at h; obtain ⟨p, hp, q, hq, rfl, rfl⟩ := h; exact ⟨rfl, fun G => by simp [step1, hp, hq]⟩
  | indexAddr t x y =>
    simp only [step1, Stp.pr.injEq, Option.bind_eq_some_iff] at h
    obtain ⟨p, hp, h⟩ := h
    split at h <;> first | (cases h; done) | skip
    rename_i hy
    simp only [Option.map_eq_some_iff, Prod.mk.injEq] at h
    obtain ⟨u, hu, rfl, rfl⟩ := h
    exact ⟨rfl, fun G => by simp [step1, hp, hy, hu]⟩
  | index t x y =>
    simp only [step1, Stp.pr.injEq, Option.bind_eq_some_iff] at h
    obtain ⟨p, hp, h⟩ := h
    split at h <;> first | (cases h; done) | skip
    rename_i hy
    simp only [Option.map_eq_some_iff, Prod.mk.injEq] at h
    obtain ⟨u, hu, rfl, rfl⟩ := h
    exact ⟨rfl, fun G => by simp [step1, hp, hy, hu]⟩
  | build t ps => simp only [step1, Stp.pr.injEq, Option.bind_eq_some_iff, Option.map_eq_some_iff, Prod.mk.injEq] at h; obtain ⟨p, hp, u, hu, rfl, rfl⟩ := h; exact ⟨rfl, fun G => by simp [step1, hp, hu]⟩
  | convert s d x =>
    simp only [cls] at hc
    split at hc <;> cases hc
  | call c =>
    obtain ⟨callee, args, ts⟩ := c
    cases callee with
    | builtin b =>
      simp only [step1, Stp.pr.injEq] at h ⊢
      simp only [abuiltin, Option.bind_eq_some_iff] at h ⊢
      obtain ⟨as, has, h⟩ := h
      cases b <;> simp [cls] at hc
      all_goals
        cases as with
        | nil => simp at h
        | cons x r =>
          simp only [Option.map_eq_some_iff, Prod.mk.injEq] at h
          obtain ⟨u, hu, rfl, rfl⟩ := h
          exact ⟨rfl, fun G => ⟨_, has, by simp [hu]⟩⟩
    | value f => simp [cls] at hc
    | invoke r n => simp [cls] at hc
  | _ => simp [cls] at hc

/-- The object that a value names lies among the first n. -/
def topIn (n : Nat) : AV → Prop
  | .ptr o _ => o < n
  | .row o _ _ _ _ => o < n
  | .map o => o < n
  | _ => True

theorem VR.topIn {S : St} {v : AV} {x : Value} (h : VR S v x) : topIn S.H.size v := by
  cases h <;> first | trivial | assumption

theorem aconvert_same {H H' : AHeap} {s d : TypeId} {p v : AV} (h : aconvert P H s d p = some (v, H')) : H' = H := by
  unfold aconvert at h
  split at h <;> first | (cases h; done) | skip
  · cases h; rfl
  · cases h; rfl
  · split at h <;> first | (cases h; done) | skip
    simp only [Option.map_eq_some_iff, Prod.mk.injEq] at h
    obtain ⟨_, _, _, rfl⟩ := h
    rfl
theorem aconvert_heap {H G : AHeap} {s d : TypeId} {p : AV} (hso : strOf G p = strOf H p) : aconvert P G s d p = (aconvert P H s d p).map fun r => (r.1, G) := by
  revert hso
  unfold aconvert
  split
  · intro _; rfl
  · intro _; rfl
  · intro hso
    rw [hso]
    split
    · rw [Option.map_map]
      rfl
    · rfl
  · intro _; rfl
/-- What reads tells the same where the objects are the same. -/
theorem step1_read {o : Op} (hc : cls o = 1) {e : Env} {H G : AHeap} {n : Nat} (hn : ∀ x ∈ o.operands.toList, ∀ u, evalOpd e x = some u → topIn n u) (hHG : ∀ k, k < n → G.obj k = H.obj k) {v : AV} {H' : AHeap} (h : step1 P K o e H = .pr (some (v, H'))) :
    H' = H ∧ step1 P K o e G = .pr (some (v, G)) := by
  cases o with
  | load t x =>
    simp only [step1, Stp.pr.injEq, Option.bind_eq_some_iff, Option.map_eq_some_iff, Prod.mk.injEq] at h
    obtain ⟨p, hp, u, hu, rfl, rfl⟩ := h
    have ht := hn x (by simp [Op.operands]) p hp
    refine ⟨rfl, ?_⟩
    have : aload P G t p = some u := by
      unfold aload at hu ⊢
      split at hu <;> first | (cases hu; done) | skip
      · rename_i o off
        simp only [topIn] at ht
        simp only [hHG o ht]
        exact hu
      · exact hu
    simp [step1, hp, this]
  | convert s d x =>
    have hcs : ¬ isCStr x = true := by
      simp only [cls] at hc
      split at hc
      · cases hc
      · assumption
    simp only [step1, Stp.pr.injEq, Option.bind_eq_some_iff, if_neg hcs] at h ⊢
    obtain ⟨p, hp, h⟩ := h
    have ht := hn x (by simp [Op.operands]) p hp
    have hso : strOf G p = strOf H p := by
      unfold strOf sliceCells
      cases p <;> first | rfl | skip
      simp only [topIn] at ht
      simp only [hHG _ ht]
    have hmk : amark P G s d p = amark P H s d p := by
      unfold amark
      split
      · simp only [topIn] at ht
        simp only [sliceCells, hHG _ ht]
      · rfl
    unfold aconv at h
    split at h
    · rename_i v' hm
      cases h
      refine ⟨rfl, _, hp, ?_⟩
      unfold aconv
      rw [hmk, hm]
    · rename_i hm
      have h2 := aconvert_same h
      subst h2
      refine ⟨rfl, _, hp, ?_⟩
      unfold aconv
      rw [hmk, hm]
      simp only
      rw [aconvert_heap hso, h]
      rfl
  | lookup t x y ok =>
    simp only [step1, Stp.pr.injEq, Option.bind_eq_some_iff, Option.map_eq_some_iff, Prod.mk.injEq] at h
    obtain ⟨p, hp, q, hq, u, hu, rfl, rfl⟩ := h
    have ht := hn x (by simp [Op.operands]) p hp
    refine ⟨rfl, ?_⟩
    have : alookup P K G t p q ok = some u := by
      rw [← hu]
      unfold alookup
      cases p <;> first | rfl | skip
      simp only [topIn] at ht
      simp only [hHG _ ht]
    simp [step1, hp, hq, this]
  | slice t x lo hi mx =>
    simp only [step1, Stp.pr.injEq, Option.bind_eq_some_iff, Option.map_eq_some_iff, Prod.mk.injEq] at h
    obtain ⟨p, hp, l, hl, q, hq, m, hm, u, hu, rfl, rfl⟩ := h
    have ht := hn x (by simp [Op.operands]) p hp
    refine ⟨rfl, ?_⟩
    have : aslice P G t p l q m = some u := by
      rw [← hu]
      unfold aslice
      split <;> first | rfl | (simp only [topIn] at ht; simp only [hHG _ ht])
    simp [step1, hp, hl, hq, hm, this]
  | call c =>
    obtain ⟨callee, args, ts⟩ := c
    cases callee with
    | builtin b =>
      simp only [step1, Stp.pr.injEq] at h ⊢
      simp only [abuiltin, Option.bind_eq_some_iff] at h ⊢
      obtain ⟨as, has, h⟩ := h
      cases b <;> simp [cls] at hc
      split at h <;> first | (cases h; done) | (rename_i hb _ _; cases hb; done) | skip
      all_goals (first | (rename_i hb; cases hb; done) | (rename_i hb _; cases hb; done) | skip)
      simp only [Option.map_eq_some_iff, Prod.mk.injEq] at h
      obtain ⟨u, hu, rfl, rfl⟩ := h
      refine ⟨rfl, _, has, ?_⟩
      rename_i t ts' x _ hts
      have ht : topIn n x := by
        cases hargs : args.toList with
        | nil => rw [hargs] at has; simp [evalOpds] at has
        | cons y ys =>
          rw [hargs] at has
          simp only [evalOpds, Option.bind_eq_some_iff, Option.map_eq_some_iff] at has
          obtain ⟨a, ha, bs, hb, he⟩ := has
          cases he
          exact hn y (by simp only [Op.operands, Call.operands]; simp [hargs]) _ ha
      have : alen P G t x = some u := by
        rw [← hu]
        unfold alen
        split <;> first | rfl | (simp only [topIn] at ht; simp only [hHG _ ht])
      rw [hts]
      simp only [this, Option.map_some]
    | value f => simp [cls] at hc
    | invoke r n => simp [cls] at hc
  | makeMap t r => simp [cls] at hc
  | _ => simp [cls] at hc

/-- What makes memory writes none. -/
theorem step1_new {o : Op} (hc : cls o = 2) {e : Env} {H : AHeap} {v : AV} {H' : AHeap} (h : step1 P K o e H = .pr (some (v, H'))) : H'.wr = H.wr := by
  cases o with
  | alloc t => simp only [step1, Stp.pr.injEq, Option.map_eq_some_iff, Prod.mk.injEq] at h; obtain ⟨u, hu, rfl, rfl⟩ := h; rfl
  | box t x => simp only [step1, Stp.pr.injEq, Option.map_eq_some_iff, Prod.mk.injEq] at h; obtain ⟨u, hu, rfl, rfl⟩ := h; rfl
  | buildSlice t n ps =>
    simp only [step1, Stp.pr.injEq, Option.bind_eq_some_iff] at h
    obtain ⟨l, hl, h⟩ := h
    unfold abuildSlice at h
    split at h <;> first | (cases h; done) | skip
    simp only [Option.bind_eq_some_iff] at h
    obtain ⟨s, hs, z, hz, h⟩ := h
    split at h <;> first | (cases h; done) | skip
    simp only [Option.map_eq_some_iff, Prod.mk.injEq] at h
    obtain ⟨_, _, _, rfl⟩ := h
    rfl
  | convert s d x =>
    have hcs : isCStr x = true := by
      simp only [cls] at hc
      split at hc
      · assumption
      · cases hc
    simp only [step1, Stp.pr.injEq, Option.bind_eq_some_iff, if_pos hcs] at h
    obtain ⟨p, hp, h⟩ := h
    unfold abytes at h
    split at h <;> first | (cases h; done) | skip
    split at h <;> first | (cases h; done) | skip
    split at h <;> first | (cases h; done) | skip
    cases h
    rfl
  | makeMap t r =>
    cases r with
    | some r => simp [step1] at h
    | none =>
      simp only [step1, Stp.pr.injEq] at h
      split at h <;> first | (cases h; done) | skip
      simp only [Option.map_eq_some_iff, Prod.mk.injEq] at h
      obtain ⟨_, _, _, rfl⟩ := h
      rfl
  | makeSlice t l c =>
    simp only [step1, Stp.pr.injEq] at h
    split at h <;> first | (cases h; done) | skip
    unfold amake at h
    split at h <;> first | (cases h; done) | skip
    simp only [Option.bind_eq_some_iff] at h
    obtain ⟨s, hs, b, hb, z, hz, h⟩ := h
    split at h <;> first | (cases h; done) | skip
    cases h
    rfl
  | call c =>
    obtain ⟨callee, args, ts⟩ := c
    cases callee with
    | builtin b => cases b <;> simp [cls] at hc
    | value f => simp only [step1] at h; exact (clOf_ne h).elim
    | invoke r n => simp [step1] at h
  | _ => simp [cls] at hc

theorem step1_cl {o : Op} {e : Env} {H : AHeap} {f : FuncId} {as : List AV} (h : step1 P K o e H = .cl f as) : cls o = 2 ∧ ∀ G, step1 P K o e G = .cl f as := by
  cases o with
  | call c =>
    obtain ⟨callee, args, ts⟩ := c
    cases callee with
    | builtin b => simp [step1] at h
    | value f => exact ⟨rfl, fun G => h⟩
    | invoke r n => simp [step1] at h
  | makeMap t r => cases r <;> simp [step1] at h
  | _ => simp [step1] at h

end
end Go.Proofs.Ytghjglnebcpcmaa
/-! The interpreter is right: regions. -/
namespace Go.Proofs.Ytghjglnebcpcmaa
open Go.RowKit

section
variable {P : Program} {K : TypeId → Option (List Sc)}

def CallPost (S : St) (v : AV) (H' : AHeap) (e : Ending) (w' : World) : Prop := ∃ (T : St) (x : Value), e = .returned x ∧ T.w = w' ∧ T.H = H' ∧ Sim T ∧ Ext S T ∧ VR T v x

/-- A call of one of the model's own functions: told at once, nothing is entered. -/
def AtOnce (P : Program) (f : FuncId) (as : List AV) (v : AV) : Prop := ∀ (S : St) (vs : List Value), VRs S as vs → ∃ x, (callFunc f vs.toArray).run P S.w = .ok (.value x) S.w ∧ VR S v x
/-- Every call that is told is a call of the machine's. -/
def CallOK (P : Program) (C : Calling) : Prop := ∀ f as H v H', C f as H = some (v, H') → (H' = H ∧ AtOnce P f as v) ∨ Enterable P f ∧ ∀ (S : St) (vs : List Value), Sim S → S.H = H → VRs S as vs → Calls P f vs.toArray S.w (CallPost S v H')

theorem Calls.some {f : FuncId} {args : Array Value} {w : World} {R : Ending → World → Prop} (h : Calls P f args w R) : ∃ e w', R e w' := by
  obtain ⟨e, w', _, hR, _⟩ := h []
  exact ⟨e, w', hR⟩

theorem op_exists (hK : KeysOK P K) {C : Calling} (hC : CallOK P C) {S : St} (hS : Sim S) {o : Oper} {e : Env} {a : Act} (hE : EnvR S e a.tmps) {v : AV} {H' : AHeap} (h : evalOp P K C o.op e S.H = some (v, H')) :
    ∃ (T : St) (x : Value), T.H = H' ∧ Sim T ∧ Ext S T ∧ VR T v x := by
  unfold evalOp at h
  split at h
  · rename_i r hr
    subst h
    obtain ⟨T, x, _, h1, h2, h3, h4⟩ := prim_sound hK hS hE hr
    exact ⟨T, x, h1, h2, h3, h4⟩
  · rename_i f as hr
    obtain ⟨vs, _, hvs⟩ := call_sound hE hr
    rcases hC f as S.H v H' h with ⟨rfl, hat⟩ | ⟨hf, hcall⟩
    · obtain ⟨x, _, hx⟩ := hat S vs.toList hvs
      exact ⟨S, x, rfl, hS, Ext.refl S, hx⟩
    obtain ⟨en, w', T, x, _, _, h1, h2, h3, h4⟩ := Calls.some (hcall S vs.toList hS rfl hvs)
    exact ⟨T, x, h1, h2, h3, h4⟩

theorem op_wp (hK : KeysOK P K) {C : Calling} (hC : CallOK P C) {S : St} (hS : Sim S) {o : Oper} {e : Env} {a : Act} (hE : EnvR S e a.tmps) {v : AV} {H' : AHeap} (h : evalOp P K C o.op e S.H = some (v, H')) {next : Act → World → Prop} {Q : Exit → Act → World → Prop}
    (hn : ∀ (T : St) (x : Value), T.H = H' → Sim T → Ext S T → VR T v x → next (a.put o.dst x) T.w) : o.wp P a S.w next Q := by
  unfold evalOp at h
  split at h
  · rename_i r hr
    subst h
    obtain ⟨T, x, hg, h1, h2, h3, h4⟩ := prim_sound hK hS hE hr
    unfold Oper.wp
    rcases hg with hg | ⟨hg, rfl⟩
    · rw [hg]; exact hn T x h1 h2 h3 h4
    · rw [hg]; exact hn T _ h1 h2 h3 h4
  · rename_i f as hr
    obtain ⟨vs, hrun, hvs⟩ := call_sound hE hr
    rcases hC f as S.H v H' h with ⟨rfl, hat⟩ | ⟨hf, hcall⟩
    · obtain ⟨x, hx1, hx2⟩ := hat S vs.toList hvs
      simp only [Array.toArray_toList] at hx1
      unfold Oper.wp
      rw [hrun, hx1]
      exact hn S x rfl hS (Ext.refl S) hx2
    unfold Oper.wp
    rw [hrun, call_enter hf]
    simp only [Oper.upon_enter]
    have := hcall S vs.toList hS rfl hvs
    simp only [Array.toArray_toList] at this
    refine this.mono ?_
    rintro en w' ⟨T, x, rfl, rfl, h1, h2, h3, h4⟩
    exact hn T x h1 h2 h3 h4

theorem EnvR.put {S : St} {e : Env} {a : Act} (hE : EnvR S e a.tmps) {dst : Option Nat} (hd : ∀ d, dst = some d → d < a.tmps.size) {v : AV} {x : Value} (hv : VR S v x) : EnvR S (e.putO dst (some v)) (a.put dst x).tmps := by
  intro t u hu
  unfold Env.putO at hu
  split at hu
  · rename_i ht
    subst ht
    cases hu
    exact ⟨x, by simp [Act.put, hd t rfl], hv⟩
  · rename_i ht
    obtain ⟨y, hy, hr⟩ := hE t u hu
    refine ⟨y, ?_, hr⟩
    cases dst with
    | none => exact hy
    | some d =>
      simp only [Act.put]
      rw [Array.getElem?_setIfInBounds_ne (fun h => ht (by rw [h]))]
      exact hy

theorem put_size (a : Act) (dst : Option Nat) (x : Value) : (a.put dst x).tmps.size = a.tmps.size ∧ (a.put dst x).defers = a.defers := by
  cases dst <;> simp [Act.put]

theorem put_other (a : Act) {dst : Option Nat} (x : Value) {t : Nat} (h : dst ≠ some t) : (a.put dst x).tmps[t]? = a.tmps[t]? := by
  cases dst with
  | none => rfl
  | some d =>
    simp only [Act.put]
    rw [Array.getElem?_setIfInBounds_ne (fun e => h (by rw [e]))]

theorem wants_sound {S : St} {e : Env} {a : Act} (hE : EnvR S e a.tmps) {ops : Array Oper} {o : Oper} {w : Bool} (h : wants e ops o = some w) : Region.wanted o (yielded ops a.tmps) = w := by
  unfold wants at h
  unfold Region.wanted
  cases hg : o.guard with
  | none => simp only [hg] at h ⊢; cases h; rfl
  | some g =>
    obtain ⟨j, want⟩ := g
    simp only [hg] at h ⊢
    unfold yielded
    cases hd : (ops[j]?).bind (·.dst) with
    | none => rw [hd] at h; simp at h
    | some d =>
      rw [hd] at h
      simp only [Option.bind_some] at h ⊢
      cases hv : e d with
      | none => rw [hv] at h; cases h
      | some v =>
        rw [hv] at h
        obtain ⟨x, hx, hr⟩ := hE d v hv
        rw [hx]
        split at h
        · rename_i b heq
          cases heq
          cases hr
          cases h
          cases b <;> cases want <;> rfl
        · rename_i heq
          cases heq
          cases hr with
          | tup _ xs hs =>
            cases hs
            cases h
            rfl
        · cases h

noncomputable def stepIx (C : Calling) (q : List Nat) (ops : Array Oper) (i : Nat) (e : Env) (H : AHeap) : Option (Env × AHeap) :=
  (ops[i]?).bind fun o => (wants e ops o).bind fun w =>
    if w = true then (evalOp P K C o.op e H).bind fun (v, H') => if q.contains i = true ∧ markOK q o.op e H v H' = false then none else some (e.putO o.dst (some v), H')
    else some (e.putO o.dst (some (.tup [])), H)

noncomputable def evalIx (C : Calling) (q : List Nat) (ops : Array Oper) : List Nat → Env → AHeap → Option (Env × AHeap)
  | [], e, H => some (e, H)
  | i :: r, e, H => (stepIx (P := P) (K := K) C q ops i e H).bind fun (e', H') => evalIx C q ops r e' H'

theorem evalOps_ix {C : Calling} {q : List Nat} {ops : Array Oper} : ∀ {l : List Oper} {k : Nat} {e : Env} {H : AHeap}, (∀ j, l[j]? = ops[k + j]?) → evalOps P K C q ops k l e H = evalIx (P := P) (K := K) C q ops (List.range' k l.length) e H
  | [], k, e, H, _ => rfl
  | o :: l, k, e, H, h => by
    have h0 : ops[k]? = some o := by have := h 0; simpa using this.symm
    have ih : ∀ e H, evalOps P K C q ops (k + 1) l e H = evalIx (P := P) (K := K) C q ops (List.range' (k + 1) l.length) e H := fun e H => evalOps_ix fun j => by
      have := h (j + 1)
      simp only [List.getElem?_cons_succ] at this
      rw [this]; congr 1; omega
    simp only [evalOps, List.length_cons, List.range'_succ, evalIx, stepIx, h0, Option.bind_some]
    cases wants e ops o with
    | none => rfl
    | some w =>
      cases w with
      | true =>
        simp only [Option.bind_some, if_true]
        cases evalOp P K C o.op e H with
        | none => rfl
        | some r =>
          simp only [Option.bind_some]
          split
          · rfl
          · simp only [Option.bind_some]; exact ih _ _
      | false => simp only [Option.bind_some, Bool.false_eq_true, if_false]; exact ih _ _

/-- What a region's end is to hold. -/
def Done (N : Nat) (S : St) (e : Env) (H : AHeap) (a : Act) (w : World) : Prop := ∃ T : St, T.w = w ∧ T.H = H ∧ Sim T ∧ Ext S T ∧ EnvR T e a.tmps ∧ a.tmps.size = N ∧ a.defers = []

theorem Done.of_ext {N : Nat} {S T : St} (h : Ext S T) {e : Env} {H : AHeap} {a : Act} {w : World} (hd : Done N T e H a w) : Done N S e H a w := by
  obtain ⟨U, h1, h2, h3, h4, h5⟩ := hd
  exact ⟨U, h1, h2, h3, h.trans h4, h5⟩

theorem dstOK_at {N : Nat} {ops : Array Oper} (h : dstOK N ops = true) {i : Nat} {o : Oper} (ho : ops[i]? = some o) : ∀ d, o.dst = some d → d < N := by
  intro d hd
  simp only [dstOK, Array.all_eq_true] at h
  obtain ⟨hi, heq⟩ := Array.getElem?_eq_some_iff.1 ho
  have := h i hi
  rw [heq, hd] at this
  simpa using this

/-- One step, carried out. -/
theorem stepIx_wp (hK : KeysOK P K) {C : Calling} (hC : CallOK P C) {q : List Nat} {ops : Array Oper} {N : Nat} (hD : dstOK N ops = true) {S : St} (hS : Sim S) {e : Env} {a : Act} (hE : EnvR S e a.tmps) (hN : a.tmps.size = N) (hd : a.defers = []) {i : Nat} {e' : Env} {H' : AHeap}
    (h : stepIx (P := P) (K := K) C q ops i e S.H = some (e', H')) {next : Act → World → Prop} {Q : Exit → Act → World → Prop}
    (hn : ∀ (T : St) (a' : Act), T.H = H' → Sim T → Ext S T → EnvR T e' a'.tmps → a'.tmps.size = N → a'.defers = [] → (∀ o, ops[i]? = some o → ∀ t, o.dst ≠ some t → a'.tmps[t]? = a.tmps[t]?) → next a' T.w) : wpOp P ops Q i next a S.w := by
  unfold stepIx at h
  simp only [Option.bind_eq_some_iff] at h
  obtain ⟨o, ho, w, hw, h⟩ := h
  have hdst : ∀ d, o.dst = some d → d < a.tmps.size := by rw [hN]; exact dstOK_at hD ho
  unfold wpOp
  rw [ho]
  simp only [wants_sound hE hw]
  cases w with
  | true =>
    simp only [if_true, Option.bind_eq_some_iff] at h ⊢
    obtain ⟨⟨v, H1⟩, hv, h⟩ := h
    simp only at h
    split at h <;> first | (cases h; done) | skip
    cases h
    left
    refine op_wp hK hC hS hE hv fun T x h1 h2 h3 h4 => ?_
    exact hn T _ h1 h2 h3 (((hE.ext h3)).put hdst h4) ((put_size a o.dst x).1.trans hN) ((put_size a o.dst x).2.trans hd) (fun o' ho' t ht => by rw [ho] at ho'; cases ho'; exact put_other a x ht)
  | false =>
    simp only [Bool.false_eq_true, if_false] at h ⊢
    cases h
    exact hn S _ rfl hS (Ext.refl S) (hE.put hdst (.tup [] [] .nil)) ((put_size a o.dst undef).1.trans hN) ((put_size a o.dst undef).2.trans hd) (fun o' ho' t ht => by rw [ho] at ho'; cases ho'; exact put_other a undef ht)

theorem evalIx_wp (hK : KeysOK P K) {C : Calling} (hC : CallOK P C) {q : List Nat} {ops : Array Oper} {N : Nat} (hD : dstOK N ops = true) {Q : Exit → Act → World → Prop} : ∀ {l : List Nat} {S : St} {e : Env} {a : Act} {e' : Env} {H' : AHeap}, Sim S → EnvR S e a.tmps → a.tmps.size = N → a.defers = [] →
    evalIx (P := P) (K := K) C q ops l e S.H = some (e', H') → (∀ a' w', Done N S e' H' a' w' → Q .normal a' w') → wpOps P ops Q l a S.w
  | [], S, e, a, e', H', hS, hE, hN, hd, h, hQ => by
    simp [evalIx] at h
    obtain ⟨rfl, rfl⟩ := h
    exact hQ a S.w ⟨S, rfl, rfl, hS, Ext.refl S, hE, hN, hd⟩
  | i :: l, S, e, a, e', H', hS, hE, hN, hd, h, hQ => by
    simp only [evalIx, Option.bind_eq_some_iff] at h
    obtain ⟨⟨e1, H1⟩, h1, h⟩ := h
    rw [wpOps_cons]
    refine stepIx_wp hK hC hD hS hE hN hd h1 fun T a' g1 g2 g3 g4 g5 g6 _ => ?_
    subst g1
    exact evalIx_wp hK hC hD g2 g4 g5 g6 h fun a'' w'' hd'' => hQ a'' w'' (hd''.of_ext g3)

end
end Go.Proofs.Ytghjglnebcpcmaa
/-! The interpreter is right: regions that draw their order. -/
namespace Go.Proofs.Ytghjglnebcpcmaa
open Go.RowKit

section
variable {P : Program} {K : TypeId → Option (List Sc)}

theorem zipIdx_all {α : Type} {l : List α} (p : α → Nat → Bool) (h : (l.zipIdx.all fun x => p x.1 x.2) = true) {i : Nat} {a : α} (ha : l[i]? = some a) : p a i = true := by
  rw [List.all_eq_true] at h
  exact h (a, i) (by rw [List.mem_zipIdx_iff_getElem?]; exact ha)

theorem step1_total (C : Calling) {o : Op} {e : Env} {H : AHeap} {v : AV} {H' : AHeap} (h : evalOp P K C o e H = some (v, H')) : (step1 P K o e H = .pr (some (v, H'))) ∨ ∃ f as, step1 P K o e H = .cl f as ∧ C f as H = some (v, H') := by
  unfold evalOp at h
  split at h
  · rename_i r hr; subst h; exact .inl hr
  · rename_i f as hr; exact .inr ⟨f, as, hr, h⟩

theorem evalOp_of_pr {C : Calling} {o : Op} {e : Env} {H : AHeap} {r} (h : step1 P K o e H = .pr r) : evalOp P K C o e H = r := by
  unfold evalOp; rw [h]

theorem evalOp_env {C : Calling} {o : Op} {e e' : Env} {H : AHeap} (h : ∀ x ∈ o.operands.toList, evalOpd e x = evalOpd e' x) : evalOp P K C o e H = evalOp P K C o e' H := by
  unfold evalOp; rw [step1_env h]

/-- What a class says of an operation that was carried out. -/
theorem evalOp_pure {C : Calling} {o : Op} (hc : cls o = 0) {e : Env} {H : AHeap} {v : AV} {H' : AHeap} (h : evalOp P K C o e H = some (v, H')) : H' = H ∧ ∀ G, evalOp P K C o e G = some (v, G) := by
  rcases step1_total C h with h | ⟨f, as, h, _⟩
  · obtain ⟨h1, h2⟩ := step1_pure hc h
    exact ⟨h1, fun G => evalOp_of_pr (h2 G)⟩
  · have := (step1_cl h).1; omega

theorem evalOp_read {C : Calling} {o : Op} (hc : cls o = 1) {e : Env} {H G : AHeap} {n : Nat} (hn : ∀ x ∈ o.operands.toList, ∀ u, evalOpd e x = some u → topIn n u) (hHG : ∀ k, k < n → G.obj k = H.obj k) {v : AV} {H' : AHeap} (h : evalOp P K C o e H = some (v, H')) : H' = H ∧ evalOp P K C o e G = some (v, G) := by
  rcases step1_total C h with h | ⟨f, as, h, _⟩
  · obtain ⟨h1, h2⟩ := step1_read hc hn hHG h
    exact ⟨h1, evalOp_of_pr h2⟩
  · have := (step1_cl h).1; omega

theorem tops {S : St} {e : Env} {a : Act} (hE : EnvR S e a.tmps) (x : Operand) (u : AV) (h : evalOpd e x = some u) : topIn S.H.size u := (evalOpd_sound hE h).topIn

theorem Env.putO_other {e : Env} {d : Option Nat} {v : Option AV} {t : Nat} (h : ∀ k, d = some k → k ≠ t) : (e.putO d v) t = e t := by
  unfold Env.putO
  rw [if_neg (fun hd => h t hd rfl)]

theorem Env.putO_comm {e : Env} {d d' : Option Nat} {v w : Option AV} (h : ∀ k, d = some k → d' ≠ some k) : (e.putO d v).putO d' w = (e.putO d' w).putO d v := by
  funext t
  unfold Env.putO
  by_cases h1 : d' = some t <;> by_cases h2 : d = some t
  · exact absurd h1 (h t h2)
  · simp [h1, h2]
  · simp [h1, h2]
  · simp [h1, h2]

theorem looks_operand {ops : Array Oper} {o : Oper} {x : Operand} (hx : x ∈ o.op.operands.toList) {t : Nat} (ht : x = .tmp t) : t ∈ o.looksAt ops := by
  unfold Oper.looksAt
  simp only [List.mem_append, List.mem_filterMap]
  exact .inl ⟨x, hx, by rw [ht]⟩

theorem operands_put {ops : Array Oper} {o : Oper} {d : Option Nat} (h : ∀ k, d = some k → k ∉ o.looksAt ops) {e : Env} {v : Option AV} : ∀ x ∈ o.op.operands.toList, evalOpd (e.putO d v) x = evalOpd e x := by
  intro x hx
  cases x with
  | tmp t =>
    simp only [evalOpd]
    exact Env.putO_other fun k hk e => h k hk (by rw [e]; exact looks_operand hx rfl)
  | _ => rfl

theorem wants_put {ops : Array Oper} {o : Oper} {d : Option Nat} (h : ∀ k, d = some k → k ∉ o.looksAt ops) {e : Env} {v : Option AV} : wants (e.putO d v) ops o = wants e ops o := by
  unfold wants
  cases hg : o.guard with
  | none => rfl
  | some g =>
    obtain ⟨j, want⟩ := g
    simp only []
    cases hd : (ops[j]?).bind (·.dst) with
    | none => rfl
    | some t =>
      simp only [Option.bind_some]
      rw [Env.putO_other fun k hk e => h k hk (by rw [e]; unfold Oper.looksAt; simp only [List.mem_append]; right; rw [hg]; simp [hd])]

/-- A step by its parts. -/
theorem stepIx_some {C : Calling} {q : List Nat} {ops : Array Oper} {i : Nat} {e e' : Env} {H H' : AHeap} : stepIx (P := P) (K := K) C q ops i e H = some (e', H') ↔ ∃ o, ops[i]? = some o ∧
    ((wants e ops o = some true ∧ ∃ v, evalOp P K C o.op e H = some (v, H') ∧ ¬ (q.contains i = true ∧ markOK q o.op e H v H' = false) ∧ e' = e.putO o.dst (some v)) ∨ (wants e ops o = some false ∧ e' = e.putO o.dst (some (.tup [])) ∧ H' = H)) := by
  unfold stepIx
  simp only [Option.bind_eq_some_iff]
  constructor
  · rintro ⟨o, ho, w, hw, h⟩
    refine ⟨o, ho, ?_⟩
    cases w with
    | true =>
      left
      simp only [if_true, Option.bind_eq_some_iff] at h
      obtain ⟨⟨v, H1⟩, hv, h⟩ := h
      simp only at h
      split at h <;> first | (cases h; done) | skip
      rename_i hq
      cases h
      exact ⟨hw, v, hv, hq, rfl⟩
    | false =>
      right
      simp only [Bool.false_eq_true, if_false] at h
      cases h
      exact ⟨hw, rfl, rfl⟩
  · rintro ⟨o, ho, h⟩
    rcases h with ⟨hw, v, hv, hq, rfl⟩ | ⟨hw, rfl, rfl⟩
    · exact ⟨o, ho, true, hw, by simp only [if_true, Option.bind_eq_some_iff]; exact ⟨(v, H'), hv, by simp only; rw [if_neg hq]⟩⟩
    · exact ⟨o, ho, false, hw, by simp⟩

theorem mark_env {q : List Nat} {o : Op} {e e' : Env} (h : ∀ x ∈ o.operands.toList, evalOpd e x = evalOpd e' x) (hs : ∀ s, sepT q = some s → e s = e' s) {H : AHeap} {v : AV} {H' : AHeap} : markOK q o e H v H' = markOK q o e' H v H' := by
  cases o with
  | store t a x =>
    have h1 := h a (by simp [Op.operands])
    have h2 := h x (by simp [Op.operands])
    simp only [markOK, h1, h2]
    cases hq : sepT q with
    | none => rfl
    | some s => simp only [hs s hq]
  | load t a =>
    have h1 := h a (by simp [Op.operands])
    simp only [markOK, markLd, h1]
    cases hq : sepT q with
    | none => rfl
    | some s => simp only [hs s hq]
  | slice t x lo hi mx =>
    have h1 := h x (by simp [Op.operands])
    simp only [markOK, h1]
  | call c =>
    have h1 : isLen (.call c) = true → (c.args.toList.head?).bind (evalOpd e) = (c.args.toList.head?).bind (evalOpd e') := fun hl => by
      cases hh : c.args.toList.head? with
      | none => rfl
      | some x =>
        simp only [Option.bind_some]
        refine h x ?_
        have hm : x ∈ c.args.toList := List.mem_of_mem_head? (by rw [hh]; exact rfl)
        obtain ⟨callee, args, ts⟩ := c
        cases callee with
        | builtin b => simpa [Op.operands, Call.operands] using hm
        | _ => simp [isLen] at hl
    simp only [markOK, markApp, markCl]
    by_cases hl : isLen (.call c) = true
    · rw [h1 hl]
      cases hq : sepT q with
      | none => rfl
      | some s => simp only [hs s hq]
    · simp only [hl, if_false, Bool.false_eq_true]
      cases hq : sepT q with
      | none => rfl
      | some s => simp only [hs s hq]
  | _ => rfl

theorem sep_put {q : List Nat} {x : Oper} (h : sepA q x = true) {e : Env} {v : Option AV} : ∀ s, sepT q = some s → (e.putO x.dst v) s = e s := by
  intro s hs
  unfold sepA at h
  rw [hs] at h
  simp only [bne_iff_ne, ne_eq] at h
  unfold Env.putO
  rw [if_neg h]

theorem mark_read {q : List Nat} {o : Op} (hc : cls o = 0 ∨ cls o = 1) {e : Env} {H G : AHeap} {v : AV} : markOK q o e H v H = markOK q o e G v G := by
  cases o with
  | load t a => rfl
  | store t a x => rcases hc with hc | hc <;> simp [cls] at hc
  | buildSlice t n ps => rcases hc with hc | hc <;> simp [cls] at hc
  | call c =>
    have ha : isApp (.call c) = false := by
      cases h : isApp (.call c) with
      | false => rfl
      | true =>
        obtain ⟨callee, args, ts⟩ := c
        cases callee with
        | builtin b => cases b <;> simp [isApp] at h; rcases hc with hc | hc <;> simp [cls] at hc
        | _ => simp [isApp] at h
    have hb : isCall (.call c) = false := by
      obtain ⟨callee, args, ts⟩ := c
      cases callee with
      | builtin b => rfl
      | _ => rcases hc with hc | hc <;> simp [cls] at hc
    simp [markOK, ha, hb, AHeap.Quiet]
  | _ => simp [markOK, AHeap.Quiet]

theorem mark_pure {q : List Nat} {o : Op} (hc : cls o = 0) {e : Env} {H : AHeap} {v : AV} : markOK q o e H v H = true := by
  cases o with
  | slice t x lo hi mx => simp [cls] at hc
  | load t a => simp [cls] at hc
  | store t a x => simp [cls] at hc
  | buildSlice t n ps => simp [cls] at hc
  | call c =>
    rw [mark_read (.inl hc) (G := H)]
    obtain ⟨callee, args, ts⟩ := c
    cases callee with
    | builtin b => cases b <;> simp [cls] at hc <;> simp [markOK, isApp, isLen, isCall, AHeap.Quiet]
    | _ => simp [cls] at hc
  | _ => simp [markOK, AHeap.Quiet]

theorem app_cls {c : Call} (hc : cls (.call c) = 2) : isApp (.call c) = false := by
  obtain ⟨callee, args, ts⟩ := c
  cases callee with
  | builtin b => cases b <;> simp [cls] at hc
  | _ => rfl
theorem mark_quiet {q : List Nat} {o : Op} (hc : cls o = 2) (h7 : q.contains 997 = false) {e : Env} {H H' : AHeap} {v : AV} (h : markOK q o e H v H' = true) : H.Quiet H' := by
  cases o with
  | slice t x lo hi mx => simp [cls] at hc
  | load t a => simp [cls] at hc
  | store t a x => simp [cls] at hc
  | buildSlice t n ps => simp only [markOK, Bool.and_eq_true, decide_eq_true_eq] at h; exact h.1
  | call c => rw [show markOK q (.call c) e H v H' = decide (H.Quiet H') from by simp only [markOK]; rw [if_neg (by rw [app_cls hc]; simp), if_neg (by rw [h7]; simp)]] at h; simpa using h
  | _ => simpa [markOK] using h
theorem mark_new_env {q : List Nat} {o : Op} (hc : isAlloc o = true) {e e' : Env} {H H' : AHeap} {v : AV} : markOK q o e H v H' = markOK q o e' H v H' := by
  cases o with
  | alloc t => rfl
  | makeSlice t l c => rfl
  | buildSlice t n ps => rfl
  | _ => simp [isAlloc] at hc

theorem load_store {H H2 : AHeap} {t t' : TypeId} {o off : Nat} {b b' : Bool} {cs : List AV} (hs : astore P H t' (.ptr o off) (.bool b) = some H2) (ho : H.obj o = .cells cs) (hb : cs[off]? = some (.bool b')) {p : AV} {k : IntKind} {n : Int} :
    aload P H2 t p = some (.int k n) ↔ aload P H t p = some (.int k n) := by
  have hlt : off < cs.length := (List.getElem?_eq_some_iff.1 hb).1
  have e2 : H2 = H.set o (.cells (cs.set off (.bool b))) := by
    simp only [astore, ho] at hs
    split at hs <;> first | (cases hs; done) | skip
    cases hs; rfl
  have key : ∀ off1, loadC P t (cs.set off (.bool b)) off1 = some (.int k n) ↔ loadC P t cs off1 = some (.int k n) := by
    intro off1
    unfold loadC
    cases isAggT P t with
    | none => simp
    | some g => cases g with
      | true =>
        cases tS P t with
        | none => simp
        | some m =>
          simp only [Option.bind_some]
          constructor <;> (intro h; split at h <;> simp at h)
      | false =>
        simp only [List.getElem?_set]
        by_cases h : off = off1
        · subst h
          rw [if_pos rfl, if_pos hlt, hb]
          simp
        · rw [if_neg h]
  cases p with
  | ptr o1 off1 =>
    by_cases h1 : o1 = o
    · subst h1
      have e3 : H2.obj o1 = .cells (cs.set off (.bool b)) := by rw [e2]; simp [AHeap.set]
      simp only [aload, ho, e3]
      exact key off1
    · have e3 : H2.obj o1 = H.obj o1 := by rw [e2]; simp [AHeap.set, h1]
      simp only [aload, e3]
  | _ => simp [aload]

/-- What a marked load and a marked store do. -/
theorem load_parts {C : Calling} {o : Op} (hl : isLoad o = true) {e : Env} {H : AHeap} {v : AV} {H' : AHeap} (h : evalOp P K C o e H = some (v, H')) : ∃ t a p, o = .load t a ∧ evalOpd e a = some p ∧ aload P H t p = some v ∧ H' = H := by
  cases o with
  | load t a =>
    simp only [evalOp, step1, Option.bind_eq_some_iff, Option.map_eq_some_iff, Prod.mk.injEq] at h
    obtain ⟨p, hp, u, hu, rfl, rfl⟩ := h
    exact ⟨t, a, p, rfl, hp, hu, rfl⟩
  | _ => simp [isLoad] at hl

theorem store_parts {C : Calling} {q : List Nat} (hq : sepT q = none) {o : Op} (hl : isStore o = true) {e : Env} {H : AHeap} {v : AV} {H' : AHeap} (h : evalOp P K C o e H = some (v, H')) (hm : markOK q o e H v H' = true) :
    ∃ t n off b b' cs, astore P H t (.ptr n off) (.bool b) = some H' ∧ H.obj n = .cells cs ∧ cs[off]? = some (.bool b') := by
  cases o with
  | store t a x =>
    simp only [evalOp, step1, Option.bind_eq_some_iff, Option.map_eq_some_iff, Prod.mk.injEq] at h
    obtain ⟨p, hp, w, hw, H1, hs, _, rfl⟩ := h
    simp only [markOK, hp, hw, hq] at hm
    split at hm <;> first | (cases hm; done) | skip
    rename_i n off b e1 e2
    cases e1; cases e2
    split at hm <;> first | (cases hm; done) | skip
    rename_i cs ho
    split at hm <;> first | (cases hm; done) | skip
    rename_i b' hb
    exact ⟨t, n, off, b, b', cs, hs, ho, hb⟩
  | _ => simp [isStore] at hl

theorem mark_int {q : List Nat} (h7 : q.contains 997 = false) (hq : sepT q = none) {o : Op} (hl : isLoad o = true) {e : Env} {H : AHeap} {v : AV} {H' : AHeap} (hm : markOK q o e H v H' = true) : ∃ k n, v = .int k n := by
  cases o with
  | load t a => cases v <;> simp only [markOK, h7, Bool.false_eq_true, if_false, hq] at hm <;> first | (cases hm; done) | exact ⟨_, _, rfl⟩
  | _ => simp [isLoad] at hl

/-- A load and a store that a slot's object parts. -/
theorem sep_parts {C : Calling} {q : List Nat} {s : Nat} (h7 : q.contains 997 = false) (hq : sepT q = some s) {x y : Op} (lx : isLoad x = true) (sy : isW q y = true) {e : Env} {G G2 : AHeap} {v1 v2 : AV} (hm1 : ∃ H1 H2, markOK q x e H1 v1 H2 = true) (hv2 : evalOp P K C y e G = some (v2, G2)) (hm2 : markOK q y e G v2 G2 = true) :
    ∀ (t : TypeId) (a : Operand) (p : AV), x = .load t a → evalOpd e a = some p → aload P G2 t p = aload P G t p := by
  rintro t a p rfl hp
  obtain ⟨_, _, hm1⟩ := hm1
  cases y with
  | call c =>
    have ha : isApp (.call c) = true := by simpa [isW, isStore, hq] using sy
    simp only [markOK, h7, Bool.false_eq_true, if_false, hq, hp] at hm1
    simp only [markOK, ha, if_true, markApp, hq] at hm2
    cases hes : objOfS (e s) with
    | none => rw [hes] at hm2; cases hm2
    | some os =>
      rw [hes] at hm1 hm2
      cases p with
      | ptr o1 off1 =>
        simp only [objOf] at hm1
        simp only [decide_eq_true_eq] at hm2
        simp only [aload, hm2 o1 hm1]
      | _ => simp [objOf] at hm1
  | store t' a' x' =>
    simp only [evalOp, step1, Option.bind_eq_some_iff, Option.map_eq_some_iff, Prod.mk.injEq] at hv2
    obtain ⟨p2, hp2, w, hw, H1, hs, _, rfl⟩ := hv2
    simp only [markOK, h7, Bool.false_eq_true, if_false, hq, hp] at hm1
    simp only [markOK, hq, hp2] at hm2
    cases hes : objOfS (e s) with
    | none => rw [hes] at hm1; cases hh : objOf (some p) <;> simp [hh] at hm1
    | some os =>
      rw [hes] at hm1 hm2
      cases p with
      | ptr o1 off1 =>
        cases p2 with
        | ptr o2 off2 =>
          simp [objOf] at hm1 hm2
          have hne : o1 ≠ o2 := by rintro rfl; rw [hm1] at hm2; cases hm2
          have : H1.obj o1 = G.obj o1 := by
            unfold astore at hs
            simp only at hs
            split at hs <;> first | (cases hs; done) | skip
            split at hs
            · split at hs <;> first | (cases hs; done) | skip
              cases hs; simp [AHeap.set, hne]
            · split at hs <;> first | (cases hs; done) | skip
              cases hs; simp [AHeap.set, hne]
          simp only [aload, this]
        | _ => simp [objOf] at hm2
      | _ => simp [objOf] at hm1
  | _ => simp [isW, isApp, isStore] at sy

theorem rd_cls {o : Op} (h : isRd o = true) : cls o = 1 := by
  cases o with
  | load t a => rfl
  | slice t x lo hi mx => rfl
  | call c =>
    obtain ⟨callee, args, ts⟩ := c
    cases callee with
    | builtin b => cases b <;> first | rfl | (simp [isRd, isLoad, isSl, isLen] at h)
    | _ => simp [isRd, isLoad, isSl, isLen] at h
  | _ => simp [isRd, isLoad, isSl, isLen] at h
theorem cl_turn {q : List Nat} (h7 : q.contains 997 = true) {o : Op} (hc : isCall o = true) {e : Env} {H H' : AHeap} {v : AV} (h : markOK q o e H v H' = true) : markOK q o e H' v H = true := by
  cases o with
  | call c =>
    obtain ⟨callee, args, ts⟩ := c
    have h1 : isApp (.call ⟨callee, args, ts⟩) = false := by cases callee <;> first | rfl | simp [isCall] at hc
    have h2 : isLen (.call ⟨callee, args, ts⟩) = false := by cases callee <;> first | rfl | simp [isCall] at hc
    simp only [markOK, h1, h2, hc, h7, if_true, Bool.false_eq_true, if_false, markCl] at h ⊢
    cases hq : sepT q with
    | none => rfl
    | some s =>
      rw [hq] at h
      simp only at h ⊢
      cases hs : e s with
      | none => rw [hs] at h; cases h
      | some p =>
        rw [hs] at h
        cases p with
        | ptr o off => simp only [decide_eq_true_eq] at h ⊢; exact h.symm
        | _ => cases h
  | _ => simp [isCall] at hc
/-- What is read is read behind a marked call, too. -/
theorem rd_call {C : Calling} {q : List Nat} (h7 : q.contains 997 = true) {x y : Op} (rx : isRd x = true) (cy : isCall y = true) {e : Env} {H1 H2 H3 G G' : AHeap} {v1 v2 : AV} (m1 : markOK q x e H1 v1 H2 = true) (m2 : markOK q y e G v2 G' = true) (hv : evalOp P K C x e G = some (v1, H3)) : evalOp P K C x e G' = some (v1, G') := by
  cases x with
  | load t a =>
    obtain ⟨t', a', p, ex, hp, hl, _⟩ := load_parts (P := P) (K := K) rfl hv
    cases ex
    simp only [markOK, h7, if_true, markLd, hp] at m1
    cases hq : sepT q with
    | none => rw [hq] at m1; cases m1
    | some s =>
      rw [hq] at m1
      simp only at m1
      cases p with
      | ptr o off =>
        cases hs : e s with
        | none => rw [hs] at m1; cases m1
        | some p' =>
          rw [hs] at m1
          cases p' with
          | ptr o' off' =>
            simp only [Bool.and_eq_true, decide_eq_true_eq] at m1
            obtain ⟨⟨rfl, rfl⟩, ho⟩ := m1
            cases y with
            | call c =>
              obtain ⟨callee, args, ts⟩ := c
              have k1 : isApp (.call ⟨callee, args, ts⟩) = false := by cases callee <;> first | rfl | simp [isCall] at cy
              have k2 : isLen (.call ⟨callee, args, ts⟩) = false := by cases callee <;> first | rfl | simp [isCall] at cy
              simp only [markOK, k1, k2, cy, h7, if_true, Bool.false_eq_true, if_false, markCl, hq, hs, decide_eq_true_eq] at m2
              have hl2 : aload P G' t (.ptr o (off' + sepD q)) = some v1 := by
                unfold aload at hl ⊢
                simp only at hl ⊢
                cases hg : G.obj o with
                | cells cs =>
                  rw [hg] at hl m2
                  simp only [cellO] at m2
                  simp only at hl
                  unfold loadC at hl
                  cases hag : isAggT P t with
                  | none => rw [hag] at hl; simp at hl
                  | some g =>
                    rw [hag] at hl
                    cases g with
                    | true =>
                      cases hts : tS P t with
                      | none => rw [hts] at hl; simp at hl
                      | some n =>
                        rw [hts] at hl
                        simp only [Option.bind_some] at hl
                        split at hl
                        · cases hl; simp [oneW] at ho
                        · cases hl
                    | false =>
                      simp only at hl
                      rw [hl] at m2
                      cases hg2 : G'.obj o with
                      | cells ds =>
                        rw [hg2] at m2
                        simp only at m2 ⊢
                        unfold loadC
                        rw [hag]
                        exact m2
                      | _ => rw [hg2] at m2; simp at m2
                | _ => rw [hg] at hl; simp at hl
              simp only [evalOp, step1, hp, Option.bind_some, hl2, Option.map_some]
            | _ => simp [isCall] at cy
          | _ => cases m1
      | _ => cases hs : e s <;> simp at m1
  | slice t x lo hi mx =>
    simp only [markOK, h7, if_true] at m1
    cases hx : evalOpd e x with
    | none => rw [hx] at m1; cases m1
    | some w =>
      rw [hx] at m1
      simp only [evalOp, step1, hx, Option.bind_some] at hv ⊢
      have hf : ∀ l h m, aslice P G t w l h m = aslice P G' t w l h m := by
        intro l h m
        unfold aslice
        cases w <;> first | (cases m1; done) | skip
        all_goals (split <;> first | rfl | simp_all)
      simp only [hf] at hv
      simp only [Option.bind_eq_some_iff, Option.map_eq_some_iff, Prod.mk.injEq] at hv ⊢
      obtain ⟨l, hl, h, hh, m, hm, v, hv, rfl, _⟩ := hv
      exact ⟨l, hl, h, hh, m, hm, v, hv, rfl, trivial⟩
  | call c =>
    obtain ⟨callee, args, ts⟩ := c
    cases callee with
    | builtin b =>
      cases b <;> first | (simp [isRd, isLoad, isSl, isLen] at rx; done) | skip
      simp only [markOK, isApp, isLen, h7, if_true, Bool.false_eq_true, if_false] at m1
      simp only [evalOp, step1, abuiltin] at hv ⊢
      simp only [Option.bind_eq_some_iff] at hv ⊢
      obtain ⟨as, has, hv⟩ := hv
      refine ⟨as, has, ?_⟩
      cases hts : ts.toList with
      | nil => rw [hts] at hv; simp at hv
      | cons t tl =>
        rw [hts] at hv
        cases as with
        | nil => simp at hv
        | cons w r =>
          cases r with
          | cons w2 r2 => simp at hv
          | nil =>
            have ha : args.toList.head?.bind (evalOpd e) = some w := by
              cases hal : args.toList with
              | nil => rw [hal] at has; simp [evalOpds] at has
              | cons a0 l =>
                rw [hal] at has
                simp only [evalOpds, Option.bind_eq_some_iff, Option.map_eq_some_iff] at has
                obtain ⟨x, hx, ys, _, hc⟩ := has
                cases hc
                simpa using hx
            rw [ha] at m1
            simp only [Option.map_eq_some_iff, Prod.mk.injEq] at hv ⊢
            obtain ⟨v, hv, rfl, _⟩ := hv
            refine ⟨v, ?_, rfl, trivial⟩
            rw [← hv]
            unfold alen
            cases w <;> first | (cases m1; done) | skip
            all_goals (split <;> first | rfl | simp_all)
    | _ => simp [isRd, isLoad, isSl, isLen] at rx
  | _ => simp [isRd, isLoad, isSl, isLen] at rx

/-- Two operations that may change places do so. -/
theorem astore_map {H H2 : AHeap} {t : TypeId} {p v : AV} (h : astore P H t p v = some H2) : ∃ o cs cs', H.obj o = .cells cs ∧ H2.obj o = .cells cs' ∧ ∀ k, k ≠ o → H2.obj k = H.obj k := by
  unfold astore at h
  cases p with
  | ptr o off =>
    simp only at h
    cases ho : H.obj o with
    | cells cs =>
      rw [ho] at h
      simp only at h
      have fin : ∀ cs' : List AV, some (H.set o (.cells cs')) = some H2 → ∃ o cs cs', H.obj o = .cells cs ∧ H2.obj o = .cells cs' ∧ ∀ k, k ≠ o → H2.obj k = H.obj k := fun cs' e => by
        cases e
        exact ⟨o, cs, cs', ho, by simp [AHeap.set], fun k hk => by simp [AHeap.set, hk]⟩
      split at h
      · split at h
        · exact fin _ h
        · cases h
      · split at h
        · exact fin _ h
        · cases h
    | _ => rw [ho] at h; cases h
  | _ => cases h
theorem alookup_same {H G : AHeap} {t : TypeId} {m k r : AV} {ok : Bool} (h : alookup P K H t m k ok = some r) (hs : ∀ o sh es c, H.obj o = .map sh es c → G.obj o = H.obj o) : alookup P K G t m k ok = some r := by
  unfold alookup at h ⊢
  split at h <;> first | (cases h; done) | skip
  rename_i kt e he
  cases hk : keySh P K kt with
  | none => rw [hk] at h; cases h
  | some sh =>
    rw [hk] at h
    simp only [Option.bind_some] at h ⊢
    cases hz : tZV P e with
    | none => rw [hz] at h; cases h
    | some z =>
      rw [hz] at h
      simp only [Option.bind_some] at h ⊢
      by_cases hf : sh.fits k = true
      · rw [if_pos hf] at h ⊢
        cases m with
        | map o =>
          simp only at h ⊢
          cases ho : H.obj o with
          | map sh' es c => rw [hs o sh' es c ho, ho]; rw [ho] at h; exact h
          | _ => rw [ho] at h; cases h
        | _ => exact h
      · rw [if_neg hf] at h; cases h
theorem look_parts {C : Calling} {o : Op} (hl : isLook o = true) {e : Env} {H : AHeap} {v : AV} {H' : AHeap} (h : evalOp P K C o e H = some (v, H')) : H' = H ∧ ∀ G : AHeap, (∀ o sh es c, H.obj o = .map sh es c → G.obj o = H.obj o) → evalOp P K C o e G = some (v, G) := by
  cases o with
  | lookup t m k ok =>
    simp only [evalOp, step1, Option.bind_eq_some_iff, Option.map_eq_some_iff, Prod.mk.injEq] at h
    obtain ⟨a, ha, b, hb, u, hu, rfl, rfl⟩ := h
    refine ⟨rfl, fun G hs => ?_⟩
    simp only [evalOp, step1, ha, hb, Option.bind_some]
    rw [alookup_same hu hs]; rfl
  | _ => simp [isLook] at hl
theorem store_maps {C : Calling} {o : Op} (hl : isStore o = true) {e : Env} {H : AHeap} {v : AV} {H' : AHeap} (h : evalOp P K C o e H = some (v, H')) : (∀ o sh es c, H.obj o = .map sh es c → H'.obj o = H.obj o) ∧ ∀ o sh es c, H'.obj o = .map sh es c → H.obj o = H'.obj o := by
  cases o with
  | store t a x =>
    simp only [evalOp, step1, Option.bind_eq_some_iff, Option.map_eq_some_iff, Prod.mk.injEq] at h
    obtain ⟨p, hp, w, hw, H1, hs, _, rfl⟩ := h
    obtain ⟨o, cs, cs', h1, h2, h3⟩ := astore_map hs
    refine ⟨fun k sh es c hk => h3 k ?_, fun k sh es c hk => (h3 k ?_).symm⟩
    · rintro rfl; rw [h1] at hk; cases hk
    · rintro rfl; rw [h2] at hk; cases hk
  | _ => simp [isStore] at hl
theorem look_cls {o : Op} (h : isLook o = true) : cls o = 1 := by cases o <;> first | rfl | (simp [isLook] at h)
theorem swap (hK : KeysOK P K) {C : Calling} (hC : CallOK P C) {D : List Nat} {ops : Array Oper} {S : St} (hS : Sim S) {e : Env} {a : Act} (hE : EnvR S e a.tmps) {i j : Nat} {x y : Oper} (hi : ops[i]? = some x) (hj : ops[j]? = some y) (hp : pairOK ops D i j x y = true)
    {e1 e2 : Env} {H1 H2 : AHeap} (h1 : stepIx (P := P) (K := K) C D ops i e S.H = some (e1, H1)) (h2 : stepIx (P := P) (K := K) C D ops j e1 H1 = some (e2, H2)) :
    ∃ e3 H3, stepIx (P := P) (K := K) C D ops j e S.H = some (e3, H3) ∧ stepIx (P := P) (K := K) C D ops i e3 H3 = some (e2, H2) := by
  rw [stepIx_some] at h1 h2
  obtain ⟨x', hx', h1⟩ := h1
  rw [hi] at hx'; cases hx'
  obtain ⟨y', hy', h2⟩ := h2
  rw [hj] at hy'; cases hy'
  unfold pairOK at hp
  simp only [Bool.and_eq_true] at hp
  obtain ⟨⟨⟨ha, hsx⟩, hsy⟩, hc⟩ := hp
  obtain ⟨a1, a2, a3⟩ := Oper.apart_spec ha
  have hcomm : ∀ (u v : Option AV), (e.putO x.dst u).putO y.dst v = (e.putO y.dst v).putO x.dst u := fun u v => Env.putO_comm a2
  rcases h1 with ⟨hw1, v1, hv1, hq1, rfl⟩ | ⟨hw1, rfl, rfl⟩
  · rw [wants_put a1] at h2
    rcases h2 with ⟨hw2, v2, hv2, hq2, rfl⟩ | ⟨hw2, rfl, rfl⟩
    · rw [evalOp_env (operands_put a1)] at hv2
      rw [mark_env (operands_put a1) (sep_put hsx)] at hq2
      -- both are carried out
      have main : ∃ H3, evalOp P K C y.op e S.H = some (v2, H3) ∧ evalOp P K C x.op e H3 = some (v1, H2) ∧ ¬ (D.contains j = true ∧ markOK D y.op e S.H v2 H3 = false) ∧ ¬ (D.contains i = true ∧ markOK D x.op e H3 v1 H2 = false) := by
        have quietC : ∀ {o : Oper} {k : Nat} {v : AV} {G : AHeap}, evalOp P K C o.op e S.H = some (v, G) → cls o.op = 2 → (isCall o.op = false ∨ (D.contains k = true ∧ D.contains 997 = false)) → ¬ (D.contains k = true ∧ markOK D o.op e S.H v G = false) → ∀ n, n < S.H.size → G.obj n = S.H.obj n := by
          intro o k v G hv hcl hfl hq
          have hwr : S.H.Quiet G := by
            rcases hfl with hfl | hfl
            · rcases step1_total C hv with h | ⟨f, as, h, _⟩
              · exact fun o _ => by rw [step1_new hcl h]
              · exfalso
                cases ho : o.op <;> rw [ho] at h hfl <;> simp [step1] at h
                · cases ‹Option Operand› <;> simp at h
                · rename_i c
                  obtain ⟨callee, args, ts⟩ := c
                  cases callee <;> simp [isCall] at hfl h
            · cases hm : markOK D o.op e S.H v G with
              | true => exact mark_quiet hcl hfl.2 hm
              | false => exact absurd ⟨hfl.1, hm⟩ hq
          obtain ⟨T, z, t1, t2, t3, t4⟩ := op_exists hK hC hS hE hv
          exact fun n hn => by have := t3.quiet n hn (by rw [t1]; exact hwr n hn); rw [t1] at this; exact this
        simp only [Bool.or_eq_true, Bool.and_eq_true, beq_iff_eq, Bool.not_eq_true'] at hc
        rcases hc with (((((((hc | hc) | hc) | hc) | hc) | hc) | hc) | hc) | hc
        · obtain ⟨rfl, g⟩ := evalOp_pure hc hv1
          exact ⟨H2, hv2, g H2, hq2, by simp [mark_pure hc]⟩
        · obtain ⟨rfl, g⟩ := evalOp_pure hc hv2
          exact ⟨S.H, g S.H, hv1, by simp [mark_pure hc], hq1⟩
        · obtain ⟨e1, _⟩ := evalOp_read hc.1 (G := S.H) (n := S.H.size) (fun z _ u hu => tops hE z u hu) (fun k _ => rfl) hv1
          subst e1
          obtain ⟨e2, _⟩ := evalOp_read hc.2 (G := S.H) (n := S.H.size) (fun z _ u hu => tops hE z u hu) (fun k _ => rfl) hv2
          subst e2
          exact ⟨S.H, hv2, hv1, hq2, hq1⟩
        · obtain ⟨⟨c1, c2⟩, c3⟩ := hc
          obtain ⟨e1, _⟩ := evalOp_read c1 (G := S.H) (n := S.H.size) (fun z _ u hu => tops hE z u hu) (fun k _ => rfl) hv1
          subst e1
          have g2 := quietC (k := j) hv2 c2 c3 hq2
          obtain ⟨_, g3⟩ := evalOp_read c1 (G := H2) (n := S.H.size) (fun z _ u hu => tops hE z u hu) (fun k hk => g2 k hk) hv1
          exact ⟨H2, hv2, g3, hq2, by rw [mark_read (.inr c1) (G := S.H)]; exact hq1⟩
        · obtain ⟨⟨c1, c2⟩, c3⟩ := hc
          have g2 := quietC (k := i) hv1 c1 c3 hq1
          obtain ⟨e2, g3⟩ := evalOp_read c2 (G := S.H) (n := S.H.size) (fun z _ u hu => tops hE z u hu) (fun k hk => (g2 k hk).symm) hv2
          subst e2
          exact ⟨S.H, g3, hv1, by rw [mark_read (.inr c2) (G := H2)]; exact hq2, hq1⟩
        · obtain ⟨⟨⟨d1, d2⟩, h7⟩, hc⟩ := hc
          have m1 : markOK D x.op e S.H v1 H1 = true := by
            cases hm : markOK D x.op e S.H v1 H1 with
            | true => rfl
            | false => exact absurd ⟨d1, hm⟩ hq1
          have m2 : markOK D y.op e H1 v2 H2 = true := by
            cases hm : markOK D y.op e H1 v2 H2 with
            | true => rfl
            | false => exact absurd ⟨d2, hm⟩ hq2
          cases hq : sepT D with
          | some s =>
            rcases hc with ⟨lx, sy⟩ | ⟨sx, ly⟩
            · obtain ⟨t, a, p, ex, hp, hl, rfl⟩ := load_parts lx hv1
              have h := sep_parts (P := P) h7 hq lx sy ⟨_, _, m1⟩ hv2 m2 t a p ex hp
              refine ⟨H2, hv2, ?_, hq2, ?_⟩
              · rw [ex]
                simp only [evalOp, step1, hp, Option.bind_some]
                rw [h, hl]; rfl
              · have := m1
                rw [ex] at this ⊢
                simp only [markOK] at this ⊢
                rw [this]; simp
            · obtain ⟨t, a, p, ey, hp, hl, rfl⟩ := load_parts ly hv2
              have h := sep_parts (P := P) h7 hq ly sx ⟨_, _, m2⟩ hv1 m1 t a p ey hp
              refine ⟨S.H, ?_, hv1, ?_, hq1⟩
              · rw [ey]
                simp only [evalOp, step1, hp, Option.bind_some]
                rw [← h, hl]; rfl
              · have := m2
                rw [ey] at this ⊢
                simp only [markOK] at this ⊢
                rw [this]; simp
          | none =>
          simp only [isW, hq, Option.isSome_none, Bool.and_false, Bool.or_false] at hc
          have h7' : ¬ 997 ∈ D := by simpa using h7
          rcases hc with ⟨lx, sy⟩ | ⟨sx, ly⟩
          · obtain ⟨k, n, rfl⟩ := mark_int h7 hq lx m1
            obtain ⟨t, a, p, ex, hp, hl, rfl⟩ := load_parts lx hv1
            obtain ⟨t', o, off, b, b', cs, q1, q2, q3⟩ := store_parts hq sy hv2 m2
            refine ⟨H2, hv2, ?_, hq2, ?_⟩
            · rw [ex]
              simp only [evalOp, step1, hp, Option.bind_some]
              rw [(load_store q1 q2 q3).2 hl]; rfl
            · rw [ex]; simp [markOK, hq, h7']
          · obtain ⟨k, n, rfl⟩ := mark_int h7 hq ly m2
            obtain ⟨t, a, p, ey, hp, hl, rfl⟩ := load_parts ly hv2
            obtain ⟨t', o, off, b, b', cs, q1, q2, q3⟩ := store_parts hq sx hv1 m1
            refine ⟨S.H, ?_, hv1, ?_, hq1⟩
            · rw [ey]
              simp only [evalOp, step1, hp, Option.bind_some]
              rw [(load_store q1 q2 q3).1 hl]; rfl
            · rw [ey]; simp [markOK, hq, h7']
        · obtain ⟨⟨⟨d1, d2⟩, h7⟩, hc⟩ := hc
          have m1 : markOK D x.op e S.H v1 H1 = true := by
            cases hm : markOK D x.op e S.H v1 H1 with
            | true => rfl
            | false => exact absurd ⟨d1, hm⟩ hq1
          have m2 : markOK D y.op e H1 v2 H2 = true := by
            cases hm : markOK D y.op e H1 v2 H2 with
            | true => rfl
            | false => exact absurd ⟨d2, hm⟩ hq2
          rcases hc with ⟨rx, cy⟩ | ⟨cx, ry⟩
          · obtain ⟨e1, _⟩ := evalOp_read (rd_cls rx) (G := S.H) (n := S.H.size) (fun z _ u hu => tops hE z u hu) (fun k _ => rfl) hv1
            subst e1
            have g := rd_call (P := P) (K := K) (C := C) h7 rx cy m1 m2 hv1
            exact ⟨H2, hv2, g, hq2, by rw [mark_read (.inr (rd_cls rx)) (G := S.H)]; exact hq1⟩
          · obtain ⟨e2, _⟩ := evalOp_read (rd_cls ry) (G := H1) (n := S.H.size) (fun z _ u hu => tops hE z u hu) (fun k _ => rfl) hv2
            subst e2
            have g := rd_call (P := P) (K := K) (C := C) (G := H2) (G' := S.H) h7 ry cx m2 (cl_turn h7 cx m1) hv2
            exact ⟨S.H, g, hv1, by rw [mark_read (.inr (rd_cls ry)) (G := H2)]; exact hq2, hq1⟩
        · obtain ⟨e1, g⟩ := look_parts hc.1 hv1
          subst e1
          exact ⟨H2, hv2, g H2 (store_maps hc.2 hv2).1, hq2, by rw [mark_read (.inr (look_cls hc.1)) (G := S.H)]; exact hq1⟩
        · obtain ⟨e2, g⟩ := look_parts hc.2 hv2
          subst e2
          exact ⟨S.H, g S.H (store_maps hc.1 hv1).2, hv1, by rw [mark_read (.inr (look_cls hc.2)) (G := H2)]; exact hq2, hq1⟩
      obtain ⟨H3, m1, m2, m3, m4⟩ := main
      refine ⟨e.putO y.dst (some v2), H3, stepIx_some.2 ⟨y, hj, .inl ⟨hw2, v2, m1, m3, rfl⟩⟩, stepIx_some.2 ⟨x, hi, .inl ⟨?_, v1, ?_, ?_, hcomm _ _⟩⟩⟩
      · rw [wants_put a3]; exact hw1
      · rw [evalOp_env (operands_put a3)]; exact m2
      · rw [mark_env (operands_put a3) (sep_put hsy)]; exact m4
    · refine ⟨e.putO y.dst (some (.tup [])), S.H, stepIx_some.2 ⟨y, hj, .inr ⟨hw2, rfl, rfl⟩⟩, stepIx_some.2 ⟨x, hi, .inl ⟨?_, v1, ?_, ?_, hcomm _ _⟩⟩⟩
      · rw [wants_put a3]; exact hw1
      · rw [evalOp_env (operands_put a3)]; exact hv1
      · rw [mark_env (operands_put a3) (sep_put hsy)]; exact hq1
  · rw [wants_put a1] at h2
    rcases h2 with ⟨hw2, v2, hv2, hq2, rfl⟩ | ⟨hw2, rfl, rfl⟩
    · rw [evalOp_env (operands_put a1)] at hv2
      rw [mark_env (operands_put a1) (sep_put hsx)] at hq2
      refine ⟨e.putO y.dst (some v2), H2, stepIx_some.2 ⟨y, hj, .inl ⟨hw2, v2, hv2, hq2, rfl⟩⟩, stepIx_some.2 ⟨x, hi, .inr ⟨?_, hcomm _ _, rfl⟩⟩⟩
      rw [wants_put a3]; exact hw1
    · refine ⟨e.putO y.dst (some (.tup [])), S.H, stepIx_some.2 ⟨y, hj, .inr ⟨hw2, rfl, rfl⟩⟩, stepIx_some.2 ⟨x, hi, .inr ⟨?_, hcomm _ _, rfl⟩⟩⟩
      rw [wants_put a3]; exact hw1

/-- The state behind a step, in some world. -/
theorem stepIx_exists (hK : KeysOK P K) {C : Calling} (hC : CallOK P C) {q : List Nat} {ops : Array Oper} {N : Nat} (hD : dstOK N ops = true) {S : St} (hS : Sim S) {e : Env} {a : Act} (hE : EnvR S e a.tmps) (hN : a.tmps.size = N) {i : Nat} {e' : Env} {H' : AHeap}
    (h : stepIx (P := P) (K := K) C q ops i e S.H = some (e', H')) : ∃ (T : St) (a' : Act), T.H = H' ∧ Sim T ∧ EnvR T e' a'.tmps ∧ a'.tmps.size = N := by
  obtain ⟨o, ho, h⟩ := stepIx_some.1 h
  have hdst : ∀ d, o.dst = some d → d < a.tmps.size := by rw [hN]; exact dstOK_at hD ho
  rcases h with ⟨_, v, hv, _, rfl⟩ | ⟨_, rfl, rfl⟩
  · obtain ⟨T, x, h1, h2, h3, h4⟩ := op_exists hK hC hS hE hv
    exact ⟨T, a.put o.dst x, h1, h2, (hE.ext h3).put hdst h4, (put_size a o.dst x).1.trans hN⟩
  · exact ⟨S, a.put o.dst undef, rfl, hS, hE.put hdst (.tup [] [] .nil), (put_size a o.dst undef).1.trans hN⟩

/-- What may come first comes first. -/
theorem front (hK : KeysOK P K) {C : Calling} (hC : CallOK P C) {D : List Nat} {ops : Array Oper} {N : Nat} (hD : dstOK N ops = true) {i : Nat} {post : List Nat} {r : Env × AHeap} : ∀ {pre : List Nat} {S : St} {e : Env} {a : Act}, Sim S → EnvR S e a.tmps → a.tmps.size = N →
    (∀ j ∈ pre, ∀ x y, ops[j]? = some x → ops[i]? = some y → pairOK ops D j i x y = true) → evalIx (P := P) (K := K) C D ops (pre ++ i :: post) e S.H = some r →
    ∃ e1 H1, stepIx (P := P) (K := K) C D ops i e S.H = some (e1, H1) ∧ evalIx (P := P) (K := K) C D ops (pre ++ post) e1 H1 = some r
  | [], S, e, a, hS, hE, hN, _, h => by
    simp only [List.nil_append, evalIx, Option.bind_eq_some_iff] at h
    obtain ⟨⟨e1, H1⟩, h1, h⟩ := h
    exact ⟨e1, H1, h1, h⟩
  | j :: pre, S, e, a, hS, hE, hN, hp, h => by
    simp only [List.cons_append, evalIx, Option.bind_eq_some_iff] at h
    obtain ⟨⟨ej, Hj⟩, hj, h⟩ := h
    obtain ⟨T, a', t1, t2, t3, t4⟩ := stepIx_exists hK hC hD hS hE hN hj
    simp only at h
    subst t1
    obtain ⟨e2, H2, h2, h3⟩ := front hK hC hD t2 t3 t4 (fun k hk => hp k (by simp [hk])) h
    obtain ⟨x, hx, _⟩ := stepIx_some.1 hj
    obtain ⟨y, hy, _⟩ := stepIx_some.1 h2
    obtain ⟨e3, H3, g1, g2⟩ := swap hK hC hS hE hx hy (hp j (by simp) x y hx hy) hj h2
    refine ⟨e3, H3, g1, ?_⟩
    simp only [List.cons_append, evalIx, Option.bind_eq_some_iff]
    exact ⟨(e2, H2), g2, h3⟩

end
end Go.Proofs.Ytghjglnebcpcmaa
/-! What a call leaves: what is new and that nothing points at is forgotten; what is told as never written any more is so. -/
namespace Go.Proofs.Ytghjglnebcpcmaa

mutual
theorem vr_closed {S : St} : ∀ {a : AV} {x : Value}, VR S a x → closed S.H.size a = true
  | _, _, .bool b => rfl
  | _, _, .int k n => rfl
  | _, _, .str s => rfl
  | _, _, .nilp => rfl
  | _, _, .ptr o off m ho hm => by simp [closed, ho]
  | _, _, .ptrl cs b off i xs hs hb ho hc => by simp only [closed]; exact vrs_closed hs
  | _, _, .nils => rfl
  | _, _, .row o off sz n cap m full ho hm h1 h2 h3 h4 => by simp [closed, ho]
  | _, _, .row0 o off sz off' m full ho hm => by simp [closed, ho]
  | _, _, .lst0 sz cap a => rfl
  | _, _, .lst sz n cap cs b off xs hs hl hb ho hc hn => by simp only [closed]; exact vrs_closed hs
  | _, _, .nilm => rfl
  | _, _, .map o ho => by simp [closed, ho]
  | _, _, .nilf => rfl
  | _, _, .fn f as bs xs ys ha hb => by simp only [closed, Bool.and_eq_true]; exact ⟨vrs_closed ha, vrs_closed hb⟩
  | _, _, .nili => rfl
  | _, _, .ifc t v x hv => by simp only [closed]; exact vr_closed hv
  | _, _, .agg cs xs hs => by simp only [closed]; exact vrs_closed hs
  | _, _, .tup cs xs hs => by simp only [closed]; exact vrs_closed hs
theorem vrs_closed {S : St} : ∀ {as : List AV} {xs : List Value}, VRs S as xs → closedL S.H.size as = true
  | _, _, .nil => rfl
  | _, _, .cons a x as xs ha hs => by simp only [closedL, Bool.and_eq_true]; exact ⟨vr_closed ha, vrs_closed hs⟩
end

theorem ent_closed {S : St} {sh : KSh} {es : List AEnt} {ms : List MapEntry} (h : EntR S sh es ms) : (es.all fun e => closed S.H.size e.key && closed S.H.size e.val) = true := by
  induction h with
  | nil => rfl
  | cons e es m ms hk hv hb hf _ ih => simp only [List.all_cons, Bool.and_eq_true]; exact ⟨⟨vr_closed hk, vr_closed hv⟩, ih⟩

theorem obj_closed {S : St} {o : Nat} {x : AObj} (h : ObjR S o x) : closedO S.H.size x = true := by
  cases h with
  | dead => rfl
  | cells cs c e xs h1 h2 h3 h4 => exact vrs_closed h2
  | map sh es ms clock h1 h2 => exact ent_closed h2
  | iter s pos h => rfl

/-- T' is T with fewer objects. -/
structure Fewer (T T' : St) : Prop where
  ι : T'.ι = T.ι
  w : T'.w = T.w
  fz : ∀ b, T.fz b → T'.fz b
  own : ∀ b, T'.owned b → T.owned b

mutual
theorem vr_cut {T T' : St} (h : Fewer T T') : ∀ {a : AV} {x : Value}, VR T a x → closed T'.H.size a = true → VR T' a x
  | _, _, .bool b, _ => .bool b
  | _, _, .int k n, _ => .int k n
  | _, _, .str s, _ => .str s
  | _, _, .nilp, _ => .nilp
  | _, _, .ptr o off m ho hm, hc => by
    rw [← h.ι]
    exact .ptr o off m (by simpa [closed] using hc) (by rw [h.ι, h.w]; exact hm)
  | _, _, .ptrl cs b off i xs hs hb ho hcl, hc => .ptrl cs b off i xs (vrs_cut h hs (by simpa only [closed] using hc)) (h.fz b hb) (fun hh => ho (h.own b hh)) (fun j x hj => by rw [h.w]; exact hcl j x hj)
  | _, _, .nils, _ => .nils
  | _, _, .row o off sz n cap m full ho hm h1 h2 h3 h4, hc => by
    rw [← h.ι] at h1 ⊢
    exact .row o off sz n cap m full (by simpa [closed] using hc) (by rw [h.ι, h.w]; exact hm) h1 h2 h3 h4
  | _, _, .row0 o off sz off' m full ho hm, hc => by
    rw [← h.ι]
    exact .row0 o off sz off' m full (by simpa [closed] using hc) (by rw [h.ι, h.w]; exact hm)
  | _, _, .lst0 sz cap a, _ => .lst0 sz cap a
  | _, _, .lst sz n cap cs b off xs hs hl hb ho hcl hn, hc => .lst sz n cap cs b off xs (vrs_cut h hs (by simpa only [closed] using hc)) hl (h.fz b hb) (fun hh => ho (h.own b hh)) (fun j x hj => by rw [h.w]; exact hcl j x hj) hn
  | _, _, .nilm, _ => .nilm
  | _, _, .map o ho, hc => by
    rw [← h.ι]
    exact .map o (by simpa [closed] using hc)
  | _, _, .nilf, _ => .nilf
  | _, _, .fn f as bs xs ys ha hb, hc => by
    simp only [closed, Bool.and_eq_true] at hc
    exact .fn f as bs xs ys (vrs_cut h ha hc.1) (vrs_cut h hb hc.2)
  | _, _, .nili, _ => .nili
  | _, _, .ifc t v x hv, hc => .ifc t v x (vr_cut h hv (by simpa only [closed] using hc))
  | _, _, .agg cs xs hs, hc => .agg cs xs (vrs_cut h hs (by simpa only [closed] using hc))
  | _, _, .tup cs xs hs, hc => .tup cs xs (vrs_cut h hs (by simpa only [closed] using hc))
theorem vrs_cut {T T' : St} (h : Fewer T T') : ∀ {as : List AV} {xs : List Value}, VRs T as xs → closedL T'.H.size as = true → VRs T' as xs
  | _, _, .nil, _ => .nil
  | _, _, .cons a x as xs ha hs, hc => by
    simp only [closedL, Bool.and_eq_true] at hc
    exact .cons a x as xs (vr_cut h ha hc.1) (vrs_cut h hs hc.2)
end

theorem closedL_take {n : Nat} : ∀ {l : List AV} (k : Nat), closedL n l = true → closedL n (l.take k) = true
  | [], k, _ => by simp [closedL]
  | a :: l, 0, _ => by simp [closedL]
  | a :: l, k + 1, h => by
    simp only [closedL, Bool.and_eq_true] at h
    simp only [List.take_succ_cons, closedL, Bool.and_eq_true]
    exact ⟨h.1, closedL_take k h.2⟩

theorem ent_cut {T T' : St} (h : Fewer T T') {sh : KSh} {es : List AEnt} {ms : List MapEntry} (he : EntR T sh es ms) : (es.all fun e => closed T'.H.size e.key && closed T'.H.size e.val) = true → EntR T' sh es ms := by
  induction he with
  | nil => intro _; exact .nil
  | cons e es m ms hk hv hb hf _ ih =>
    intro hc
    simp only [List.all_cons, Bool.and_eq_true] at hc
    exact .cons e es m ms (vr_cut h hk hc.1.1) (vr_cut h hv hc.1.2) hb hf (ih hc.2)

theorem obj_cut {T T' : St} (h : Fewer T T') {o : Nat} {x : AObj} (ho : ObjR T o x) (hc : closedO T'.H.size x = true) : ObjR T' o x := by
  cases ho with
  | dead => exact .dead
  | cells cs c e xs h1 h2 h3 h4 => exact .cells cs c e xs (by rw [h.ι, h.w]; exact h1) (vrs_cut h h2 hc) (by rw [h.ι]; exact h3) (by rw [h.ι]; exact h4)
  | map sh es ms clock h1 h2 => exact .map sh es ms clock (by rw [h.ι, h.w]; exact h1) (ent_cut h h2 hc)
  | iter s pos h1 => exact .iter s pos (by rw [h.ι, h.w]; exact h1)

/-- What is new and has no object any more is never written any more. -/
structure Frozen (n : Nat) (T T' : St) : Prop extends Fewer T T' where
  size : T'.H.size = n
  new : ∀ o, n ≤ o → o < T.H.size → (T.H.obj o).live → T'.fz (T.ι o).1 ∧ ¬ T'.owned (T.ι o).1

theorem frz_list {T T' : St} {n : Nat} {d : List Nat} (ih : ∀ {v : AV} {x : Value}, VR T v x → closed n (frz T.H n d v) = true → VR T' (frz T.H n d v) x) : ∀ {as : List AV} {xs : List Value}, VRs T as xs → closedL n (as.map (frz T.H n d)) = true → VRs T' (as.map (frz T.H n d)) xs
  | _, _, .nil, _ => .nil
  | _, _, .cons a x as xs ha hs, hc => by
    simp only [List.map_cons, closedL, Bool.and_eq_true] at hc
    exact .cons _ x _ xs (ih ha hc.1) (frz_list ih hs hc.2)

theorem frz_ok {n : Nat} {T T' : St} (hT : Sim T) (h : Frozen n T T') : ∀ (d : List Nat) {v : AV} {x : Value}, VR T v x → closed n (frz T.H n d v) = true → VR T' (frz T.H n d v) x
  | [], v, x, hv, hc => vr_cut h.toFewer hv (by rw [h.size]; simpa [frz] using hc)
  | k0 :: d, v, x, hv, hc => by
    have keep : frz T.H n (k0 :: d) v = v → VR T' (frz T.H n (k0 :: d) v) x := fun e => by
      rw [e] at hc ⊢
      exact vr_cut h.toFewer hv (by rw [h.size]; exact hc)
    cases hv with
    | bool b => exact keep rfl
    | int k n => exact keep rfl
    | str s => exact keep rfl
    | nilp => exact keep rfl
    | ptrl cs b off i xs hs hb ho hcl => exact keep rfl
    | nils => exact keep rfl
    | lst0 sz cap a => exact keep rfl
    | lst sz n cap cs b off xs hs hl hb ho hcl hn => exact keep rfl
    | nilm => exact keep rfl
    | map o ho => exact keep rfl
    | nilf => exact keep rfl
    | fn f as bs xs ys ha hb => exact keep rfl
    | nili => exact keep rfl
    | ifc t v x hv =>
      simp only [frz, closed] at hc ⊢
      exact .ifc t _ x (frz_ok hT h d hv hc)
    | agg cs xs hs =>
      simp only [frz, closed] at hc ⊢
      exact .agg _ xs (frz_list (frz_ok hT h d) hs hc)
    | tup cs xs hs =>
      simp only [frz, closed] at hc ⊢
      exact .tup _ xs (frz_list (frz_ok hT h d) hs hc)
    | ptr o off m ho hm =>
      by_cases hlt : o < n
      · exact keep (by simp only [frz, if_pos hlt])
      cases hob : T.H.obj o with
      | cells cs =>
        have hR := hT.objs o ho
        rw [hob] at hR
        cases hR with
        | cells _ c e xs h1 h2 h3 h4 =>
          simp only [frz, if_neg hlt, hob, closed] at hc ⊢
          obtain ⟨g1, g2⟩ := h.new o (by omega) ho (by rw [hob]; trivial)
          obtain ⟨frk, h1, -⟩ := h1
          exact .ptrl _ (T.ι o).1 (T.ι o).2 off xs (frz_list (frz_ok hT h d) h2 hc) g1 g2 (fun j x hj => by rw [h.w]; simp [World.cell?, h1, h4 j x hj])
      | dead => exact keep (by simp only [frz, if_neg hlt, hob])
      | map _ _ _ => exact keep (by simp only [frz, if_neg hlt, hob])
      | iter _ _ => exact keep (by simp only [frz, if_neg hlt, hob])
    | row o off sz k cap m full ho hm q1 q2 q3 q4 =>
      by_cases hlt : o < n
      · exact keep (by simp only [frz, if_pos hlt])
      cases hob : T.H.obj o with
      | cells cs =>
        have hR := hT.objs o ho
        rw [hob] at hR
        cases hR with
        | cells _ c e xs h1 h2 h3 h4 =>
          by_cases hle : off + k * sz ≤ cs.length
          · simp only [frz, if_neg hlt, hob, if_pos hle, closed] at hc ⊢
            obtain ⟨g1, g2⟩ := h.new o (by omega) ho (by rw [hob]; trivial)
            have hl := h2.length
            refine .lst sz k cap _ (T.ι o).1 ((T.ι o).2 + off) ((xs.drop off).take (k * sz)) (frz_list (frz_ok hT h d) ((h2.drop off).take _) hc) (by simp; omega) g1 g2 (fun j x hj => ?_) q2
            rw [h.w]
            have hj' : xs[off + j]? = some x := by
              rw [List.getElem?_take] at hj
              split at hj
              · rwa [List.getElem?_drop] at hj
              · cases hj
            have := h4 _ x hj'
            obtain ⟨frk, h1, -⟩ := h1
            simp [World.cell?, h1, Nat.add_assoc, this]
          · exact keep (by simp only [frz, if_neg hlt, hob, if_neg hle])
      | dead => exact keep (by simp only [frz, if_neg hlt, hob])
      | map _ _ _ => exact keep (by simp only [frz, if_neg hlt, hob])
      | iter _ _ => exact keep (by simp only [frz, if_neg hlt, hob])
    | row0 o off sz off' m full ho hm =>
      by_cases hlt : o < n
      · exact keep (by simp only [frz, if_pos hlt])
      cases hob : T.H.obj o with
      | cells cs =>
        by_cases hle : off + 0 * sz ≤ cs.length
        · simp only [frz, if_neg hlt, hob, if_pos hle]
          simp only [Nat.zero_mul, List.take_zero, List.map_nil]
          exact .lst0 sz 0 _
        · exact keep (by simp only [frz, if_neg hlt, hob, if_neg hle])
      | dead => exact keep (by simp only [frz, if_neg hlt, hob])
      | map _ _ _ => exact keep (by simp only [frz, if_neg hlt, hob])
      | iter _ _ => exact keep (by simp only [frz, if_neg hlt, hob])

theorem restrict_ok {S T : St} (hS : Sim S) (hT : Sim T) (hE : Ext S T) {Hn : AHeap} (hsz : Hn.size = S.H.size) (hobj : ∀ o, o < S.H.size → Hn.obj o = T.H.obj o) (hwr : ∀ o, o < S.H.size → Hn.wr o = T.H.wr o) (hwr' : ∀ o, S.H.size ≤ o → Hn.wr o = S.H.wr o)
    (hsh : ∀ o, o < S.H.size → T.H.obj o = S.H.obj o ∨ closedO S.H.size (T.H.obj o) = true) {v : AV} {x : Value} (hv : VR T v x) {z : List Nat} (hc : closed S.H.size (frz T.H S.H.size z v) = true) :
    ∃ T', T'.w = T.w ∧ T'.H = Hn ∧ Sim T' ∧ Ext S T' ∧ VR T' (frz T.H S.H.size z v) x := by
  let T' : St := ⟨T.ι, Hn, T.w, fun b => T.fz b ∨ (b < T.w.heap.size ∧ (S.owned b ∨ S.w.heap.size ≤ b) ∧ ¬ ∃ o, o < S.H.size ∧ (T.H.obj o).live ∧ (T.ι o).1 = b)⟩
  have hown : ∀ b, T'.owned b → ∃ o, o < S.H.size ∧ (T.H.obj o).live ∧ (T.ι o).1 = b := by
    rintro b ⟨o, h1, h2, h3⟩
    have h1' : o < S.H.size := by rw [← hsz]; exact h1
    exact ⟨o, h1', by rw [← hobj o h1']; exact h2, h3⟩
  have hown' : ∀ b, T'.owned b → T.owned b := fun b hb => by
    obtain ⟨o, h1, h2, h3⟩ := hown b hb
    exact ⟨o, Nat.lt_of_lt_of_le h1 hE.objs, h2, h3⟩
  have hF : Fewer T T' := ⟨rfl, rfl, fun b hb => .inl hb, hown'⟩
  have hFz : Frozen S.H.size T T' := by
    refine ⟨hF, hsz, fun o h1 h2 h3 => ?_⟩
    have hno : ¬ ∃ o', o' < S.H.size ∧ (T.H.obj o').live ∧ (T.ι o').1 = (T.ι o).1 := by
      rintro ⟨o', g1, g2, g3⟩
      have := hT.inj o' o (Nat.lt_of_lt_of_le g1 hE.objs) h2 g2 h3 g3
      omega
    refine ⟨.inr ⟨hT.below o h2, ?_, hno⟩, fun hh => hno (hown _ hh)⟩
    by_cases hlt : (T.ι o).1 < S.w.heap.size
    · by_cases ho : S.owned (T.ι o).1
      · exact .inl ho
      · exact absurd ⟨o, h2, h3, rfl⟩ (hE.other _ (.inr hlt) ho).2
    · exact .inr (by omega)
  have hcl : ∀ o, o < S.H.size → closedO S.H.size (T.H.obj o) = true := fun o ho => by
    rcases hsh o ho with h | h
    · rw [h]; exact obj_closed (hS.objs o ho)
    · exact h
  refine ⟨T', rfl, rfl, ⟨fun o ho => ?_, fun o o' ho ho' hl hl' he => ?_, fun o ho => ?_, fun b hb => ?_⟩, ⟨hE.os, hE.tape, hE.output, hE.size, Nat.le_of_eq hsz.symm, hE.ι, hE.cells, fun b hb ho => ?_, fun o => ?_, fun o ho hw => ?_, fun b hb => .inl (hE.fz b hb), fun b hb => ?_⟩, ?_⟩
  · have ho' : o < S.H.size := by rw [← hsz]; exact ho
    show ObjR T' o (Hn.obj o)
    rw [hobj o ho']
    exact obj_cut hF (hT.objs o (Nat.lt_of_lt_of_le ho' hE.objs)) (by show closedO Hn.size _ = true; rw [hsz]; exact hcl o ho')
  · have h1 : o < S.H.size := by rw [← hsz]; exact ho
    have h2 : o' < S.H.size := by rw [← hsz]; exact ho'
    have hl1 : (T.H.obj o).live := by rw [← hobj o h1]; exact hl
    have hl2 : (T.H.obj o').live := by rw [← hobj o' h2]; exact hl'
    exact hT.inj o o' (Nat.lt_of_lt_of_le h1 hE.objs) (Nat.lt_of_lt_of_le h2 hE.objs) hl1 hl2 he
  · have h1 : o < S.H.size := by rw [← hsz]; exact ho
    exact hT.below o (Nat.lt_of_lt_of_le h1 hE.objs)
  · rcases hb with hb | hb
    · exact hT.lo b hb
    · exact hb.1
  · obtain ⟨h1, h2⟩ := hE.other b hb ho
    exact ⟨h1, fun hh => h2 (hown' b hh)⟩
  · show S.H.wr o ≤ Hn.wr o
    by_cases ho : o < S.H.size
    · rw [hwr o ho]; exact hE.wr o
    · rw [hwr' o (by omega)]; exact Nat.le_refl _
  · show Hn.obj o = S.H.obj o
    rw [hobj o ho]
    exact hE.quiet o ho (by rw [← hwr o ho]; exact hw)
  · rcases hb with hb | hb
    · exact hE.fzn b hb
    · exact .inr hb.2.1
  · exact frz_ok hT hFz z hv hc

/-- What a call leaves. -/
theorem back_ok {S T : St} (hS : Sim S) (hT : Sim T) (hE : Ext S T) {v : AV} {x : Value} (hv : VR T v x) (z : List Nat) :
    ∃ T', T'.w = T.w ∧ T'.H = (back z S.H v T.H).2 ∧ Sim T' ∧ Ext S T' ∧ VR T' (back z S.H v T.H).1 x := by
  unfold back
  split
  · rename_i hc
    obtain ⟨hc, hs⟩ := hc
    refine restrict_ok (Hn := S.H.cut T.H) hS hT hE rfl (fun o ho => ?_) (fun o ho => ?_) (fun o ho => ?_) hs.obj hv hc
    · simp only [AHeap.cut]; rw [if_pos ho]
    · simp only [AHeap.cut]; rw [if_pos ho]
    · simp only [AHeap.cut]; rw [if_neg (by omega)]
  · exact ⟨T, rfl, rfl, hT, hE, hv⟩

section
variable {P : Program} {K : TypeId → Option (List Sc)}

/-- What makes a row of cells: what it does, whatever else there is. -/
theorem new_exec {S : St} {y : Oper} {e : Env} {a : Act} (hE : EnvR S e a.tmps) (hy : isAlloc y.op = true) {G0 : AHeap} {r : AV × AHeap} (h : step1 P K y.op e G0 = .pr (some r)) (hpl : ∀ t n ps, y.op = .buildSlice t n ps → plainO (r.2.obj G0.size) = true) :
    ∃ (mk : Nat → AV) (z : List AV) (c : Array Value) (ty : TypeId) (x : Value), (∀ G, step1 P K y.op e G = .pr (some (mk G.size, G.new (.cells z)))) ∧ (execOp a.eval y).run P S.w = .ok (.value x) (S.w.alloc (.cells c ty)) ∧
      (∀ U : St, VRs U z c.toList) ∧ ∀ (U : St) (k : Nat), k < U.H.size → U.ι k = (S.w.heap.size, 0) → cellsAt U.w S.w.heap.size c.size → VR U (mk k) x := by
  obtain ⟨dst, op, ty, pos, after, guard⟩ := y
  simp only at hy h hpl
  cases op with
  | buildSlice t n ps =>
    simp only [step1, Stp.pr.injEq, Option.bind_eq_some_iff] at h
    obtain ⟨l, hl, h⟩ := h
    obtain ⟨v, H'⟩ := r
    obtain ⟨cs, s, out, e', hG, rfl, rfl, hrun, hv, hlen, hp, hb⟩ := abuildSlice_run hE hl h
    have hpl := hpl t n ps rfl
    simp only [AHeap.new, if_true, plainO] at hpl
    refine ⟨fun k => .row k 0 s n true, cs, out, e', .slice (some ⟨S.w.heap.size, 0, none⟩) n n, fun G => by simp only [step1, hl, Option.bind_some, hG], ?_, fun U => plain_vrs hpl hv, fun U k hk hι hc => ?_⟩
    · simp only [execOp, Sem.run_bind, hrun, Result.andThen_ok]; rfl
    · have := VR.row_new (S := U) (H := k) s n n _ true hk (by rw [hι]; exact hc) (by rw [hι]) (by omega) (Nat.le_refl _) (by
        have : n ≤ n * s := Nat.le_mul_of_pos_right n hp
        omega) (fun _ => rfl)
      rwa [hι] at this
  | alloc t =>
    simp only [step1, Stp.pr.injEq, Option.map_eq_some_iff] at h
    obtain ⟨z, hz, _⟩ := h
    obtain ⟨ti, zv, hti, hzz, _⟩ := tZ_some S hz
    refine ⟨fun k => .ptr k 0, z, zv.cells, t, .pointer (some ⟨S.w.heap.size, 0, none⟩), fun G => by simp [step1, hz], by simp [execOp, Instr.alloc, run_zeroValue hti hzz, newVar, newRow], fun U => ?_, fun U k hk hι hc => ?_⟩
    · obtain ⟨ti', zv', q1, q2, q3⟩ := tZ_some U hz
      rw [hti] at q1; cases q1
      rw [hzz] at q2; cases q2
      exact q3
    · have := VR.ptr_new (S := U) (H := k) (m := zv.cells.size) hk (by rw [hι]; exact hc) (by rw [hι])
      rw [hι] at this
      exact this
  | makeSlice t l c =>
    simp only [step1, Stp.pr.injEq] at h
    split at h <;> first | (cases h; done) | skip
    rename_i k n k' m hl hc
    have vl := evalOpd_sound hE hl
    have vc := evalOpd_sound hE hc
    generalize hle : a.eval l = y at vl
    generalize hce : a.eval c = w at vc
    cases vl; cases vc
    unfold amake at h
    split at h <;> first | (cases h; done) | skip
    rename_i e' hu
    simp only [Option.bind_eq_some_iff] at h
    obtain ⟨sz, hsz, by_, hby, z, hz, h⟩ := h
    split at h <;> first | (cases h; done) | skip
    rename_i hcond
    obtain ⟨h0, h1, h2, h3, h4, h5⟩ := hcond
    obtain ⟨i, zv, hi, hzz, hvz⟩ := tZ_some S hz
    have hby' : i.bytes = by_ := by simpa [tB, hi] using hby
    have hsz' : i.size = sz := by simpa [tS, hi] using hsz
    have hzs : zv.cells.size = i.size := by have := hvz.length; simp at this; omega
    have wl : IntKind.i64.wrap n = n := by simp [IntKind.wrap, IntKind.bits, IntKind.signed]; omega
    have wc : IntKind.i64.wrap m = m := by simp [IntKind.wrap, IntKind.bits, IntKind.signed]; omega
    have hbig : ¬ (281474976710656 < (i.bytes : Int) * m) := by rw [hby', Int.mul_comm]; omega
    refine ⟨fun k => .row k 0 sz n.toNat (decide (n = m)), (List.replicate m.toNat z).flatten, (Array.range (m.toNat * zv.cells.size)).map (zv.cells[· % zv.cells.size]!), e', .slice (some ⟨S.w.heap.size, 0, none⟩) n.toNat m.toNat, fun G => ?_, ?_, fun U => ?_, fun U k hk hι hc => ?_⟩
    · simp only [step1, hl, hc, amake, hu, hsz, hby, hz, Option.bind_some]
      rw [if_pos ⟨h0, h1, h2, h3, h4, h5⟩]
    · have n1 : ¬ (m < 0) := by omega
      have n2 : ¬ (n < 0) := by omega
      have n3 : ¬ (m < n) := by omega
      by_cases hn : m.toNat = 0
      · simp [execOp, hle, hce, Instr.makeSlice, run_underlying hu, asInt, asIntOf, run_typeInfo hi, wl, wc, n1, n2, n3, hbig, sizeOf, hn, newRow, show Array.range 0 = #[] from rfl]
      · have hn' : ¬ (m.toNat * i.size = 0) := by
          intro h; rcases Nat.mul_eq_zero.1 h with h | h <;> omega
        simp [execOp, hle, hce, Instr.makeSlice, run_underlying hu, asInt, asIntOf, run_typeInfo hi, wl, wc, n1, n2, n3, hbig, sizeOf, hn', newRow, run_zeroValue hi hzz, hzs]
    · obtain ⟨i', zv', q1, q2, q3⟩ := tZ_some U hz
      rw [hi] at q1; cases q1
      rw [hzz] at q2; cases q2
      exact zeros_toList q3 (by omega) m.toNat
    · have := VR.row_new (S := U) (H := k) sz n.toNat m.toNat _ (decide (n = m)) hk (by rw [hι]; exact hc) (by rw [hι]) (by simp [hzs, hsz']) (by omega) (by omega) (by intro h; simp at h; omega)
      rwa [hι] at this
  | _ => simp [isAlloc] at hy
end

end Go.Proofs.Ytghjglnebcpcmaa
/-! The interpreter is right: every order of a region; bodies; calls. -/
namespace Go.Proofs.Ytghjglnebcpcmaa
open Go.RowKit

section
variable {P : Program} {K : TypeId → Option (List Sc)}

theorem before_go (md : Region.Mode) : ∀ (l : List Oper) (acc : Array Nat) (pre : List Oper), acc.size = pre.length →
    (∀ i o, pre[i]? = some o → ∀ m, acc[i]? = some m → ∀ j, m.testBit j = true → ∃ e ∈ o.after.toList, Region.binds .any e = true ∧ (e.on = j ∨ (e.on < i ∧ (acc.getD e.on 0).testBit j = true))) →
    let out := l.foldl (fun (acc : Array Nat) o => acc.push (o.after.foldl (fun s e => if Region.binds .any e then s ||| 2 ^ e.on ||| acc.getD e.on 0 else s) 0)) acc
    out.size = (pre ++ l).length ∧ ∀ i o, (pre ++ l)[i]? = some o → ∀ m, out[i]? = some m → ∀ j, m.testBit j = true → ∃ e ∈ o.after.toList, Region.binds .any e = true ∧ (e.on = j ∨ (e.on < i ∧ (out.getD e.on 0).testBit j = true))
  | [], acc, pre, hs, h => by
    simp only [List.foldl_nil, List.append_nil]
    exact ⟨hs, h⟩
  | o :: l, acc, pre, hs, h => by
    simp only [List.foldl_cons]
    have key := before_go md l (acc.push (o.after.foldl (fun s e => if Region.binds .any e then s ||| 2 ^ e.on ||| acc.getD e.on 0 else s) 0)) (pre ++ [o]) (by simp [hs]) ?_
    · simpa [List.append_assoc] using key
    · intro i o' ho' m hm j hj
      by_cases hi : i < pre.length
      · rw [List.getElem?_append_left hi] at ho'
        rw [Array.getElem?_push_lt (by omega)] at hm
        rw [← Array.getElem?_eq_getElem] at hm
        obtain ⟨e, he, hb, hor⟩ := h i o' ho' m hm j hj
        refine ⟨e, he, hb, hor.imp id fun ⟨h1, h2⟩ => ⟨h1, ?_⟩⟩
        have : (acc.push (o.after.foldl (fun s e => if Region.binds .any e then s ||| 2 ^ e.on ||| acc.getD e.on 0 else s) 0)).getD e.on 0 = acc.getD e.on 0 := by
          simp only [Array.getD_eq_getD_getElem?]
          rw [Array.getElem?_push, if_neg (by omega)]
        rw [this]; exact h2
      · have hi' : i = pre.length := by
          have := (List.getElem?_eq_some_iff.1 ho').1
          simp at this
          omega
        subst hi'
        rw [List.getElem?_append_right (by omega)] at ho'
        simp at ho'
        subst ho'
        rw [Array.getElem?_push, if_pos hs.symm] at hm
        cases hm
        have fold : ∀ (es : List Edge) (s : Nat), (es.foldl (fun s e => if Region.binds .any e then s ||| 2 ^ e.on ||| acc.getD e.on 0 else s) s).testBit j = true → s.testBit j = true ∨ ∃ e ∈ es, Region.binds .any e = true ∧ (e.on = j ∨ (acc.getD e.on 0).testBit j = true) := by
          intro es
          induction es with
          | nil => intro s h; exact .inl h
          | cons e es ih =>
            intro s h
            simp only [List.foldl_cons] at h
            rcases ih _ h with h | ⟨e', he', hh⟩
            · split at h
              · rename_i hb
                simp only [Nat.testBit_or, Bool.or_eq_true] at h
                rcases h with (h | h) | h
                · exact .inl h
                · rw [Nat.testBit_two_pow] at h
                  exact .inr ⟨e, by simp, hb, .inl (by simpa using h)⟩
                · exact .inr ⟨e, by simp, hb, .inr h⟩
              · exact .inl h
            · exact .inr ⟨e', by simp [he'], hh⟩
        rw [← Array.foldl_toList] at hj
        rcases fold _ 0 hj with h0 | ⟨e, he, hb, hor⟩
        · simp at h0
        · refine ⟨e, he, hb, hor.imp id fun h2 => ?_⟩
          have hlt : e.on < pre.length := by
            rcases Nat.lt_or_ge e.on pre.length with h | h
            · exact h
            · rw [Array.getD_eq_getD_getElem?, Array.getElem?_eq_none (by omega)] at h2
              simp at h2
          refine ⟨hlt, ?_⟩
          have : (acc.push (o.after.toList.foldl (fun s e => if Region.binds .any e then s ||| 2 ^ e.on ||| acc.getD e.on 0 else s) 0)).getD e.on 0 = acc.getD e.on 0 := by
            simp only [Array.getD_eq_getD_getElem?]
            rw [Array.getElem?_push, if_neg (by omega)]
          rw [← Array.foldl_toList, this]; exact h2

theorem before_spec (ops : Array Oper) : (Region.before ops).size = ops.size ∧ ∀ i o, ops[i]? = some o → ∀ m, (Region.before ops)[i]? = some m → ∀ j, m.testBit j = true → ∃ e ∈ o.after.toList, Region.binds .any e = true ∧ (e.on = j ∨ (e.on < i ∧ ((Region.before ops).getD e.on 0).testBit j = true)) := by
  have := before_go .any ops.toList #[] [] rfl (by intro i o h; simp at h)
  unfold Region.before
  rw [← Array.foldl_toList]
  simpa using this

/-- Which operations are left. -/
def left (n : Nat) (listed : Array Bool) : List Nat := (List.range n).filter fun i => !listed.getD i true

theorem mem_left {n : Nat} {listed : Array Bool} {i : Nat} : i ∈ left n listed ↔ i < n ∧ listed.getD i true = false := by
  simp [left]

theorem left_split {n : Nat} {listed : Array Bool} (hn : listed.size = n) {i : Nat} (hi : i ∈ left n listed) : ∃ pre post, left n listed = pre ++ i :: post ∧ (∀ j ∈ pre, j < i ∧ listed.getD j true = false) ∧ left n (listed.setIfInBounds i true) = pre ++ post := by
  obtain ⟨h1, h2⟩ := mem_left.1 hi
  have hr : List.range n = List.range i ++ i :: (List.range' (i + 1) (n - (i + 1))) := by
    rw [List.range_eq_range', List.range_eq_range']
    have : n = i + (1 + (n - (i + 1))) := by omega
    conv => lhs; rw [this]
    rw [← List.range'_append_1, ← List.range'_append_1]
    simp [List.range'_one]
  refine ⟨(List.range i).filter fun j => !listed.getD j true, (List.range' (i + 1) (n - (i + 1))).filter fun j => !listed.getD j true, ?_, ?_, ?_⟩
  · unfold left
    rw [hr, List.filter_append, List.filter_cons]
    rw [if_pos (by rw [h2]; rfl)]
  · intro j hj
    simp only [List.mem_filter, List.mem_range, Bool.not_eq_true'] at hj
    exact hj
  · have hself : (listed.setIfInBounds i true).getD i true = true := by
      rw [Array.getD_eq_getD_getElem?]
      simp [hn, h1]
    have hoth : ∀ j, j ≠ i → (listed.setIfInBounds i true).getD j true = listed.getD j true := by
      intro j hj
      simp only [Array.getD_eq_getD_getElem?]
      rw [Array.getElem?_setIfInBounds_ne (Ne.symm hj)]
    unfold left
    rw [hr, List.filter_append, List.filter_cons, if_neg (by rw [hself]; simp)]
    congr 1
    · apply List.filter_congr
      intro j hj
      rw [hoth j (by have := List.mem_range.1 hj; omega)]
    · apply List.filter_congr
      intro j hj
      rw [hoth j (by have := List.mem_range'_1.1 hj; omega)]

def Closed (ops : Array Oper) (listed : Array Bool) : Prop := ∀ i o, ops[i]? = some o → listed.getD i true = true → ∀ e ∈ o.after.toList, Region.binds .any e = true → listed.getD e.on false = true

theorem getD_tf {a : Array Bool} {i : Nat} (hi : i < a.size) : a.getD i true = a.getD i false := by
  simp [Array.getD, hi]

theorem mem_ready {ops : Array Oper} {listed : Array Bool} {i : Nat} : i ∈ Region.ready .any ops listed ↔ i < ops.size ∧ listed.getD i true = false ∧ ∃ o, ops[i]? = some o ∧ ∀ e ∈ o.after.toList, Region.binds .any e = true → listed.getD e.on false = true := by
  unfold Region.ready
  simp only [List.mem_filter, List.mem_range, Bool.and_eq_true, Bool.not_eq_true']
  constructor
  · rintro ⟨h1, h2, h3⟩
    refine ⟨h1, h2, ops[i], by simp [h1], ?_⟩
    rw [Array.getElem?_eq_getElem h1] at h3
    simp only [Option.map_some, Option.getD_some, Array.all_eq_true_iff_forall_mem] at h3
    intro e he hb
    have := h3 e (Array.mem_toList_iff.1 he)
    simpa [hb] using this
  · rintro ⟨h1, h2, o, ho, h3⟩
    refine ⟨h1, h2, ?_⟩
    rw [ho]
    simp only [Option.map_some, Option.getD_some, Array.all_eq_true_iff_forall_mem]
    intro e he
    by_cases hb : Region.binds .any e = true
    · simp [hb, h3 e (Array.mem_toList_iff.2 he) hb]
    · simp [hb]

theorem before_listed {ops : Array Oper} {listed : Array Bool} (hn : listed.size = ops.size) (hcl : Closed ops listed) : ∀ (i : Nat) (o : Oper), ops[i]? = some o → (∀ e ∈ o.after.toList, Region.binds .any e = true → listed.getD e.on false = true) → ∀ j, ((Region.before ops).getD i 0).testBit j = true → listed.getD j false = true := by
  intro i
  induction i using Nat.strongRecOn with
  | _ i ih =>
    intro o ho hr j hj
    obtain ⟨hsz, hsp⟩ := before_spec ops
    have hi : i < (Region.before ops).size := by rw [hsz]; exact (Array.getElem?_eq_some_iff.1 ho).1
    have hm : (Region.before ops)[i]? = some ((Region.before ops).getD i 0) := by simp [Array.getD, hi]
    obtain ⟨e, he, hb, hor⟩ := hsp i o ho _ hm j hj
    have hl := hr e he hb
    rcases hor with rfl | ⟨hlt, hj'⟩
    · exact hl
    · have hes : e.on < ops.size := by have := (Array.getElem?_eq_some_iff.1 ho).1; omega
      refine ih e.on hlt ops[e.on] (by simp [hes]) ?_ j hj'
      exact fun e' he' hb' => hcl e.on ops[e.on] (by simp [hes]) (by rw [getD_tf (by omega)]; exact hl) e' he' hb'

theorem flt_sep {D : List Nat} {y : Oper} {j : Nat} (h : flt D y j = true) : sepA D y = true := by
  unfold flt at h
  simp only [Bool.and_eq_true] at h
  exact h.2
theorem flt_spec {D : List Nat} {y : Oper} {j : Nat} (h : flt D y j = true) : ∃ d, isAlloc y.op = true ∧ y.guard = none ∧ y.dst = some d ∧ ∀ x ∈ y.op.operands.toList, x ≠ .tmp d := by
  unfold flt at h
  simp only [Bool.and_eq_true] at h
  obtain ⟨⟨⟨⟨⟨_, h1⟩, h2⟩, h3⟩, h4⟩, _⟩ := h
  cases hd : y.dst <;> simp [hd] at h3
  rename_i d
  cases hg : y.guard <;> simp [hg] at h2
  refine ⟨d, h1, rfl, rfl, fun x hx e => ?_⟩
  unfold ownOK at h4
  rw [List.all_eq_true] at h4
  have := h4 x hx
  rw [e] at this
  simp [hd] at this

/-- What looks at no slot that was written evaluates as it did. -/
theorem step1_put {o : Op} {e : Env} {d : Option Nat} {v : Option AV} (h : ∀ k, d = some k → ∀ x ∈ o.operands.toList, x ≠ .tmp k) {G : AHeap} : step1 P K o (e.putO d v) G = step1 P K o e G := by
  refine step1_env fun x hx => ?_
  cases x with
  | tmp t =>
    simp only [evalOpd]
    exact Env.putO_other fun k hk e => h k hk _ hx (by rw [e])
  | _ => rfl

/-- A row of cells that the machine has made ahead of its turn: its block is no object's yet. -/
structure Flo (P : Program) (K : TypeId → Option (List Sc)) (S0 S : St) (ops : Array Oper) (e : Env) (a : Act) (i b : Nat) : Prop where
  ex : ∃ (o : Oper) (d : Nat) (z : List AV) (c : Array Value) (ty : TypeId) (mk : Nat → AV) (x : Value), ops[i]? = some o ∧ o.guard = none ∧ o.dst = some d ∧ (∀ G : AHeap, step1 P K o.op e G = .pr (some (mk G.size, G.new (.cells z)))) ∧ (∀ U : St, VRs U z c.toList) ∧ S.w.heap[b]? = some (.cells c ty (0, 0)) ∧ a.tmps[d]? = some x ∧
    ∀ (U : St) (k : Nat), k < U.H.size → U.ι k = (b, 0) → cellsAt U.w b c.size → VR U (mk k) x
  free : ¬ S.owned b
  lo : S0.w.heap.size ≤ b
  nf : ¬ S.fz b
theorem Flo.lt {S0 S : St} {ops : Array Oper} {e : Env} {a : Act} {i b : Nat} (h : Flo P K S0 S ops e a i b) : b < S.w.heap.size := by
  obtain ⟨o, d, z, c, ty, mk, x, _, _, _, _, _, h1, _⟩ := h.ex
  exact (Array.getElem?_eq_some_iff.1 h1).1
theorem Flo.step {S0 S T : St} {ops : Array Oper} {e e' : Env} {a a' : Act} {i b : Nat} (h : Flo P K S0 S ops e a i b) (hE : Ext S T) (ht : ∀ o, ops[i]? = some o → ∀ d, o.dst = some d → a'.tmps[d]? = a.tmps[d]?)
    (he : ∀ o, ops[i]? = some o → ∀ G, step1 P K o.op e' G = step1 P K o.op e G) : Flo P K S0 T ops e' a' i b := by
  obtain ⟨o, d, z, c, ty, mk, x, h1, h3, h4, h5, h6, h7, h8, h9⟩ := h.ex
  obtain ⟨g1, g2⟩ := hE.other b (.inr h.lt) h.free
  exact ⟨⟨o, d, z, c, ty, mk, x, h1, h3, h4, fun G => by rw [he o h1 G]; exact h5 G, h6, by rw [g1]; exact h7, by rw [ht o h1 d h4]; exact h8, h9⟩, g2, h.lo, fun hb => by
    rcases hE.fzn b hb with h9 | h9 | h9
    · exact h.nf h9
    · exact h.free h9
    · have := h.lt; omega⟩

def fltAt (D : List Nat) (ops : Array Oper) (i : Nat) : Prop := ∃ o, ops[i]? = some o ∧ flt D o i = true

theorem fltAt.at {D : List Nat} {ops : Array Oper} {i : Nat} (h : fltAt D ops i) {o : Oper} (ho : ops[i]? = some o) : flt D o i = true := by
  obtain ⟨o', h1, h2⟩ := h
  rw [ho] at h1; cases h1; exact h2
/-- What floats doesn't look at another such one's slot. -/
def FD (D : List Nat) (ops : Array Oper) : Prop := ∀ i j x y, ops[i]? = some x → ops[j]? = some y → flt D x i = true → flt D y j = true → i ≠ j → ∀ k, x.dst = some k → ∀ z ∈ y.op.operands.toList, z ≠ .tmp k

/-- What holds between two of a region's operations, of which the machine has carried out 'listed', the interpreter 'vl'. -/
structure Inv (P : Program) (K : TypeId → Option (List Sc)) (C : Calling) (D : List Nat) (ops : Array Oper) (N : Nat) (r : Env × AHeap) (S0 : St) (listed vl : Array Bool) (flo : Nat → Nat) (S : St) (e : Env) (a : Act) : Prop where
  n1 : listed.size = ops.size
  n2 : vl.size = ops.size
  closed : Closed ops listed
  sub : ∀ i, vl.getD i true = true → listed.getD i true = true
  fl : ∀ i, i < ops.size → listed.getD i true = true → vl.getD i true = false → fltAt D ops i ∧ Flo P K S0 S ops e a i (flo i)
  ne : ∀ i j, i < ops.size → j < ops.size → listed.getD i true = true → vl.getD i true = false → listed.getD j true = true → vl.getD j true = false → i ≠ j → flo i ≠ flo j
  sim : Sim S
  ext : ExtB S0.w.heap.size S0 S
  env : EnvR S e a.tmps
  size : a.tmps.size = N
  defers : a.defers = []
  run : evalIx (P := P) (K := K) C D ops (left ops.size vl) e S.H = some r

theorem getD_set_self {a : Array Bool} {i : Nat} (hi : i < a.size) : (a.setIfInBounds i true).getD i true = true := by
  rw [Array.getD_eq_getD_getElem?]; simp [hi]
theorem getD_set_ne {a : Array Bool} {i j : Nat} (h : i ≠ j) : (a.setIfInBounds i true).getD j true = a.getD j true := by
  simp only [Array.getD_eq_getD_getElem?]
  rw [Array.getElem?_setIfInBounds_ne h]

theorem wants_free {e : Env} {ops : Array Oper} {o : Oper} (h : o.guard = none) : wants e ops o = some true := by
  unfold wants; rw [h]

/-- What floats and may come first becomes an object. -/
theorem adopt {C : Calling} {D : List Nat} {ops : Array Oper} {N : Nat} {r : Env × AHeap} {S0 : St} {listed vl : Array Bool} {flo : Nat → Nat} {S : St} {e : Env} {a : Act} (I : Inv P K C D ops N r S0 listed vl flo S e a)
    {i : Nat} (him : i ∈ left ops.size vl) (hi : listed.getD i true = true) (hfd : FD D ops) (hfr : ∃ e1 H1, stepIx (P := P) (K := K) C D ops i e S.H = some (e1, H1) ∧ evalIx (P := P) (K := K) C D ops (left ops.size (vl.setIfInBounds i true)) e1 H1 = some r) :
    ∃ T e', T.w = S.w ∧ Inv P K C D ops N r S0 listed (vl.setIfInBounds i true) flo T e' a := by
  obtain ⟨g1, g2⟩ := mem_left.1 him
  obtain ⟨hflt, F⟩ := I.fl i g1 hi g2
  have hfi : ∀ {o}, ops[i]? = some o → flt D o i = true := fun h => hflt.at h
  obtain ⟨o, d, z, c, ty, mk, xv, h1, h3, h4, h5, h6, h7, h8, h9⟩ := F.ex
  have hb := F.lt
  generalize hbe : flo i = b at *
  obtain ⟨e1, H1, hs, hrun⟩ := hfr
  obtain ⟨o', ho', hs⟩ := stepIx_some.1 hs
  rw [h1] at ho'
  cases ho'
  rw [wants_free h3] at hs
  rcases hs with ⟨_, v, hv, _, rfl⟩ | ⟨hw, _⟩
  rotate_left
  · cases hw
  have hev : evalOp P K C o.op e S.H = some (mk S.H.size, S.H.new (.cells z)) := evalOp_of_pr (h5 S.H)
  rw [hev] at hv
  cases hv
  let T : St := ⟨fun k => if k = S.H.size then (b, 0) else S.ι k, S.H.new (.cells z), S.w, S.fz⟩
  have hTι : ∀ k, k < S.H.size → T.ι k = S.ι k := fun k hk => by show (if k = S.H.size then (b, 0) else S.ι k) = _; rw [if_neg (by omega)]
  have hTs : T.ι S.H.size = (b, 0) := by show (if S.H.size = S.H.size then (b, 0) else _) = _; rw [if_pos rfl]
  have hTo : ∀ k, k < S.H.size → T.H.obj k = S.H.obj k := fun k hk => by show (S.H.new _).obj k = _; simp only [AHeap.new]; rw [if_neg (by omega)]
  have hTso : T.H.obj S.H.size = .cells z := by show (S.H.new _).obj S.H.size = _; simp [AHeap.new]
  have hTz : T.H.size = S.H.size + 1 := rfl
  have hown : ∀ b', T.owned b' → S.owned b' ∨ b' = b := by
    rintro b' ⟨k, k1, k2, k3⟩
    by_cases hk : k = S.H.size
    · subst hk; rw [hTs] at k3; exact .inr k3.symm
    · have hk' : k < S.H.size := by rw [hTz] at k1; omega
      rw [hTι k hk'] at k3; rw [hTo k hk'] at k2
      exact .inl ⟨k, hk', k2, k3⟩
  have hE : ExtB 0 S T := by
    refine ⟨rfl, rfl, rfl, Nat.le_refl _, Nat.le_succ _, hTι, fun _ _ h => h, fun b' hb' hn => ⟨rfl, fun ho => ?_⟩, fun _ => Nat.le_refl _, fun k hk _ => hTo k hk, fun _ h => h, fun _ h => .inl h⟩
    rcases hown b' ho with h | h
    · exact hn h
    · rcases hb' with h' | h'
      · rw [h] at h'; exact F.nf h'
      · omega
  have hcell : cellsAt T.w b c.size := ⟨c, ty, (0, 0), h7, rfl⟩
  have hsim : Sim T := by
    refine ⟨fun k hk => ?_, fun k k' hk hk' hlv hlv' he => ?_, fun k hk => ?_, I.sim.lo⟩
    · by_cases hks : k = S.H.size
      · subst hks
        rw [hTso]
        refine .cells z c ty c.toList ?_ (h6 T) ?_ ?_
        · rw [hTs]; exact .z h7
        · rw [hTs]; simp
        · intro j x hj; rw [hTs]; simpa using hj
      · have hk' : k < S.H.size := by rw [hTz] at hk; omega
        rw [hTo k hk']
        exact (I.sim.objs k hk').same hE hk' rfl
    · have case1 : ∀ q, q < S.H.size → (T.H.obj q).live → (T.ι q).1 ≠ b := by
        intro q hq hlq e
        rw [hTo q hq] at hlq
        rw [hTι q hq] at e
        exact F.free ⟨q, hq, hlq, e⟩
      by_cases hks : k = S.H.size <;> by_cases hks' : k' = S.H.size
      · omega
      · rw [hks, hTs] at he
        exact absurd he.symm (case1 k' (by rw [hTz] at hk'; omega) hlv')
      · rw [hks', hTs] at he
        exact absurd he (case1 k (by rw [hTz] at hk; omega) hlv)
      · have q1 : k < S.H.size := by rw [hTz] at hk; omega
        have q2 : k' < S.H.size := by rw [hTz] at hk'; omega
        rw [hTι k q1, hTι k' q2] at he
        rw [hTo k q1] at hlv
        rw [hTo k' q2] at hlv'
        exact I.sim.inj k k' q1 q2 hlv hlv' he
    · by_cases hks : k = S.H.size
      · subst hks; rw [hTs]; exact hb
      · have hk' : k < S.H.size := by rw [hTz] at hk; omega
        rw [hTι k hk']; exact I.sim.below k hk'
  refine ⟨T, e.putO o.dst (some (mk S.H.size)), rfl, ⟨I.n1, by simp [I.n2], I.closed, fun k hk => ?_, fun k hk hk1 hk2 => ?_, fun k k' hk hk' a1 a2 b1 b2 hne => ?_, hsim, ?_, ?_, I.size, I.defers, hrun⟩⟩
  · by_cases hki : i = k
    · subst hki; exact hi
    · rw [getD_set_ne hki] at hk; exact I.sub k hk
  · have hki : i ≠ k := by
      rintro rfl; rw [getD_set_self (by rw [I.n2]; exact g1)] at hk2; cases hk2
    rw [getD_set_ne hki] at hk2
    obtain ⟨q1, q2⟩ := I.fl k hk hk1 hk2
    refine ⟨q1, ⟨?_, fun ho => ?_, q2.lo, q2.nf⟩⟩
    · obtain ⟨ok, dk, zk, ck, tyk, mkk, xk, p1, p2, p3, p4, p5⟩ := q2.ex
      exact ⟨ok, dk, zk, ck, tyk, mkk, xk, p1, p2, p3, fun G => by rw [step1_put fun kk hkk => hfd i k o ok h1 p1 (hfi h1) (q1.at p1) hki kk hkk]; exact p4 G, p5⟩
    rcases hown _ ho with h | h
    · exact q2.free h
    · exact I.ne k i hk g1 hk1 hk2 hi g2 (Ne.symm hki) (by rw [h, hbe])
  · have q1 : i ≠ k := by rintro rfl; rw [getD_set_self (by rw [I.n2]; exact g1)] at a2; cases a2
    have q2 : i ≠ k' := by rintro rfl; rw [getD_set_self (by rw [I.n2]; exact g1)] at b2; cases b2
    rw [getD_set_ne q1] at a2
    rw [getD_set_ne q2] at b2
    exact I.ne k k' hk hk' a1 a2 b1 b2 hne
  · have hx := I.ext
    refine ⟨hx.os, hx.tape, hx.output, hx.size, Nat.le_trans hx.objs (Nat.le_succ _), fun k hk => (hTι k (Nat.lt_of_lt_of_le hk hx.objs)).trans (hx.ι k hk), hx.cells, fun b' hb' hn => ?_, hx.wr, fun k hk hw => (hTo k (Nat.lt_of_lt_of_le hk hx.objs)).trans (hx.quiet k hk hw), hx.fz, hx.fzn⟩
    obtain ⟨q1, q2⟩ := hx.other b' hb' hn
    refine ⟨q1, fun ho => ?_⟩
    rcases hown b' ho with h | h
    · exact q2 h
    · have := F.lo
      rcases hb' with h' | h'
      · rw [h] at h'; exact F.nf (hx.fz _ h')
      · omega
  · intro s u hu
    rw [h4] at hu
    unfold Env.putO at hu
    split at hu
    · rename_i hd
      cases hd
      cases hu
      exact ⟨_, h8, h9 T S.H.size (by rw [hTz]; omega) hTs hcell⟩
    · obtain ⟨x, q1, q2⟩ := I.env s u hu
      exact ⟨x, q1, q2.ext hE⟩

/-- All that float at the head become objects. -/
theorem settle {C : Calling} {D : List Nat} {ops : Array Oper} (hfd : FD D ops) {N : Nat} {r : Env × AHeap} {S0 : St} {listed : Array Bool} {flo : Nat → Nat} {a : Act} : ∀ (k : Nat) {vl : Array Bool} {S : St} {e : Env}, (left ops.size vl).length = k → Inv P K C D ops N r S0 listed vl flo S e a →
    ∃ vl' S' e', S'.w = S.w ∧ Inv P K C D ops N r S0 listed vl' flo S' e' a ∧ ∀ i rest, left ops.size vl' = i :: rest → listed.getD i true = false
  | 0, vl, S, e, hk, I => ⟨vl, S, e, rfl, I, fun i rest h => by rw [h] at hk; cases hk⟩
  | k + 1, vl, S, e, hk, I => by
    cases hl : left ops.size vl with
    | nil => rw [hl] at hk; cases hk
    | cons i rest =>
      cases hi : listed.getD i true with
      | false => exact ⟨vl, S, e, rfl, I, fun j rest' h => by rw [hl] at h; cases h; exact hi⟩
      | true =>
        have him : i ∈ left ops.size vl := by rw [hl]; simp
        obtain ⟨pre, post, hsp, hpre, hnext⟩ := left_split I.n2 him
        have hpn : pre = [] := by
          cases pre with
          | nil => rfl
          | cons p pre =>
            rw [hl] at hsp
            simp only [List.cons_append, List.cons.injEq] at hsp
            have := (hpre p (by simp)).1
            omega
        subst hpn
        rw [hl] at hsp
        simp only [List.nil_append, List.cons.injEq, true_and] at hsp hnext
        subst hsp
        have t2 := hnext
        obtain ⟨T, e1, t1, I1⟩ := adopt I him hi hfd (by
          have hrun := I.run
          rw [hl] at hrun
          simp only [evalIx, Option.bind_eq_some_iff] at hrun
          obtain ⟨⟨e1, H1⟩, hs, hrun⟩ := hrun
          exact ⟨e1, H1, hs, by rw [hnext]; exact hrun⟩)
        obtain ⟨vl', S', e', s1, I', s2⟩ := settle hfd k (by rw [t2]; rw [hl] at hk; simpa using hk) I1
        exact ⟨vl', S', e', s1.trans t1, I', s2⟩

/-- What floats and must come ahead of the operation i becomes objects. -/
theorem settleB (hK : KeysOK P K) {C : Calling} (hC : CallOK P C) {D : List Nat} {ops : Array Oper} (hfd : FD D ops) {N : Nat} (hD : dstOK N ops = true) {r : Env × AHeap} {S0 : St} {listed : Array Bool} {flo : Nat → Nat} {a : Act} {i : Nat}
    (hbef : ∀ j, ((Region.before ops).getD i 0).testBit j = true → j < ops.size → listed.getD j true = true)
    (hmv : ∀ j m x y, ops[m]? = some x → ops[j]? = some y → m < j → flt D y j = true → ((Region.before ops).getD i 0).testBit j = true → ((Region.before ops).getD i 0).testBit m = true ∨ pairOK ops D m j x y = true) : ∀ (k : Nat) {vl : Array Bool} {S : St} {e : Env}, (left ops.size vl).length = k → Inv P K C D ops N r S0 listed vl flo S e a →
    ∃ vl' S' e', S'.w = S.w ∧ Inv P K C D ops N r S0 listed vl' flo S' e' a ∧ ∀ j, j ∈ left ops.size vl' → listed.getD j true = true → ((Region.before ops).getD i 0).testBit j = false
  | k, vl, S, e, hk, I => by
    by_cases hex : ∃ j, j ∈ left ops.size vl ∧ listed.getD j true = true ∧ ((Region.before ops).getD i 0).testBit j = true
    · -- the first of them
      have hfirst : ∃ j, j ∈ left ops.size vl ∧ listed.getD j true = true ∧ ((Region.before ops).getD i 0).testBit j = true ∧ ∀ m, m < j → m ∈ left ops.size vl → ((Region.before ops).getD i 0).testBit m = true → listed.getD m true = true → False := by
        obtain ⟨j, hj⟩ := hex
        induction j using Nat.strongRecOn with
        | _ j ih =>
          by_cases h : ∃ m, m < j ∧ m ∈ left ops.size vl ∧ listed.getD m true = true ∧ ((Region.before ops).getD i 0).testBit m = true
          · obtain ⟨m, h1, h2⟩ := h
            exact ih m h1 h2
          · exact ⟨j, hj.1, hj.2.1, hj.2.2, fun m h1 h2 h3 h4 => h ⟨m, h1, h2, h4, h3⟩⟩
      obtain ⟨j, hj1, hj2, hj3, hj4⟩ := hfirst
      obtain ⟨pre, post, hsp, hpre, hnext⟩ := left_split I.n2 hj1
      obtain ⟨g1, g2⟩ := mem_left.1 hj1
      obtain ⟨⟨y, hy, hfy⟩, _⟩ := I.fl j g1 hj2 g2
      have hp : ∀ m ∈ pre, ∀ x y, ops[m]? = some x → ops[j]? = some y → pairOK ops D m j x y = true := by
        intro m hm x y' hx hy'
        rw [hy] at hy'; cases hy'
        obtain ⟨hlt, hun⟩ := hpre m hm
        have hmn : m < ops.size := (Array.getElem?_eq_some_iff.1 hx).1
        rcases hmv j m x y hx hy hlt hfy hj3 with h | h
        · exact (hj4 m hlt (mem_left.2 ⟨hmn, hun⟩) h (hbef m h hmn)).elim
        · exact h
      have hrun := I.run
      rw [hsp] at hrun
      obtain ⟨e1, H1, hs1, hs2⟩ := front hK hC hD I.sim I.env I.size hp hrun
      obtain ⟨T, e2, t1, I1⟩ := adopt I hj1 hj2 hfd ⟨e1, H1, hs1, by rw [hnext]; exact hs2⟩
      have hlen : (left ops.size (vl.setIfInBounds j true)).length < k := by rw [hnext, ← hk, hsp]; simp
      obtain ⟨vl', S', e', s1, I', s2⟩ := settleB hK hC hfd hD hbef hmv (left ops.size (vl.setIfInBounds j true)).length rfl I1
      exact ⟨vl', S', e', s1.trans t1, I', s2⟩
    · refine ⟨vl, S, e, rfl, I, fun j h1 h2 => ?_⟩
      cases hb : ((Region.before ops).getD i 0).testBit j with
      | false => rfl
      | true => exact absurd ⟨j, h1, h2, hb⟩ hex
termination_by k => k

theorem evalIx_mem {C : Calling} {q : List Nat} {ops : Array Oper} {i : Nat} : ∀ {l : List Nat} {e : Env} {H : AHeap} {r : Env × AHeap}, evalIx (P := P) (K := K) C q ops l e H = some r → i ∈ l → ∃ e1 H1 x, stepIx (P := P) (K := K) C q ops i e1 H1 = some x
  | [], _, _, _, _, h => by cases h
  | j :: l, e, H, r, h, hi => by
    simp only [evalIx, Option.bind_eq_some_iff] at h
    obtain ⟨⟨e1, H1⟩, h1, h⟩ := h
    rcases List.mem_cons.1 hi with rfl | hi
    · exact ⟨e, H, _, h1⟩
    · exact evalIx_mem h hi

theorem isAlloc_cls {o : Op} (h : isAlloc o = true) : cls o = 2 := by cases o <;> simp [isAlloc] at h <;> rfl
theorem isAlloc_pr {C : Calling} {o : Op} (h : isAlloc o = true) {e : Env} {H : AHeap} {r : AV × AHeap} (hv : evalOp P K C o e H = some r) : step1 P K o e H = .pr (some r) := by
  cases o <;> simp [isAlloc] at h <;> simpa [evalOp, step1] using hv

/-- What is apart from all that is ahead of it looks at the slots as they are. -/
theorem evalIx_reach {C : Calling} {q : List Nat} {ops : Array Oper} {i : Nat} {y : Oper} (hy : ops[i]? = some y) {post : List Nat} {r : Env × AHeap} : ∀ {pre : List Nat} {e : Env} {H : AHeap},
    (∀ j ∈ pre, ∀ x, ops[j]? = some x → Oper.apart ops x y = true) → evalIx (P := P) (K := K) C q ops (pre ++ i :: post) e H = some r → ∃ e1 H1 x, stepIx (P := P) (K := K) C q ops i e1 H1 = some x ∧ ∀ G, step1 P K y.op e1 G = step1 P K y.op e G
  | [], e, H, _, h => by
    simp only [List.nil_append, evalIx, Option.bind_eq_some_iff] at h
    obtain ⟨⟨e1, H1⟩, h1, h⟩ := h
    exact ⟨e, H, _, h1, fun _ => rfl⟩
  | j :: pre, e, H, hp, h => by
    simp only [List.cons_append, evalIx, Option.bind_eq_some_iff] at h
    obtain ⟨⟨e1, H1⟩, h1, h⟩ := h
    obtain ⟨e2, H2, x2, g1, g2⟩ := evalIx_reach hy (fun k hk => hp k (by simp [hk])) h
    refine ⟨e2, H2, x2, g1, fun G => ?_⟩
    rw [g2]
    obtain ⟨x, hx, h1⟩ := stepIx_some.1 h1
    obtain ⟨a1, a2, a3⟩ := Oper.apart_spec (hp j (by simp) x hx)
    have hne : ∀ k, x.dst = some k → ∀ z ∈ y.op.operands.toList, z ≠ .tmp k := fun k hk z hz e => a1 k hk (looks_operand hz e)
    rcases h1 with ⟨_, v, _, _, rfl⟩ | ⟨_, rfl, _⟩
    · exact step1_put hne
    · exact step1_put hne

/-- A slot that is written later on, and that nothing looks at before, may be forgotten. -/
theorem erase_front {C : Calling} {q : List Nat} {ops : Array Oper} {i d : Nat} {y : Oper} (hy : ops[i]? = some y) (hd : y.dst = some d) (hg : y.guard = none) (hal : isAlloc y.op = true) (hown : ∀ x ∈ y.op.operands.toList, x ≠ .tmp d) (hsep : sepA q y = true) {post : List Nat} {r : Env × AHeap} : ∀ {pre : List Nat} {e : Env} {H : AHeap},
    (∀ j ∈ pre, ∀ x, ops[j]? = some x → Oper.apart ops x y = true) → evalIx (P := P) (K := K) C q ops (pre ++ i :: post) e H = some r → evalIx (P := P) (K := K) C q ops (pre ++ i :: post) (e.putO (some d) none) H = some r
  | [], e, H, _, h => by
    simp only [List.nil_append, evalIx, Option.bind_eq_some_iff] at h ⊢
    obtain ⟨⟨e1, H1⟩, h1, h⟩ := h
    obtain ⟨o, ho, h1⟩ := stepIx_some.1 h1
    rw [hy] at ho
    cases ho
    rw [wants_free hg] at h1
    rcases h1 with ⟨_, v, hv, hq, rfl⟩ | ⟨hw, _⟩
    rotate_left
    · cases hw
    refine ⟨(e.putO y.dst (some v), H1), stepIx_some.2 ⟨y, hy, .inl ⟨wants_free hg, v, ?_, ?_, ?_⟩⟩, h⟩
    · rw [evalOp_env (e' := e) (fun x hx => by
        cases x with
        | tmp t =>
          simp only [evalOpd]
          exact Env.putO_other fun k hk ee => hown _ hx (by cases hk; rw [ee])
        | _ => rfl)]
      exact hv
    · rw [mark_new_env hal (e' := e)]; exact hq
    · rw [hd]
      funext s
      unfold Env.putO
      split <;> rfl
  | j :: pre, e, H, hp, h => by
    simp only [List.cons_append, evalIx, Option.bind_eq_some_iff] at h ⊢
    obtain ⟨⟨e1, H1⟩, h1, h⟩ := h
    obtain ⟨x, hx, h1⟩ := stepIx_some.1 h1
    obtain ⟨a1, a2, a3⟩ := Oper.apart_spec (hp j (by simp) x hx)
    rw [hd] at a3
    have hcomm : ∀ u : Option AV, (e.putO (some d) none).putO x.dst u = (e.putO x.dst u).putO (some d) none := fun u => Env.putO_comm (fun k hk hk' => a2 k hk' (by rw [hd]; exact hk))
    refine ⟨(e1.putO (some d) none, H1), stepIx_some.2 ⟨x, hx, ?_⟩, erase_front hy hd hg hal hown hsep (fun k hk => hp k (by simp [hk])) h⟩
    rcases h1 with ⟨hw, v, hv, hq, rfl⟩ | ⟨hw, rfl, rfl⟩
    · refine .inl ⟨by rw [wants_put a3]; exact hw, v, by rw [evalOp_env (operands_put a3)]; exact hv, by rw [mark_env (operands_put a3) (by have := sep_put hsep (e := e) (v := none); rw [hd] at this; exact this)]; exact hq, (hcomm _).symm⟩
    · exact .inr ⟨by rw [wants_put a3]; exact hw, (hcomm _).symm, rfl⟩

theorem closed_set {ops : Array Oper} {listed : Array Bool} (hn : listed.size = ops.size) (hcl : Closed ops listed) {i : Nat} (h1 : i < ops.size) {o : Oper} (ho : ops[i]? = some o) (hedges : ∀ e ∈ o.after.toList, Region.binds .any e = true → listed.getD e.on false = true) : Closed ops (listed.setIfInBounds i true) := by
  intro k ok hok hk ed hed hb
  by_cases hki : k = i
  · subst hki
    rw [ho] at hok
    cases hok
    have := hedges ed hed hb
    rw [Array.getD_eq_getD_getElem?] at this ⊢
    by_cases hee : k = ed.on
    · subst hee; simp [hn, h1]
    · rw [Array.getElem?_setIfInBounds_ne hee]; exact this
  · have hk' : listed.getD k true = true := by
      rw [Array.getD_eq_getD_getElem?] at hk ⊢
      rw [Array.getElem?_setIfInBounds_ne (Ne.symm hki)] at hk
      exact hk
    have := hcl k ok hok hk' ed hed hb
    rw [Array.getD_eq_getD_getElem?] at this ⊢
    by_cases hee : i = ed.on
    · subst hee; simp [hn, h1]
    · rw [Array.getElem?_setIfInBounds_ne hee]; exact this

/-- The machine makes a variable ahead of its turn. -/
theorem float_step {C : Calling} {D : List Nat} {ops : Array Oper} {N : Nat} (hD : dstOK N ops = true) {r : Env × AHeap} {S0 : St} {listed vl : Array Bool} {flo : Nat → Nat} {S : St} {e : Env} {a : Act} (I : Inv P K C D ops N r S0 listed vl flo S e a)
    {i : Nat} {y : Oper} (hy : ops[i]? = some y) (hun : listed.getD i true = false) (hedges : ∀ e ∈ y.after.toList, Region.binds .any e = true → listed.getD e.on false = true) (hf : flt D y i = true)
    (hap : ∀ j ∈ left ops.size vl, j < i → ∀ x, ops[j]? = some x → Oper.apart ops x y = true)
    (hap2 : ∀ j, j < ops.size → listed.getD j true = true → vl.getD j true = false → ∀ x, ops[j]? = some x → x.dst ≠ y.dst)
    (hap3 : ∀ j, j < ops.size → listed.getD j true = true → vl.getD j true = false → ∀ x, ops[j]? = some x → ∀ k, y.dst = some k → ∀ z ∈ x.op.operands.toList, z ≠ .tmp k)
    {next : Act → World → Prop} {Q : Exit → Act → World → Prop} (hn : ∀ T e' a' flo', Inv P K C D ops N r S0 (listed.setIfInBounds i true) vl flo' T e' a' → next a' T.w) : wpOp P ops Q i next a S.w := by
  obtain ⟨d, hal, h3, h4, hown⟩ := flt_spec hf
  have hin : i < ops.size := (Array.getElem?_eq_some_iff.1 hy).1
  have hvi : vl.getD i true = false := by
    cases hv : vl.getD i true with
    | false => rfl
    | true => rw [I.sub i hv] at hun; cases hun
  have him : i ∈ left ops.size vl := mem_left.2 ⟨hin, hvi⟩
  obtain ⟨pre, post, hsp, hpre, _⟩ := left_split I.n2 him
  have hrun := I.run
  have hapre : ∀ j ∈ pre, ∀ x, ops[j]? = some x → Oper.apart ops x y = true := fun j hj x hx => hap j (by rw [hsp]; simp [hj]) (hpre j hj).1 x hx
  obtain ⟨e2, H2, x2, hs, hsame⟩ := evalIx_reach hy hapre (by rw [← hsp]; exact hrun)
  obtain ⟨o', ho', hs⟩ := stepIx_some.1 hs
  rw [hy] at ho'
  cases ho'
  rw [wants_free h3] at hs
  rcases hs with ⟨_, v, hv, hqq, _⟩ | ⟨hw, _⟩
  rotate_left
  · cases hw
  have hpr := isAlloc_pr hal hv
  rw [hsame] at hpr
  obtain ⟨mk, z, c, ty, xv, n1, hex, n3, n4⟩ := new_exec (S := S) (a := a) I.env hal hpr fun t n ps ho => by
    have hcd : D.contains i = true := by unfold flt at hf; simp only [Bool.and_eq_true] at hf; exact hf.1.1.1.1.1
    cases hm : markOK D y.op _ _ v _ with
    | false => exact absurd ⟨hcd, hm⟩ hqq
    | true => rw [ho] at hm; simp only [markOK, Bool.and_eq_true] at hm; exact hm.2
  have hdN : d < a.tmps.size := by rw [I.size]; exact dstOK_at hD hy d h4
  have hgr := Grew.alloc S.w (.cells c ty)
  unfold wpOp
  rw [hy]
  simp only [wants_sound I.env (wants_free (ops := ops) h3)]
  rw [if_pos trivial]
  left
  unfold Oper.wp
  rw [hex]
  rw [Oper.upon_value, h4]
  let T : St := ⟨S.ι, S.H, S.w.alloc (.cells c ty), S.fz⟩
  have hE : Ext S T := by
    refine ⟨hgr.os, hgr.tape, hgr.output, by show _ ≤ (S.w.alloc (.cells c ty)).heap.size; rw [hgr.heap]; simp, Nat.le_refl _, fun _ _ => rfl, fun b m hb => ?_, fun b hb ho => ⟨hgr.old (hb.elim (I.sim.lo b) id), ho⟩, fun _ => Nat.le_refl _, fun _ _ _ => rfl, fun _ h => h, fun _ h => .inl h⟩
    obtain ⟨c', e', fr, q1, q2⟩ := hb
    exact ⟨c', e', fr, by rw [show T.w = S.w.alloc (.cells c ty) from rfl, hgr.old (Array.getElem?_eq_some_iff.1 q1).1]; exact q1, q2⟩
  have hTw : T.w.heap.size = S.w.heap.size + 1 := by show (S.w.alloc (.cells c ty)).heap.size = _; rw [hgr.heap]; simp
  have hsim : Sim T := by
    refine ⟨fun k hk => (I.sim.objs k hk).same hE hk (hgr.old (I.sim.below k hk)), I.sim.inj, fun k hk => ?_, ?_⟩
    · rw [hTw]; exact Nat.lt_succ_of_lt (I.sim.below k hk)
    · intro b hb; rw [hTw]; exact Nat.lt_succ_of_lt (I.sim.lo b hb)
  have hS0 : S0.w.heap.size ≤ S.w.heap.size := I.ext.size
  refine hn T (e.putO (some d) none) (a.put (some d) xv) (fun k => if k = i then S.w.heap.size else flo k) ⟨by simp [I.n1], I.n2, closed_set I.n1 I.closed hin hy hedges, fun k hk => ?_, fun k hk hk1 hk2 => ?_, fun k k' hk hk' a1 a2 b1 b2 hne => ?_, hsim, ?_, ?_, (put_size a _ _).1.trans I.size, (put_size a _ _).2.trans I.defers, ?_⟩
  · by_cases hki : i = k
    · subst hki; exact getD_set_self (by rw [I.n1]; exact hin)
    · rw [getD_set_ne hki]; exact I.sub k hk
  · by_cases hki : i = k
    · subst hki
      rw [if_pos rfl]
      refine ⟨⟨y, hy, hf⟩, ⟨⟨y, d, z, c, ty, mk, xv, hy, h3, h4, fun G => by rw [step1_put fun k hk => by cases hk; exact hown]; exact n1 G, n3, hgr.new, ?_, n4⟩, fun ho => ?_, hS0, fun hb => absurd (I.sim.lo _ hb) (Nat.lt_irrefl _)⟩⟩
      · simp [Act.put, hdN]
      · have ho' : S.owned S.w.heap.size := ho
        have := I.sim.lt ho'
        omega
    · rw [getD_set_ne hki] at hk1
      rw [if_neg (Ne.symm hki)]
      obtain ⟨q1, q2⟩ := I.fl k hk hk1 hk2
      refine ⟨q1, q2.step hE (fun o ho dd hdd => put_other a _ ?_) (fun o ho G => step1_put fun kk hkk => hap3 k hk hk1 hk2 o ho kk (by rw [h4]; exact hkk))⟩
      intro e
      cases e
      exact hap2 k hk hk1 hk2 o ho (by rw [hdd, h4])
  · have old : ∀ q, q < ops.size → q ≠ i → (listed.setIfInBounds i true).getD q true = true → vl.getD q true = false → flo q < S.w.heap.size := fun q hq hqi q1 q2 => by
      rw [getD_set_ne (Ne.symm hqi)] at q1
      exact (I.fl q hq q1 q2).2.lt
    by_cases hki : k = i <;> by_cases hki' : k' = i
    · omega
    · rw [if_pos hki, if_neg hki']; have := old k' hk' hki' b1 b2; omega
    · rw [if_neg hki, if_pos hki']; have := old k hk hki a1 a2; omega
    · rw [if_neg hki, if_neg hki']
      rw [getD_set_ne (Ne.symm hki)] at a1
      rw [getD_set_ne (Ne.symm hki')] at b1
      exact I.ne k k' hk hk' a1 a2 b1 b2 hne
  · exact I.ext.trans (hE.less hS0)
  · intro s u hu
    unfold Env.putO at hu
    split at hu
    · cases hu
    · rename_i hne
      obtain ⟨x, q1, q2⟩ := I.env s u hu
      exact ⟨x, by rw [put_other a _ hne]; exact q1, q2.ext hE⟩
  · rw [hsp] at hrun ⊢
    exact erase_front hy h4 h3 hal hown (flt_sep hf) hapre hrun

theorem flt_apart {D : List Nat} {ops : Array Oper} (hok : drawOK ops D = true) {j k : Nat} {x y : Oper} (hy : ops[j]? = some y) (hfy : flt D y j = true) (hx : ops[k]? = some x) (hk : k < j) (hfx : flt D x k = true) : Oper.apart ops x y = true := by
  simp only [drawOK, Bool.and_eq_true] at hok
  have hflt := hok.2
  unfold fltOK at hflt
  have g1 := zipIdx_all (fun y j => !flt D y j || (ops.toList.zipIdx.all fun x => (!(decide (x.2 < j) && flt D x.1 x.2) || Oper.apart ops x.1 y) &&
    (!(decide (j < x.2) && ((Region.before ops).getD x.2 0).testBit j) || (ops.toList.zipIdx.all fun z => !decide (z.2 < j) || ((Region.before ops).getD x.2 0).testBit z.2 || (cls z.1.op == 0 && Oper.apart ops z.1 y && sepA D z.1))))) hflt (i := j) (a := y) (by simpa using hy)
  simp only [hfy, Bool.not_true, Bool.false_or] at g1
  have g2 := zipIdx_all (fun x k => (!(decide (k < j) && flt D x k) || Oper.apart ops x y) && (!(decide (j < k) && ((Region.before ops).getD k 0).testBit j) || (ops.toList.zipIdx.all fun z => !decide (z.2 < j) || ((Region.before ops).getD k 0).testBit z.2 || (cls z.1.op == 0 && Oper.apart ops z.1 y && sepA D z.1)))) g1 (i := k) (a := x) (by simpa using hx)
  simp only [Bool.and_eq_true, hk, hfx, decide_true, Bool.and_self, Bool.not_true, Bool.false_or] at g2
  exact g2.1
theorem fd_of {D : List Nat} {ops : Array Oper} (hok : drawOK ops D = true) : FD D ops := by
  intro i j x y hx hy hfx hfy hne k hk z hz e
  rcases Nat.lt_or_gt_of_ne hne with h | h
  · exact (Oper.apart_spec (flt_apart hok hy hfy hx h hfx)).1 k hk (looks_operand hz e)
  · exact (Oper.apart_spec (flt_apart hok hx hfx hy h hfy)).2.2 k hk (looks_operand hz e)

theorem any_wp (hK : KeysOK P K) {C : Calling} (hC : CallOK P C) {D : List Nat} {ops : Array Oper} {N : Nat} (hD : dstOK N ops = true) (hok : drawOK ops D = true) {Q : Exit → Act → World → Prop} {r : Env × AHeap} {S0 : St} : ∀ (fuel : Nat) (listed vl : Array Bool) (flo : Nat → Nat) (S : St) (e : Env) (a : Act), fuel = (left ops.size listed).length →
    Inv P K C D ops N r S0 listed vl flo S e a → (∀ a' w', Done N S0 r.1 r.2 a' w' → Q .normal a' w') → wpAny P .any ops Q fuel listed a S.w
  | 0, listed, vl, flo, S, e, a, hf, I, hQ => by
    have hnil : left ops.size listed = [] := List.eq_nil_of_length_eq_zero hf.symm
    obtain ⟨vl', S', e', s1, I', s2⟩ := settle (fd_of hok) _ rfl I
    have hvn : left ops.size vl' = [] := by
      cases hl : left ops.size vl' with
      | nil => rfl
      | cons i rest =>
        have h1 := s2 i rest hl
        have h2 : i ∈ left ops.size listed := mem_left.2 ⟨(mem_left.1 (by rw [hl]; simp : i ∈ left ops.size vl')).1, h1⟩
        rw [hnil] at h2; cases h2
    have hr := I'.run
    rw [hvn] at hr
    simp [evalIx] at hr
    refine ⟨?_, ?_⟩
    · apply List.eq_nil_iff_forall_not_mem.2
      intro i hi
      obtain ⟨h1, h2, _⟩ := mem_ready.1 hi
      have : i ∈ left ops.size listed := mem_left.2 ⟨h1, h2⟩
      rw [hnil] at this
      cases this
    · rw [← s1]
      exact hQ a S'.w ⟨S', rfl, by rw [← hr], I'.sim, I'.ext, by rw [← hr]; exact I'.env, I'.size, I'.defers⟩
  | fuel + 1, listed, vl, flo, S, e, a, hf, I, hQ => by
    have hok' := hok
    simp only [drawOK, Bool.and_eq_true] at hok
    obtain ⟨⟨hlow, hpairs⟩, hflt⟩ := hok
    have hn := I.n1
    have hcl := I.closed
    refine ⟨fun hr => ?_, fun i hi => ?_⟩
    · -- the first that is left is ready
      exfalso
      cases hl : left ops.size listed with
      | nil => rw [hl] at hf; simp at hf
      | cons i rest =>
        have hi : i ∈ left ops.size listed := by rw [hl]; simp
        obtain ⟨h1, h2⟩ := mem_left.1 hi
        obtain ⟨pre, post, hsp, hpre, _⟩ := left_split hn hi
        have hrdy : i ∈ Region.ready .any ops listed := by
          refine mem_ready.2 ⟨h1, h2, ops[i], by simp [h1], fun ed he hb => ?_⟩
          have hlt := zipIdx_all _ hlow (i := i) (a := ops[i]) (by simp [h1])
          unfold lowOK at hlt
          rw [Array.all_eq_true_iff_forall_mem] at hlt
          have := hlt ed (Array.mem_toList_iff.1 he)
          simp [hb] at this
          rw [← getD_tf (by omega)]
          cases hg : listed.getD ed.on true with
          | true => rfl
          | false =>
            have hm : ed.on ∈ left ops.size listed := mem_left.2 ⟨by omega, hg⟩
            rw [hl] at hm
            have hsorted : (left ops.size listed).Pairwise (· < ·) := by
              unfold left
              exact List.Pairwise.filter _ (List.pairwise_lt_range)
            rw [hl] at hsorted
            rcases List.mem_cons.1 hm with hm | hm
            · omega
            · have := (List.pairwise_cons.1 hsorted).1 _ hm
              omega
        rw [hr] at hrdy
        cases hrdy
    · obtain ⟨h1, h2, o, ho, hedges⟩ := mem_ready.1 hi
      -- what the pairs' check says
      have hb4 : ∀ j j' x y, ops[j]? = some x → ops[j']? = some y → j < j' → ((Region.before ops).getD j' 0).testBit j = true ∨ pairOK ops D j j' x y = true ∨ (flt D y j' = true ∧ Oper.apart ops x y = true) := by
        intro j j' x y hx hy hlt
        have h3 := zipIdx_all (fun y j => ops.toList.zipIdx.all fun x => betw ops D y j x.1 x.2) hpairs (i := j') (a := y) (by simpa using hy)
        have h4 := zipIdx_all _ h3 (i := j) (a := x) (by simpa using hx)
        unfold betw at h4
        simp only [Bool.or_eq_true, Bool.not_eq_true', decide_eq_false_iff_not, Bool.and_eq_true] at h4
        rcases h4 with ((h4 | h4) | h4) | h4
        · exact absurd hlt h4
        · exact .inl h4
        · exact .inr (.inl h4)
        · exact .inr (.inr h4)
      have pairA : ∀ {j j' x y}, pairOK ops D j j' x y = true → Oper.apart ops x y = true := fun h => by unfold pairOK at h; simp only [Bool.and_eq_true] at h; exact h.1.1.1
      have hbef : ∀ j, ((Region.before ops).getD i 0).testBit j = true → j < ops.size → listed.getD j true = true := fun j hj hjn => by
        have := before_listed hn hcl i o ho hedges j hj
        rwa [← getD_tf (by omega)] at this
      have hlisted_bef : ∀ j y, ops[j]? = some y → listed.getD j true = true → ((Region.before ops).getD j 0).testBit i = true → False := by
        intro j y hy hjl hb
        have := before_listed hn hcl j y hy (fun ed he hbd => hcl j y hy hjl ed he hbd) i hb
        rw [← getD_tf (by omega)] at this
        rw [h2] at this; cases this
      have hbefle : ∀ j, ((Region.before ops).getD i 0).testBit j = true → i < j → False := by
        intro j hj hlt
        have key : ∀ k, k < ops.size → ∀ j, ((Region.before ops).getD k 0).testBit j = true → j < k := by
          intro k
          induction k using Nat.strongRecOn with
          | _ k ih =>
            intro hk j hj
            obtain ⟨hsz, hspc⟩ := before_spec ops
            have hm : (Region.before ops)[k]? = some ((Region.before ops).getD k 0) := by simp [Array.getD, hsz, hk]
            obtain ⟨ed, he, hbd, hor⟩ := hspc k ops[k] (by simp [hk]) _ hm j hj
            have hlt' := zipIdx_all _ hlow (i := k) (a := ops[k]) (by simp [hk])
            unfold lowOK at hlt'
            rw [Array.all_eq_true_iff_forall_mem] at hlt'
            have h3 := hlt' ed (Array.mem_toList_iff.1 he)
            simp [hbd] at h3
            rcases hor with rfl | ⟨_, h5⟩
            · exact h3
            · exact Nat.lt_trans (ih ed.on h3 (by omega) j h5) h3
        have := key i h1 j hj
        omega
      have fuelOK : fuel = (left ops.size (listed.setIfInBounds i true)).length := by
        obtain ⟨pre, post, hsp, _, hnext⟩ := left_split hn (mem_left.2 ⟨h1, h2⟩ : i ∈ left ops.size listed)
        rw [hnext]; rw [hsp] at hf; simp at hf ⊢; omega
      have fltp : ∀ j y, ops[j]? = some y → flt D y j = true → (∀ k x, ops[k]? = some x → k < j → flt D x k = true → Oper.apart ops x y = true) ∧ (∀ k x, ops[k]? = some x → j < k → ((Region.before ops).getD k 0).testBit j = true → ∀ m z, ops[m]? = some z → m < j → ((Region.before ops).getD k 0).testBit m = true ∨ pairOK ops D m j z y = true) := by
        intro j y hy hfy
        unfold fltOK at hflt
        have g1 := zipIdx_all (fun y j => !flt D y j || (ops.toList.zipIdx.all fun x => (!(decide (x.2 < j) && flt D x.1 x.2) || Oper.apart ops x.1 y) &&
          (!(decide (j < x.2) && ((Region.before ops).getD x.2 0).testBit j) || (ops.toList.zipIdx.all fun z => !decide (z.2 < j) || ((Region.before ops).getD x.2 0).testBit z.2 || (cls z.1.op == 0 && Oper.apart ops z.1 y && sepA D z.1))))) hflt (i := j) (a := y) (by simpa using hy)
        simp only [hfy, Bool.not_true, Bool.false_or] at g1
        refine ⟨fun k x hx hk hfx => ?_, fun k x hx hk hb m z hz hmj => ?_⟩
        · have g2 := zipIdx_all (fun x k => (!(decide (k < j) && flt D x k) || Oper.apart ops x y) && (!(decide (j < k) && ((Region.before ops).getD k 0).testBit j) || (ops.toList.zipIdx.all fun z => !decide (z.2 < j) || ((Region.before ops).getD k 0).testBit z.2 || (cls z.1.op == 0 && Oper.apart ops z.1 y && sepA D z.1)))) g1 (i := k) (a := x) (by simpa using hx)
          simp only [Bool.and_eq_true, hk, hfx, decide_true, Bool.and_self, Bool.not_true, Bool.false_or] at g2
          exact g2.1
        · have g2 := zipIdx_all (fun x k => (!(decide (k < j) && flt D x k) || Oper.apart ops x y) && (!(decide (j < k) && ((Region.before ops).getD k 0).testBit j) || (ops.toList.zipIdx.all fun z => !decide (z.2 < j) || ((Region.before ops).getD k 0).testBit z.2 || (cls z.1.op == 0 && Oper.apart ops z.1 y && sepA D z.1)))) g1 (i := k) (a := x) (by simpa using hx)
          simp only [Bool.and_eq_true, hk, hb, decide_true, Bool.and_self, Bool.not_true, Bool.false_or] at g2
          have g3 := zipIdx_all (fun z m => !decide (m < j) || ((Region.before ops).getD k 0).testBit m || (cls z.op == 0 && Oper.apart ops z y && sepA D z)) g2.2 (i := m) (a := z) (by simpa using hz)
          simp only [hmj, decide_true, Bool.not_true, Bool.false_or, Bool.or_eq_true, Bool.and_eq_true] at g3
          refine g3.imp id fun h => ?_
          unfold pairOK
          simp only [h.1.2, h.2, flt_sep hfy, Bool.and_true, Bool.true_and, Bool.or_eq_true]
          exact .inl (.inl (.inl (.inl (.inl (.inl (.inl (.inl (by simpa using h.1.1))))))))
      obtain ⟨vl', S', e', s1, I', s2⟩ := settleB hK hC (fd_of hok') hD (i := i) hbef (fun j m x y hx hy hlt hfy hb => by
        rcases Nat.lt_trichotomy j i with h | h | h
        · exact (fltp j y hy hfy).2 i o ho h hb m x hx hlt
        · subst h
          have := hbef j hb h1
          rw [h2] at this; cases this
        · have hjn : j < ops.size := (Array.getElem?_eq_some_iff.1 hy).1
          exact (hbefle j hb h).elim) _ rfl I
      rw [← s1]
      clear s1 I
      have hvi : vl'.getD i true = false := by
        cases hv : vl'.getD i true with
        | false => rfl
        | true => rw [I'.sub i hv] at h2; cases h2
      have dstne : ∀ {x y : Oper} {d : Nat}, Oper.apart ops x y = true → x.dst = some d → y.dst ≠ some d := fun h hx => (Oper.apart_spec h).2.1 _ hx
      cases hfo : flt D o i with
      | true =>
        refine float_step hD I' ho h2 hedges hfo (fun j hj hji x hx => ?_) (fun j hj hj1 hj2 x hx => ?_) (fun j hj hj1 hj2 x hx k hk => fd_of hok' i j o x ho hx hfo ((I'.fl j hj hj1 hj2).1.at hx) (by rintro rfl; rw [h2] at hj1; cases hj1) k hk) (fun T e1 a1 flo' I1 => any_wp hK hC hD hok' fuel _ vl' flo' T e1 a1 fuelOK I1 hQ)
        · obtain ⟨hjn, hjv⟩ := mem_left.1 hj
          cases hjl : listed.getD j true with
          | true =>
            obtain ⟨x', hx', hfx⟩ := (I'.fl j hjn hjl hjv).1
            rw [hx] at hx'; cases hx'
            exact (fltp i o ho hfo).1 j x hx hji hfx
          | false =>
            rcases hb4 j i x o hx ho hji with h | h | h
            · rw [hbef j h hjn] at hjl; cases hjl
            · exact pairA h
            · exact h.2
        · obtain ⟨x', hx', hfx⟩ := (I'.fl j hj hj1 hj2).1
          rw [hx] at hx'; cases hx'
          obtain ⟨d, _, _, hd, _⟩ := flt_spec hfx
          obtain ⟨d', _, _, hd', _⟩ := flt_spec hfo
          intro e
          rcases Nat.lt_trichotomy j i with hlt | heq | hgt
          · exact dstne ((fltp i o ho hfo).1 j x hx hlt hfx) hd (by rw [← e]; exact hd)
          · subst heq; rw [h2] at hj1; cases hj1
          · exact dstne ((fltp j x hx hfx).1 i o ho hgt hfo) hd' (by rw [e]; exact hd')
      | false =>
        have him : i ∈ left ops.size vl' := mem_left.2 ⟨h1, hvi⟩
        obtain ⟨pre, post, hsp, hpre, hnext⟩ := left_split I'.n2 him
        have hsorted : (left ops.size vl').Pairwise (· < ·) := by
          unfold left
          exact List.Pairwise.filter _ (List.pairwise_lt_range)
        have hp : ∀ j ∈ pre, ∀ x y, ops[j]? = some x → ops[i]? = some y → pairOK ops D j i x y = true := by
          intro j hj x y hx hy
          rw [ho] at hy; cases hy
          obtain ⟨hlt, hun⟩ := hpre j hj
          have hjn : j < ops.size := (Array.getElem?_eq_some_iff.1 hx).1
          rcases hb4 j i x o hx ho hlt with h | h | h
          · exfalso
            have hjl := hbef j h hjn
            rw [s2 j (mem_left.2 ⟨hjn, hun⟩) hjl] at h
            cases h
          · exact h
          · rw [hfo] at h; cases h.1
        have hrun := I'.run
        rw [hsp] at hrun
        obtain ⟨e1, H1, hs1, hs2⟩ := front hK hC hD I'.sim I'.env I'.size hp hrun
        refine stepIx_wp hK hC hD I'.sim I'.env I'.size I'.defers hs1 fun T a' t1 t2 t3 t4 t5 t6 t7 => ?_
        subst t1
        refine any_wp hK hC hD hok' fuel (listed.setIfInBounds i true) (vl'.setIfInBounds i true) flo T e1 a' fuelOK ⟨by simp [hn], by simp [I'.n2], closed_set hn hcl h1 ho hedges, fun k hk => ?_, fun k hk hk1 hk2 => ?_, fun k k' hk hk' a1 a2 b1 b2 hne => ?_, t2, I'.ext.trans (t3.less I'.ext.size), t4, t5, t6, by rw [hnext]; exact hs2⟩ hQ
        · by_cases hki : i = k
          · subst hki; exact getD_set_self (by rw [hn]; exact h1)
          · rw [getD_set_ne hki] at hk ⊢; exact I'.sub k hk
        · have hki : i ≠ k := by rintro rfl; rw [getD_set_self (by rw [I'.n2]; exact h1)] at hk2; cases hk2
          rw [getD_set_ne hki] at hk1 hk2
          obtain ⟨q1, q2⟩ := I'.fl k hk hk1 hk2
          have hsx : ∀ x, ops[k]? = some x → Oper.apart ops o x = true ∨ Oper.apart ops x o = true := fun x hx => by
            rcases Nat.lt_or_gt_of_ne hki with hlt | hgt
            · rcases hb4 i k o x ho hx hlt with h | h | h
              · exact (hlisted_bef k x hx hk1 h).elim
              · exact .inl (pairA h)
              · exact .inl h.2
            · have hkp : k ∈ pre := by
                have hm : k ∈ left ops.size vl' := mem_left.2 ⟨hk, hk2⟩
                rw [hsp] at hm hsorted
                rcases List.mem_append.1 hm with h | h
                · exact h
                · exfalso
                  have hs3 := (List.pairwise_append.1 hsorted).2.1
                  rcases List.mem_cons.1 h with h | h
                  · omega
                  · have := (List.pairwise_cons.1 hs3).1 k h; omega
              exact .inr (pairA (hp k hkp x o hx ho))
          refine ⟨q1, q2.step t3 (fun x hx d hd => t7 o ho d fun e => ?_) (fun x hx G => ?_)⟩
          · rcases hsx x hx with h | h
            · exact dstne h e hd
            · exact dstne h hd e
          · have hne : ∀ kk, o.dst = some kk → ∀ z ∈ x.op.operands.toList, z ≠ .tmp kk := fun kk hkk z hz e => by
              rcases hsx x hx with h | h
              · exact (Oper.apart_spec h).1 kk hkk (looks_operand hz e)
              · exact (Oper.apart_spec h).2.2 kk hkk (looks_operand hz e)
            obtain ⟨o2, ho2, hst⟩ := stepIx_some.1 hs1
            rw [ho] at ho2; cases ho2
            rcases hst with ⟨_, v, _, _, rfl⟩ | ⟨_, rfl, _⟩
            · exact step1_put hne
            · exact step1_put hne
        · have q1 : i ≠ k := by rintro rfl; rw [getD_set_self (by rw [I'.n2]; exact h1)] at a2; cases a2
          have q2 : i ≠ k' := by rintro rfl; rw [getD_set_self (by rw [I'.n2]; exact h1)] at b2; cases b2
          rw [getD_set_ne q1] at a1 a2
          rw [getD_set_ne q2] at b1 b2
          exact I'.ne k k' hk hk' a1 a2 b1 b2 hne

/-! A region whose operations are looked at in another order. -/
structure PermG (L : List Nat) (n : Nat) : Prop where
  len : L.length = n
  lt : ∀ i, i < n → L.idxOf i < n
  at' : ∀ i, i < n → L.getD (L.idxOf i) n = i
  back : ∀ k, k < n → L.idxOf (L.getD k n) = k
  lt' : ∀ k, k < n → L.getD k n < n
theorem permGood_spec {L : List Nat} {n : Nat} (h : permGood L n = true) : PermG L n := by
  unfold permGood at h
  simp only [Bool.and_eq_true, beq_iff_eq, List.all_eq_true, List.mem_range, decide_eq_true_eq] at h
  exact ⟨h.1, fun i hi => (h.2 i hi).1.1.1, fun i hi => (h.2 i hi).1.1.2, fun i hi => (h.2 i hi).1.2, fun i hi => (h.2 i hi).2⟩
theorem PermG.out {L : List Nat} {n : Nat} (h : PermG L n) {j : Nat} (hj : ¬ j < n) : L.idxOf j = n := by
  rw [← h.len]
  refine List.idxOf_eq_length fun hm => ?_
  obtain ⟨k, hk, e⟩ := List.mem_iff_getElem.1 hm
  have := h.lt' k (by rw [← h.len]; exact hk)
  rw [List.getD_eq_getElem?_getD, List.getElem?_eq_getElem hk, Option.getD_some, e] at this
  exact hj this
theorem permA_at {L : List Nat} {ops : Array Oper} (h : PermG L ops.size) {i : Nat} (hi : i < ops.size) : (permA L ops)[L.idxOf i]? = some (remap L ops[i]) := by
  have h1 := h.lt i hi
  have h2 := h.at' i hi
  have hlt : L.idxOf i < L.length := by rw [h.len]; exact h1
  rw [List.getD_eq_getElem?_getD, List.getElem?_eq_getElem hlt, Option.getD_some] at h2
  simp only [permA, List.getElem?_toArray, List.getElem?_map, List.getElem?_eq_getElem hlt, h2, Option.map_some]
  rw [Array.getD, dif_pos hi]
  rfl
theorem permA_size {L : List Nat} {ops : Array Oper} (h : PermG L ops.size) : (permA L ops).size = ops.size := by simp [permA, h.len]
theorem permA_out {L : List Nat} {ops : Array Oper} (h : PermG L ops.size) {j : Nat} (hj : ¬ j < ops.size) : (permA L ops)[L.idxOf j]? = none := by
  rw [h.out hj]
  exact Array.getElem?_eq_none (by rw [permA_size h]; exact Nat.le_refl _)
theorem yielded_perm {L : List Nat} {ops : Array Oper} (h : PermG L ops.size) {tmps : Array Value} (j : Nat) : yielded (permA L ops) tmps (L.idxOf j) = yielded ops tmps j := by
  unfold yielded
  by_cases hj : j < ops.size
  · rw [permA_at h hj, Array.getElem?_eq_getElem hj]
    rfl
  · rw [permA_out h hj, Array.getElem?_eq_none (by omega)]
theorem wpOp_perm {L : List Nat} {ops : Array Oper} (h : PermG L ops.size) {Q : Exit → Act → World → Prop} {i : Nat} (hi : i < ops.size) {next : Act → World → Prop} {a : Act} {w : World} : wpOp P (permA L ops) Q (L.idxOf i) next a w → wpOp P ops Q i next a w := by
  unfold wpOp
  rw [permA_at h hi, Array.getElem?_eq_getElem hi]
  have hw : Region.wanted (remap L ops[i]) (yielded (permA L ops) a.tmps) = Region.wanted ops[i] (yielded ops a.tmps) := by
    generalize ops[i] = o
    unfold Region.wanted remap
    cases hg : o.guard with
    | none => simp
    | some g =>
      obtain ⟨j, want⟩ := g
      simp only [Option.map_some]
      rw [yielded_perm h]
  simp only [hw]
  exact id
theorem ready_perm {L : List Nat} {ops : Array Oper} (h : PermG L ops.size) {l1 l2 : Array Bool} (h1 : l1.size = ops.size) (h2 : l2.size = ops.size) (hl : ∀ i, i < ops.size → l2.getD (L.idxOf i) true = l1.getD i true) {i : Nat} (hi : i < ops.size) : L.idxOf i ∈ Region.ready .any (permA L ops) l2 ↔ i ∈ Region.ready .any ops l1 := by
  have q : ∀ j, l2.getD (L.idxOf j) false = l1.getD j false := fun j => by
    by_cases hj : j < ops.size
    · rw [← getD_tf (by rw [h2]; exact h.lt j hj), ← getD_tf (by omega)]
      exact hl j hj
    · rw [h.out hj]
      simp [Array.getD, h1, h2, hj]
  rw [mem_ready, mem_ready, permA_at h hi, Array.getElem?_eq_getElem hi, permA_size h, hl i hi]
  constructor
  · rintro ⟨_, g2, o, ho, g3⟩
    cases ho
    refine ⟨hi, g2, _, rfl, fun e he hb => ?_⟩
    have := g3 { e with on := L.idxOf e.on } (by simp only [remap, Array.toList_map]; exact List.mem_map.2 ⟨e, he, rfl⟩) hb
    rwa [q] at this
  · rintro ⟨_, g2, o, ho, g3⟩
    cases ho
    refine ⟨h.lt i hi, g2, _, rfl, fun e he hb => ?_⟩
    simp only [remap, Array.toList_map] at he
    obtain ⟨e', he', rfl⟩ := List.mem_map.1 he
    simp only
    rw [q]
    exact g3 e' he' hb
theorem wpAny_perm {L : List Nat} {ops : Array Oper} (h : PermG L ops.size) {Q : Exit → Act → World → Prop} : ∀ (fuel : Nat) (l1 l2 : Array Bool) (a : Act) (w : World), l1.size = ops.size → l2.size = ops.size → (∀ i, i < ops.size → l2.getD (L.idxOf i) true = l1.getD i true) →
    wpAny P .any (permA L ops) Q fuel l2 a w → wpAny P .any ops Q fuel l1 a w := by
  have nil : ∀ {l1 l2 : Array Bool}, l1.size = ops.size → l2.size = ops.size → (∀ i, i < ops.size → l2.getD (L.idxOf i) true = l1.getD i true) → (Region.ready .any (permA L ops) l2 = [] ↔ Region.ready .any ops l1 = []) := by
    intro l1 l2 h1 h2 hl
    constructor
    · intro hn
      refine List.eq_nil_iff_forall_not_mem.2 fun i hi => ?_
      have hin := (mem_ready.1 hi).1
      have := (ready_perm h h1 h2 hl hin).2 hi
      rw [hn] at this
      cases this
    · intro hn
      refine List.eq_nil_iff_forall_not_mem.2 fun k hk => ?_
      have hkn : k < ops.size := by have := (mem_ready.1 hk).1; rwa [permA_size h] at this
      rw [← h.back k hkn] at hk
      have := (ready_perm h h1 h2 hl (h.lt' k hkn)).1 hk
      rw [hn] at this
      cases this
  intro fuel
  induction fuel with
  | zero =>
    intro l1 l2 a w h1 h2 hl hw
    exact ⟨(nil h1 h2 hl).1 hw.1, hw.2⟩
  | succ fuel ih =>
    intro l1 l2 a w h1 h2 hl hw
    refine ⟨fun hn => hw.1 ((nil h1 h2 hl).2 hn), fun i hi => ?_⟩
    have hin := (mem_ready.1 hi).1
    have hw2 := wpOp_perm h hin (hw.2 _ ((ready_perm h h1 h2 hl hin).2 hi))
    refine wpOp_mono (fun a' w' hw' => ih _ _ a' w' (by simp [h1]) (by simp [h2]) (fun k hk => ?_) hw') hw2
    by_cases hki : i = k
    · subst hki
      rw [getD_set_self (by rw [h2]; exact h.lt i hin), getD_set_self (by omega)]
    · have hne : L.idxOf i ≠ L.idxOf k := fun e => hki (by have := h.at' i hin; rw [e, h.at' k hk] at this; exact this.symm)
      rw [getD_set_ne hne, getD_set_ne hki]
      exact hl k hk

/-- A world that differs in its count of draws alone. -/
theorem drew_sim {S : St} (hS : Sim S) {w' : World} (h1 : w'.os = S.w.os) (h2 : w'.tape = S.w.tape) (h3 : w'.output = S.w.output) (h4 : w'.heap = S.w.heap) : Sim ⟨S.ι, S.H, w', S.fz⟩ ∧ Ext S ⟨S.ι, S.H, w', S.fz⟩ := by
  have hE : Ext S ⟨S.ι, S.H, w', S.fz⟩ := by
    refine ⟨h1, h2, h3, Nat.le_of_eq (by rw [h4]), Nat.le_refl _, fun _ _ => rfl, ?_, ?_, fun _ => Nat.le_refl _, fun _ _ _ => rfl, fun _ h => h, fun _ h => .inl h⟩
    · rintro b m ⟨c, e, fr, g1, g2⟩
      exact ⟨c, e, fr, by simp only; rw [h4]; exact g1, g2⟩
    · intro b hb hn
      exact ⟨by simp only; rw [h4], hn⟩
  exact ⟨⟨fun o ho => (hS.objs o ho).same hE ho (by simp only; rw [h4]), hS.inj, fun o ho => by simp only; rw [h4]; exact hS.below o ho, fun b hb => by simp only; rw [h4]; exact hS.lo b hb⟩, hE⟩

def CodePost (N : Nat) (S : St) (x : AX) (e : Env) (H : AHeap) : Exit → Act → World → Prop
  | .normal, a, w => x = .normal ∧ Done N S e H a w
  | .exit id, a, w => x = .exit id ∧ Done N S e H a w
  | .ret, a, w => x = .ret ∧ Done N S e H a w
  | _, _, _ => False

theorem CodePost.of_ext {N : Nat} {S T : St} (h : Ext S T) {x : AX} {e : Env} {H : AHeap} {ex : Exit} {a : Act} {w : World} (hd : CodePost N T x e H ex a w) : CodePost N S x e H ex a w := by
  cases ex <;> first | exact ⟨hd.1, hd.2.of_ext h⟩ | exact hd

theorem code_wp (hK : KeysOK P K) (hmix : P.follows .mixedOrders = true) {C : Calling} (hC : CallOK P C) {D : Quiets} {f : FuncId} {N : Nat} : ∀ {c : Code} {S : St} {e : Env} {a : Act} {x : AX} {e' : Env} {H' : AHeap}, codeOK N (D f) c = true → Sim S → EnvR S e a.tmps → a.tmps.size = N → a.defers = [] →
    evalCode P K C D f c e S.H = some (x, e', H') → c.wp P (CodePost N S x e' H') a S.w
  | .skip, S, e, a, x, e', H', _, hS, hE, hN, hd, h => by
    simp [evalCode] at h
    obtain ⟨rfl, rfl, rfl⟩ := h
    exact wp_skip ⟨rfl, S, rfl, rfl, hS, Ext.refl S, hE, hN, hd⟩
  | .exit id, S, e, a, x, e', H', _, hS, hE, hN, hd, h => by
    simp [evalCode] at h
    obtain ⟨rfl, rfl, rfl⟩ := h
    exact wp_exit ⟨rfl, S, rfl, rfl, hS, Ext.refl S, hE, hN, hd⟩
  | .ret, S, e, a, x, e', H', _, hS, hE, hN, hd, h => by
    simp [evalCode] at h
    obtain ⟨rfl, rfl, rfl⟩ := h
    exact wp_ret ⟨rfl, S, rfl, rfl, hS, Ext.refl S, hE, hN, hd⟩
  | .region id ops draw, S, e, a, x, e', H', hok, hS, hE, hN, hd, h => by
    simp only [codeOK, Bool.and_eq_true] at hok
    simp only [evalCode, Option.map_eq_some_iff] at h
    obtain ⟨⟨e1, H1⟩, h, he⟩ := h
    cases he
    rw [evalOps_ix (k := 0) (fun j => by simp)] at h
    cases draw with
    | false =>
      simp only [ordOps, Bool.false_eq_true, if_false] at h hok
      have hr : List.range' 0 ops.toList.length = List.range ops.size := by rw [List.range_eq_range']; simp
      rw [hr] at h
      refine wp_region ?_
      exact evalIx_wp hK hC hok.1 hS hE hN hd h fun a' w' hd' => ⟨rfl, hd'⟩
    | true =>
      refine wp_region_any hmix ?_
      obtain ⟨hS1, hE1⟩ := drew_sim hS (w' := { S.w with drawn := S.w.drawn + 1 }) rfl rfl rfl rfl
      simp only [ordOps, if_true] at h hok
      have hr : List.range' 0 (permOps (D f id) ops).toList.length = List.range (permOps (D f id) ops).size := by rw [List.range_eq_range']; simp
      rw [hr] at h
      have hpk : permOK (D f id) ops.size = true := by have := hok.2; simp at this; exact this.1
      have hdr : drawOK (permOps (D f id) ops) (D f id) = true := by have := hok.2; simp at this; exact this.2
      have hfin : wpAny P .any (permOps (D f id) ops) (CodePost N S .normal e1 H1) (permOps (D f id) ops).size (Array.replicate (permOps (D f id) ops).size false) a { S.w with drawn := S.w.drawn + 1 } → wpAny P .any ops (CodePost N S .normal e1 H1) ops.size (Array.replicate ops.size false) a { S.w with drawn := S.w.drawn + 1 } := by
        intro hw
        unfold permOK at hpk
        unfold permOps at hw
        cases hm : permM (D f id) with
        | none => rw [hm] at hw; exact hw
        | some m =>
          rw [hm] at hw hpk
          have hg := permGood_spec hpk
          simp only at hw
          rw [permA_size hg] at hw
          exact wpAny_perm hg _ _ _ a _ (by simp) (by simp) (fun i hi => by simp [Array.getD, hi, hg.lt i hi]) hw
      refine hfin ?_
      clear hfin
      generalize permOps (D f id) ops = ops at h hok hdr ⊢
      have hleft : left ops.size (Array.replicate ops.size false) = List.range ops.size := by
        unfold left
        rw [List.filter_eq_self]
        intro i hi
        have := List.mem_range.1 hi
        simp [Array.getD, this]
      refine any_wp (S0 := ⟨S.ι, S.H, { S.w with drawn := S.w.drawn + 1 }, S.fz⟩) (r := (e1, H1)) hK hC hok.1 hdr ops.size (Array.replicate ops.size false) (Array.replicate ops.size false) (fun _ => 0) ⟨S.ι, S.H, { S.w with drawn := S.w.drawn + 1 }, S.fz⟩ e a (by rw [hleft]; simp)
        ⟨by simp, by simp, ?_, fun _ h => h, fun i hi q1 q2 => (by rw [q1] at q2; cases q2), fun i j hi hj q1 q2 => (by rw [q1] at q2; cases q2), hS1, Ext.refl _, hE.ext hE1, hN, hd, by rw [hleft]; simpa using h⟩ (fun a' w' hd' => ⟨rfl, hd'.of_ext hE1⟩)
      intro i o ho hl
      have hi := (Array.getElem?_eq_some_iff.1 ho).1
      simp [Array.getD, hi] at hl
  | .seq p q, S, e, a, x, e', H', hok, hS, hE, hN, hd, h => by
    simp only [codeOK, Bool.and_eq_true] at hok
    simp only [evalCode, Option.bind_eq_some_iff] at h
    obtain ⟨⟨x1, e1, H1⟩, h1, h⟩ := h
    refine wp_seq (wp_mono (code_wp hK hmix hC hok.1 hS hE hN hd h1) fun ex a' w' hp => ?_)
    cases ex with
    | normal =>
      obtain ⟨rfl, T, rfl, rfl, t1, t2, t3, t4, t5⟩ := hp
      simp only at h
      exact wp_mono (code_wp hK hmix hC hok.2 t1 t3 t4 t5 h) fun ex a' w' hp => hp.of_ext t2
    | exit id =>
      obtain ⟨rfl, hp⟩ := hp
      simp only at h
      cases h
      exact ⟨rfl, hp⟩
    | ret =>
      obtain ⟨rfl, hp⟩ := hp
      simp only at h
      cases h
      exact ⟨rfl, hp⟩
    | goto l => exact hp
    | panic ch => exact hp
    | outgrown => exact hp
  | .cond c p q, S, e, a, x, e', H', hok, hS, hE, hN, hd, h => by
    simp only [codeOK, Bool.and_eq_true] at hok
    simp only [evalCode] at h
    split at h <;> first | (cases h; done) | skip
    rename_i t ht
    have hv := evalOpd_sound hE ht
    generalize hce : a.eval c = y at hv
    cases hv
    refine wp_cond hce ?_
    cases t with
    | true => simp only [if_true] at h ⊢; exact code_wp hK hmix hC hok.1 hS hE hN hd h
    | false => simp only [Bool.false_eq_true, if_false] at h ⊢; exact code_wp hK hmix hC hok.2 hS hE hN hd h
  | .block id b, S, e, a, x, e', H', hok, hS, hE, hN, hd, h => by
    simp only [codeOK] at hok
    simp only [evalCode, Option.map_eq_some_iff] at h
    obtain ⟨⟨x1, e1, H1⟩, h1, h⟩ := h
    refine wp_block (wp_mono (code_wp hK hmix hC hok hS hE hN hd h1) fun ex a' w' hp => ?_)
    cases ex with
    | normal => obtain ⟨rfl, hp⟩ := hp; simp only at h; cases h; exact ⟨rfl, hp⟩
    | exit id' =>
      obtain ⟨rfl, hp⟩ := hp
      simp only at h
      simp only [Exit.inBlock]
      by_cases hid : id' = id
      · rw [if_pos hid] at h ⊢; cases h; exact ⟨rfl, hp⟩
      · rw [if_neg hid] at h ⊢; cases h; exact ⟨rfl, hp⟩
    | ret => obtain ⟨rfl, hp⟩ := hp; simp only at h; cases h; exact ⟨rfl, hp⟩
    | goto l => exact hp
    | panic ch => exact hp
    | outgrown => exact hp
  | .loop b, S, e, a, x, e', H', hok, hS, hE, hN, hd, h => by
    simp only [codeOK] at hok
    simp only [evalCode] at h
    obtain ⟨n, hn⟩ := loopLim_iff.1 h
    refine wp_loop_rounds n ?_
    clear h
    induction n generalizing S e a with
    | zero => simp [iter] at hn
    | succ n ih =>
      rw [rounds_succ]
      simp only [iter] at hn
      cases hb : evalCode P K C D f b e S.H with
      | none => rw [hb] at hn; cases hn
      | some r =>
        obtain ⟨x1, e1, H1⟩ := r
        rw [hb] at hn
        refine wp_mono (code_wp hK hmix hC hok hS hE hN hd hb) fun ex a' w' hp => ?_
        cases ex with
        | normal =>
          obtain ⟨rfl, T, rfl, rfl, t1, t2, t3, t4, t5⟩ := hp
          simp only at hn
          simp only [Exit.then]
          have := ih T e1 a' t1 t3 t4 t5 hn
          -- the rounds that are left, from S's point of view
          have mono : ∀ (k : Nat) (a : Act) (w : World), Code.rounds P b (CodePost N T x e' H') k a w → Code.rounds P b (CodePost N S x e' H') k a w := by
            intro k
            induction k with
            | zero => intro a w h; exact h
            | succ k ihk =>
              intro a w h
              rw [rounds_succ] at h ⊢
              refine wp_mono h fun ex a w h => ?_
              cases ex with
              | normal => exact ihk a w h
              | exit id => exact CodePost.of_ext (ex := .exit id) t2 h
              | ret => exact CodePost.of_ext (ex := .ret) t2 h
              | goto l => exact h
              | panic ch => exact h
              | outgrown => exact h
          exact mono n _ _ this
        | exit id' => obtain ⟨rfl, hp⟩ := hp; simp only at hn; cases hn; exact ⟨rfl, hp⟩
        | ret => obtain ⟨rfl, hp⟩ := hp; simp only at hn; cases hn; exact ⟨rfl, hp⟩
        | goto l => exact hp
        | panic ch => exact hp
        | outgrown => exact hp
  | .scope _, _, _, _, _, _, _, _, _, _, _, _, h => by simp [evalCode] at h
  | .label _, _, _, _, _, _, _, _, _, _, _, _, h => by simp [evalCode] at h
  | .goto _, _, _, _, _, _, _, _, _, _, _, _, h => by simp [evalCode] at h
  | .refuse _, _, _, _, _, _, _, _, _, _, _, _, h => by simp [evalCode] at h
  | .rangeFunc .., _, _, _, _, _, _, _, _, _, _, _, h => by simp [evalCode] at h

/-- What the program's text is asked for, once. -/
structure Good (P : Program) (K : TypeId → Option (List Sc)) : Prop where
  keys : KeysOK P K
  mixed : P.follows .mixedOrders = true

theorem args_get : ∀ {as : List AV} {xs : List Value} {S : St}, VRs S as xs → ∀ (k t : Nat) (v : AV), Env.args as k t = some v → ∃ x, k ≤ t ∧ xs[t - k]? = some x ∧ VR S v x
  | [], _, _, _, k, t, v, h => by simp [Env.args, Env.nil] at h
  | a :: as, _, S, .cons _ x _ xs ha hs, k, t, v, h => by
    simp only [Env.args] at h
    split at h
    · rename_i ht
      subst ht
      cases h
      exact ⟨x, Nat.le_refl _, by simp, ha⟩
    · obtain ⟨y, h1, h2, h3⟩ := args_get hs (k + 1) t v h
      refine ⟨y, by omega, ?_, h3⟩
      rw [show t - k = (t - (k + 1)) + 1 from by omega, List.getElem?_cons_succ]
      exact h2

def resVal (tmps : Array Value) : ResultVar → Sem Value
  | .tmp t => pure (tmps.getD t undef)
  | .cell a t => do loadVar t (← asAddr (tmps.getD a undef))

theorem results_eq (fn : Func) (tmps : Array Value) : results fn tmps = (do
    let vs ← fn.results.mapM (resVal tmps)
    pure (if h : vs.size = 1 then vs[0] else .tuple vs)) := by
  unfold results
  congr

theorem results_sound {S : St} (hS : Sim S) {e : Env} {tmps : Array Value} (hE : EnvR S e tmps) : ∀ {rs : List ResultVar} {vs : List AV}, evalResults P e S.H rs = some vs →
    ∃ xs, (rs.mapM (resVal tmps)).run P S.w = .ok xs S.w ∧ VRs S vs xs
  | [], vs, h => by simp [evalResults] at h; subst h; exact ⟨[], rfl, .nil⟩
  | r :: rs, vs, h => by
    simp only [evalResults, Option.bind_eq_some_iff, Option.map_eq_some_iff] at h
    obtain ⟨v, hv, ws, hw, rfl⟩ := h
    obtain ⟨xs, hx, hxs⟩ := results_sound hS hE hw
    cases r with
    | tmp t =>
      obtain ⟨x, hx1, hx2⟩ := hE t v hv
      refine ⟨x :: xs, ?_, .cons v x ws xs hx2 hxs⟩
      have : tmps.getD t undef = x := by simp [Array.getD_eq_getD_getElem?, hx1]
      simp only [List.mapM_cons, Sem.run_bind, resVal, Sem.run_pure, Result.andThen_ok, this, hx]
    | cell a t =>
      simp only [evalResult, Option.bind_eq_some_iff] at hv
      obtain ⟨p, hp, hv⟩ := hv
      obtain ⟨y, hy1, hy2⟩ := hE a p hp
      obtain ⟨z, hz, hvz⟩ := aload_sound (P := P) hS hy2 hv
      have hg : tmps.getD a undef = y := by simp [Array.getD_eq_getD_getElem?, hy1]
      refine ⟨z :: xs, ?_, .cons v z ws xs hvz hxs⟩
      have hz' : (do loadVar t (← asAddr (tmps.getD a undef)) : Sem Value).run P S.w = .ok z S.w := by
        rw [hg]
        cases hy2 <;> first
          | (simp [aload] at hv; done)
          | (simpa [Instr.loadAt, Instr.sureAddr, asAddr] using hz)
      have hz2 : (resVal tmps (.cell a t)).run P S.w = .ok z S.w := hz'
      simp only [List.mapM_cons, Sem.run_bind, hz2, Sem.run_pure, Result.andThen_ok, hx]

theorem tupled_sound {S : St} {vs : List AV} {xs : List Value} (h : VRs S vs xs) : VR S (tupled vs) (if h : xs.toArray.size = 1 then xs.toArray[0] else .tuple xs.toArray) := by
  cases h with
  | nil => exact .tup [] [] .nil
  | cons a x as xs ha hs =>
    cases hs with
    | nil => exact ha
    | cons b y bs ys hb hs =>
      rw [dif_neg (by simp)]
      exact .tup _ _ (.cons _ _ _ _ ha (.cons _ _ _ _ hb hs))

theorem ext_ok {f : FuncId} {as : List AV} {H : AHeap} {v : AV} {H' : AHeap} (h : evalX P f as H = some (v, H')) : H' = H ∧ AtOnce P f as v := by
  unfold evalX at h
  simp only [Option.bind_eq_some_iff] at h
  obtain ⟨fn, hf, h⟩ := h
  split at h <;> first | (cases h; done) | skip
  rename_i hb
  simp only [Option.map_eq_some_iff, Prod.mk.injEq] at h
  obtain ⟨v', h, rfl, rfl⟩ := h
  refine ⟨rfl, fun S vs hvs => ?_⟩
  unfold evalExt at h
  split at h <;> first | (cases h; done) | skip
  rename_i hn
  split at h
  · rename_i he
    split at h <;> first | (cases h; done) | skip
    rename_i x y c
    split at h <;> first | (cases h; done) | skip
    rename_i hr
    cases h
    cases hvs with
    | cons _ v0 _ vs0 h0 hvs =>
    cases hvs with
    | cons _ v1 _ vs1 h1 hvs =>
    cases hvs with
    | cons _ v2 _ vs2 h2 hvs =>
    cases hvs
    cases h0; cases h1; cases h2
    refine ⟨_, by rw [run_callFunc_extern hf hn.1 hb hn.2 he.2, run_add64 x y c hr.1 hr.2.1 hr.2.2.1 hr.2.2.2]; rfl, .tup _ _ (.cons _ _ _ _ (.int _ _) (.cons _ _ _ _ (.int _ _) .nil))⟩
  · split at h <;> first | (cases h; done) | skip
    rename_i he
    split at h <;> first | (cases h; done) | skip
    cases h
    cases hvs with
    | cons _ v0 _ vs0 h0 hvs =>
    cases hvs with
    | cons _ v1 _ vs1 h1 hvs =>
    cases hvs
    cases h0; cases h1
    exact ⟨_, by rw [run_callFunc_extern hf hn.1 hb hn.2 he.2, run_indexByte_string]; rfl, .int _ _⟩

theorem fn_ok {D : Quiets} (hG : Good P K) {C : Calling} (hC : CallOK P C) : CallOK P (evalFn P K D C) := by
  intro f as H v H' h
  unfold evalFn at h
  cases hx : evalX P f as H with
  | some y => rw [hx] at h; cases h; exact .inl (ext_ok hx)
  | none =>
  rw [hx] at h
  right
  clear hx
  simp only [evalFn0, Option.bind_eq_some_iff] at h
  obtain ⟨fn, hf, c, hc, h⟩ := h
  split at h <;> first | (cases h; done) | skip
  rename_i hcond
  obtain ⟨hlen, hcode, hname⟩ := hcond
  refine ⟨⟨fn, hf, by simp [hc], hname⟩, fun S vs hS hH hv => ?_⟩
  subst hH
  simp only [Option.bind_eq_some_iff] at h
  obtain ⟨⟨x, e, H1⟩, hx, h⟩ := h
  refine calls_of_wp hf hc ?_
  have hvl := hv.length
  have hE : EnvR S (Env.args as 0) (vs.toArray ++ Array.replicate (fn.ntmps - vs.toArray.size) undef) := by
    intro t u hu
    obtain ⟨y, _, h2, h3⟩ := args_get hv 0 t u hu
    refine ⟨y, ?_, h3⟩
    have hlt : t < vs.length := by have := (List.getElem?_eq_some_iff.1 h2).1; omega
    rw [Array.getElem?_append_left (by simpa using hlt)]
    simpa using h2
  refine wp_mono (code_wp (a := { tmps := vs.toArray ++ Array.replicate (fn.ntmps - vs.toArray.size) undef, defers := [] }) hG.keys hG.mixed hC hcode hS hE (by simp; omega) rfl hx) fun ex a' w' hp => ?_
  have fin : ∀ {T : St}, Sim T → T.H = H1 → EnvR T e a'.tmps → Ext S T → (evalResults P e H1 fn.results.toList).map (fun vs => back (D f frzAt) S.H (tupled vs) H1) = some (v, H') → ∃ r, (results fn a'.tmps).run P T.w = .ok r T.w ∧ CallPost S v H' (.returned r) T.w := by
    intro T hT hTH hTE hST hres
    simp only [Option.map_eq_some_iff] at hres
    obtain ⟨us, hus, hres⟩ := hres
    subst hTH
    obtain ⟨xs, hxs, hvr⟩ := results_sound (P := P) hT hTE hus
    obtain ⟨T', g1, g2, g3, g4, g5⟩ := back_ok hS hT hST (tupled_sound hvr) (D f frzAt)
    rw [hres] at g2 g5
    refine ⟨_, ?_, T', _, rfl, g1, g2, g3, g4, g5⟩
    rw [results_eq]
    have hm : (fn.results.mapM (resVal a'.tmps)).run P T.w = .ok xs.toArray T.w := by
      rw [Array.mapM_eq_mapM_toList]
      simp only [Sem.run_map, hxs]
      rfl
    simp only [Sem.run_bind, hm, Result.andThen_ok]
    rfl
  cases ex with
  | normal =>
    obtain ⟨rfl, T, rfl, t0, t1, t2, t3, t4, t5⟩ := hp
    obtain ⟨r, h1, h2⟩ := fin t1 t0 t3 t2 h
    exact ⟨t5, r, h1, h2⟩
  | ret =>
    obtain ⟨rfl, T, rfl, t0, t1, t2, t3, t4, t5⟩ := hp
    obtain ⟨r, h1, h2⟩ := fin t1 t0 t3 t2 h
    exact ⟨t5, r, h1, h2⟩
  | exit id =>
    obtain ⟨rfl, hp⟩ := hp
    cases h
  | goto l => exact hp.elim
  | panic ch => exact hp.elim
  | outgrown => exact hp.elim

theorem run_ok {D : Quiets} (hG : Good P K) : ∀ n, CallOK P (run P K D n)
  | 0 => fun f as H v H' h => by simp [run] at h
  | n + 1 => fn_ok hG (run_ok hG n)

/-- THE ONE THEOREM: what the interpreter tells of a call, the machine does, whatever it draws. -/
theorem runs_ok {D : Quiets} (hG : Good P K) : CallOK P (runs P K D) := by
  intro f as H v H' h
  obtain ⟨n, hn⟩ := runs_iff.1 h
  exact run_ok hG n f as H v H' hn

end
end Go.Proofs.Ytghjglnebcpcmaa
