/- The interpreter is right: an operation. -/
import Derived.Test.YtphkkcocimmmfaaAL10
namespace Go.Proofs.Ytphkkcocimmmfaa
open Go.RowKit

section
variable {P : Program} {K : TypeId → Option (List Sc)}

/-- The operation yields x (nothing: undef) and leaves the world w'. -/
def Gives (P : Program) (s : Sem Next) (w : World) (x : Value) (w' : World) : Prop := s.run P w = .ok (.value x) w' ∨ (s.run P w = .ok .skip w' ∧ x = undef)

def OpOK (P : Program) (S : St) (s : Sem Next) (v : AV) (H' : AHeap) : Prop := ∃ (T : St) (x : Value), Gives P s S.w x T.w ∧ T.H = H' ∧ Sim T ∧ Ext S T ∧ VR T v x

theorem OpOK.value {S T : St} {s : Sem Value} {v : AV} {H' : AHeap} {x : Value} (hr : s.run P S.w = .ok x T.w) (hH : T.H = H') (hS : Sim T) (hE : Ext S T) (hv : VR T v x) : OpOK P S (do pure (.value (← s))) v H' :=
  ⟨T, x, .inl (by simp [hr]), hH, hS, hE, hv⟩

theorem OpOK.same {S : St} {s : Sem Value} {v : AV} (hS : Sim S) (h : ∃ x, s.run P S.w = .ok x S.w ∧ VR S v x) : OpOK P S (do pure (.value (← s))) v S.H :=
  let ⟨_, hr, hv⟩ := h; .value hr rfl hS (Ext.refl S) hv

theorem OpOK.unit {S : St} {s : Sem Unit} {H' : AHeap} (h : ∃ T : St, s.run P S.w = .ok () T.w ∧ T.H = H' ∧ Sim T ∧ Ext S T) : OpOK P S (do s; pure .skip) (.tup []) H' :=
  let ⟨T, hr, hH, hT, hE⟩ := h
  ⟨T, undef, .inr ⟨by simp [hr], rfl⟩, hH, hT, hE, .tup [] [] .nil⟩

theorem map_arr {α β : Type} (f : α → β) (xs : Array α) : xs.map f = (xs.toList.map f).toArray := by
  apply Array.ext'
  simp

theorem evalOpt_sound {S : St} {e : Env} {a : Act} (hE : EnvR S e a.tmps) {o : Option Operand} {v : Option AV} (h : evalOpt e o = some v) : OptVR S v (o.map a.eval) := by
  cases o with
  | none => simp [evalOpt] at h; subst h; trivial
  | some x =>
    simp [evalOpt] at h
    obtain ⟨w, hw, rfl⟩ := h
    exact evalOpd_sound hE hw

theorem abuiltin_sound (hK : KeysOK P K) {S : St} (hS : Sim S) {e : Env} {a : Act} (hE : EnvR S e a.tmps) {b : Builtin} {ts : Array TypeId} {args : Array Operand} {ty : TypeId} {cs : Array Bool} {v : AV} {H' : AHeap} (h : abuiltin P K e S.H b ts.toList args.toList = some (v, H')) :
    OpOK P S (builtin b ts ty cs (args.map a.eval)) v H' := by
  unfold abuiltin at h
  simp only [Option.bind_eq_some_iff] at h
  obtain ⟨as, has, h⟩ := h
  have hargs := evalOpds_sound hE has
  split at h <;> first | (cases h; done) | skip
  · rename_i t ts' x hts
    simp only [Option.map_eq_some_iff, Prod.mk.injEq] at h
    obtain ⟨u, hu, rfl, rfl⟩ := h
    have ha : args.map a.eval = (args.toList.map a.eval).toArray := map_arr _ _
    have ht : ts = (t :: ts').toArray := by rw [← hts]
    rw [ha, ht]
    generalize args.toList.map a.eval = ys at hargs
    cases hargs with
    | cons _ y _ _ hy hn => cases hn; exact OpOK.same hS (alen_sound hS hy hu ts')
  · rename_i t t' s x hts
    split at h <;> first | (cases h; done) | skip
    rename_i htt
    subst htt
    have ha : args.map a.eval = (args.toList.map a.eval).toArray := map_arr _ _
    have ht : ts = #[t', t'] := by rw [← Array.toList_inj, hts]
    rw [ha, ht]
    generalize args.toList.map a.eval = ys at hargs
    cases hargs with
    | cons _ y _ _ hy hn =>
      cases hn with
      | cons _ z _ _ hz hn' =>
        cases hn'
        obtain ⟨T, r, h1, h2, h3, h4, h5⟩ := aappend_sound (ty := ty) hS hy hz h
        exact OpOK.value h1 h2 h3 h4 h5
  · rename_i t ts' m k hts
    simp only [Option.map_eq_some_iff, Prod.mk.injEq] at h
    obtain ⟨u, hu, rfl, rfl⟩ := h
    have ha : args.map a.eval = (args.toList.map a.eval).toArray := map_arr _ _
    have ht : ts = (t :: ts').toArray := by rw [← hts]
    rw [ha, ht]
    generalize args.toList.map a.eval = ys at hargs
    cases hargs with
    | cons _ y _ _ hy hn =>
      cases hn with
      | cons _ z _ _ hz hn' =>
        cases hn'
        obtain ⟨T, h1, h2, h3, h4⟩ := adelete_sound (t' := t) (ty := ty) hK hS hy hz hu ts'
        exact OpOK.value h1 h2 h3 h4 (.tup [] [] .nil)
  · rename_i t ts' o hts
    split at h <;> first | (cases h; done) | skip
    rename_i kt et sh es clock hu hobj
    cases h
    have ha : args.map a.eval = (args.toList.map a.eval).toArray := map_arr _ _
    have ht : ts = (t :: ts').toArray := by rw [← hts]
    rw [ha, ht]
    generalize args.toList.map a.eval = ys at hargs
    cases hargs with
    | cons _ y _ _ hy hn =>
      cases hn
      cases hy with
      | map _ ho =>
        obtain ⟨ms, hb, hEn⟩ := mapObj hS ho hobj
        have hget := run_getMap (P := P) hb
        obtain ⟨g1, g2⟩ := put_map hS ho hobj hb (clock' := clock) (es' := []) (ms' := []) .nil
        have hset := run_setMap (P := P) hb (.map #[] clock)
        refine OpOK.value (T := S.put o (.map sh [] clock) _) ?_ rfl g1 g2 (.tup [] [] .nil)
        simp [Builtin.clear_, run_underlying hu, hget, hset, St.put]
  · rename_i x r hts
    simp only [Option.map_eq_some_iff, Prod.mk.injEq] at h
    obtain ⟨u, hu, rfl, rfl⟩ := h
    have ha : args.map a.eval = (args.toList.map a.eval).toArray := map_arr _ _
    rw [ha]
    generalize args.toList.map a.eval = ys at hargs
    cases hargs with
    | cons _ y _ ys' hy hn =>
      obtain ⟨z, hz, hv⟩ := foldMin_sound (P := P) (w := S.w) hn hy hu
      exact OpOK.same hS ⟨z, by simpa [Builtin.min_] using hz, hv⟩
  · rename_i x r hts
    simp only [Option.map_eq_some_iff, Prod.mk.injEq] at h
    obtain ⟨u, hu, rfl, rfl⟩ := h
    have ha : args.map a.eval = (args.toList.map a.eval).toArray := map_arr _ _
    rw [ha]
    generalize args.toList.map a.eval = ys at hargs
    cases hargs with
    | cons _ y _ ys' hy hn =>
      obtain ⟨z, hz, hv⟩ := foldMax_sound (P := P) (w := S.w) hn hy hu
      exact OpOK.same hS ⟨z, by simpa [Builtin.max_] using hz, hv⟩

theorem fieldAt_some {s : TypeId} {f : Nat} {fd : Field} (h : fieldAt P s f = some fd) : ∃ fs, P.underlying s = some (.struct fs) ∧ fs[f]? = some fd := by
  unfold fieldAt at h
  split at h
  · exact ⟨_, ‹_›, h⟩
  · cases h

theorem aconvert_sound {S : St} {s d : TypeId} {x v : AV} {y : Value} {H' : AHeap} (hx : VR S x y) (h : aconvert P S.H s d x = some (v, H')) : H' = S.H ∧ ∃ z, (convert s d y).run P S.w = .ok z S.w ∧ VR S v z := by
  unfold aconvert at h
  split at h <;> first | (cases h; done) | skip
  · rename_i ds k k' n h1 h2
    cases h; cases hx
    refine ⟨rfl, _, ?_, .int _ _⟩
    simp only [convert, Sem.run_bind, run_underlying h1, run_underlying h2, Result.andThen_ok]
    cases ds <;> rfl
  · rename_i ds st h1 h2
    cases h; cases hx
    refine ⟨rfl, _, ?_, .str _⟩
    simp only [convert, Sem.run_bind, run_underlying h1, run_underlying h2, Result.andThen_ok]
    cases ds <;> rfl

theorem clOf_ne {r : Option (FuncId × List AV)} {v : AV} {H' : AHeap} (h : clOf r = .pr (some (v, H'))) : False := by
  unfold clOf at h
  split at h <;> cases h

theorem prim_sound (hK : KeysOK P K) {S : St} (hS : Sim S) {o : Oper} {e : Env} {a : Act} (hE : EnvR S e a.tmps) {v : AV} {H' : AHeap} (h : step1 P K o.op e S.H = .pr (some (v, H'))) : OpOK P S (execOp a.eval o) v H' := by
  obtain ⟨dst, op, ty, pos, after, guard⟩ := o
  simp only at h
  cases op with
  | move x =>
    simp only [step1, Stp.pr.injEq, Option.map_eq_some_iff, Prod.mk.injEq] at h
    obtain ⟨u, hu, rfl, rfl⟩ := h
    exact ⟨S, _, .inl rfl, rfl, hS, Ext.refl S, evalOpd_sound hE hu⟩
  | assign x =>
    simp only [step1, Stp.pr.injEq, Option.map_eq_some_iff, Prod.mk.injEq] at h
    obtain ⟨u, hu, rfl, rfl⟩ := h
    exact ⟨S, _, .inl rfl, rfl, hS, Ext.refl S, evalOpd_sound hE hu⟩
  | pick c x y =>
    simp only [step1, Stp.pr.injEq] at h
    split at h <;> first | (cases h; done) | skip
    rename_i t ht
    simp only [Option.map_eq_some_iff, Prod.mk.injEq] at h
    obtain ⟨u, hu, rfl, rfl⟩ := h
    have hc := evalOpd_sound hE ht
    generalize hcv : a.eval c = cv at hc
    cases hc
    cases t
    · exact ⟨S, _, .inl (by simp [execOp, hcv, asBool]; rfl), rfl, hS, Ext.refl S, evalOpd_sound hE (by simpa using hu)⟩
    · exact ⟨S, _, .inl (by simp [execOp, hcv, asBool]; rfl), rfl, hS, Ext.refl S, evalOpd_sound hE (by simpa using hu)⟩
  | alloc t =>
    simp only [step1, Stp.pr.injEq, Option.map_eq_some_iff, Prod.mk.injEq] at h
    obtain ⟨z, hz, rfl, rfl⟩ := h
    obtain ⟨i, zv, hi, hzz, hvz⟩ := tZ_some S hz
    obtain ⟨T, h1, h2, h3, h4, h5⟩ := newVar_sound hS hvz t
    exact OpOK.value (by simp [Instr.alloc, run_zeroValue hi hzz, newVar, newRow, h1]) h2 h3 h4 h5
  | box t x =>
    simp only [step1, Stp.pr.injEq, Option.map_eq_some_iff, Prod.mk.injEq] at h
    obtain ⟨u, hu, rfl, rfl⟩ := h
    obtain ⟨T, h1, h2, h3, h4, h5⟩ := newVar_sound hS (evalOpd_sound hE hu).cells t
    exact OpOK.value (by simp [Instr.box, newVar, newRow, h1]) h2 h3 h4 h5
  | build t ps =>
    simp only [step1, Stp.pr.injEq, Option.bind_eq_some_iff, Option.map_eq_some_iff, Prod.mk.injEq] at h
    obtain ⟨l, hl, u, hu, rfl, rfl⟩ := h
    exact OpOK.same hS (abuild_sound hE hl hu)
  | buildSlice t n ps =>
    simp only [step1, Stp.pr.injEq, Option.bind_eq_some_iff] at h
    obtain ⟨l, hl, h⟩ := h
    obtain ⟨T, r, h1, h2, h3, h4, h5⟩ := abuildSlice_sound hS hE hl h
    exact OpOK.value h1 h2 h3 h4 h5
  | load t x =>
    simp only [step1, Stp.pr.injEq, Option.bind_eq_some_iff, Option.map_eq_some_iff, Prod.mk.injEq] at h
    obtain ⟨p, hp, u, hu, rfl, rfl⟩ := h
    exact OpOK.same hS (aload_sound hS (evalOpd_sound hE hp) hu)
  | store t x y =>
    simp only [step1, Stp.pr.injEq, Option.bind_eq_some_iff, Option.map_eq_some_iff, Prod.mk.injEq] at h
    obtain ⟨p, hp, u, hu, H2, h2, rfl, rfl⟩ := h
    obtain ⟨w', g1, T, g2, g3, g4, g5⟩ := astore_sound hS (evalOpd_sound hE hp) (evalOpd_sound hE hu) h2
    exact OpOK.unit ⟨T, by rw [g2]; exact g1, g3, g4, g5⟩
  | nilCheck x =>
    simp only [step1, Stp.pr.injEq] at h
    split at h <;> first | (cases h; done) | skip
    all_goals
      rename_i hx
      cases h
      have hv := evalOpd_sound hE hx
      refine ⟨S, a.eval x, .inl ?_, rfl, hS, Ext.refl S, hv⟩
      generalize hxe : a.eval x = y at hv ⊢
      cases hv
      simp [execOp, hxe]
  | binOp op t x y yt =>
    simp only [step1, Stp.pr.injEq, Option.bind_eq_some_iff, Option.map_eq_some_iff, Prod.mk.injEq] at h
    obtain ⟨p, hp, q, hq, u, hu, rfl, rfl⟩ := h
    exact OpOK.same hS (abin_sound hK (evalOpd_sound hE hp) (evalOpd_sound hE hq) hu)
  | unOp op t x =>
    simp only [step1, Stp.pr.injEq, Option.bind_eq_some_iff, Option.map_eq_some_iff, Prod.mk.injEq] at h
    obtain ⟨p, hp, u, hu, rfl, rfl⟩ := h
    exact OpOK.same hS (aun_sound (evalOpd_sound hE hp) hu)
  | convert s d x =>
    simp only [step1, Stp.pr.injEq, Option.bind_eq_some_iff] at h
    obtain ⟨p, hp, h⟩ := h
    obtain ⟨rfl, hz⟩ := aconvert_sound (evalOpd_sound hE hp) h
    exact OpOK.same hS hz
  | makeInterface t x =>
    simp only [step1, Stp.pr.injEq, Option.bind_eq_some_iff] at h
    obtain ⟨p, hp, h⟩ := h
    split at h <;> first | (cases h; done) | skip
    rename_i d hni hu
    cases h
    refine OpOK.same hS ⟨.iface t (a.eval x), ?_, .ifc t p _ (evalOpd_sound hE hp)⟩
    simp only [Instr.makeInterface, Sem.run_bind, run_underlying hu, Result.andThen_ok]
    cases d <;> first | rfl | exact (hni _ rfl).elim
  | makeFunc f first cap =>
    simp only [step1, Stp.pr.injEq, Option.bind_eq_some_iff, Option.map_eq_some_iff, Prod.mk.injEq] at h
    obtain ⟨p, hp, q, hq, rfl, rfl⟩ := h
    refine OpOK.same hS ⟨.func f (first.map a.eval) (cap.map a.eval), rfl, ?_⟩
    rw [map_arr, map_arr]
    exact VR.fn (S := S) f p q _ _ (evalOpds_sound hE hp) (evalOpds_sound hE hq)
  | makeMap t r =>
    cases r with
    | some r => simp [step1] at h
    | none =>
      simp only [step1, Stp.pr.injEq] at h
      split at h <;> first | (cases h; done) | skip
      rename_i kt et hu
      simp only [Option.map_eq_some_iff, Prod.mk.injEq] at h
      obtain ⟨sh, hsh, rfl, rfl⟩ := h
      obtain ⟨h1, h2, h3⟩ := alloc_obj hS (x := .map sh [] 0) (Grew.alloc S.w (.map #[] 0)) (fun T hw hb => .map sh [] [] 0 (by rw [hb, hw]; exact (Grew.alloc S.w _).new) .nil)
      refine OpOK.value (T := S.alloc (.map sh [] 0) (S.w.alloc (.map #[] 0))) (x := .map (some S.w.heap.size)) rfl rfl h1 h2 ?_
      have := VR.map (S := S.alloc (.map sh [] 0) (S.w.alloc (.map #[] 0))) S.H.size (by simp [St.alloc, AHeap.new])
      rwa [h3] at this
  | makeSlice t l c =>
    simp only [step1, Stp.pr.injEq] at h
    split at h <;> first | (cases h; done) | skip
    rename_i k n k' m hl hc
    have vl := evalOpd_sound hE hl
    have vc := evalOpd_sound hE hc
    obtain ⟨T, r, h1, h2, h3, h4, h5⟩ := amake_sound (k := k) (k' := k') hS h
    generalize hle : a.eval l = y at vl
    generalize hce : a.eval c = z at vc
    cases vl; cases vc
    exact OpOK.value (by rw [hle, hce]; exact h1) h2 h3 h4 h5
  | slice t x lo hi mx =>
    simp only [step1, Stp.pr.injEq, Option.bind_eq_some_iff, Option.map_eq_some_iff, Prod.mk.injEq] at h
    obtain ⟨p, hp, l, hl, u, hu, m, hm, r, hr, rfl, rfl⟩ := h
    exact OpOK.same hS (aslice_sound hS (evalOpd_sound hE hp) (evalOpt_sound hE hl) (evalOpt_sound hE hu) (evalOpt_sound hE hm) hr)
  | fieldAddr t x f =>
    simp only [step1, Stp.pr.injEq, Option.bind_eq_some_iff] at h
    obtain ⟨fd, hfd, n, hn, h⟩ := h
    obtain ⟨fs, hu, hf⟩ := fieldAt_some hfd
    split at h <;> first | (cases h; done) | skip
    rename_i hpos
    have hn0 : n ≠ 0 := by omega
    split at h <;> first | (cases h; done) | skip
    · rename_i o off hx
      cases h
      have hv := evalOpd_sound hE hx
      generalize hxe : a.eval x = y at hv
      cases hv with
      | ptr _ _ m ho hm =>
        refine OpOK.same hS ⟨_, ?_, .ptr o (off + fd.offset) m ho hm⟩
        simp [Instr.fieldAt, run_underlying hu, hf, hxe, Instr.sureAddr, fieldPlace, run_sizeOf hn, hn0, add_plain, Nat.add_assoc]
    · rename_i cs off hx
      cases h
      have hv := evalOpd_sound hE hx
      generalize hxe : a.eval x = y at hv
      cases hv with
      | ptrl _ b base _ xs hs hb hno hc =>
        refine OpOK.same hS ⟨_, ?_, .ptrl cs b base (off + fd.offset) xs hs hb hno hc⟩
        simp [Instr.fieldAt, run_underlying hu, hf, hxe, Instr.sureAddr, fieldPlace, run_sizeOf hn, hn0, add_plain, Nat.add_assoc]
  | field t x f =>
    simp only [step1, Stp.pr.injEq, Option.bind_eq_some_iff] at h
    obtain ⟨fd, hfd, h⟩ := h
    obtain ⟨fs, hu, hf⟩ := fieldAt_some hfd
    split at h <;> first | (cases h; done) | skip
    rename_i cs hx
    simp only [Option.map_eq_some_iff, Prod.mk.injEq] at h
    obtain ⟨r, hr, rfl, rfl⟩ := h
    have hv := evalOpd_sound hE hx
    generalize hxe : a.eval x = y at hv
    cases hv with
    | agg _ xs hs =>
      obtain ⟨z, hz, hvz⟩ := part_sound (P := P) (w := S.w) hs hr
      exact OpOK.same hS ⟨z, by simp [Instr.field, run_underlying hu, hf, hxe, asAgg, hz], hvz⟩
  | indexAddr t x i =>
    simp only [step1, Stp.pr.injEq, Option.bind_eq_some_iff] at h
    obtain ⟨p, hp, h⟩ := h
    split at h <;> first | (cases h; done) | skip
    rename_i k n hi
    simp only [Option.map_eq_some_iff, Prod.mk.injEq] at h
    obtain ⟨r, hr, rfl, rfl⟩ := h
    have hv := evalOpd_sound hE hi
    generalize hie : a.eval i = y at hv
    cases hv
    obtain ⟨z, hz, hvz⟩ := aindexAddr_sound (k := k) (evalOpd_sound hE hp) hr
    exact OpOK.same hS ⟨z, by rw [hie]; exact hz, hvz⟩
  | index t x i =>
    simp only [step1, Stp.pr.injEq, Option.bind_eq_some_iff] at h
    obtain ⟨p, hp, h⟩ := h
    split at h <;> first | (cases h; done) | skip
    rename_i k n hi
    simp only [Option.map_eq_some_iff, Prod.mk.injEq] at h
    obtain ⟨r, hr, rfl, rfl⟩ := h
    have hv := evalOpd_sound hE hi
    generalize hie : a.eval i = y at hv
    cases hv
    obtain ⟨z, hz, hvz⟩ := aindex_sound (k := k) (evalOpd_sound hE hp) hr
    exact OpOK.same hS ⟨z, by rw [hie]; exact hz, hvz⟩
  | lookup t m k ok =>
    simp only [step1, Stp.pr.injEq, Option.bind_eq_some_iff, Option.map_eq_some_iff, Prod.mk.injEq] at h
    obtain ⟨p, hp, q, hq, r, hr, rfl, rfl⟩ := h
    exact OpOK.same hS (alookup_sound hK hS (evalOpd_sound hE hp) (evalOpd_sound hE hq) hr)
  | mapUpdate t m k x =>
    simp only [step1, Stp.pr.injEq, Option.bind_eq_some_iff, Option.map_eq_some_iff, Prod.mk.injEq] at h
    obtain ⟨p, hp, q, hq, r, hr, H2, h2, rfl, rfl⟩ := h
    exact OpOK.unit (amapUpdate_sound hK hS (evalOpd_sound hE hp) (evalOpd_sound hE hq) (evalOpd_sound hE hr) h2)
  | insert t m k x =>
    simp only [step1, Stp.pr.injEq, Option.bind_eq_some_iff, Option.map_eq_some_iff, Prod.mk.injEq] at h
    obtain ⟨p, hp, q, hq, r, hr, H2, h2, rfl, rfl⟩ := h
    exact OpOK.unit (amapUpdate_sound hK hS (evalOpd_sound hE hp) (evalOpd_sound hE hq) (evalOpd_sound hE hr) h2)
  | mapEntry t m k =>
    simp only [step1, Stp.pr.injEq, Option.bind_eq_some_iff] at h
    obtain ⟨p, hp, q, hq, h⟩ := h
    obtain ⟨T, r, h1, h2, h3, h4, h5⟩ := amapEntry_sound hK hS (evalOpd_sound hE hp) (evalOpd_sound hE hq) h
    exact OpOK.value h1 h2 h3 h4 h5
  | entryStore t m s x =>
    simp only [step1, Stp.pr.injEq, Option.bind_eq_some_iff] at h
    obtain ⟨p, hp, q, hq, h⟩ := h
    split at h <;> first | (cases h; done) | skip
    rename_i k n hs
    simp only [Option.map_eq_some_iff, Prod.mk.injEq] at h
    obtain ⟨H2, h2, rfl, rfl⟩ := h
    have hv := evalOpd_sound hE hs
    generalize hse : a.eval s = y at hv
    cases hv
    obtain ⟨T, g1, g2⟩ := aentryStore_sound (P := P) (t := t) (k := k) hS (evalOpd_sound hE hp) (evalOpd_sound hE hq) h2
    exact OpOK.unit ⟨T, by rw [hse]; exact g1, g2⟩
  | extract t i =>
    simp only [step1, Stp.pr.injEq] at h
    split at h <;> first | (cases h; done) | skip
    rename_i vs ht
    simp only [Option.map_eq_some_iff, Prod.mk.injEq] at h
    obtain ⟨r, hr, rfl, rfl⟩ := h
    have hv := evalOpd_sound hE ht
    generalize hte : a.eval t = y at hv
    cases hv with
    | tup _ xs hs =>
      obtain ⟨x, hx, hvx⟩ := hs.get hr
      exact OpOK.same hS ⟨x, by simp [Instr.extract, hte, hx], hvx⟩
  | call c =>
    simp only [step1] at h
    split at h
    · rename_i b hb
      simp only [Stp.pr.injEq] at h
      have := abuiltin_sound (ty := ty) (cs := c.args.map fun | .const _ => true | _ => false) hK hS hE h
      unfold OpOK Gives at this ⊢
      have he : (execOp a.eval ⟨dst, .call c, ty, pos, after, guard⟩) = builtin b c.argTypes ty (c.args.map fun | .const _ => true | _ => false) (c.args.map a.eval) := by
        simp only [execOp, resolve, hb]
        rfl
      rw [he]
      exact this
    · exact (clOf_ne h).elim
    · cases h
  | _ => simp [step1] at h

/-- A function that can be entered: it has a body, and is none of the model's own. -/
def Enterable (P : Program) (f : FuncId) : Prop := ∃ fn, P.funcs[f]? = some fn ∧ fn.body.isSome = true ∧ (fn.name == "runtime.NumGoroutine") = false

theorem call_sound {S : St} {o : Oper} {e : Env} {a : Act} (hE : EnvR S e a.tmps) {f : FuncId} {as : List AV} (h : step1 P K o.op e S.H = .cl f as) (hf : Enterable P f) :
    ∃ vs, (execOp a.eval o).run P S.w = .ok (.enter f vs) S.w ∧ VRs S as vs.toList := by
  obtain ⟨dst, op, ty, pos, after, guard⟩ := o
  simp only at h
  obtain ⟨fn, hfn, hb, hname⟩ := hf
  have hbody : fn.body.isNone = false := by cases hh : fn.body <;> simp_all
  cases op <;> simp only [step1] at h <;> (try (cases h; done))
  case makeMap t r => cases r <;> simp at h
  case call c =>
    split at h
    · cases h
    · rename_i fo hfo
      unfold clOf at h
      split at h <;> first | (cases h; done) | skip
      rename_i g bs heq
      cases h
      simp only [Option.bind_eq_some_iff] at heq
      obtain ⟨cs, hcs, heq⟩ := heq
      split at heq <;> first | (cases heq; done) | skip
      rename_i f' first cap hv
      cases heq
      have hargs := evalOpds_sound hE hcs
      have hfv := evalOpd_sound hE hv
      generalize hfe : a.eval fo = y at hfv
      cases hfv with
      | fn _ _ _ xs ys hx hy =>
        refine ⟨xs.toArray ++ c.args.map a.eval ++ ys.toArray, ?_, ?_⟩
        · simp only [execOp, resolve, hfo, hfe, Deferred.ofValue, Sem.run_bind, Sem.run_pure, Result.andThen_ok, invoke, callFunc, run_program, hfn, hname, hbody]
          rfl
        · have := (hx.append hargs).append hy
          simpa using this
    · cases h

end
end Go.Proofs.Ytphkkcocimmmfaa
