/- Regions that draw their order: operations that do not touch one another may change places. -/
import Derived.Test.YtphkkcocimmmfaaAL11
import Derived.Orders
namespace Go.Proofs.Ytphkkcocimmmfaa
open Go.RowKit

section
variable {P : Program} {K : TypeId → Option (List Sc)}

theorem evalOpds_env {e e' : Env} : ∀ {xs : List Operand}, (∀ x ∈ xs, evalOpd e x = evalOpd e' x) → evalOpds e xs = evalOpds e' xs
  | [], _ => rfl
  | x :: xs, h => by simp only [evalOpds]; rw [h x (by simp), evalOpds_env (fun y hy => h y (by simp [hy]))]
theorem evalParts_env {e e' : Env} : ∀ {xs : List (Nat × Operand)}, (∀ x ∈ xs, evalOpd e x.2 = evalOpd e' x.2) → evalParts e xs = evalParts e' xs
  | [], _ => rfl
  | (i, x) :: xs, h => by simp only [evalParts]; rw [h (i, x) (by simp), evalParts_env (fun y hy => h y (by simp [hy]))]
theorem evalOpt_env {e e' : Env} {x : Option Operand} (h : ∀ y ∈ x, evalOpd e y = evalOpd e' y) : evalOpt e x = evalOpt e' x := by
  cases x with
  | none => rfl
  | some x => simp only [evalOpt]; rw [h x rfl]

theorem abuiltin_env {e e' : Env} {H : AHeap} {b : Builtin} {ts : List TypeId} {xs : List Operand} (h : ∀ x ∈ xs, evalOpd e x = evalOpd e' x) : abuiltin P K e H b ts xs = abuiltin P K e' H b ts xs := by
  unfold abuiltin
  rw [evalOpds_env h]

/-- An operation looks at its operands alone. -/
theorem step1_env {o : Op} {e e' : Env} {H : AHeap} (h : ∀ x ∈ o.operands.toList, evalOpd e x = evalOpd e' x) : step1 P K o e H = step1 P K o e' H := by
  cases o with
  | build t ps =>
    simp only [step1]
    rw [evalParts_env (fun x hx => h x.2 (by simp only [Op.operands]; exact List.mem_map.2 ⟨x, hx, rfl⟩))]
  | buildSlice t n ps =>
    simp only [step1]
    rw [evalParts_env (fun x hx => h x.2 (by simp only [Op.operands]; exact List.mem_map.2 ⟨x, hx, rfl⟩))]
  | makeFunc f a b =>
    simp only [step1]
    rw [evalOpds_env (xs := a.toList) (fun x hx => h x (by simp only [Op.operands]; simp at hx ⊢; exact .inl hx)), evalOpds_env (xs := b.toList) (fun x hx => h x (by simp only [Op.operands]; simp at hx ⊢; exact .inr hx))]
  | slice t x lo hi mx =>
    simp only [step1]
    rw [h x (by simp [Op.operands]), evalOpt_env (x := lo) (fun y hy => h y (by cases hy; simp [Op.operands])), evalOpt_env (x := hi) (fun y hy => h y (by cases hy; simp [Op.operands])), evalOpt_env (x := mx) (fun y hy => h y (by cases hy; simp [Op.operands]))]
  | call c =>
    simp only [step1]
    have hargs : ∀ x ∈ c.args.toList, evalOpd e x = evalOpd e' x := fun x hx => h x (by simp only [Op.operands, Call.operands]; simp at hx ⊢; exact .inr hx)
    cases hc : c.callee with
    | builtin b => simp only []; rw [abuiltin_env hargs]
    | value f =>
      simp only []
      rw [evalOpds_env hargs, h f (by simp [Op.operands, Call.operands, hc])]
    | invoke r n => rfl
  | makeMap t r => cases r <;> rfl
  | alloc t => rfl
  | move x => simp only [step1]; rw [h x (by simp [Op.operands])]
  | assign x => simp only [step1]; rw [h x (by simp [Op.operands])]
  | pick c x y => simp only [step1]; rw [h c (by simp [Op.operands]), h x (by simp [Op.operands]), h y (by simp [Op.operands])]
  | box t x => simp only [step1]; rw [h x (by simp [Op.operands])]
  | load t x => simp only [step1]; rw [h x (by simp [Op.operands])]
  | store t x y => simp only [step1]; rw [h x (by simp [Op.operands]), h y (by simp [Op.operands])]
  | nilCheck x => simp only [step1]; rw [h x (by simp [Op.operands])]
  | binOp op t x y yt => simp only [step1]; rw [h x (by simp [Op.operands]), h y (by simp [Op.operands])]
  | unOp op t x => simp only [step1]; rw [h x (by simp [Op.operands])]
  | convert s d x => simp only [step1]; rw [h x (by simp [Op.operands])]
  | makeInterface t x => simp only [step1]; rw [h x (by simp [Op.operands])]
  | makeSlice t x y => simp only [step1]; rw [h x (by simp [Op.operands]), h y (by simp [Op.operands])]
  | fieldAddr t x f => simp only [step1]; rw [h x (by simp [Op.operands])]
  | field t x f => simp only [step1]; rw [h x (by simp [Op.operands])]
  | indexAddr t x y => simp only [step1]; rw [h x (by simp [Op.operands]), h y (by simp [Op.operands])]
  | index t x y => simp only [step1]; rw [h x (by simp [Op.operands]), h y (by simp [Op.operands])]
  | lookup t x y ok => simp only [step1]; rw [h x (by simp [Op.operands]), h y (by simp [Op.operands])]
  | mapUpdate t x y z => simp only [step1]; rw [h x (by simp [Op.operands]), h y (by simp [Op.operands]), h z (by simp [Op.operands])]
  | insert t x y z => simp only [step1]; rw [h x (by simp [Op.operands]), h y (by simp [Op.operands]), h z (by simp [Op.operands])]
  | mapEntry t x y => simp only [step1]; rw [h x (by simp [Op.operands]), h y (by simp [Op.operands])]
  | entryStore t x y z => simp only [step1]; rw [h x (by simp [Op.operands]), h y (by simp [Op.operands]), h z (by simp [Op.operands])]
  | extract x i => simp only [step1]; rw [h x (by simp [Op.operands])]
  | _ => rfl

/-- What only computes does not ask for memory. -/
theorem step1_pure {o : Op} (hc : cls o = 0) {e : Env} {H : AHeap} {v : AV} {H' : AHeap} (h : step1 P K o e H = .pr (some (v, H'))) : H' = H ∧ ∀ G, step1 P K o e G = .pr (some (v, G)) := by
  cases o with
  | move x => simp only [step1, Stp.pr.injEq, Option.map_eq_some_iff, Prod.mk.injEq] at h; obtain ⟨u, hu, rfl, rfl⟩ := h; exact ⟨rfl, fun G => by simp [step1, hu]⟩
  | assign x => simp only [step1, Stp.pr.injEq, Option.map_eq_some_iff, Prod.mk.injEq] at h; obtain ⟨u, hu, rfl, rfl⟩ := h; exact ⟨rfl, fun G => by simp [step1, hu]⟩
  | pick c x y =>
    simp only [step1, Stp.pr.injEq] at h
    split at h <;> first | (cases h; done) | skip
    rename_i hcv
    simp only [Option.map_eq_some_iff, Prod.mk.injEq] at h
    obtain ⟨u, hu, rfl, rfl⟩ := h
    exact ⟨rfl, fun G => by simp only [step1, hcv, hu, Option.map_some]⟩
  | unOp op t x => simp only [step1, Stp.pr.injEq, Option.bind_eq_some_iff, Option.map_eq_some_iff, Prod.mk.injEq] at h; obtain ⟨p, hp, u, hu, rfl, rfl⟩ := h; exact ⟨rfl, fun G => by simp [step1, hp, hu]⟩
  | binOp op t x y yt => simp only [step1, Stp.pr.injEq, Option.bind_eq_some_iff, Option.map_eq_some_iff, Prod.mk.injEq] at h; obtain ⟨p, hp, q, hq, u, hu, rfl, rfl⟩ := h; exact ⟨rfl, fun G => by simp [step1, hp, hq, hu]⟩
  | fieldAddr t x f =>
    simp only [step1, Stp.pr.injEq, Option.bind_eq_some_iff] at h
    obtain ⟨fd, hfd, n, hn, h⟩ := h
    split at h <;> first | (cases h; done) | skip
    rename_i hp
    split at h <;> first | (cases h; done) | skip
    all_goals (rename_i hx; cases h; exact ⟨rfl, fun G => by simp [step1, hfd, hn, hp, hx]⟩)
  | field t x f =>
    simp only [step1, Stp.pr.injEq, Option.bind_eq_some_iff] at h
    obtain ⟨fd, hfd, h⟩ := h
    split at h <;> first | (cases h; done) | skip
    rename_i hx
    simp only [Option.map_eq_some_iff, Prod.mk.injEq] at h
    obtain ⟨u, hu, rfl, rfl⟩ := h
    exact ⟨rfl, fun G => by simp [step1, hfd, hx, hu]⟩
  | extract x i =>
    simp only [step1, Stp.pr.injEq] at h
    split at h <;> first | (cases h; done) | skip
    rename_i hx
    simp only [Option.map_eq_some_iff, Prod.mk.injEq] at h
    obtain ⟨u, hu, rfl, rfl⟩ := h
    exact ⟨rfl, fun G => by simp [step1, hx, hu]⟩
  | nilCheck x =>
    simp only [step1, Stp.pr.injEq] at h
    split at h <;> first | (cases h; done) | skip
    all_goals (rename_i hx; cases h; exact ⟨rfl, fun G => by simp [step1, hx]⟩)
  | makeInterface t x =>
    simp only [step1, Stp.pr.injEq, Option.bind_eq_some_iff] at h
    obtain ⟨p, hp, h⟩ := h
    split at h <;> first | (cases h; done) | skip
    rename_i d hni hu
    cases h
    refine ⟨rfl, fun G => ?_⟩
    simp only [step1, hp, Option.bind_some, hu]
  | makeFunc f a b => simp only [step1, Stp.pr.injEq, Option.bind_eq_some_iff, Option.map_eq_some_iff, Prod.mk.injEq] at h; obtain ⟨p, hp, q, hq, rfl, rfl⟩ := h; exact ⟨rfl, fun G => by simp [step1, hp, hq]⟩
  | indexAddr t x y =>
    simp only [step1, Stp.pr.injEq, Option.bind_eq_some_iff] at h
    obtain ⟨p, hp, h⟩ := h
    split at h <;> first | (cases h; done) | skip
    rename_i hy
    simp only [Option.map_eq_some_iff, Prod.mk.injEq] at h
    obtain ⟨u, hu, rfl, rfl⟩ := h
    exact ⟨rfl, fun G => by simp [step1, hp, hy, hu]⟩
  | index t x y =>
    simp only [step1, Stp.pr.injEq, Option.bind_eq_some_iff] at h
    obtain ⟨p, hp, h⟩ := h
    split at h <;> first | (cases h; done) | skip
    rename_i hy
    simp only [Option.map_eq_some_iff, Prod.mk.injEq] at h
    obtain ⟨u, hu, rfl, rfl⟩ := h
    exact ⟨rfl, fun G => by simp [step1, hp, hy, hu]⟩
  | build t ps => simp only [step1, Stp.pr.injEq, Option.bind_eq_some_iff, Option.map_eq_some_iff, Prod.mk.injEq] at h; obtain ⟨p, hp, u, hu, rfl, rfl⟩ := h; exact ⟨rfl, fun G => by simp [step1, hp, hu]⟩
  | convert s d x =>
    simp only [step1, Stp.pr.injEq, Option.bind_eq_some_iff] at h
    obtain ⟨p, hp, h⟩ := h
    unfold aconvert at h
    split at h <;> first | (cases h; done) | skip
    · rename_i h1 h2; cases h; exact ⟨rfl, fun G => by simp [step1, hp, aconvert, h1, h2]⟩
    · rename_i h1 h2; cases h; exact ⟨rfl, fun G => by simp [step1, hp, aconvert, h1, h2]⟩
  | call c =>
    obtain ⟨callee, args, ts⟩ := c
    cases callee with
    | builtin b =>
      simp only [step1, Stp.pr.injEq] at h ⊢
      simp only [abuiltin, Option.bind_eq_some_iff] at h ⊢
      obtain ⟨as, has, h⟩ := h
      cases b <;> simp [cls] at hc
      all_goals
        cases as with
        | nil => simp at h
        | cons x r =>
          simp only [Option.map_eq_some_iff, Prod.mk.injEq] at h
          obtain ⟨u, hu, rfl, rfl⟩ := h
          exact ⟨rfl, fun G => ⟨_, has, by simp [hu]⟩⟩
    | value f => simp [cls] at hc
    | invoke r n => simp [cls] at hc
  | _ => simp [cls] at hc

/-- The object that a value names lies among the first n. -/
def topIn (n : Nat) : AV → Prop
  | .ptr o _ => o < n
  | .row o _ _ _ _ => o < n
  | .map o => o < n
  | _ => True

theorem VR.topIn {S : St} {v : AV} {x : Value} (h : VR S v x) : topIn S.H.size v := by
  cases h <;> first | trivial | assumption

/-- What reads tells the same where the objects are the same. -/
theorem step1_read {o : Op} (hc : cls o = 1) {e : Env} {H G : AHeap} {n : Nat} (hn : ∀ x ∈ o.operands.toList, ∀ u, evalOpd e x = some u → topIn n u) (hHG : ∀ k, k < n → G.obj k = H.obj k) {v : AV} {H' : AHeap} (h : step1 P K o e H = .pr (some (v, H'))) :
    H' = H ∧ step1 P K o e G = .pr (some (v, G)) := by
  cases o with
  | load t x =>
    simp only [step1, Stp.pr.injEq, Option.bind_eq_some_iff, Option.map_eq_some_iff, Prod.mk.injEq] at h
    obtain ⟨p, hp, u, hu, rfl, rfl⟩ := h
    have ht := hn x (by simp [Op.operands]) p hp
    refine ⟨rfl, ?_⟩
    have : aload P G t p = some u := by
      unfold aload at hu ⊢
      split at hu <;> first | (cases hu; done) | skip
      · rename_i o off
        simp only [topIn] at ht
        simp only [hHG o ht]
        exact hu
      · exact hu
    simp [step1, hp, this]
  | lookup t x y ok =>
    simp only [step1, Stp.pr.injEq, Option.bind_eq_some_iff, Option.map_eq_some_iff, Prod.mk.injEq] at h
    obtain ⟨p, hp, q, hq, u, hu, rfl, rfl⟩ := h
    have ht := hn x (by simp [Op.operands]) p hp
    refine ⟨rfl, ?_⟩
    have : alookup P K G t p q ok = some u := by
      rw [← hu]
      unfold alookup
      cases p <;> first | rfl | skip
      simp only [topIn] at ht
      simp only [hHG _ ht]
    simp [step1, hp, hq, this]
  | slice t x lo hi mx =>
    simp only [step1, Stp.pr.injEq, Option.bind_eq_some_iff, Option.map_eq_some_iff, Prod.mk.injEq] at h
    obtain ⟨p, hp, l, hl, q, hq, m, hm, u, hu, rfl, rfl⟩ := h
    have ht := hn x (by simp [Op.operands]) p hp
    refine ⟨rfl, ?_⟩
    have : aslice P G t p l q m = some u := by
      rw [← hu]
      unfold aslice
      split <;> first | rfl | (simp only [topIn] at ht; simp only [hHG _ ht])
    simp [step1, hp, hl, hq, hm, this]
  | call c =>
    obtain ⟨callee, args, ts⟩ := c
    cases callee with
    | builtin b =>
      simp only [step1, Stp.pr.injEq] at h ⊢
      simp only [abuiltin, Option.bind_eq_some_iff] at h ⊢
      obtain ⟨as, has, h⟩ := h
      cases b <;> simp [cls] at hc
      split at h <;> first | (cases h; done) | (rename_i hb _ _; cases hb; done) | skip
      all_goals (first | (rename_i hb; cases hb; done) | (rename_i hb _; cases hb; done) | skip)
      simp only [Option.map_eq_some_iff, Prod.mk.injEq] at h
      obtain ⟨u, hu, rfl, rfl⟩ := h
      refine ⟨rfl, _, has, ?_⟩
      rename_i t ts' x _ hts
      have ht : topIn n x := by
        cases hargs : args.toList with
        | nil => rw [hargs] at has; simp [evalOpds] at has
        | cons y ys =>
          rw [hargs] at has
          simp only [evalOpds, Option.bind_eq_some_iff, Option.map_eq_some_iff] at has
          obtain ⟨a, ha, bs, hb, he⟩ := has
          cases he
          exact hn y (by simp only [Op.operands, Call.operands]; simp [← Array.mem_toList_iff, hargs]) _ ha
      have : alen P G t x = some u := by
        rw [← hu]
        unfold alen
        split <;> first | rfl | (simp only [topIn] at ht; simp only [hHG _ ht])
      rw [hts]
      simp only [this, Option.map_some]
    | value f => simp [cls] at hc
    | invoke r n => simp [cls] at hc
  | makeMap t r => simp [cls] at hc
  | _ => simp [cls] at hc

/-- What makes memory writes none. -/
theorem step1_new {o : Op} (hc : cls o = 2) {e : Env} {H : AHeap} {v : AV} {H' : AHeap} (h : step1 P K o e H = .pr (some (v, H'))) : H'.wr = H.wr := by
  cases o with
  | alloc t => simp only [step1, Stp.pr.injEq, Option.map_eq_some_iff, Prod.mk.injEq] at h; obtain ⟨u, hu, rfl, rfl⟩ := h; rfl
  | box t x => simp only [step1, Stp.pr.injEq, Option.map_eq_some_iff, Prod.mk.injEq] at h; obtain ⟨u, hu, rfl, rfl⟩ := h; rfl
  | buildSlice t n ps =>
    simp only [step1, Stp.pr.injEq, Option.bind_eq_some_iff] at h
    obtain ⟨l, hl, h⟩ := h
    unfold abuildSlice at h
    split at h <;> first | (cases h; done) | skip
    simp only [Option.bind_eq_some_iff] at h
    obtain ⟨s, hs, z, hz, h⟩ := h
    split at h <;> first | (cases h; done) | skip
    simp only [Option.map_eq_some_iff, Prod.mk.injEq] at h
    obtain ⟨_, _, _, rfl⟩ := h
    rfl
  | makeMap t r =>
    cases r with
    | some r => simp [step1] at h
    | none =>
      simp only [step1, Stp.pr.injEq] at h
      split at h <;> first | (cases h; done) | skip
      simp only [Option.map_eq_some_iff, Prod.mk.injEq] at h
      obtain ⟨_, _, _, rfl⟩ := h
      rfl
  | makeSlice t l c =>
    simp only [step1, Stp.pr.injEq] at h
    split at h <;> first | (cases h; done) | skip
    unfold amake at h
    split at h <;> first | (cases h; done) | skip
    simp only [Option.bind_eq_some_iff] at h
    obtain ⟨s, hs, b, hb, z, hz, h⟩ := h
    split at h <;> first | (cases h; done) | skip
    cases h
    rfl
  | call c =>
    obtain ⟨callee, args, ts⟩ := c
    cases callee with
    | builtin b => cases b <;> simp [cls] at hc
    | value f => simp only [step1] at h; exact (clOf_ne h).elim
    | invoke r n => simp [step1] at h
  | _ => simp [cls] at hc

theorem step1_cl {o : Op} {e : Env} {H : AHeap} {f : FuncId} {as : List AV} (h : step1 P K o e H = .cl f as) : cls o = 2 ∧ ∀ G, step1 P K o e G = .cl f as := by
  cases o with
  | call c =>
    obtain ⟨callee, args, ts⟩ := c
    cases callee with
    | builtin b => simp [step1] at h
    | value f => exact ⟨rfl, fun G => h⟩
    | invoke r n => simp [step1] at h
  | makeMap t r => cases r <;> simp [step1] at h
  | _ => simp [step1] at h

end
end Go.Proofs.Ytphkkcocimmmfaa
