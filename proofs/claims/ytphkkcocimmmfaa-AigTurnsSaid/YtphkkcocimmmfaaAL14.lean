/- The interpreter is right: regions that draw their order. -/
import Derived.Test.YtphkkcocimmmfaaAL13
namespace Go.Proofs.Ytphkkcocimmmfaa
open Go.RowKit

section
variable {P : Program} {K : TypeId → Option (List Sc)}

theorem zipIdx_all {α : Type} {l : List α} (p : α → Nat → Bool) (h : (l.zipIdx.all fun x => p x.1 x.2) = true) {i : Nat} {a : α} (ha : l[i]? = some a) : p a i = true := by
  rw [List.all_eq_true] at h
  exact h (a, i) (by rw [List.mem_zipIdx_iff_getElem?]; exact ha)

theorem step1_total (C : Calling) {o : Op} {e : Env} {H : AHeap} {v : AV} {H' : AHeap} (h : evalOp P K C o e H = some (v, H')) : (step1 P K o e H = .pr (some (v, H'))) ∨ ∃ f as, step1 P K o e H = .cl f as ∧ C f as H = some (v, H') := by
  unfold evalOp at h
  split at h
  · rename_i r hr; subst h; exact .inl hr
  · rename_i f as hr; exact .inr ⟨f, as, hr, h⟩

theorem evalOp_of_pr {C : Calling} {o : Op} {e : Env} {H : AHeap} {r} (h : step1 P K o e H = .pr r) : evalOp P K C o e H = r := by
  unfold evalOp; rw [h]

theorem evalOp_env {C : Calling} {o : Op} {e e' : Env} {H : AHeap} (h : ∀ x ∈ o.operands.toList, evalOpd e x = evalOpd e' x) : evalOp P K C o e H = evalOp P K C o e' H := by
  unfold evalOp; rw [step1_env h]

/-- What a class says of an operation that was carried out. -/
theorem evalOp_pure {C : Calling} {o : Op} (hc : cls o = 0) {e : Env} {H : AHeap} {v : AV} {H' : AHeap} (h : evalOp P K C o e H = some (v, H')) : H' = H ∧ ∀ G, evalOp P K C o e G = some (v, G) := by
  rcases step1_total C h with h | ⟨f, as, h, _⟩
  · obtain ⟨h1, h2⟩ := step1_pure hc h
    exact ⟨h1, fun G => evalOp_of_pr (h2 G)⟩
  · have := (step1_cl h).1; omega

theorem evalOp_read {C : Calling} {o : Op} (hc : cls o = 1) {e : Env} {H G : AHeap} {n : Nat} (hn : ∀ x ∈ o.operands.toList, ∀ u, evalOpd e x = some u → topIn n u) (hHG : ∀ k, k < n → G.obj k = H.obj k) {v : AV} {H' : AHeap} (h : evalOp P K C o e H = some (v, H')) : H' = H ∧ evalOp P K C o e G = some (v, G) := by
  rcases step1_total C h with h | ⟨f, as, h, _⟩
  · obtain ⟨h1, h2⟩ := step1_read hc hn hHG h
    exact ⟨h1, evalOp_of_pr h2⟩
  · have := (step1_cl h).1; omega

theorem tops {S : St} {e : Env} {a : Act} (hE : EnvR S e a.tmps) (x : Operand) (u : AV) (h : evalOpd e x = some u) : topIn S.H.size u := (evalOpd_sound hE h).topIn

theorem Env.putO_other {e : Env} {d : Option Nat} {v : Option AV} {t : Nat} (h : ∀ k, d = some k → k ≠ t) : (e.putO d v) t = e t := by
  unfold Env.putO
  rw [if_neg (fun hd => h t hd rfl)]

theorem Env.putO_comm {e : Env} {d d' : Option Nat} {v w : Option AV} (h : ∀ k, d = some k → d' ≠ some k) : (e.putO d v).putO d' w = (e.putO d' w).putO d v := by
  funext t
  unfold Env.putO
  by_cases h1 : d' = some t <;> by_cases h2 : d = some t
  · exact absurd h1 (h t h2)
  · simp [h1, h2]
  · simp [h1, h2]
  · simp [h1, h2]

theorem looks_operand {ops : Array Oper} {o : Oper} {x : Operand} (hx : x ∈ o.op.operands.toList) {t : Nat} (ht : x = .tmp t) : t ∈ o.looksAt ops := by
  unfold Oper.looksAt
  simp only [List.mem_append, List.mem_filterMap]
  exact .inl ⟨x, hx, by rw [ht]⟩

theorem operands_put {ops : Array Oper} {o : Oper} {d : Option Nat} (h : ∀ k, d = some k → k ∉ o.looksAt ops) {e : Env} {v : Option AV} : ∀ x ∈ o.op.operands.toList, evalOpd (e.putO d v) x = evalOpd e x := by
  intro x hx
  cases x with
  | tmp t =>
    simp only [evalOpd]
    exact Env.putO_other fun k hk e => h k hk (by rw [e]; exact looks_operand hx rfl)
  | _ => rfl

theorem wants_put {ops : Array Oper} {o : Oper} {d : Option Nat} (h : ∀ k, d = some k → k ∉ o.looksAt ops) {e : Env} {v : Option AV} : wants (e.putO d v) ops o = wants e ops o := by
  unfold wants
  cases hg : o.guard with
  | none => rfl
  | some g =>
    obtain ⟨j, want⟩ := g
    simp only []
    cases hd : (ops[j]?).bind (·.dst) with
    | none => rfl
    | some t =>
      simp only [Option.bind_some]
      rw [Env.putO_other fun k hk e => h k hk (by rw [e]; unfold Oper.looksAt; simp only [List.mem_append]; right; rw [hg]; simp [hd])]

/-- A step by its parts. -/
theorem stepIx_some {C : Calling} {q : Nat → Bool} {ops : Array Oper} {i : Nat} {e e' : Env} {H H' : AHeap} : stepIx (P := P) (K := K) C q ops i e H = some (e', H') ↔ ∃ o, ops[i]? = some o ∧
    ((wants e ops o = some true ∧ ∃ v, evalOp P K C o.op e H = some (v, H') ∧ ¬ (q i = true ∧ markOK o.op e H v H' = false) ∧ e' = e.putO o.dst (some v)) ∨ (wants e ops o = some false ∧ e' = e.putO o.dst (some (.tup [])) ∧ H' = H)) := by
  unfold stepIx
  simp only [Option.bind_eq_some_iff]
  constructor
  · rintro ⟨o, ho, w, hw, h⟩
    refine ⟨o, ho, ?_⟩
    cases w with
    | true =>
      left
      simp only [if_true, Option.bind_eq_some_iff] at h
      obtain ⟨⟨v, H1⟩, hv, h⟩ := h
      simp only at h
      split at h <;> first | (cases h; done) | skip
      rename_i hq
      cases h
      exact ⟨hw, v, hv, hq, rfl⟩
    | false =>
      right
      simp only [Bool.false_eq_true, if_false] at h
      cases h
      exact ⟨hw, rfl, rfl⟩
  · rintro ⟨o, ho, h⟩
    rcases h with ⟨hw, v, hv, hq, rfl⟩ | ⟨hw, rfl, rfl⟩
    · exact ⟨o, ho, true, hw, by simp only [if_true, Option.bind_eq_some_iff]; exact ⟨(v, H'), hv, by simp only; rw [if_neg hq]⟩⟩
    · exact ⟨o, ho, false, hw, by simp [AHeap.Quiet]⟩

theorem mark_env {o : Op} {e e' : Env} (h : ∀ x ∈ o.operands.toList, evalOpd e x = evalOpd e' x) {H : AHeap} {v : AV} {H' : AHeap} : markOK o e H v H' = markOK o e' H v H' := by
  cases o with
  | store t a x =>
    have h1 := h a (by simp [Op.operands])
    have h2 := h x (by simp [Op.operands])
    simp only [markOK, h1, h2]
  | _ => rfl

theorem mark_read {o : Op} (hc : cls o = 0 ∨ cls o = 1) {e e' : Env} {H G : AHeap} {v : AV} : markOK o e H v H = markOK o e' G v G := by
  cases o with
  | load t a => rfl
  | store t a x => rcases hc with hc | hc <;> simp [cls] at hc
  | _ => simp [markOK, AHeap.Quiet]

theorem mark_pure {o : Op} (hc : cls o = 0) {e : Env} {H : AHeap} {v : AV} : markOK o e H v H = true := by
  cases o with
  | load t a => simp [cls] at hc
  | store t a x => simp [cls] at hc
  | _ => simp [markOK, AHeap.Quiet]

theorem mark_new {o : Op} (hc : cls o = 2) {e : Env} {H H' : AHeap} {v : AV} : markOK o e H v H' = decide (H.Quiet H') := by
  cases o with
  | load t a => simp [cls] at hc
  | store t a x => simp [cls] at hc
  | _ => rfl

theorem load_store {H H2 : AHeap} {t t' : TypeId} {o off : Nat} {b b' : Bool} {cs : List AV} (hs : astore P H t' (.ptr o off) (.bool b) = some H2) (ho : H.obj o = .cells cs) (hb : cs[off]? = some (.bool b')) {p : AV} {k : IntKind} {n : Int} :
    aload P H2 t p = some (.int k n) ↔ aload P H t p = some (.int k n) := by
  have hlt : off < cs.length := (List.getElem?_eq_some_iff.1 hb).1
  have e2 : H2 = H.set o (.cells (cs.set off (.bool b))) := by
    simp only [astore, ho] at hs
    split at hs <;> first | (cases hs; done) | skip
    cases hs; rfl
  have key : ∀ off1, loadC P t (cs.set off (.bool b)) off1 = some (.int k n) ↔ loadC P t cs off1 = some (.int k n) := by
    intro off1
    unfold loadC
    cases isAggT P t with
    | none => simp
    | some g => cases g with
      | true =>
        cases tS P t with
        | none => simp
        | some m =>
          simp only [Option.bind_some]
          constructor <;> (intro h; split at h <;> simp at h)
      | false =>
        simp only [List.getElem?_set]
        by_cases h : off = off1
        · subst h
          rw [if_pos rfl, if_pos hlt, hb]
          simp
        · rw [if_neg h]
  cases p with
  | ptr o1 off1 =>
    by_cases h1 : o1 = o
    · subst h1
      have e3 : H2.obj o1 = .cells (cs.set off (.bool b)) := by rw [e2]; simp [AHeap.set]
      simp only [aload, ho, e3]
      exact key off1
    · have e3 : H2.obj o1 = H.obj o1 := by rw [e2]; simp [AHeap.set, h1]
      simp only [aload, e3]
  | _ => simp [aload]

/-- What a marked load and a marked store do. -/
theorem load_parts {C : Calling} {o : Op} (hl : isLoad o = true) {e : Env} {H : AHeap} {v : AV} {H' : AHeap} (h : evalOp P K C o e H = some (v, H')) : ∃ t a p, o = .load t a ∧ evalOpd e a = some p ∧ aload P H t p = some v ∧ H' = H := by
  cases o with
  | load t a =>
    simp only [evalOp, step1, Option.bind_eq_some_iff, Option.map_eq_some_iff, Prod.mk.injEq] at h
    obtain ⟨p, hp, u, hu, rfl, rfl⟩ := h
    exact ⟨t, a, p, rfl, hp, hu, rfl⟩
  | _ => simp [isLoad] at hl

theorem store_parts {C : Calling} {o : Op} (hl : isStore o = true) {e : Env} {H : AHeap} {v : AV} {H' : AHeap} (h : evalOp P K C o e H = some (v, H')) (hm : markOK o e H v H' = true) :
    ∃ t n off b b' cs, astore P H t (.ptr n off) (.bool b) = some H' ∧ H.obj n = .cells cs ∧ cs[off]? = some (.bool b') := by
  cases o with
  | store t a x =>
    simp only [evalOp, step1, Option.bind_eq_some_iff, Option.map_eq_some_iff, Prod.mk.injEq] at h
    obtain ⟨p, hp, w, hw, H1, hs, _, rfl⟩ := h
    simp only [markOK, hp, hw] at hm
    split at hm <;> first | (cases hm; done) | skip
    rename_i n off b e1 e2
    cases e1; cases e2
    split at hm <;> first | (cases hm; done) | skip
    rename_i cs ho
    split at hm <;> first | (cases hm; done) | skip
    rename_i b' hb
    exact ⟨t, n, off, b, b', cs, hs, ho, hb⟩
  | _ => simp [isStore] at hl

theorem mark_int {o : Op} (hl : isLoad o = true) {e : Env} {H : AHeap} {v : AV} {H' : AHeap} (hm : markOK o e H v H' = true) : ∃ k n, v = .int k n := by
  cases o with
  | load t a => cases v <;> simp [markOK] at hm; exact ⟨_, _, rfl⟩
  | _ => simp [isLoad] at hl

/-- Two operations that may change places do so. -/
theorem swap (hK : KeysOK P K) {C : Calling} (hC : CallOK P C) {D : List Nat} {ops : Array Oper} {S : St} (hS : Sim S) {e : Env} {a : Act} (hE : EnvR S e a.tmps) {i j : Nat} {x y : Oper} (hi : ops[i]? = some x) (hj : ops[j]? = some y) (hp : pairOK ops D i j x y = true)
    {e1 e2 : Env} {H1 H2 : AHeap} (h1 : stepIx (P := P) (K := K) C (fun k => D.contains k) ops i e S.H = some (e1, H1)) (h2 : stepIx (P := P) (K := K) C (fun k => D.contains k) ops j e1 H1 = some (e2, H2)) :
    ∃ e3 H3, stepIx (P := P) (K := K) C (fun k => D.contains k) ops j e S.H = some (e3, H3) ∧ stepIx (P := P) (K := K) C (fun k => D.contains k) ops i e3 H3 = some (e2, H2) := by
  rw [stepIx_some] at h1 h2
  obtain ⟨x', hx', h1⟩ := h1
  rw [hi] at hx'; cases hx'
  obtain ⟨y', hy', h2⟩ := h2
  rw [hj] at hy'; cases hy'
  unfold pairOK at hp
  simp only [Bool.and_eq_true] at hp
  obtain ⟨ha, hc⟩ := hp
  obtain ⟨a1, a2, a3⟩ := Oper.apart_spec ha
  have hcomm : ∀ (u v : Option AV), (e.putO x.dst u).putO y.dst v = (e.putO y.dst v).putO x.dst u := fun u v => Env.putO_comm a2
  rcases h1 with ⟨hw1, v1, hv1, hq1, rfl⟩ | ⟨hw1, rfl, rfl⟩
  · rw [wants_put a1] at h2
    rcases h2 with ⟨hw2, v2, hv2, hq2, rfl⟩ | ⟨hw2, rfl, rfl⟩
    · rw [evalOp_env (operands_put a1)] at hv2
      rw [mark_env (operands_put a1)] at hq2
      -- both are carried out
      have main : ∃ H3, evalOp P K C y.op e S.H = some (v2, H3) ∧ evalOp P K C x.op e H3 = some (v1, H2) ∧ ¬ (D.contains j = true ∧ markOK y.op e S.H v2 H3 = false) ∧ ¬ (D.contains i = true ∧ markOK x.op e H3 v1 H2 = false) := by
        have quietC : ∀ {o : Oper} {k : Nat} {v : AV} {G : AHeap}, evalOp P K C o.op e S.H = some (v, G) → cls o.op = 2 → (isCall o.op = false ∨ D.contains k = true) → ¬ (D.contains k = true ∧ markOK o.op e S.H v G = false) → ∀ n, n < S.H.size → G.obj n = S.H.obj n := by
          intro o k v G hv hcl hfl hq
          rw [mark_new hcl] at hq
          have hwr : S.H.Quiet G := by
            rcases hfl with hfl | hfl
            · rcases step1_total C hv with h | ⟨f, as, h, _⟩
              · exact fun o _ => by rw [step1_new hcl h]
              · exfalso
                cases ho : o.op <;> rw [ho] at h hfl <;> simp [step1] at h
                · cases ‹Option Operand› <;> simp at h
                · rename_i c
                  obtain ⟨callee, args, ts⟩ := c
                  cases callee <;> simp [isCall] at hfl h
            · exact Classical.byContradiction fun hne => hq ⟨hfl, by simp [hne]⟩
          obtain ⟨T, z, t1, t2, t3, t4⟩ := op_exists hK hC hS hE hv
          exact fun n hn => by have := t3.quiet n hn (by rw [t1]; exact hwr n hn); rw [t1] at this; exact this
        simp only [Bool.or_eq_true, Bool.and_eq_true, beq_iff_eq, Bool.not_eq_true'] at hc
        rcases hc with ((((hc | hc) | hc) | hc) | hc) | hc
        · obtain ⟨rfl, g⟩ := evalOp_pure hc hv1
          exact ⟨H2, hv2, g H2, hq2, by simp [mark_pure hc]⟩
        · obtain ⟨rfl, g⟩ := evalOp_pure hc hv2
          exact ⟨S.H, g S.H, hv1, by simp [mark_pure hc], hq1⟩
        · obtain ⟨e1, _⟩ := evalOp_read hc.1 (G := S.H) (n := S.H.size) (fun z _ u hu => tops hE z u hu) (fun k _ => rfl) hv1
          subst e1
          obtain ⟨e2, _⟩ := evalOp_read hc.2 (G := S.H) (n := S.H.size) (fun z _ u hu => tops hE z u hu) (fun k _ => rfl) hv2
          subst e2
          exact ⟨S.H, hv2, hv1, hq2, hq1⟩
        · obtain ⟨⟨c1, c2⟩, c3⟩ := hc
          obtain ⟨e1, _⟩ := evalOp_read c1 (G := S.H) (n := S.H.size) (fun z _ u hu => tops hE z u hu) (fun k _ => rfl) hv1
          subst e1
          have g2 := quietC (k := j) hv2 c2 c3 hq2
          obtain ⟨_, g3⟩ := evalOp_read c1 (G := H2) (n := S.H.size) (fun z _ u hu => tops hE z u hu) (fun k hk => g2 k hk) hv1
          exact ⟨H2, hv2, g3, hq2, by rw [mark_read (.inr c1) (e' := e) (G := S.H)]; exact hq1⟩
        · obtain ⟨⟨c1, c2⟩, c3⟩ := hc
          have g2 := quietC (k := i) hv1 c1 c3 hq1
          obtain ⟨e2, g3⟩ := evalOp_read c2 (G := S.H) (n := S.H.size) (fun z _ u hu => tops hE z u hu) (fun k hk => (g2 k hk).symm) hv2
          subst e2
          exact ⟨S.H, g3, hv1, by rw [mark_read (.inr c2) (e' := e) (G := H2)]; exact hq2, hq1⟩
        · obtain ⟨⟨d1, d2⟩, hc⟩ := hc
          have m1 : markOK x.op e S.H v1 H1 = true := by
            cases hm : markOK x.op e S.H v1 H1 with
            | true => rfl
            | false => exact absurd ⟨d1, hm⟩ hq1
          have m2 : markOK y.op e H1 v2 H2 = true := by
            cases hm : markOK y.op e H1 v2 H2 with
            | true => rfl
            | false => exact absurd ⟨d2, hm⟩ hq2
          rcases hc with ⟨lx, sy⟩ | ⟨sx, ly⟩
          · obtain ⟨k, n, rfl⟩ := mark_int lx m1
            obtain ⟨t, a, p, ex, hp, hl, rfl⟩ := load_parts lx hv1
            obtain ⟨t', o, off, b, b', cs, q1, q2, q3⟩ := store_parts sy hv2 m2
            refine ⟨H2, hv2, ?_, hq2, ?_⟩
            · rw [ex]
              simp only [evalOp, step1, hp, Option.bind_some]
              rw [(load_store q1 q2 q3).2 hl]; rfl
            · rw [ex]; simp [markOK]
          · obtain ⟨k, n, rfl⟩ := mark_int ly m2
            obtain ⟨t, a, p, ey, hp, hl, rfl⟩ := load_parts ly hv2
            obtain ⟨t', o, off, b, b', cs, q1, q2, q3⟩ := store_parts sx hv1 m1
            refine ⟨S.H, ?_, hv1, ?_, hq1⟩
            · rw [ey]
              simp only [evalOp, step1, hp, Option.bind_some]
              rw [(load_store q1 q2 q3).1 hl]; rfl
            · rw [ey]; simp [markOK]
      obtain ⟨H3, m1, m2, m3, m4⟩ := main
      refine ⟨e.putO y.dst (some v2), H3, stepIx_some.2 ⟨y, hj, .inl ⟨hw2, v2, m1, m3, rfl⟩⟩, stepIx_some.2 ⟨x, hi, .inl ⟨?_, v1, ?_, ?_, hcomm _ _⟩⟩⟩
      · rw [wants_put a3]; exact hw1
      · rw [evalOp_env (operands_put a3)]; exact m2
      · rw [mark_env (operands_put a3)]; exact m4
    · refine ⟨e.putO y.dst (some (.tup [])), S.H, stepIx_some.2 ⟨y, hj, .inr ⟨hw2, rfl, rfl⟩⟩, stepIx_some.2 ⟨x, hi, .inl ⟨?_, v1, ?_, ?_, hcomm _ _⟩⟩⟩
      · rw [wants_put a3]; exact hw1
      · rw [evalOp_env (operands_put a3)]; exact hv1
      · rw [mark_env (operands_put a3)]; exact hq1
  · rw [wants_put a1] at h2
    rcases h2 with ⟨hw2, v2, hv2, hq2, rfl⟩ | ⟨hw2, rfl, rfl⟩
    · rw [evalOp_env (operands_put a1)] at hv2
      rw [mark_env (operands_put a1)] at hq2
      refine ⟨e.putO y.dst (some v2), H2, stepIx_some.2 ⟨y, hj, .inl ⟨hw2, v2, hv2, hq2, rfl⟩⟩, stepIx_some.2 ⟨x, hi, .inr ⟨?_, hcomm _ _, rfl⟩⟩⟩
      rw [wants_put a3]; exact hw1
    · refine ⟨e.putO y.dst (some (.tup [])), S.H, stepIx_some.2 ⟨y, hj, .inr ⟨hw2, rfl, rfl⟩⟩, stepIx_some.2 ⟨x, hi, .inr ⟨?_, hcomm _ _, rfl⟩⟩⟩
      rw [wants_put a3]; exact hw1

/-- The state behind a step, in some world. -/
theorem stepIx_exists (hK : KeysOK P K) {C : Calling} (hC : CallOK P C) {q : Nat → Bool} {ops : Array Oper} {N : Nat} (hD : dstOK N ops = true) {S : St} (hS : Sim S) {e : Env} {a : Act} (hE : EnvR S e a.tmps) (hN : a.tmps.size = N) {i : Nat} {e' : Env} {H' : AHeap}
    (h : stepIx (P := P) (K := K) C q ops i e S.H = some (e', H')) : ∃ (T : St) (a' : Act), T.H = H' ∧ Sim T ∧ EnvR T e' a'.tmps ∧ a'.tmps.size = N := by
  obtain ⟨o, ho, h⟩ := stepIx_some.1 h
  have hdst : ∀ d, o.dst = some d → d < a.tmps.size := by rw [hN]; exact dstOK_at hD ho
  rcases h with ⟨_, v, hv, _, rfl⟩ | ⟨_, rfl, rfl⟩
  · obtain ⟨T, x, h1, h2, h3, h4⟩ := op_exists hK hC hS hE hv
    exact ⟨T, a.put o.dst x, h1, h2, (hE.ext h3).put hdst h4, (put_size a o.dst x).1.trans hN⟩
  · exact ⟨S, a.put o.dst undef, rfl, hS, hE.put hdst (.tup [] [] .nil), (put_size a o.dst undef).1.trans hN⟩

/-- What may come first comes first. -/
theorem front (hK : KeysOK P K) {C : Calling} (hC : CallOK P C) {D : List Nat} {ops : Array Oper} {N : Nat} (hD : dstOK N ops = true) {i : Nat} {post : List Nat} {r : Env × AHeap} : ∀ {pre : List Nat} {S : St} {e : Env} {a : Act}, Sim S → EnvR S e a.tmps → a.tmps.size = N →
    (∀ j ∈ pre, ∀ x y, ops[j]? = some x → ops[i]? = some y → pairOK ops D j i x y = true) → evalIx (P := P) (K := K) C (fun k => D.contains k) ops (pre ++ i :: post) e S.H = some r →
    ∃ e1 H1, stepIx (P := P) (K := K) C (fun k => D.contains k) ops i e S.H = some (e1, H1) ∧ evalIx (P := P) (K := K) C (fun k => D.contains k) ops (pre ++ post) e1 H1 = some r
  | [], S, e, a, hS, hE, hN, _, h => by
    simp only [List.nil_append, evalIx, Option.bind_eq_some_iff] at h
    obtain ⟨⟨e1, H1⟩, h1, h⟩ := h
    exact ⟨e1, H1, h1, h⟩
  | j :: pre, S, e, a, hS, hE, hN, hp, h => by
    simp only [List.cons_append, evalIx, Option.bind_eq_some_iff] at h
    obtain ⟨⟨ej, Hj⟩, hj, h⟩ := h
    obtain ⟨T, a', t1, t2, t3, t4⟩ := stepIx_exists hK hC hD hS hE hN hj
    simp only at h
    subst t1
    obtain ⟨e2, H2, h2, h3⟩ := front hK hC hD t2 t3 t4 (fun k hk => hp k (by simp [hk])) h
    obtain ⟨x, hx, _⟩ := stepIx_some.1 hj
    obtain ⟨y, hy, _⟩ := stepIx_some.1 h2
    obtain ⟨e3, H3, g1, g2⟩ := swap hK hC hS hE hx hy (hp j (by simp) x y hx hy) hj h2
    refine ⟨e3, H3, g1, ?_⟩
    simp only [List.cons_append, evalIx, Option.bind_eq_some_iff]
    exact ⟨(e2, H2), g2, h3⟩

end
end Go.Proofs.Ytphkkcocimmmfaa
