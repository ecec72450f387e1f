/- The encoder of clauses in the heap: the loops of Root. -/
import Derived.Test.YtdbbkhmiflignaaCO
namespace Go.Proofs.Ytdbbkhmiflignaa
set_option maxRecDepth 100000

/-- An output of numbers that grows. -/
structure Out (H0 H : AHeap) (v : AV) (l : List Int) : Prop where
  rd : Reads H v 1 l.length (l.map (.int .i64))
  gr : grows v
  new : ∀ p, p ∈ objs v → H0.size ≤ p
theorem Out.push {H0 H : AHeap} {v : AV} {l : List Int} (h : Out H0 H v l) (k : Keeps H0 H) {a : Int} (hl : l.length ≤ 1000000) {r : Option (AV × AHeap)}
    (hA : appU (H.new (.cells [.int .i64 a])) v (.row H.size 0 1 1 true) (some (1, 8, [.int .i64 0])) = r) :
    ∃ v' H', r = some (v', H') ∧ Out H0 H' v' (l ++ [a]) ∧ Keeps H0 H' := by
  have z := k.size
  obtain ⟨H1, rfl, f1, s1, o1, rd⟩ := app_of hA (h.rd.keep (by simp)) h.gr (Reads.row' (all := [.int .i64 a]) (by simp) (by simp) (by simp)) (by omega) rfl (by omega) (by omega) (by omega) (by simp)
  simp only [new_size] at s1
  exact ⟨_, H1, rfl, ⟨by simpa using rd, by simp, by simp; omega⟩, f1.keeps (by simp [k]) (fun p hp => h.new p hp)⟩
section
variable {H0 H0' H1 : AHeap} {e g : Nat} {E : En} {mo to : Nat} {fv : AV} {vs : List AV} {C : List (List Int)}
def needP (E : En) (l n : Int) : Bool := (E.vr n).isNone && (decide (0 < n) || decide (l / 2 = 0))
theorem need_loop (h : ERep H0 e g E mo to fv vs C) {w : AV} {xs : List Int} (hw : Reads H0 w 1 xs.length (xs.map (.int .i64))) (hn : xs.length ≤ 1000000) {l : Int} {ev : Env} {r : Rn}
    (hL : loopL Go.Proofs.Try.prog KT R l_plait_cnf_Encoder_Root_0 ev H0 = r) (e0 : ev 0 = some (.ptr e 0)) (e1 : ev 1 = some (.int .i64 l)) (e38 : ev 38 = some w) (e39 : ev 39 = some (.int .i64 xs.length)) (e40 : ev 40 = some (.int .i64 0)) (e9 : ev 9 = some .nils) :
    ∃ x ev' H', r = some (x, ev', H') ∧ (x = .exit 0 ∧ Keeps H0 H' ∧ ∃ v, ev' 9 = some v ∧ Out H0 H' v (xs.filter (needP E l))) ∧ ∀ t, t ∉ defs l_plait_cnf_Encoder_Root_0 → ev' t = ev t := by
  obtain ⟨es, cv, hv1, hv2⟩ := h.vars
  refine loop_count l_plait_cnf_Encoder_Root_0.eq_1 hL xs.length (fun i e1 H1 => ∃ v, e1 9 = some v ∧ e1 40 = some (.int .i64 i) ∧ Keeps H0 H1 ∧ Out H0 H1 v ((xs.take i).filter (needP E l))) _ 0 (Nat.zero_le _) ⟨.nils, e9, e40, Keeps.refl _, ⟨by simp, by simp, by simp⟩⟩ ?_ ?_
  · rintro i e2 H1 hf - hi ⟨v, f9, f40, k1, ho⟩
    obtain ⟨a1, a2⟩ := loadi_of hw hi
    have w1 : IntKind.i64.wrap ((i : Int) + 1) = (i : Int) + 1 := i64w (by omega) (by omega)
    have c1 : (i : Int) < xs.length := by omega
    have ta : xs.take (i + 1) = xs.take i ++ [xs.getD i 0] := by rw [List.take_add_one]; simp [List.getD_eq_getElem?_getD, hi]
    have hob : H1.obj e = .cells [.ptr g 0, .int .i64 E.last, .map mo, .map to, fv] := by rw [k1.obj e h.lo]; exact h.self
    have hom : H1.obj mo = .map (.one (.i .i64)) es cv := by rw [k1.obj mo h.lm]; exact hv1
    have a3 := a2 H1 k1
    rw [ta, List.filter_append]
    generalize hx : xs.getD i 0 = x at *
    have hlen : ((xs.take i).filter (needP E l)).length ≤ 1000000 := Nat.le_trans (List.length_filter_le _ _) (by simp; omega)
    by_cases hP : needP E l x = true
    rotate_left
    · have hP' : needP E l x = false := by simpa using hP
      have hs : [x].filter (needP E l) = [] := by simp [hP']
      rw [hs, List.append_nil]
      unfold needP at hP'
      cases hvx : E.vr x with
      | some y => simp [hf, f9, f40, e0, e38, e39, c1, a1, a3, w1, hob, hom, hv2.lookOk, hvx, k1]; exact ho
      | none =>
        rw [hvx] at hP'
        simp at hP'
        by_cases c0 : 0 < x
        · exact absurd c0 (by omega)
        · by_cases c2 : l / 2 = 0
          · exact absurd c2 (by omega)
          · simp [hf, f9, f40, e0, e1, e38, e39, c1, a1, a3, w1, hob, hom, hv2.lookOk, hvx, c0, c2, k1]; exact ho
    · have hs : [x].filter (needP E l) = [x] := by simp [hP]
      rw [hs]
      unfold needP at hP
      cases hvx : E.vr x with
      | some y => rw [hvx] at hP; simp at hP
      | none =>
        rw [hvx] at hP
        simp at hP
        by_cases c0 : 0 < x
        · simp [hf, f9, f40, e0, e38, e39, c1, a1, a3, hob, hom, hv2.lookOk, hvx, c0]
          generalize hA : appU _ _ _ _ = q
          obtain ⟨w', H2, rfl, h2, k2⟩ := ho.push k1 hlen hA
          simp [f40, w1, k2]
          exact h2
        · have c2 : l / 2 = 0 := by omega
          simp [hf, f9, f40, e0, e1, e38, e39, c1, a1, a3, hob, hom, hv2.lookOk, hvx, c0, c2]
          generalize hA : appU _ _ _ _ = q
          obtain ⟨w', H2, rfl, h2, k2⟩ := ho.push k1 hlen hA
          simp [f40, w1, k2]
          exact h2
  · rintro e2 H1 hf ⟨v, f9, f40, k1, ho⟩
    simp [hf, f9, f40, e39]
    rw [List.take_of_length_le (Nat.le_refl _)] at ho
    exact ⟨k1, ho⟩
theorem EnV.hb {ks : Kd} {E : En} (h : EnV ks E) (hl : E.last ≤ 60000) (n : Int) : 0 ≤ E.v n ∧ E.v n ≤ 1000000 := by
  unfold En.v
  cases hv : E.vr n with
  | none => simp
  | some v =>
    have := h.rng n v hv
    have := h.pos
    simp
    omega
/-- What lies where it did, and what is new. -/
structure Kin (H0 H : AHeap) (e g : Nat) (E : En) (mo to : Nat) (fv : AV) (vs : List AV) (C : List (List Int)) : Prop where
  r : ERep H e g E mo to fv vs C
  fr : Fr [e, mo, to] H0 H
  new : ∀ p, p ∈ crO fv vs → H0.size ≤ p
theorem Kin.give (k : Kin H0 H0' e g E mo to fv vs C) {n : Int} {es : List AEnt} {c : Nat} (hm : IM es (fun x => if x = n then some (E.last + 1) else E.vr x)) {H2 : AHeap} (hX : H2 = (H0'.set e (.cells [.ptr g 0, .int .i64 (E.last + 1), .map mo, .map to, fv])).set mo (.map (.one (.i .i64)) es c)) :
    Kin H0 H2 e g (E.give n) mo to fv vs C := by
  have h := k.r
  have f : Fr [e, mo] H0' H2 := by rw [hX]; exact ((Fr.refl _ H0').set (.inl (by simp)) _).set (.inl (by simp)) _
  obtain ⟨et, d, h3, h4⟩ := h.told
  refine ⟨⟨?_, f.lt h.lo, f.lt h.lg, f.lt h.lm, f.lt h.lt, h.ne1, h.ne2, h.ne3, ⟨es, c, ?_, hm⟩, ⟨et, d, ?_, h4⟩, h.cr.keep f fun p hp => ?_, h.off⟩, k.fr.trans f (fun p hp => .inl (by simp at hp ⊢; rcases hp with h1 | h1 <;> simp [h1])), k.new⟩
  · rw [hX]; simp [h.ne1, En.give]
  · rw [hX]; simp
  · rw [f.obj _ h.lt (by simp; exact ⟨h.ne2.symm, h.ne3.symm⟩)]; exact h3
  · have := h.off p hp
    simp; exact ⟨this.1, this.2.1⟩
theorem give_snoc : ∀ {ns : List Int} {n : Int} {E : En} {C : List (List Int)}, giveF (ns ++ [n]) E C = ((giveF ns E C).1.give n, if n = 0 then (giveF ns E C).2 ++ [[(giveF ns E C).1.last + 1]] else (giveF ns E C).2)
  | [], _, _, _ => rfl
  | m :: ns, n, E, C => by
    rw [List.cons_append]
    unfold giveF
    exact give_snoc
theorem give_last : ∀ {ns : List Int} {E : En} {C : List (List Int)}, (giveF ns E C).1.last = E.last + ns.length ∧ (giveF ns E C).2.length ≤ C.length + ns.length
  | [], _, _ => by simp [giveF]
  | m :: ns, E, C => by
    unfold giveF
    obtain ⟨h1, h2⟩ := give_last (ns := ns) (E := E.give m) (C := if m = 0 then C ++ [[E.last + 1]] else C)
    refine ⟨?_, ?_⟩
    · rw [h1]; show E.last + 1 + _ = _; simp; omega
    · refine Nat.le_trans h2 ?_
      split <;> simp <;> omega
theorem give_loop (h : Kin H0 H1 e g E mo to fv vs []) {w : AV} {ns : List Int} (hw : Reads H1 w 1 ns.length (ns.map (.int .i64))) (hwo : ∀ p, p ∈ objs w → p ∉ e :: mo :: crO fv vs) (_hn : ns.length ≤ 100000) (hp : 0 ≤ E.last) (hl : E.last + ns.length ≤ 60000) {ev : Env} {r : Rn}
    (hL : loopL Go.Proofs.Try.prog KT R l_plait_cnf_Encoder_Root_1 ev H1 = r) (e0 : ev 0 = some (.ptr e 0)) (e81 : ev 81 = some w) (e82 : ev 82 = some (.int .i64 ns.length)) (e83 : ev 83 = some (.int .i64 0)) :
    ∃ x ev' H', r = some (x, ev', H') ∧ (x = .exit 2 ∧ ∃ fv' vs', Kin H0 H' e g (giveF ns E []).1 mo to fv' vs' (giveF ns E []).2) ∧ ∀ t, t ∉ defs l_plait_cnf_Encoder_Root_1 → ev' t = ev t := by
  refine loop_count l_plait_cnf_Encoder_Root_1.eq_1 hL ns.length (fun i e1 H2 => e1 83 = some (.int .i64 i) ∧ Reads H2 w 1 ns.length (ns.map (.int .i64)) ∧ ∃ fv' vs', Kin H0 H2 e g (giveF (ns.take i) E []).1 mo to fv' vs' (giveF (ns.take i) E []).2 ∧ ∀ p, p ∈ objs w → p ∉ e :: mo :: crO fv' vs') _ 0 (Nat.zero_le _) ⟨e83, hw, fv, vs, by simpa [giveF] using h, hwo⟩ ?_ ?_
  · rintro i e2 H2 hf - hi ⟨f83, rw2, fv', vs', k, hwo'⟩
    obtain ⟨a1, a2⟩ := loadi_of rw2 hi
    have w1 : IntKind.i64.wrap ((i : Int) + 1) = (i : Int) + 1 := i64w (by omega) (by omega)
    have c1 : (i : Int) < ns.length := by omega
    have ta : ns.take (i + 1) = ns.take i ++ [ns.getD i 0] := by rw [List.take_add_one]; simp [List.getD_eq_getElem?_getD, hi]
    have a3 := a2 H2 (Keeps.refl _)
    have hgl := give_last (ns := ns.take i) (E := E) (C := [])
    have htl : (ns.take i).length = i := by simp; omega
    rw [htl] at hgl
    rw [ta, give_snoc]
    generalize hx : ns.getD i 0 = x at *
    obtain ⟨G, hG⟩ : ∃ G, G = giveF (ns.take i) E [] := ⟨_, rfl⟩
    rw [← hG] at k hgl ⊢
    have hh := k.r
    have hfr := fun r => fresh_run hh (by omega) (by omega) (r := r)
    obtain ⟨ev1, cv, hv1, hv2⟩ := hh.vars
    have hfr1 := hfr _ rfl
    obtain ⟨es', c', hupd, him⟩ := hv2.updM x (G.1.last + 1) (H2.set e (.cells [.ptr g 0, .int .i64 (G.1.last + 1), .map mo, .map to, fv'])) mo cv (by simp [hv1, hh.ne1.symm])
    obtain ⟨H3, hH3⟩ : ∃ H3, H3 = (H2.set e (.cells [.ptr g 0, .int .i64 (G.1.last + 1), .map mo, .map to, fv'])).set mo (.map (.one (.i .i64)) es' c') := ⟨_, rfl⟩
    rw [← hH3] at hupd
    have k3 := k.give him hH3
    have hce : cellO ((H2.set e (.cells [.ptr g 0, .int .i64 (G.1.last + 1), .map mo, .map to, fv'])).obj e) 2 = cellO (H2.obj e) 2 := by
      rw [hh.self]; simp [cellO]
    have hld : ∀ ev : Env, ev 0 = some (.ptr e 0) → ev 90 = some (.ptr e 2) → markLd [3, 6, 802, 997, 1000] ev (.tmp 90) (.map mo) = true := fun ev h0 h90 => markLd_one (s := 0) (d := 2) (o := e) (off := 0) (by rfl) (by rfl) h0 h90 (by rfl)
    have hcl : ∀ ev : Env, ev 0 = some (.ptr e 0) → markCl [3, 6, 802, 997, 1000] ev H2 (H2.set e (.cells [.ptr g 0, .int .i64 (G.1.last + 1), .map mo, .map to, fv'])) = true := fun ev h0 => markCl_one (s := 0) (d := 2) (o := e) (off := 0) (by rfl) (by rfl) h0 hce
    have F3 : Fr [e, mo] H2 H3 := by rw [hH3]; exact ((Fr.refl _ H2).set (.inl (by simp)) _).set (.inl (by simp)) _
    have rw3 : Reads H3 w 1 ns.length (ns.map (.int .i64)) := rw2.frO F3 fun p hp => by
      have := hwo' p hp
      simp at this ⊢
      exact ⟨this.1, this.2.1⟩
    by_cases c0 : x = 0
    · subst c0
      have hm3 : H3.obj mo = .map (.one (.i .i64)) es' c' := by rw [hH3]; simp
      simp (maxDischargeDepth := 40) [-updM_map, hld, hcl, hf, f83, e0, e81, e82, c1, a1, a3, hh.self, hfr1, hupd, k3.r.self, hm3, him.look]
      generalize hA : R f_plait_cnf_Encoder_lays _ _ = q
      have kn := Keeps.new H3 (.cells [.int .i64 (G.1.last + 1)])
      obtain ⟨H4, fv4, rfl, r4, k4, n4⟩ := lays_run (c := [G.1.last + 1]) (k3.r.keeps kn) (o := H3.size) (by simp) (by simp) (fun p hp => by have := k3.r.lt' hp; omega) (by simp at hgl; omega) hA
      simp [f83, w1]
      have z3 := k3.fr.size
      have F4 : Fr (e :: objs fv') H3 H4 := (kn.fr _).trans k4 fun p hp => .inl hp
      have hn : ∀ p, p ∈ crO fv4 (vs' ++ [.row H3.size 0 1 [G.1.last + 1].length true]) → p ∈ crO fv' vs' ∨ H3.size ≤ p := fun p hp => by
        unfold crO at hp ⊢
        simp only [List.flatMap_append, List.flatMap_cons, List.flatMap_nil, List.mem_append, objs_row, List.append_nil, List.mem_singleton] at hp ⊢
        rcases hp with hp | hp | rfl
        · have := n4 p hp
          simp at this
          exact .inr (by omega)
        · exact .inl (.inr hp)
        · exact .inr (Nat.le_refl _)
      refine ⟨rw3.frO F4 fun p hp => ?_, fv4, _, ⟨r4, k3.fr.trans F4 fun p hp => ?_, fun p hp => ?_⟩, fun p hp => ?_⟩
      · have := hwo' p hp
        simp only [List.mem_cons, not_or] at this ⊢
        exact ⟨this.1, fun h => this.2.2 (by simp [crO, h])⟩
      · simp only [List.mem_cons] at hp
        rcases hp with rfl | hp
        · exact .inl (by simp)
        · exact .inr (k3.new p (by simp [crO, hp]))
      · rcases hn p hp with h1 | h1
        · exact k3.new p h1
        · omega
      · have h1 := hwo' p hp
        simp only [List.mem_cons, not_or] at h1
        refine ⟨h1.1, h1.2.1, fun h2 => ?_⟩
        rcases hn p h2 with h3 | h3
        · exact h1.2.2 h3
        · have := rw3.lt hp; omega
    · simp (maxDischargeDepth := 40) [-updM_map, hld, hcl, hf, f83, e0, e81, e82, c1, a1, a3, hh.self, hfr1, hupd, c0, w1]
      exact ⟨rw3, fv', vs', k3, fun p hp => by simpa using hwo' p hp⟩
  · rintro e2 H2 hf ⟨f83, rw2, fv', vs', k, hwo'⟩
    simp [hf, f83, e82]
    rw [List.take_of_length_le (Nat.le_refl _)] at k
    exact ⟨fv', vs', k⟩
end
end Go.Proofs.Ytdbbkhmiflignaa
