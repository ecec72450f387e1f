/- The encoder of clauses in the heap: what is asked, one node behind the other. -/
import Derived.Test.YtdbbkhmiflignaaCP
namespace Go.Proofs.Ytdbbkhmiflignaa
set_option maxRecDepth 100000

theorem steps_stop {ks : Kd} {s : En × List (List Int) × List (Int × Int)} {a b : Nat} {E E' : En} {D D' : List (List Int)} (ha : stepsF ks a s = (E, D, [])) (hb : stepsF ks b s = (E', D', [])) : (E, D) = (E', D') := by
  rcases Nat.le_total a b with h | h
  · rw [show b = a + (b - a) from by omega, stepsF_add, ha, stepsF_end] at hb
    simpa using hb
  · rw [show a = b + (a - b) from by omega, stepsF_add, hb, stepsF_end] at ha
    simpa using ha.symm
theorem stepF_snoc {ks : Kd} {E : En} {D : List (List Int)} {st : List (Int × Int)} {t : Int × Int} : stepF ks (E, D, st ++ [t]) = if E.is t = true then (E, D, st) else (E.tell t, D ++ clausesF ks E t, st ++ moreF ks t) := by
  unfold stepF
  simp
theorem slice_row {P : Program} {H : AHeap} {t : TypeId} {sz o off n : Nat} {f : Bool} (h : eszS P t = some sz) {k : Nat} (hk : k ≤ n) : aslice P H t (.row o off sz n f) none (some (.int .i64 (k : Int))) none = some (.row o off sz k (f && decide ((k : Int) = n))) := by
  unfold eszS at h
  unfold aslice
  split at h <;> first | (cases h; done) | skip
  rename_i e he
  rw [he]
  simp [h]
  omega
theorem slice_cut {P : Program} {H : AHeap} {t : TypeId} {sz n : Nat} {v : AV} {cs : List AV} (h : eszS P t = some sz) (rd : Reads H v sz (n + 1) cs) (hg : grows v) : ∃ w, (∀ H', aslice P H' t v none (some (.int .i64 (n : Int))) none = some w) ∧ grows w ∧ objs w = objs v ∧ Reads H w sz n (cs.take (n * sz)) ∧ rowW (some v) = true := by
  obtain ⟨g1, g2, g3, g4⟩ := rd
  cases v <;> first | (exact hg.elim) | skip
  · simp [sliceLen] at g1
  · rename_i o off s m f
    obtain ⟨rfl, ho⟩ := g4
    simp [sliceLen] at g1
    subst g1
    refine ⟨_, fun H' => slice_row h (by omega), by simp, by simp, ?_, rfl⟩
    unfold sliceCells at g2
    simp only at g2
    split at g2 <;> first | (cases g2; done) | skip
    rename_i all hob
    split at g2 <;> first | (cases g2; done) | skip
    rename_i hle
    simp only [Option.some.injEq] at g2
    subst g2
    have hm : n * s ≤ (n + 1) * s := Nat.mul_le_mul_right _ (by omega)
    rw [List.take_take, Nat.min_eq_left hm]
    exact Reads.row ho hob (by omega)
theorem kc_drop (l m : Kd) : (kc (l ++ m)).drop (l.length * 2) = kc m := by
  rw [kc_append, ← kc_len, List.drop_left]
theorem kc_take (l m : Kd) : (kc (l ++ m)).take (l.length * 2) = kc l := by
  rw [kc_append, ← kc_len, List.take_left]
section
variable {H0 : AHeap} {e g : Nat} {E : En} {mo to : Nat} {fv : AV} {vs : List AV}
theorem todo_loop {m : Int} {ks : Kd} {G : List Nat} (gg : GAt H0 g m ks G) (hr : Rt m ks) (hG : ∀ p, p ∈ G → p ≠ e ∧ p ≠ mo ∧ p ≠ to) {Cp D : List (List Int)} {st : List (Int × Int)} {v : AV} {H1 : AHeap} (k0 : Kin H0 H1 e g E mo to fv vs D) (hS : StOK ks (E, Cp ++ D, st)) (hl : E.last ≤ 60000) (hst0 : st.length ≤ 10) (he0 : e < H0.size ∧ mo < H0.size ∧ to < H0.size)
    (hv : Reads H1 v 2 st.length (kc st)) (hvg : grows v) (hvn : ∀ p, p ∈ objs v → H0.size ≤ p ∧ p ∉ crO fv vs) {ev : Env} {r : Rn}
    (hL : loopL Go.Proofs.Try.prog KT R l_plait_cnf_Encoder_Root_2 ev H1 = r) (e0 : ev 0 = some (.ptr e 0)) (e16 : ev 16 = some v) :
    ∃ x ev' H', r = some (x, ev', H') ∧ (x = .exit 4 ∧ ∃ n E' D' fv' vs', stepsF ks n (E, D, st) = (E', D', []) ∧ Kin H0 H' e g E' mo to fv' vs' D') ∧ ∀ t, t ∉ defs l_plait_cnf_Encoder_Root_2 → ev' t = ev t := by
  have hmo := hr.most
  have hle := hr.le
  obtain ⟨N, hN⟩ : ∃ N, N = measF ks (E, Cp ++ D, st) := ⟨_, rfl⟩
  have hNb : N ≤ 1000000 + st.length := by
    have := leftN_le E (ks.length + 1)
    rw [hN]; unfold measF; simp only; omega
  refine loop_rule l_plait_cnf_Encoder_Root_2.eq_1 hL (fun j e1 H2 => ∃ n E' D' st' v' fv' vs', j = measF ks (E', Cp ++ D', st') ∧ j ≤ N ∧ stepsF ks n (E, D, st) = (E', D', st') ∧ Kin H0 H2 e g E' mo to fv' vs' D' ∧ StOK ks (E', Cp ++ D', st') ∧ E'.last ≤ 60000 ∧ e1 16 = some v' ∧ Reads H2 v' 2 st'.length (kc st') ∧ grows v' ∧ ∀ p, p ∈ objs v' → H0.size ≤ p ∧ p ∉ crO fv' vs') _ N
    ⟨0, E, D, st, v, fv, vs, hN, Nat.le_refl _, rfl, k0, hS, hl, e16, hv, hvg, hvn⟩ ?_
  rintro j e1 H2 hf ⟨n, E', D', st', v', fv', vs', hj, hjN, hst, k, hS', hl', f16, rv, gv, nv⟩
  rcases List.eq_nil_or_concat st' with he | ⟨su, t, he⟩
  · subst he
    have := rv.len
    simp at this
    simp [f16, this]
    exact ⟨n, E', D', hst, fv', vs', k⟩
  rw [List.concat_eq_append] at he
  subst he
  obtain ⟨tn, ts⟩ := t
  have hlen : (su ++ [(tn, ts)]).length = su.length + 1 := by simp
  rw [hlen] at rv
  have hsb : su.length + 1 ≤ N := by
    rw [hj] at hjN
    unfold measF at hjN
    simp only [hlen] at hjN
    omega
  have hh := k.r
  have hV' : EnV ks E' := hS'.v
  have hC' : EnC ks E' (Cp ++ D') (su ++ [(tn, ts)]) := hS'.c
  have hb := hV'.hb hl'
  have hfew := hC'.few hr hV'
  obtain ⟨htS', tv, htv⟩ := hC'.stk (tn, ts) (by simp)
  have htS : ts = 1 ∨ ts = 2 := htS'
  obtain ⟨w, hsl, gw, ow, rw', hrow⟩ := slice_cut (P := Go.Proofs.Try.prog) (H := H2) (t := T_s_cnf_todo) (by simp) rv gv
  rw [kc_take] at rw'
  have had := rv.addr (P := Go.Proofs.Try.prog) (t := T_s_cnf_todo) (by simp) (i := su.length) (by omega)
  have hld := rv.atN (P := Go.Proofs.Try.prog) (t := T_cnf_todo) (by simp) (i := su.length) (by omega)
  rw [kc_at (k := (tn, ts)) (by simp)] at hld
  have w2 : IntKind.i64.wrap (su.length : Int) = su.length := i64w (by omega) (by omega)
  have w1 : IntKind.i64.wrap ((su.length : Int) + 1 - 1) = su.length := by rw [show (su.length : Int) + 1 - 1 = su.length by omega]; exact w2
  have c1 : (0 : Int) < (su.length : Int) + 1 := by omega
  have hcl : ∀ (e : Env) (H H' : AHeap), markCl [2, 4, 7, 997] e H H' = true := fun e H H' => markCl_none (by rfl)
  simp (maxDischargeDepth := 40) [hf, f16, e0, rv.len, c1, w2, had, hld, hsl, hrow]
  generalize hA : R f_plait_cnf_Encoder_node _ _ = q
  have kn : Keeps H2 ((H2.new (.cells [.int .i64 0, .int .i64 0])).set H2.size (.cells [.int .i64 tn, .int .i64 ts])) := ((Keeps.refl H2).new' _).set (Nat.le_refl _) _
  have g2 : GAt H2 g m ks G := gg.keep k.fr fun p hp => by have := hG p hp; simp; exact this
  obtain ⟨H4, y, fv4, vs4, rfl, r4, f4, n4, ry⟩ := enode_run (hh.keeps kn) (g2.keeps kn) hr (fun h => (hG to h).2.2 rfl) hb htS (by simp at hfew; omega) hA
  simp (maxDischargeDepth := 40)
  generalize hB : appU _ _ _ _ = q
  have F4 : Fr (e :: to :: objs fv') H2 H4 := (kn.fr _).trans f4 fun p hp => .inl hp
  have wo : ∀ p, p ∈ objs w → p ∉ e :: to :: objs fv' := fun p hp => by
    rw [ow] at hp
    have h1 := nv p hp
    simp only [List.mem_cons, not_or]
    exact ⟨by omega, by omega, fun h => h1.2 (by simp [crO, h])⟩
  have z0 := k.fr.size
  have hno : ∀ p, p ∈ objs w → p ∉ crO fv4 vs4 := fun p hp h => by
    rw [ow] at hp
    have h1 := nv p hp
    have h2 := rv.lt hp
    rcases n4 p h with h3 | h3
    · exact h1.2 h3
    · simp at h3; omega
  have rw4 := rw'.frO F4 wo
  have hml : (if E'.is (tn, ts) = true then [] else moreF ks (tn, ts)).length ≤ 2 := by
    split
    · simp
    · exact more_len ks _
  obtain ⟨z, H5, rfl, gz, f5, o5, rz⟩ := app_any hB rw4 gw ry rfl (by omega) (by omega) (by omega) (kc_one _)
  simp
  have hstep := hS'.step hr (t := (tn, ts)) (st := su) rfl
  rw [stepF_snoc] at hstep
  have e1 : stepsF ks (n + 1) (E, D, st) = (if E'.is (tn, ts) = true then E' else E'.tell (tn, ts), D' ++ (if E'.is (tn, ts) = true then [] else clausesF ks E' (tn, ts)), su ++ (if E'.is (tn, ts) = true then [] else moreF ks (tn, ts))) := by
    rw [stepsF_add, hst]
    show stepF ks (E', D', su ++ [(tn, ts)]) = _
    rw [stepF_snoc]
    split <;> simp
  have e2 : (if E'.is (tn, ts) = true then (E', Cp ++ D', su) else (E'.tell (tn, ts), Cp ++ D' ++ clausesF ks E' (tn, ts), su ++ moreF ks (tn, ts))) = (if E'.is (tn, ts) = true then E' else E'.tell (tn, ts), Cp ++ (D' ++ (if E'.is (tn, ts) = true then [] else clausesF ks E' (tn, ts))), su ++ (if E'.is (tn, ts) = true then [] else moreF ks (tn, ts))) := by
    split <;> simp
  rw [e2] at hstep
  obtain ⟨s1, s2, s3, s4, s5⟩ := hstep
  refine ⟨_, ?_, n + 1, _, _, _, rfl, ?_, e1, z, fv4, vs4, ⟨r4.keep f5 ?_, ?_, ?_⟩, s1, ?_, rfl, by simpa [kc_append] using rz, gz, ?_⟩
  · omega
  · omega
  · intro p hp h
    have h1 := nv p (by rw [← ow]; exact h)
    simp only [List.mem_cons] at hp
    rcases hp with rfl | rfl | rfl | hp
    · omega
    · omega
    · omega
    · exact hno p h hp
  · have F5 : Fr (e :: to :: objs fv' ++ objs w) H2 H5 := (F4.weak (G := e :: to :: objs fv' ++ objs w) fun p hp => .inl (List.mem_append_left _ hp)).trans f5 fun p hp => .inl (List.mem_append_right _ hp)
    refine k.fr.trans F5 fun p hp => ?_
    simp only [List.cons_append, List.mem_cons, List.mem_append] at hp
    rcases hp with rfl | rfl | hp | hp
    · exact .inl (by simp)
    · exact .inl (by simp)
    · exact .inr (k.new p (by simp [crO, hp]))
    · exact .inr (nv p (by rw [← ow]; exact hp)).1
  · intro p hp
    rcases n4 p hp with h1 | h1
    · exact k.new p h1
    · simp at h1; omega
  · rw [s4]; exact hl'
  · intro p hp
    rcases o5 p hp with h1 | ⟨rfl, -⟩
    · exact ⟨(nv p (by rw [← ow]; exact h1)).1, hno p h1⟩
    · have := F4.size
      exact ⟨by omega, fun h => by have := r4.cr.lt h; omega⟩
end
end Go.Proofs.Ytdbbkhmiflignaa
