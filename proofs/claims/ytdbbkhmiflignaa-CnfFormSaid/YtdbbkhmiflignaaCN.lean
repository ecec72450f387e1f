/- The encoder of clauses in the heap, and its small functions. -/
import Derived.Test.YtdbbkhmiflignaaCM
namespace Go.Proofs.Ytdbbkhmiflignaa
set_option maxRecDepth 100000

/-- Lists of numbers in the heap: a row of rows. -/
structure CR (H : AHeap) (v : AV) (vs : List AV) (C : List (List Int)) : Prop where
  rd : Reads H v 1 C.length vs
  gr : grows v
  row : ∀ (i : Nat) w c, vs[i]? = some w → C[i]? = some c → ∃ o f, w = .row o 0 1 c.length f ∧ o < H.size ∧ H.obj o = .cells (c.map (.int .i64)) ∧ o ∉ objs v
def crO (v : AV) (vs : List AV) : List Nat := objs v ++ vs.flatMap objs
theorem CR.len {H : AHeap} {v : AV} {vs : List AV} {C : List (List Int)} (h : CR H v vs C) : vs.length = C.length := by have := h.rd.size; omega
theorem CR.nil {H : AHeap} : CR H .nils [] [] := ⟨Reads.nils, by simp, fun i w c h => by simp at h⟩
theorem CR.get {H : AHeap} {v : AV} {vs : List AV} {C : List (List Int)} (h : CR H v vs C) {w : AV} (hw : w ∈ vs) : ∃ c, c ∈ C ∧ ∃ o f, w = .row o 0 1 c.length f ∧ o < H.size ∧ H.obj o = .cells (c.map (.int .i64)) ∧ o ∉ objs v := by
  obtain ⟨i, hi, rfl⟩ := List.getElem_of_mem hw
  have hi' : i < C.length := by rw [← h.len]; exact hi
  exact ⟨C[i], List.getElem_mem hi', h.row i _ _ (List.getElem?_eq_getElem hi) (List.getElem?_eq_getElem hi')⟩
theorem CR.lt {H : AHeap} {v : AV} {vs : List AV} {C : List (List Int)} (h : CR H v vs C) {p : Nat} (hp : p ∈ crO v vs) : p < H.size := by
  unfold crO at hp
  rcases List.mem_append.1 hp with h1 | h1
  · exact h.rd.lt h1
  · obtain ⟨w, hw, h2⟩ := List.mem_flatMap.1 h1
    obtain ⟨c, -, o, f, rfl, h3, -⟩ := h.get hw
    simp at h2
    omega
theorem CR.keep {H H' : AHeap} {v : AV} {vs : List AV} {C : List (List Int)} {X : List Nat} (h : CR H v vs C) (k : Fr X H H') (hx : ∀ p, p ∈ crO v vs → p ∉ X) : CR H' v vs C := by
  refine ⟨h.rd.frO k fun p hp => hx p (by simp [crO, hp]), h.gr, fun i w c hw hc => ?_⟩
  obtain ⟨o, f, rfl, h1, h2, h3⟩ := h.row i w c hw hc
  refine ⟨o, f, rfl, k.lt h1, ?_, h3⟩
  rw [k.obj o h1 (hx o ?_)]
  · exact h2
  · unfold crO
    refine List.mem_append_right _ (List.mem_flatMap.2 ⟨_, List.mem_of_getElem? hw, by simp⟩)
theorem CR.keeps {H H' : AHeap} {v : AV} {vs : List AV} {C : List (List Int)} (h : CR H v vs C) (k : Keeps H H') : CR H' v vs C := h.keep (k.fr []) (by simp)
theorem CR.snoc {H H' : AHeap} {v v' w : AV} {vs : List AV} {C : List (List Int)} {c : List Int} {o : Nat} {f : Bool} {X : List Nat} (h : CR H v vs C) (k : Fr X H H') (hx : ∀ p, p ∈ vs.flatMap objs → p ∉ X) (rd : Reads H' v' 1 (C.length + 1) (vs ++ [w])) (gr : grows v')
    (hw : w = .row o 0 1 c.length f) (ho : o < H.size) (hob : H'.obj o = .cells (c.map (.int .i64))) (hn' : ∀ p, p ∈ objs v' → H.size ≤ p) : CR H' v' (vs ++ [w]) (C ++ [c]) := by
  refine ⟨by simpa using rd, gr, fun i x d hx' hd => ?_⟩
  rcases Nat.lt_or_ge i vs.length with hi | hi
  · rw [List.getElem?_append_left hi] at hx'
    rw [List.getElem?_append_left (by rw [← h.len]; exact hi)] at hd
    obtain ⟨p, g, rfl, h1, h2, h3⟩ := h.row i x d hx' hd
    exact ⟨p, g, rfl, k.lt h1, by rw [k.obj p h1 (hx p (List.mem_flatMap.2 ⟨_, List.mem_of_getElem? hx', by simp⟩))]; exact h2, fun e => by have := hn' p e; omega⟩
  · have hi2 : i = vs.length := by
      rcases Nat.lt_or_ge i (vs.length + 1) with h1 | h1
      · omega
      · rw [List.getElem?_eq_none (by simp; omega)] at hx'; cases hx'
    subst hi2
    rw [List.getElem?_append_right (Nat.le_refl _)] at hx'
    rw [List.getElem?_append_right (by rw [h.len]; exact Nat.le_refl _), h.len] at hd
    simp at hx' hd
    subst hx'; subst hd
    exact ⟨o, f, hw, k.lt ho, hob, fun e => by have := hn' o e; omega⟩

/-- What the map 'told' holds. -/
def En.tf (E : En) (n : Int) : Option Int := if E.told n = 0 then none else some (E.told n)
/-- The encoder in the heap. -/
structure ERep (H : AHeap) (e g : Nat) (E : En) (mo to : Nat) (fv : AV) (vs : List AV) (C : List (List Int)) : Prop where
  self : H.obj e = .cells [.ptr g 0, .int .i64 E.last, .map mo, .map to, fv]
  lo : e < H.size
  lg : g < H.size
  lm : mo < H.size
  lt : to < H.size
  ne1 : e ≠ mo
  ne2 : e ≠ to
  ne3 : mo ≠ to
  vars : ∃ es c, H.obj mo = .map (.one (.i .i64)) es c ∧ IM es E.vr
  told : ∃ es c, H.obj to = .map (.one (.i .i64)) es c ∧ IM es E.tf
  cr : CR H fv vs C
  off : ∀ p, p ∈ crO fv vs → p ≠ e ∧ p ≠ mo ∧ p ≠ to
theorem ERep.keep {H H' : AHeap} {e g : Nat} {E : En} {mo to : Nat} {fv : AV} {vs : List AV} {C : List (List Int)} {X : List Nat} (h : ERep H e g E mo to fv vs C) (k : Fr X H H') (hx : ∀ p, p ∈ e :: mo :: to :: crO fv vs → p ∉ X) : ERep H' e g E mo to fv vs C := by
  obtain ⟨es, c, h1, h2⟩ := h.vars
  obtain ⟨et, d, h3, h4⟩ := h.told
  refine ⟨?_, k.lt h.lo, k.lt h.lg, k.lt h.lm, k.lt h.lt, h.ne1, h.ne2, h.ne3, ⟨es, c, ?_, h2⟩, ⟨et, d, ?_, h4⟩, h.cr.keep k fun p hp => hx p (by simp [hp]), h.off⟩
  · rw [k.obj _ h.lo (hx _ (by simp))]; exact h.self
  · rw [k.obj _ h.lm (hx _ (by simp))]; exact h1
  · rw [k.obj _ h.lt (hx _ (by simp))]; exact h3
theorem ERep.keeps {H H' : AHeap} {e g : Nat} {E : En} {mo to : Nat} {fv : AV} {vs : List AV} {C : List (List Int)} (h : ERep H e g E mo to fv vs C) (k : Keeps H H') : ERep H' e g E mo to fv vs C := h.keep (k.fr []) (by simp)

theorem IM.look {es : List AEnt} {f : Int → Option Int} (h : IM es f) (k : Int) : lookU false (.int .i64 0) (findE (.int .i64 k) es) = .int .i64 ((f k).getD 0) := by
  rcases h.find k with ⟨h1, h2⟩ | ⟨v, x, h1, h2, h3⟩
  · rw [h1, h2]; rfl
  · rw [h1, h2]; simp [h3]
theorem IM.lookOk {es : List AEnt} {f : Int → Option Int} (h : IM es f) (k : Int) : lookU true (.int .i64 0) (findE (.int .i64 k) es) = .tup [.int .i64 ((f k).getD 0), .bool (f k).isSome] := by
  rcases h.find k with ⟨h1, h2⟩ | ⟨v, x, h1, h2, h3⟩
  · rw [h1, h2]; rfl
  · rw [h1, h2]; simp [h3]
theorem setE_keys {k v : AV} : ∀ {es : List AEnt}, (∃ j, k = .int .i64 j) → (∀ x, x ∈ es → ∃ j, x.key = .int .i64 j) → ∀ x, x ∈ setE k v es → ∃ j, x.key = .int .i64 j
  | [], _, _, _, h => by simp [setE] at h
  | e :: es, hk, he, x, h => by
    unfold setE at h
    split at h
    · rcases List.mem_cons.1 h with rfl | h1
      · exact hk
      · exact he x (by simp [h1])
    · rcases List.mem_cons.1 h with rfl | h1
      · exact he _ (by simp)
      · exact setE_keys hk (fun y hy => he y (by simp [hy])) x h1
/-- A map's entry is set. -/
theorem IM.upd {es : List AEnt} {f : Int → Option Int} (h : IM es f) (k v : Int) (H : AHeap) (o : Nat) (sh : KSh) (c : Nat) :
    ∃ es' c', (match findE (.int .i64 k) es with
      | some _ => some (H.set o (.map sh (setE (.int .i64 k) (.int .i64 v) es) c))
      | none => some (H.set o (.map sh (es ++ [⟨.int .i64 k, .int .i64 v, c⟩]) (c + 1)))) = some (H.set o (.map sh es' c')) ∧ IM es' (fun x => if x = k then some v else f x) := by
  rcases h.find k with ⟨h1, h2⟩ | ⟨w, x, h1, h2, h3⟩
  · rw [h2]
    exact ⟨_, _, rfl, h.add h1⟩
  · rw [h2]
    refine ⟨_, _, rfl, fun j => ?_, setE_keys ⟨k, rfl⟩ h.2⟩
    rw [findE_set h.2 (by rw [h2]; simp) j]
    show _ = ((if j = k then some v else f j) : Option Int).map _
    by_cases c : j = k
    · rw [if_pos c, if_pos c]; rfl
    · rw [if_neg c, if_neg c]; exact h.1 j
theorem grows_shut {n : Nat} {v : AV} (hg : grows v) (h : ∀ p, p ∈ objs v → p < n) : closed n v = true := by
  cases v <;> first | (exact hg.elim) | simp [closed]
  exact h _ (by simp)

section
variable {H : AHeap} {e g : Nat} {E : En} {mo to : Nat} {fv : AV} {vs : List AV} {C : List (List Int)}
theorem of_run (h : ERep H e g E mo to fv vs C) (n : Int) : R f_plait_cnf_Encoder_Of [.ptr e 0, .int .i64 n] H = some (.tup [.int .i64 (E.v n), .bool (E.vr n).isSome], H) := by
  obtain ⟨es, c, h1, h2⟩ := h.vars
  rw [e_plait_cnf_Encoder_Of]
  simp [c_plait_cnf_Encoder_Of, h.self, h1, h2.lookOk, En.v]
theorem evars_run (h : ERep H e g E mo to fv vs C) : R f_plait_cnf_Encoder_Vars [.ptr e 0] H = some (.int .i64 E.last, H) := by
  rw [e_plait_cnf_Encoder_Vars]
  simp [c_plait_cnf_Encoder_Vars, h.self]
/-- A literal's clause literal. -/
theorem elit_run (h : ERep H e g E mo to fv vs C) (hb : ∀ n, 0 ≤ E.v n ∧ E.v n ≤ 1000000) {l : Int} (h0 : -9223372036854775808 ≤ l) (h1 : l ≤ 9223372036854775807) : R f_plait_cnf_Encoder_lit [.ptr e 0, .int .i64 l] H = some (.int .i64 (E.lit l), H) := by
  obtain ⟨es, c, h3, h4⟩ := h.vars
  rw [e_plait_cnf_Encoder_lit]
  have hbl := hb (l / 2)
  have hv : (E.vr (l / 2)).getD 0 = E.v (l / 2) := rfl
  obtain ⟨V, hV⟩ : ∃ V, V = E.v (l / 2) := ⟨_, rfl⟩
  rw [← hV] at hv hbl
  have w1 : IntKind.i64.wrap (-V) = -V := i64w (by omega) (by omega)
  have w2 : IntKind.i64.wrap (- -V) = V := by rw [Int.neg_neg]; exact i64w (by omega) (by omega)
  have w3 : IntKind.i64.wrap V = V := i64w (by omega) (by omega)
  by_cases c1 : l / 2 = 0 <;> by_cases c2 : l % 2 = 1 <;>
    simp [c_plait_cnf_Encoder_lit, h.self, h3, h4.look, hv, h0, h1, c1, c2, w1, En.lit, En.nl]
  all_goals (rw [c1] at hv; simp [hv, w1, w3])
theorem asks_run {l : Int} (h0 : -9223372036854775808 ≤ l) (h1 : l ≤ 9223372036854775807) {H : AHeap} : R f_cnf_asks [.int .i64 l] H = some (.agg [.int .i64 (asksF l).1, .int .i64 (asksF l).2], H) := by
  rw [e_cnf_asks]
  by_cases c2 : l % 2 = 1 <;> simp (maxDischargeDepth := 9) [c_cnf_asks, h0, h1, c2, asksF]
theorem fresh_run (h : ERep H e g E mo to fv vs C) (hp : 0 ≤ E.last) (hl : E.last < 65536) {r : Option (AV × AHeap)} (hr : R f_plait_cnf_Encoder_Fresh [.ptr e 0] H = r) :
    r = some (.tup [.int .i64 (E.last + 1), .int .i64 0], H.set e (.cells [.ptr g 0, .int .i64 (E.last + 1), .map mo, .map to, fv])) := by
  rw [e_plait_cnf_Encoder_Fresh] at hr
  have c1 : ¬ 65536 ≤ E.last := by omega
  have w1 : IntKind.i64.wrap (E.last + 1) = E.last + 1 := i64w (by omega) (by omega)
  simp [c_plait_cnf_Encoder_Fresh, h.self, c1, w1] at hr
  have hc : closedO H.size (.cells [.ptr g 0, .int .i64 (E.last + 1), .map mo, .map to, fv]) = true := by
    simp [closedO, closedL, closed, h.lg, h.lm, h.lt, grows_shut h.cr.gr fun p hp => h.cr.rd.lt hp]
  rw [back_nil (by simp) (shut_set shut_refl (.inr hc)), cut_setO h.lo, cut_self] at hr
  exact hr.symm
theorem ERep.next (h : ERep H e g E mo to fv vs C) : ERep (H.set e (.cells [.ptr g 0, .int .i64 (E.last + 1), .map mo, .map to, fv])) e g E.next mo to fv vs C := by
  have k : Fr [e] H (H.set e (.cells [.ptr g 0, .int .i64 (E.last + 1), .map mo, .map to, fv])) := (Fr.refl _ H).set (.inl (by simp)) _
  obtain ⟨es, c, h1, h2⟩ := h.vars
  obtain ⟨et, d, h3, h4⟩ := h.told
  refine ⟨by simp [En.next], h.lo, h.lg, h.lm, h.lt, h.ne1, h.ne2, h.ne3, ⟨es, c, ?_, h2⟩, ⟨et, d, ?_, h4⟩, h.cr.keep k fun p hp => ?_, h.off⟩
  · rw [k.obj _ h.lm (by simpa using h.ne1.symm)]; exact h1
  · rw [k.obj _ h.lt (by simpa using h.ne2.symm)]; exact h3
  · simpa using (h.off p hp).1
/-- A clause is laid. -/
theorem lays_run (h : ERep H e g E mo to fv vs C) {c : List Int} {o : Nat} {f : Bool} (ho : o < H.size) (hob : H.obj o = .cells (c.map (.int .i64))) (hn : ∀ p, p ∈ e :: mo :: to :: crO fv vs → o ≠ p) (hC : C.length ≤ 1000000)
    {r : Option (AV × AHeap)} (hr : R f_plait_cnf_Encoder_lays [.ptr e 0, .row o 0 1 c.length f] H = r) :
    ∃ H' fv', r = some (.tup [], H') ∧ ERep H' e g E mo to fv' (vs ++ [.row o 0 1 c.length f]) (C ++ [c]) ∧ Fr (e :: objs fv) H H' ∧ ∀ p, p ∈ objs fv' → H.size ≤ p := by
  rw [e_plait_cnf_Encoder_lays] at hr
  simp [c_plait_cnf_Encoder_lays, h.self] at hr
  generalize hA : appU _ _ _ _ = q at hr
  obtain ⟨H1, rfl, f1, s1, o1, rd⟩ := app_of hA (h.cr.rd.keep (by simp)) h.cr.gr (Reads.row' (all := [.row o 0 1 c.length f]) (by simp) (by simp) (by simp)) (by omega) rfl (by omega) (by omega) (by omega) (by simp)
  simp only [new_size] at s1 o1 rd hr
  have f0 : Fr (objs fv) H H1 := ((Keeps.refl H).new' _).fr _ |>.trans f1 fun p hp => .inl hp
  have he : e ∉ objs fv := fun hh => (h.off e (by simp [crO, hh])).1 rfl
  have ho1 : H1.obj e = .cells [.ptr g 0, .int .i64 E.last, .map mo, .map to, fv] := by rw [f0.obj e h.lo he]; exact h.self
  simp [ho1] at hr
  generalize hX : H1.set e (.cells [.ptr g 0, .int .i64 E.last, .map mo, .map to, .row (H.size + 1) 0 1 (C.length + 1) false]) = H2 at hr
  have k2 : Fr (e :: objs fv) H H2 := by rw [← hX]; exact (f0.weak fun p hp => .inl (by simp [hp])).set (.inl (by simp)) _
  have o2 : H2.obj e = .cells [.ptr g 0, .int .i64 E.last, .map mo, .map to, .row (H.size + 1) 0 1 (C.length + 1) false] := by rw [← hX]; simp
  have hns : ¬ Shut H H2 := fun hsh => by
    rcases hsh.obj e h.lo with e1 | e1
    · rw [h.self, o2] at e1
      simp at e1
      have := h.cr.rd.lt (o := H.size + 1) (by rw [← e1]; simp)
      omega
    · rw [o2] at e1
      simp [closedO, closedL, closed] at e1
      omega
  rw [back_not hns] at hr
  have hsz : H2.size = H.size + 2 := by rw [← hX]; simp [s1]
  have hrd2 : Reads H2 (.row (H.size + 1) 0 1 (C.length + 1) false) 1 (C.length + 1) (vs ++ [.row o 0 1 c.length f]) := by
    refine rd.frO (F := [e]) ?_ fun p hp => ?_
    · rw [← hX]; exact (Fr.refl _ H1).set (.inl (by simp)) _
    · have := h.lo
      simp at hp ⊢
      omega
  obtain ⟨es, cv, h1, h2⟩ := h.vars
  obtain ⟨et, d, h3, h4⟩ := h.told
  have hmo : mo ∉ e :: objs fv := by
    simp only [List.mem_cons, not_or]
    exact ⟨h.ne1.symm, fun hh => (h.off mo (by simp [crO, hh])).2.1 rfl⟩
  have hto : to ∉ e :: objs fv := by
    simp only [List.mem_cons, not_or]
    exact ⟨h.ne2.symm, fun hh => (h.off to (by simp [crO, hh])).2.2 rfl⟩
  refine ⟨H2, .row (H.size + 1) 0 1 (C.length + 1) false, hr.symm, ⟨o2, k2.lt h.lo, k2.lt h.lg, k2.lt h.lm, k2.lt h.lt, h.ne1, h.ne2, h.ne3, ⟨es, cv, ?_, h2⟩, ⟨et, d, ?_, h4⟩, ?_, fun p hp => ?_⟩, k2, by simp⟩
  · rw [k2.obj _ h.lm hmo]; exact h1
  · rw [k2.obj _ h.lt hto]; exact h3
  · refine h.cr.snoc k2 (fun p hp => ?_) hrd2 (by simp) rfl ho ?_ (by simp)
    · simp only [List.mem_cons, not_or]
      refine ⟨(h.off p (by unfold crO; exact List.mem_append_right _ hp)).1, ?_⟩
      obtain ⟨w, hw, hpw⟩ := List.mem_flatMap.1 hp
      obtain ⟨c', -, o', f', rfl, -, -, hno⟩ := h.cr.get hw
      simp at hpw
      subst hpw; exact hno
    · rw [k2.obj o ho]
      · exact hob
      · simp only [List.mem_cons, not_or]
        exact ⟨hn e (by simp), fun hh => hn o (by simp [crO, hh]) rfl⟩
  · unfold crO at hp
    have hlo := h.lo
    have hlm := h.lm
    have hlt := h.lt
    simp only [objs_row, List.flatMap_append, List.mem_append, List.mem_singleton, List.flatMap_cons, List.flatMap_nil, List.append_nil] at hp
    rcases hp with rfl | hp | rfl
    · omega
    · exact h.off p (by simp [crO]; exact .inr (by simpa using hp))
    · exact ⟨hn e (by simp), hn mo (by simp), hn to (by simp)⟩
end
end Go.Proofs.Ytdbbkhmiflignaa
