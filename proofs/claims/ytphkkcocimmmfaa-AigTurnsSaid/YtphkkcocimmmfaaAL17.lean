/- Types that are compared scalar by scalar: what '==' and a map's key need of them. -/
import Derived.Test.YtphkkcocimmmfaaAL16
import Derived.Laws.StructEq
import Derived.ChangeKeysEq
namespace Go.Proofs.Ytphkkcocimmmfaa
open Go.RowKit

section
variable {P : Program}

def scF (P : Program) (r : TypeId → Option (List Sc)) : Nat → List Field → Option (List Sc)
  | _, [] => some []
  | k, f :: fs => if (f.name != "_") = true ∧ f.offset = k then (r f.type).bind fun l => if tS P f.type = some l.length then (scF P r (k + l.length) fs).map (l ++ ·) else none else none

/-- The scalars of a type, one behind the other. -/
def scT (P : Program) : Nat → TypeId → Option (List Sc)
  | 0, _ => none
  | d + 1, t => match P.underlying t with
    | some (.int k) => some [.i k]
    | some .string => some [.s]
    | some .bool => some [.b]
    | some (.struct fs) => if P.stoodInHeld t = false then scF P (scT P d) 0 fs.toList else none
    | some (.array n e) => (scT P d e).bind fun l => if tS P e = some l.length then some (List.replicate n l).flatten else none
    | _ => none

def mkV (P : Program) (t : TypeId) (vs : List Value) : Value :=
  match P.underlying t with
  | some (.struct _) => .agg vs.toArray
  | some (.array _ _) => .agg vs.toArray
  | _ => vs.headD undef

theorem conf_length : ∀ {sh : List Sc} {l : List AV}, conf sh l = true → l.length = sh.length
  | [], [], _ => rfl
  | _ :: _, _ :: _, h => by simp [conf] at h; simp [conf_length h.2]
  | [], _ :: _, h => by simp [conf] at h
  | _ :: _, [], h => by simp [conf] at h

theorem len_one {α : Type} {l : List α} (h : l.length = 1) : ∃ a, l = [a] := by
  match l, h with
  | [a], _ => exact ⟨a, rfl⟩

theorem vrs_one {S : St} {a : AV} {xs : List Value} (h : VRs S [a] xs) : ∃ x, xs = [x] ∧ VR S a x := by
  cases h with
  | cons _ x _ _ ha hn => cases hn; exact ⟨x, rfl, ha⟩

theorem conf_append : ∀ {s t : List Sc} {l : List AV}, conf (s ++ t) l = true → conf s (l.take s.length) = true ∧ conf t (l.drop s.length) = true
  | [], t, l, h => by simpa [conf] using h
  | c :: s, t, [], h => by simp [conf] at h
  | c :: s, t, a :: l, h => by
    simp only [List.cons_append, conf, Bool.and_eq_true] at h
    obtain ⟨h1, h2⟩ := conf_append h.2
    simp only [List.length_cons, List.take_succ_cons, List.drop_succ_cons, conf, Bool.and_eq_true]
    exact ⟨⟨h.1, h1⟩, h2⟩

theorem scsEq_append : ∀ {l m : List AV} (n : Nat), l.length = m.length → scsEq l m = (scsEq (l.take n) (m.take n) && scsEq (l.drop n) (m.drop n))
  | l, m, 0, _ => by simp [scsEq]
  | [], [], n + 1, _ => by simp [scsEq]
  | a :: l, b :: m, n + 1, h => by
    simp only [List.take_succ_cons, List.drop_succ_cons, scsEq]
    rw [scsEq_append n (by simpa using h), Bool.and_assoc]
  | [], _ :: _, _ + 1, h => by simp at h
  | _ :: _, [], _ + 1, h => by simp at h

theorem part_mk {t : TypeId} {n : Nat} (hs : tS P t = some n) {d : Nat} {sh : List Sc} (hd : scT P d t = some sh) (hn : sh.length = n) {xs : List Value} {k : Nat} (hk : k + n ≤ xs.length) (w : World) :
    (part t xs.toArray k).run P w = .ok (mkV P t ((xs.drop k).take n)) w := by
  cases d with
  | zero => simp [scT] at hd
  | succ d =>
    have agg : (isAggT P t = some true) → mkV P t ((xs.drop k).take n) = .agg ((xs.drop k).take n).toArray → (part t xs.toArray k).run P w = .ok (mkV P t ((xs.drop k).take n)) w := by
      intro ha hm
      rw [hm]
      simp only [part, Sem.run_bind, run_isAgg ha, Result.andThen_ok, if_true, run_sizeOf hs, Sem.run_pure]
      congr 2
      apply Array.ext'
      simp [List.extract_eq_take_drop]
    have one : (isAggT P t = some false) → n = 1 → mkV P t ((xs.drop k).take n) = ((xs.drop k).take n).headD undef → (part t xs.toArray k).run P w = .ok (mkV P t ((xs.drop k).take n)) w := by
      intro ha h1 hm
      subst h1
      rw [hm]
      have hlt : k < xs.length := by omega
      simp only [part, Sem.run_bind, run_isAgg ha, Result.andThen_ok, Bool.false_eq_true, if_false]
      rw [List.getElem?_toArray, List.getElem?_eq_getElem hlt]
      simp only [Sem.run_pure]
      rw [List.drop_eq_getElem_cons hlt]
      rfl
    unfold scT at hd
    split at hd <;> first | (cases hd; done) | skip
    · rename_i hu; cases hd; exact one (by simp [isAggT, hu]) (by simpa using hn.symm) (by simp [mkV, hu])
    · rename_i hu; cases hd; exact one (by simp [isAggT, hu]) (by simpa using hn.symm) (by simp [mkV, hu])
    · rename_i hu; cases hd; exact one (by simp [isAggT, hu]) (by simpa using hn.symm) (by simp [mkV, hu])
    · rename_i hu; exact agg (by simp [isAggT, hu]) (by simp [mkV, hu])
    · rename_i hu; exact agg (by simp [isAggT, hu]) (by simp [mkV, hu])

theorem equal_sc {S : St} : ∀ (d : Nat) (t : TypeId) (sh : List Sc), scT P d t = some sh → ∀ (k : Nat) (w : World) (l m : List AV) (xs ys : List Value), conf sh l = true → conf sh m = true → VRs S l xs → VRs S m ys → (Op.equalIn (k + d) t (mkV P t xs) (mkV P t ys)).run P w = .ok (scsEq l m) w
  | 0, _, _, h => by simp [scT] at h
  | d + 1, t, sh, h => by
    intro k w l m xs ys hl hm hx hy
    unfold scT at h
    split at h <;> first | (cases h; done) | skip
    · rename_i q hu
      cases h
      obtain ⟨a, rfl⟩ := len_one (conf_length hl)
      obtain ⟨b, rfl⟩ := len_one (conf_length hm)
      obtain ⟨x, rfl, ha⟩ := vrs_one hx
      obtain ⟨y, rfl, hb⟩ := vrs_one hy
      cases a <;> simp [conf, Sc.fits] at hl
      cases b <;> simp [conf, Sc.fits] at hm
      subst hl hm
      cases ha; cases hb
      simp [mkV, hu, Op.equalIn, run_underlying hu, scsEq, scEq]
    · rename_i hu
      cases h
      obtain ⟨a, rfl⟩ := len_one (conf_length hl)
      obtain ⟨b, rfl⟩ := len_one (conf_length hm)
      obtain ⟨x, rfl, ha⟩ := vrs_one hx
      obtain ⟨y, rfl, hb⟩ := vrs_one hy
      cases a <;> simp [conf, Sc.fits] at hl
      cases b <;> simp [conf, Sc.fits] at hm
      cases ha; cases hb
      simp [mkV, hu, Op.equalIn, run_underlying hu, scsEq, scEq, ba_eq]
    · rename_i hu
      cases h
      obtain ⟨a, rfl⟩ := len_one (conf_length hl)
      obtain ⟨b, rfl⟩ := len_one (conf_length hm)
      obtain ⟨x, rfl, ha⟩ := vrs_one hx
      obtain ⟨y, rfl, hb⟩ := vrs_one hy
      cases a <;> simp [conf, Sc.fits] at hl
      cases b <;> simp [conf, Sc.fits] at hm
      cases ha; cases hb
      simp [mkV, hu, Op.equalIn, run_underlying hu, scsEq, scEq]
    · rename_i fs hu
      split at h <;> first | (cases h; done) | skip
      rename_i hst
      have hf : P.fieldsOf t = fs := by simp [Program.fieldsOf, hu]
      have e1 : mkV P t xs = .agg xs.toArray := by simp [mkV, hu]
      have e2 : mkV P t ys = .agg ys.toArray := by simp [mkV, hu]
      rw [e1, e2, show k + (d + 1) = (k + d) + 1 from rfl, run_equalIn_struct (P := P) w (k + d) t _ _ (by rw [hf]; exact hu) hst, hf]
      have hlx := hx.length
      have hly := hy.length
      have go : ∀ (gs : List Field) (j : Nat) (s : List Sc), scF P (scT P d) j gs = some s → conf s (l.drop j) = true → conf s (m.drop j) = true → j ≤ l.length → j ≤ m.length →
          (Op.eqFields (k + d) xs.toArray ys.toArray gs).run P w = .ok (scsEq (l.drop j) (m.drop j)) w := by
        intro gs
        induction gs with
        | nil =>
          intro j s hs c1 c2 _ _
          simp [scF] at hs
          subst hs
          have h1 := conf_length c1
          have h2 := conf_length c2
          rw [List.eq_nil_of_length_eq_zero h1, List.eq_nil_of_length_eq_zero h2]
          simp [Op.eqFields, scsEq]
        | cons g gs ih =>
          intro j s hs c1 c2 j1 j2
          simp only [scF] at hs
          split at hs <;> first | (cases hs; done) | skip
          rename_i hg
          obtain ⟨hname, hoff⟩ := hg
          simp only [Option.bind_eq_some_iff] at hs
          obtain ⟨r, hr, hs⟩ := hs
          split at hs <;> first | (cases hs; done) | skip
          rename_i hsz
          simp only [Option.map_eq_some_iff] at hs
          obtain ⟨s', hs', rfl⟩ := hs
          obtain ⟨a1, a2⟩ := conf_append c1
          obtain ⟨b1, b2⟩ := conf_append c2
          have l1 := conf_length c1
          have l2 := conf_length c2
          simp only [List.length_drop, List.length_append] at l1 l2
          have hname' : g.name ≠ "_" := by simpa using hname
          have p1 := part_mk hsz hr rfl (xs := xs) (k := j) (by omega) w
          have p2 := part_mk hsz hr rfl (xs := ys) (k := j) (by omega) w
          have heq := equal_sc d g.type r hr k w _ _ _ _ a1 b1 ((hx.drop j).take r.length) ((hy.drop j).take r.length)
          have ih' := ih (j + r.length) s' hs' (by rw [← List.drop_drop]; exact a2) (by rw [← List.drop_drop]; exact b2) (by omega) (by omega)
          simp only [Op.eqFields, if_pos hname', hoff, Sem.run_bind, p1, p2, heq, Result.andThen_ok]
          rw [scsEq_append (l := l.drop j) (m := m.drop j) r.length (by simp; omega)]
          cases scsEq ((l.drop j).take r.length) ((m.drop j).take r.length) with
          | true => simp only [Bool.not_true, Bool.false_eq_true, if_false, Bool.true_and, List.drop_drop]; exact ih'
          | false => simp
      have := go fs.toList 0 sh h (by simpa using hl) (by simpa using hm) (Nat.zero_le _) (Nat.zero_le _)
      simpa using this
    · rename_i n e hu
      simp only [Option.bind_eq_some_iff] at h
      obtain ⟨r, hr, h⟩ := h
      split at h <;> first | (cases h; done) | skip
      rename_i hsz
      cases h
      have e1 : mkV P t xs = .agg xs.toArray := by simp [mkV, hu]
      have e2 : mkV P t ys = .agg ys.toArray := by simp [mkV, hu]
      obtain ⟨i, hi, his⟩ := tS_some hsz
      have hc : P.cellsOf e = r.length := by simp [Program.cellsOf, hi, his]
      rw [e1, e2, show k + (d + 1) = (k + d) + 1 from rfl, run_equalIn_array (P := P) w (k + d) _ _ hu hi, hc]
      have hlx := hx.length
      have hly := hy.length
      have go : ∀ (c j : Nat), conf (List.replicate c r).flatten (l.drop (j * r.length)) = true → conf (List.replicate c r).flatten (m.drop (j * r.length)) = true →
          (Op.eqItems (k + d) e r.length xs.toArray ys.toArray (List.range' j c)).run P w = .ok (scsEq (l.drop (j * r.length)) (m.drop (j * r.length))) w := by
        intro c
        induction c with
        | zero =>
          intro j c1 c2
          have h1 := conf_length c1
          have h2 := conf_length c2
          simp only [List.replicate_zero, List.flatten_nil, List.length_nil] at h1 h2
          rw [List.eq_nil_of_length_eq_zero h1, List.eq_nil_of_length_eq_zero h2]
          simp [Op.eqItems, scsEq]
        | succ c ih =>
          intro j c1 c2
          rw [List.replicate_succ, List.flatten_cons] at c1 c2
          obtain ⟨a1, a2⟩ := conf_append c1
          obtain ⟨b1, b2⟩ := conf_append c2
          have l1 := conf_length c1
          have l2 := conf_length c2
          simp only [List.length_drop, List.length_append] at l1 l2
          have hj : (j + 1) * r.length = j * r.length + r.length := by rw [Nat.add_mul]; omega
          have p1 := part_mk hsz hr rfl (xs := xs) (k := j * r.length) (by
            by_cases h0 : r.length = 0
            · rw [h0]; simp
            · omega) w
          have p2 := part_mk hsz hr rfl (xs := ys) (k := j * r.length) (by
            by_cases h0 : r.length = 0
            · rw [h0]; simp
            · omega) w
          have heq := equal_sc d e r hr k w _ _ _ _ a1 b1 ((hx.drop (j * r.length)).take r.length) ((hy.drop (j * r.length)).take r.length)
          have ih' := ih (j + 1) (by rw [hj, ← List.drop_drop]; exact a2) (by rw [hj, ← List.drop_drop]; exact b2)
          simp only [List.range'_succ, Op.eqItems, Sem.run_bind, p1, p2, heq, Result.andThen_ok]
          rw [scsEq_append (l := l.drop (j * r.length)) (m := m.drop (j * r.length)) r.length (by simp; omega)]
          cases scsEq ((l.drop (j * r.length)).take r.length) ((m.drop (j * r.length)).take r.length) with
          | true => simp only [Bool.not_true, Bool.false_eq_true, if_false, Bool.true_and, List.drop_drop]; rw [hj] at ih'; exact ih'
          | false => simp
      have := go n 0 (by simpa using hl) (by simpa using hm)
      rw [List.range_eq_range']
      simpa using this

theorem check_sc {S : St} {em : Bool} : ∀ (d : Nat) (t : TypeId) (sh : List Sc), scT P d t = some sh → ∀ (k : Nat) (w : World) (l : List AV) (xs : List Value), conf sh l = true → VRs S l xs → (Instr.checkKey em (k + d) t (mkV P t xs)).run P w = .ok () w
  | 0, _, _, h => by simp [scT] at h
  | d + 1, t, sh, h => by
    intro k w l xs hl hx
    unfold scT at h
    have hlx := hx.length
    split at h <;> first | (cases h; done) | skip
    · rename_i q hu
      simp [show k + (d + 1) = (k + d) + 1 from rfl, Instr.checkKey, run_underlying hu]
    · rename_i hu
      simp [show k + (d + 1) = (k + d) + 1 from rfl, Instr.checkKey, run_underlying hu]
    · rename_i hu
      simp [show k + (d + 1) = (k + d) + 1 from rfl, Instr.checkKey, run_underlying hu]
    · rename_i fs hu
      split at h <;> first | (cases h; done) | skip
      have e1 : mkV P t xs = .agg xs.toArray := by simp [mkV, hu]
      rw [e1, show k + (d + 1) = (k + d) + 1 from rfl, Instr.checkKey]
      simp only [Sem.run_bind, run_underlying hu, Result.andThen_ok]
      rw [← Array.forIn_toList]
      have go : ∀ (gs : List Field) (j : Nat) (s : List Sc), scF P (scT P d) j gs = some s → conf s (l.drop j) = true → j ≤ l.length →
          ((forIn gs PUnit.unit fun f _ => (do
            if f.name ≠ "_" then Instr.checkKey em (k + d) f.type (← part f.type xs.toArray f.offset)
            pure (ForInStep.yield PUnit.unit) : Sem (ForInStep PUnit))) : Sem PUnit).run P w = .ok PUnit.unit w := by
        intro gs
        induction gs with
        | nil => intro j s _ _ _; simp
        | cons g gs ih =>
          intro j s hs c1 j1
          simp only [scF] at hs
          split at hs <;> first | (cases hs; done) | skip
          rename_i hg
          obtain ⟨hname, hoff⟩ := hg
          simp only [Option.bind_eq_some_iff] at hs
          obtain ⟨r, hr, hs⟩ := hs
          split at hs <;> first | (cases hs; done) | skip
          rename_i hsz
          simp only [Option.map_eq_some_iff] at hs
          obtain ⟨s', hs', rfl⟩ := hs
          obtain ⟨a1, a2⟩ := conf_append c1
          have l1 := conf_length c1
          simp only [List.length_drop, List.length_append] at l1
          have hname' : g.name ≠ "_" := by simpa using hname
          have p1 := part_mk hsz hr rfl (xs := xs) (k := j) (by omega) w
          have hck := check_sc (em := em) d g.type r hr k w _ _ a1 ((hx.drop j).take r.length)
          have ih' := ih (j + r.length) s' hs' (by rw [← List.drop_drop]; exact a2) (by omega)
          simp only [List.forIn_cons, Sem.run_bind, hname', ne_eq, not_false_eq_true, if_true, hoff, p1, hck, Result.andThen_ok, Sem.run_pure]
          exact ih'
      have := go fs.toList 0 sh h (by simpa using hl) (Nat.zero_le _)
      simp at this ⊢
      rw [this]
      rfl
    · rename_i n e hu
      simp only [Option.bind_eq_some_iff] at h
      obtain ⟨r, hr, h⟩ := h
      split at h <;> first | (cases h; done) | skip
      rename_i hsz
      cases h
      have e1 : mkV P t xs = .agg xs.toArray := by simp [mkV, hu]
      obtain ⟨i, hi, his⟩ := tS_some hsz
      rw [e1, show k + (d + 1) = (k + d) + 1 from rfl, Instr.checkKey]
      simp only [Sem.run_bind, run_underlying hu, Result.andThen_ok]
      simp only [Std.Legacy.Range.forIn_eq_forIn_range', Std.Legacy.Range.size, Nat.sub_zero, Nat.add_one_sub_one, Nat.div_one]
      have go : ∀ (c j : Nat), conf (List.replicate c r).flatten (l.drop (j * r.length)) = true →
          ((forIn (List.range' j c) PUnit.unit fun i _ => (do
            Instr.checkKey em (k + d) e (← part e xs.toArray (i * (← sizeOf e)))
            pure (ForInStep.yield PUnit.unit) : Sem (ForInStep PUnit))) : Sem PUnit).run P w = .ok PUnit.unit w := by
        intro c
        induction c with
        | zero => intro j _; simp
        | succ c ih =>
          intro j c1
          rw [List.replicate_succ, List.flatten_cons] at c1
          obtain ⟨a1, a2⟩ := conf_append c1
          have l1 := conf_length c1
          simp only [List.length_drop, List.length_append] at l1
          have hj : (j + 1) * r.length = j * r.length + r.length := by rw [Nat.add_mul]; omega
          have p1 := part_mk hsz hr rfl (xs := xs) (k := j * r.length) (by
            by_cases h0 : r.length = 0
            · rw [h0]; simp
            · omega) w
          have hck := check_sc (em := em) d e r hr k w _ _ a1 ((hx.drop (j * r.length)).take r.length)
          have ih' := ih (j + 1) (by rw [hj, ← List.drop_drop]; exact a2)
          simp only [List.range'_succ, List.forIn_cons, Sem.run_bind, run_sizeOf hsz, p1, hck, Result.andThen_ok, Sem.run_pure]
          exact ih'
      have := go n 0 (by simpa using hl)
      simp at this ⊢
      rw [this]
      rfl

theorem keyOK_of {d : Nat} {t : TypeId} {sh : List Sc} (h : scT P d t = some sh) (hd : d ≤ 10000) (ha : isAggT P t = some true) (hg : P.eqGuardType P.depth t = false) : KeyOK P t sh := by
  have hm : ∀ xs : List Value, mkV P t xs = .agg xs.toArray := by
    intro xs
    unfold isAggT at ha
    unfold mkV
    split at ha <;> simp_all
  refine ⟨fun S w as bs xs ys h1 h2 h3 h4 => ?_, hg, fun S em w as xs h1 h2 => ?_⟩
  · have := equal_sc d t sh h (10000 - d) w as bs xs ys h1 h2 h3 h4
    rw [hm, hm, show 10000 - d + d = 10000 from by omega] at this
    exact this
  · have := check_sc (em := em) d t sh h (10000 - d) w as xs h1 h2
    rw [hm, show 10000 - d + d = 10000 from by omega] at this
    exact this

end
end Go.Proofs.Ytphkkcocimmmfaa
