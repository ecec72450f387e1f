/- What a call's arguments read as: abstract values whose cells are never written; and from the interpreter's word on a law to the machine's call. Types that are compared scalar by scalar: what '==' and a map's key need of them. Rules for stepping: a body in a short form, and what each step of it gives -/
import Derived.Test.YtghjglnebcpcmaaALB
import Derived.Carry
import Derived.ChangeOld
import Derived.WideShapes
import Derived.Laws.StructEq
import Derived.ChangeKeysEq
import Derived.IntWalk
import Derived.Laws.Bits64
/-! What a call's arguments read as: abstract values whose cells are never written; and from the interpreter's word on a law to the machine's call. -/
namespace Go.Proofs.Ytghjglnebcpcmaa
open Go.RowKit

section
variable {P : Program} {K : TypeId → Option (List Sc)}

/-- Cells of a value of a type. -/
def TC (P : Program) : Nat → TypeId → List AV → Prop
  | 0, _, _ => False
  | d + 1, t, cs => match P.underlying t with
    | some .bool => ∃ b, cs = [.bool b]
    | some (.int k) => ∃ n, cs = [.int k n] ∧ k.min ≤ n ∧ n ≤ k.max
    | some .string => ∃ s, cs = [.str s] ∧ s.size ≤ 9223372036854775807
    | some (.slice e) => ∃ n ds, cs = [.lst (P.cellsOf e) n ds] ∧ ds.length = n * P.cellsOf e ∧ n ≤ 9223372036854775807 ∧ ∀ i, i < n → TC P d e ((ds.drop (i * P.cellsOf e)).take (P.cellsOf e))
    | some (.struct fs) => cs.length = P.cellsOf t ∧ ∀ f ∈ fs.toList, TC P d f.type ((cs.drop f.offset).take (P.cellsOf f.type))
    | some (.array n e) => cs.length = P.cellsOf t ∧ ∀ i, i < n → TC P d e ((cs.drop (i * P.cellsOf e)).take (P.cellsOf e))
    | _ => False

def consec (P : Program) : Nat → List Field → Nat → Bool
  | k, [], m => decide (k = m)
  | k, f :: fs, m => decide (f.offset = k) && consec P (k + P.cellsOf f.type) fs m

/-- Types of plain data: no pointers, maps, functions, interfaces. -/
def plainT (P : Program) : Nat → TypeId → Bool
  | 0, _ => false
  | d + 1, t => match P.underlying t with
    | some .bool => true
    | some (.int _) => true
    | some .string => true
    | some (.slice e) => decide (0 < P.cellsOf e) && plainT P d e
    | some (.struct fs) => consec P 0 fs.toList (P.cellsOf t) && fs.toList.all fun f => plainT P d f.type
    | some (.array n e) => decide (P.cellsOf t = n * P.cellsOf e) && plainT P d e
    | _ => false

/-- Before the call: nothing of the call's own. -/
def start (w : World) : St := ⟨fun _ => (0, 0), ⟨0, fun _ => .dead, fun _ => 0⟩, w, fun b => b < w.heap.size⟩
def H0 : AHeap := ⟨0, fun _ => .dead, fun _ => 0⟩

theorem start_sim (w : World) : Sim (start w) := ⟨fun _o ho => absurd ho (Nat.not_lt_zero _), fun _o _o' ho => absurd ho (Nat.not_lt_zero _), fun _o ho => absurd ho (Nat.not_lt_zero _), fun _ h => h⟩
theorem start_free (w : World) (b : Nat) : ¬ (start w).owned b := by rintro ⟨o, ho, _⟩; exact absurd ho (Nat.not_lt_zero _)

theorem mapM_get {α β : Type} {f : α → Option β} : ∀ {l : List α} {r : List β}, l.mapM f = some r → ∀ {i : Nat} {x : α}, l[i]? = some x → ∃ y, r[i]? = some y ∧ f x = some y := by
  intro l
  induction l with
  | nil => intro r _ i x hx; simp at hx
  | cons a l ih =>
    intro r h i x hx
    rw [List.mapM_cons] at h
    cases ha : f a with
    | none => simp [ha] at h
    | some b =>
      cases hl : l.mapM f with
      | none => simp [ha, hl] at h
      | some bs =>
        simp [ha, hl] at h
        subst h
        cases i with
        | zero => simp at hx; subst hx; exact ⟨b, by simp, ha⟩
        | succ i => simp at hx; obtain ⟨y, hy, hf⟩ := ih hl hx; exact ⟨y, by simpa using hy, hf⟩

theorem mapM_len {α β : Type} {f : α → Option β} : ∀ {l : List α} {r : List β}, l.mapM f = some r → r.length = l.length := by
  intro l
  induction l with
  | nil => intro r h; simp at h; subst h; rfl
  | cons a l ih =>
    intro r h
    rw [List.mapM_cons] at h
    cases ha : f a with
    | none => simp [ha] at h
    | some b =>
      cases hl : l.mapM f with
      | none => simp [ha, hl] at h
      | some bs => simp [ha, hl] at h; subst h; simp [ih hl]

/-- Parts that lie one behind the other are put together. -/
theorem joined {S : St} {sz : Nat} {T : List AV → Prop} {R : Nat → Value → Prop} : ∀ {n : Nat}, (∀ i, i < n → ∃ as vs, VRs S as vs ∧ as.length = sz ∧ T as ∧ ∀ j v, vs[j]? = some v → R (i * sz + j) v) →
    ∃ ds xs, VRs S ds xs ∧ ds.length = n * sz ∧ (∀ i, i < n → T ((ds.drop (i * sz)).take sz)) ∧ ∀ j v, xs[j]? = some v → R j v
  | 0, _ => ⟨[], [], .nil, by simp, fun i hi => absurd hi (Nat.not_lt_zero _), fun j v h => by simp at h⟩
  | n + 1, h => by
    obtain ⟨ds, xs, h1, h2, h3, h4⟩ := joined (n := n) fun i hi => h i (by omega)
    obtain ⟨as, vs, g1, g2, g3, g4⟩ := h n (by omega)
    have hlen := h1.length
    refine ⟨ds ++ as, xs ++ vs, h1.append g1, by rw [List.length_append, h2, g2, Nat.add_mul]; omega, fun i hi => ?_, fun j v hj => ?_⟩
    · by_cases hin : i < n
      · have hle : i * sz + sz ≤ n * sz := by
          have := Nat.mul_le_mul_right sz (show i + 1 ≤ n by omega)
          rw [Nat.add_mul] at this; omega
        rw [List.drop_append_of_le_length (by omega), List.take_append_of_le_length (by rw [List.length_drop]; omega)]
        exact h3 i hin
      · have : i = n := by omega
        subst this
        rw [← h2, List.drop_left, ← g2, List.take_length]
        exact g3
    · by_cases hj' : j < xs.length
      · rw [List.getElem?_append_left hj'] at hj
        exact h4 j v hj
      · rw [List.getElem?_append_right (by omega)] at hj
        have := g4 _ v hj
        rw [show n * sz + (j - xs.length) = j from by omega] at this
        exact this

theorem cells?_get {w : World} {base : Nat} {a : Addr} {n : Nat} {vs : List Value} (h : w.cells? base a n = some vs) : vs.length = n ∧ ∀ j v, vs[j]? = some v → w.cell? (a.add j) = some v := by
  unfold World.cells? at h
  split at h <;> first | (cases h; done) | skip
  have hl := mapM_len h
  refine ⟨by simpa using hl, fun j v hj => ?_⟩
  have hlt : j < n := by have := (List.getElem?_eq_some_iff.1 hj).1; simp at hl; omega
  obtain ⟨y, hy, hf⟩ := mapM_get h (i := j) (x := j) (by simp [hlt])
  rw [hj] at hy; cases hy
  exact hf

theorem cell?_spot {w : World} {a : Addr} {v : Value} (h : w.cell? a = some v) : a.spot = none ∧ a.block < w.heap.size := by
  refine ⟨?_, World.block_lt_of_cell? w a h⟩
  unfold World.cell? at h
  split at h
  · cases hs : a.spot with
    | none => rfl
    | some s => simp [hs] at h
  · cases h

theorem consec_parts {S : St} {T : Field → List AV → Prop} {cs : List Value} {m : Nat} (hm : cs.length = m) : ∀ {fs : List Field} {k : Nat}, consec P k fs m = true →
    (∀ f ∈ fs, ∃ as, VRs S as ((cs.drop f.offset).take (P.cellsOf f.type)) ∧ as.length = P.cellsOf f.type ∧ T f as) →
    ∃ ds, VRs S ds (cs.drop k) ∧ k ≤ m ∧ ds.length = m - k ∧ ∀ f ∈ fs, k ≤ f.offset ∧ T f ((ds.drop (f.offset - k)).take (P.cellsOf f.type))
  | [], k, h, _ => by
    simp [consec] at h
    subst h
    refine ⟨[], ?_, Nat.le_refl _, by simp, by simp⟩
    rw [List.drop_of_length_le (by omega)]
    exact .nil
  | f :: fs, k, h, hp => by
    simp only [consec, Bool.and_eq_true, decide_eq_true_eq] at h
    obtain ⟨h1, h2⟩ := h
    obtain ⟨ds, g1, g2, g3, g4⟩ := consec_parts hm h2 (fun f' hf' => hp f' (by simp [hf']))
    obtain ⟨as, a1, a2, a3⟩ := hp f (by simp)
    rw [h1] at a1
    refine ⟨as ++ ds, ?_, by omega, by rw [List.length_append]; omega, fun f' hf' => ?_⟩
    · have := a1.append g1
      rw [← List.drop_drop, List.take_append_drop] at this
      exact this
    · rcases List.mem_cons.1 hf' with rfl | hf'
      · refine ⟨by omega, ?_⟩
        rw [show f'.offset - k = 0 from by omega, List.drop_zero, ← a2, List.take_left]
        exact a3
      · obtain ⟨b1, b2⟩ := g4 f' hf'
        refine ⟨by omega, ?_⟩
        rw [show f'.offset - k = as.length + (f'.offset - (k + P.cellsOf f.type)) from by omega, List.drop_append]
        have e0 : List.drop (as.length + (f'.offset - (k + P.cellsOf f.type))) as = [] := List.drop_of_length_le (by omega)
        rw [e0, List.nil_append, show as.length + (f'.offset - (k + P.cellsOf f.type)) - as.length = f'.offset - (k + P.cellsOf f.type) from by omega]
        exact b2

/-- A reading is an abstract value of the type. -/
theorem trod_sound {H : Type} {enc : TypeId × Value → H} {w : World} {spare : Nat → Bool} {held : Bool} : ∀ (d : Nat) (n : Nat) (t : TypeId) (cs : List Value) (x : DataW H × List MemPlace), plainT P d t = true → DataW.trod enc P w 0 spare held n t cs = some x → ∃ as, VRs (start w) as cs ∧ TC P d t as
  | 0, _, _, _, _, hp, _ => by simp [plainT] at hp
  | d + 1, 0, _, _, _, _, h => by simp [DataW.trod] at h
  | d + 1, n + 1, t, cs, x, hp, h => by
    rw [DataW.trod_step] at h
    unfold DataW.trodStep at h
    unfold plainT at hp
    unfold TC
    split at hp <;> first | (cases hp; done) | skip
    · rename_i hu
      rw [hu] at h
      simp only [] at h
      split at h
      all_goals (try (cases h; done))
      all_goals (try (rename_i heq; cases heq; done))
      all_goals (try (rename_i heq _; cases heq; done))
      all_goals (try (rename_i heq _ _; cases heq; done))
      exact ⟨_, .cons _ _ _ _ (.bool _) .nil, _, rfl⟩
    · rename_i k hu
      rw [hu] at h
      simp only [] at h
      split at h
      all_goals (try (cases h; done))
      all_goals (try (rename_i heq; cases heq; done))
      all_goals (try (rename_i heq _; cases heq; done))
      all_goals (try (rename_i heq _ _; cases heq; done))
      rename_i heq
      cases heq
      split at h <;> first | (cases h; done) | skip
      rename_i hc
      obtain ⟨rfl, hwf⟩ := hc
      simp only [Lit.wf, Bool.and_eq_true, decide_eq_true_eq] at hwf
      exact ⟨_, .cons _ _ _ _ (.int _ _) .nil, _, rfl, hwf.1, hwf.2⟩
    · rename_i hu
      rw [hu] at h
      simp only [] at h
      split at h
      all_goals (try (cases h; done))
      all_goals (try (rename_i heq; cases heq; done))
      all_goals (try (rename_i heq _; cases heq; done))
      all_goals (try (rename_i heq _ _; cases heq; done))
      split at h <;> first | (cases h; done) | skip
      rename_i hs
      exact ⟨_, .cons _ _ _ _ (.str _) .nil, _, rfl, by simp only [maxLen] at hs; omega⟩
    · rename_i e hu
      simp only [Bool.and_eq_true, decide_eq_true_eq] at hp
      obtain ⟨hpos, hpe⟩ := hp
      rw [hu] at h
      simp only [] at h
      split at h
      all_goals (try (cases h; done))
      all_goals (try (rename_i heq; cases heq; done))
      all_goals (try (rename_i heq _; cases heq; done))
      all_goals (try (rename_i heq _ _; cases heq; done))
      · exact ⟨[.lst (P.cellsOf e) 0 []], .cons _ _ _ _ (.lst0 _ _ _) .nil, 0, [], rfl, by simp, by omega, fun i hi => absurd hi (Nat.not_lt_zero _)⟩
      · rename_i a len cap heq
        cases heq
        split at h <;> first | (cases h; done) | skip
        rename_i hc
        simp only [Option.bind_eq_some_iff] at h
        obtain ⟨elems, hel, _⟩ := h
        have hm : len ≤ 9223372036854775807 := by have := hc.2.2; simp only [maxLen] at this; omega
        by_cases h0 : len = 0
        · subst h0
          exact ⟨[.lst (P.cellsOf e) 0 []], .cons _ _ _ _ (.lst0 _ _ _) .nil, 0, [], rfl, by simp, by omega, fun i hi => absurd hi (Nat.not_lt_zero _)⟩
        · have hparts : ∀ i, i < len → ∃ vs y, w.cells? 0 (a.add (i * P.cellsOf e)) (P.cellsOf e) = some vs ∧ DataW.trod enc P w 0 spare held n e vs = some y := by
            intro i hi
            obtain ⟨y, _, hy⟩ := mapM_get hel (i := i) (x := i) (by simp [hi])
            simp only [Option.bind_eq_some_iff] at hy
            obtain ⟨vs, hvs, hy⟩ := hy
            exact ⟨vs, y, hvs, hy⟩
          obtain ⟨vs0, _, hv0, _⟩ := hparts 0 (by omega)
          obtain ⟨l0, c0⟩ := cells?_get hv0
          have hfirst : ∃ v, vs0[0]? = some v := ⟨vs0[0]'(by omega), by simp⟩
          obtain ⟨v0, hv0'⟩ := hfirst
          have hcell0 := c0 0 v0 hv0'
          have hspot := cell?_spot hcell0
          obtain ⟨b, off, spot⟩ := a
          have hsp : spot = none := by simpa [Addr.add] using hspot.1
          subst hsp
          have hb : b < w.heap.size := by simpa [Addr.add] using hspot.2
          obtain ⟨ds, xs, g1, g2, g3, g4⟩ := joined (S := start w) (sz := P.cellsOf e) (T := TC P d e) (R := fun j v => w.cell? ⟨b, off + j, none⟩ = some v) (n := len) (by
            intro i hi
            obtain ⟨vs, y, hvs, hy⟩ := hparts i hi
            obtain ⟨as, q1, q2⟩ := trod_sound d n e vs y hpe hy
            obtain ⟨l1, c1⟩ := cells?_get hvs
            refine ⟨as, vs, q1, by rw [q1.length, l1], q2, fun j v hj => ?_⟩
            have := c1 j v hj
            rw [add_plain, add_plain] at this
            rw [← Nat.add_assoc]
            exact this)
          refine ⟨[.lst (P.cellsOf e) len ds], .cons _ _ _ _ (.lst _ _ _ _ b off xs g1 g2 hb (start_free w b) g4 hc.2.1) .nil, len, ds, rfl, g2, hm, g3⟩
    · rename_i fs hu
      simp only [Bool.and_eq_true] at hp
      obtain ⟨hcon, hall⟩ := hp
      rw [hu] at h
      simp only [] at h
      split at h
      all_goals (try (cases h; done))
      all_goals (try (rename_i heq; cases heq; done))
      all_goals (try (rename_i heq _; cases heq; done))
      all_goals (try (rename_i heq _ _; cases heq; done))
      rename_i hl
      simp only [Option.map_eq_some_iff] at h
      obtain ⟨xs, hxs, _⟩ := h
      rw [List.all_eq_true] at hall
      obtain ⟨ds, g1, g2, g3, g4⟩ := consec_parts (P := P) (S := start w) (T := fun f as => TC P d f.type as) hl hcon (by
        intro f hf
        obtain ⟨i, hi, he⟩ := List.getElem_of_mem hf
        obtain ⟨y, _, hy⟩ := mapM_get hxs (i := i) (x := f) (by rw [← he]; simp)
        obtain ⟨as, q1, q2⟩ := trod_sound d n f.type _ y (hall f hf) hy
        refine ⟨as, q1, ?_, q2⟩
        have hlen := q1.length
        rw [hlen]
        -- the part lies within
        have key : ∀ {gs : List Field} {k : Nat}, consec P k gs (P.cellsOf t) = true → (∀ g ∈ gs, k ≤ g.offset ∧ g.offset + P.cellsOf g.type ≤ P.cellsOf t) ∧ k ≤ P.cellsOf t := by
          intro gs
          induction gs with
          | nil => intro k hk; simp [consec] at hk; exact ⟨by simp, by omega⟩
          | cons g gs ih =>
            intro k hk
            simp only [consec, Bool.and_eq_true, decide_eq_true_eq] at hk
            obtain ⟨i1, i2⟩ := ih hk.2
            refine ⟨fun g' hg' => ?_, by omega⟩
            rcases List.mem_cons.1 hg' with rfl | hg'
            · exact ⟨by omega, by omega⟩
            · have := i1 g' hg'; exact ⟨by omega, this.2⟩
        have := (key hcon).1 f hf
        simp only [List.length_take, List.length_drop]
        omega)
      simp only [List.drop_zero, Nat.sub_zero] at g1 g3 g4
      exact ⟨ds, g1, g3, fun f hf => (g4 f hf).2⟩
    · rename_i k e hu
      simp only [Bool.and_eq_true, decide_eq_true_eq] at hp
      obtain ⟨hsz, hpe⟩ := hp
      rw [hu] at h
      simp only [] at h
      split at h
      all_goals (try (cases h; done))
      all_goals (try (rename_i heq; cases heq; done))
      all_goals (try (rename_i heq _; cases heq; done))
      all_goals (try (rename_i heq _ _; cases heq; done))
      rename_i hl
      simp only [Option.map_eq_some_iff] at h
      obtain ⟨xs, hxs, _⟩ := h
      obtain ⟨ds, ys, g1, g2, g3, g4⟩ := joined (S := start w) (sz := P.cellsOf e) (T := TC P d e) (R := fun j v => cs[j]? = some v) (n := k) (by
        intro i hi
        obtain ⟨y, _, hy⟩ := mapM_get hxs (i := i) (x := i) (by simp [hi])
        obtain ⟨as, q1, q2⟩ := trod_sound d n e _ y hpe hy
        have hle : i * P.cellsOf e + P.cellsOf e ≤ k * P.cellsOf e := by
          have := Nat.mul_le_mul_right (P.cellsOf e) (show i + 1 ≤ k by omega)
          rw [Nat.add_mul] at this; omega
        refine ⟨as, _, q1, by rw [q1.length]; simp; omega, q2, fun j v hj => ?_⟩
        rw [List.getElem?_take] at hj
        split at hj
        · rw [List.getElem?_drop] at hj; exact hj
        · cases hj)
      have hys : ys = cs := by
        apply List.ext_getElem?
        intro j
        have hyl := g1.length
        by_cases hj : j < ys.length
        · have : ys[j]? = some ys[j] := by simp [hj]
          rw [this, g4 j _ this]
        · rw [List.getElem?_eq_none (by omega), List.getElem?_eq_none (by omega)]
      rw [hys] at g1
      exact ⟨ds, g1, by rw [g2, hsz], g3⟩

/-- An argument's abstract value, of the type that the function asks for. -/
def TV (P : Program) (d : Nat) (t : TypeId) (a : AV) : Prop :=
  match P.underlying t with
  | some (.struct _) => ∃ cs, a = .agg cs ∧ TC P d t cs
  | some (.array _ _) => ∃ cs, a = .agg cs ∧ TC P d t cs
  | _ => TC P d t [a]

theorem arg_sound {H : Type} {enc : TypeId × Value → H} {w : World} {d : Nat} {t : TypeId} {v : Value} {x : DataW H} {ps : List MemPlace} {base : Nat} (hp : plainT P d t = true) (h : DataW.Trod enc P w 0 (fun _ => true) true t v x ps) (hok : Value.okWide P w .any base t v) : ∃ a, VR (start w) a v ∧ TV P d t a := by
  obtain ⟨n, h⟩ := h
  obtain ⟨as, h1, h2⟩ := trod_sound d n t _ _ hp h
  have one : v.cells.toList = [v] → (∀ fs, P.underlying t ≠ some (.struct fs)) → (∀ n e, P.underlying t ≠ some (.array n e)) → ∃ a, VR (start w) a v ∧ TV P d t a := by
    intro hone h3 h4
    rw [hone] at h1
    cases h1 with
    | cons a _ _ _ ha hn =>
      cases hn
      refine ⟨a, ha, ?_⟩
      unfold TV
      split
      · rename_i hu; exact (h3 _ hu).elim
      · rename_i hu; exact (h4 _ _ hu).elim
      · exact h2
  cases d with
  | zero => simp [plainT] at hp
  | succ d =>
    have hp' := hp
    unfold plainT at hp'
    split at hp' <;> first | (cases hp'; done) | skip
    · rename_i hu
      obtain ⟨b, rfl⟩ := WideShapes.okWide_bool hu hok
      exact one rfl (by rw [hu]; simp) (by rw [hu]; simp)
    · rename_i hu
      obtain ⟨b, rfl⟩ := WideShapes.okWide_int hu hok
      exact one rfl (by rw [hu]; simp) (by rw [hu]; simp)
    · rename_i hu
      obtain ⟨b, rfl⟩ := WideShapes.okWide_string hu hok
      exact one rfl (by rw [hu]; simp) (by rw [hu]; simp)
    · rename_i hu
      obtain ⟨_, _, _, rfl⟩ := WideShapes.okWide_slice hu hok
      exact one rfl (by rw [hu]; simp) (by rw [hu]; simp)
    · rename_i fs hu
      obtain ⟨cs, rfl, _⟩ := WideShapes.okWide_struct hu hok
      refine ⟨.agg as, by have := VR.agg (S := start w) as _ h1; simpa [Value.cells] using this, ?_⟩
      unfold TV
      rw [hu]
      exact ⟨as, rfl, h2⟩
    · rename_i k e hu
      unfold Value.okWide at hok
      rw [hu] at hok
      obtain ⟨cs, rfl, _⟩ := hok
      refine ⟨.agg as, by have := VR.agg (S := start w) as _ h1; simpa [Value.cells] using this, ?_⟩
      unfold TV
      rw [hu]
      exact ⟨as, rfl, h2⟩

/-- From the interpreter's word on a law to the machine's call. -/
theorem law_calls {D : Quiets} (hG : Good P K) {f : FuncId} {as : List AV} {v : AV} {H' : AHeap} (hent : Enterable P f) (h : runs P K D f as H0 = some (v, H')) {w : World} {vs : List Value} (hv : VRs (start w) as vs) {b : Bool} (hb : v = .bool b) :
    Calls P f vs.toArray w fun e w' => e = .returned (.bool b) ∧ Below w.heap.size w w' := by
  subst hb
  rcases runs_ok hG f as H0 _ H' h with ⟨_, hat⟩ | ⟨_, hc⟩
  · obtain ⟨x, hx, _⟩ := hat (start w) vs hv
    rw [call_enter hent] at hx
    cases hx
  refine (hc (start w) vs (start_sim w) rfl hv).mono ?_
  rintro e w' ⟨T, x, rfl, rfl, _, _, hE, hx⟩
  cases hx
  exact ⟨rfl, hE.os, hE.tape, hE.output, hE.size, fun k hk => (hE.other k (.inr hk) (start_free w k)).1⟩

end
end Go.Proofs.Ytghjglnebcpcmaa
/-! Types that are compared scalar by scalar: what '==' and a map's key need of them. -/
namespace Go.Proofs.Ytghjglnebcpcmaa
open Go.RowKit

section
variable {P : Program}

def scF (P : Program) (r : TypeId → Option (List Sc)) : Nat → List Field → Option (List Sc)
  | _, [] => some []
  | k, f :: fs => if (f.name != "_") = true ∧ f.offset = k then (r f.type).bind fun l => if tS P f.type = some l.length then (scF P r (k + l.length) fs).map (l ++ ·) else none else none

/-- The scalars of a type, one behind the other. -/
def scT (P : Program) : Nat → TypeId → Option (List Sc)
  | 0, _ => none
  | d + 1, t => match P.underlying t with
    | some (.int k) => some [.i k]
    | some .string => some [.s]
    | some .bool => some [.b]
    | some (.struct fs) => if P.stoodInHeld t = false then scF P (scT P d) 0 fs.toList else none
    | some (.array n e) => (scT P d e).bind fun l => if tS P e = some l.length then some (List.replicate n l).flatten else none
    | _ => none

def mkV (P : Program) (t : TypeId) (vs : List Value) : Value :=
  match P.underlying t with
  | some (.struct _) => .agg vs.toArray
  | some (.array _ _) => .agg vs.toArray
  | _ => vs.headD undef

theorem conf_length : ∀ {sh : List Sc} {l : List AV}, conf sh l = true → l.length = sh.length
  | [], [], _ => rfl
  | _ :: _, _ :: _, h => by simp [conf] at h; simp [conf_length h.2]
  | [], _ :: _, h => by simp [conf] at h
  | _ :: _, [], h => by simp [conf] at h

theorem len_one {α : Type} {l : List α} (h : l.length = 1) : ∃ a, l = [a] := by
  match l, h with
  | [a], _ => exact ⟨a, rfl⟩

theorem vrs_one {S : St} {a : AV} {xs : List Value} (h : VRs S [a] xs) : ∃ x, xs = [x] ∧ VR S a x := by
  cases h with
  | cons _ x _ _ ha hn => cases hn; exact ⟨x, rfl, ha⟩

theorem conf_append : ∀ {s t : List Sc} {l : List AV}, conf (s ++ t) l = true → conf s (l.take s.length) = true ∧ conf t (l.drop s.length) = true
  | [], t, l, h => by simpa [conf] using h
  | c :: s, t, [], h => by simp [conf] at h
  | c :: s, t, a :: l, h => by
    simp only [List.cons_append, conf, Bool.and_eq_true] at h
    obtain ⟨h1, h2⟩ := conf_append h.2
    simp only [List.length_cons, List.take_succ_cons, List.drop_succ_cons, conf, Bool.and_eq_true]
    exact ⟨⟨h.1, h1⟩, h2⟩

theorem scsEq_append : ∀ {l m : List AV} (n : Nat), l.length = m.length → scsEq l m = (scsEq (l.take n) (m.take n) && scsEq (l.drop n) (m.drop n))
  | l, m, 0, _ => by simp [scsEq]
  | [], [], n + 1, _ => by simp [scsEq]
  | a :: l, b :: m, n + 1, h => by
    simp only [List.take_succ_cons, List.drop_succ_cons, scsEq]
    rw [scsEq_append n (by simpa using h), Bool.and_assoc]
  | [], _ :: _, _ + 1, h => by simp at h
  | _ :: _, [], _ + 1, h => by simp at h

theorem part_mk {t : TypeId} {n : Nat} (hs : tS P t = some n) {d : Nat} {sh : List Sc} (hd : scT P d t = some sh) (hn : sh.length = n) {xs : List Value} {k : Nat} (hk : k + n ≤ xs.length) (w : World) :
    (part t xs.toArray k).run P w = .ok (mkV P t ((xs.drop k).take n)) w := by
  cases d with
  | zero => simp [scT] at hd
  | succ d =>
    have agg : (isAggT P t = some true) → mkV P t ((xs.drop k).take n) = .agg ((xs.drop k).take n).toArray → (part t xs.toArray k).run P w = .ok (mkV P t ((xs.drop k).take n)) w := by
      intro ha hm
      rw [hm]
      simp only [part, Sem.run_bind, run_isAgg ha, Result.andThen_ok, if_true, run_sizeOf hs, Sem.run_pure]
      congr 2
      apply Array.ext'
      simp [List.extract_eq_take_drop]
    have one : (isAggT P t = some false) → n = 1 → mkV P t ((xs.drop k).take n) = ((xs.drop k).take n).headD undef → (part t xs.toArray k).run P w = .ok (mkV P t ((xs.drop k).take n)) w := by
      intro ha h1 hm
      subst h1
      rw [hm]
      have hlt : k < xs.length := by omega
      simp only [part, Sem.run_bind, run_isAgg ha, Result.andThen_ok, Bool.false_eq_true, if_false]
      rw [List.getElem?_toArray, List.getElem?_eq_getElem hlt]
      simp only [Sem.run_pure]
      rw [List.drop_eq_getElem_cons hlt]
      rfl
    unfold scT at hd
    split at hd <;> first | (cases hd; done) | skip
    · rename_i hu; cases hd; exact one (by simp [isAggT, hu]) (by simpa using hn.symm) (by simp [mkV, hu])
    · rename_i hu; cases hd; exact one (by simp [isAggT, hu]) (by simpa using hn.symm) (by simp [mkV, hu])
    · rename_i hu; cases hd; exact one (by simp [isAggT, hu]) (by simpa using hn.symm) (by simp [mkV, hu])
    · rename_i hu; exact agg (by simp [isAggT, hu]) (by simp [mkV, hu])
    · rename_i hu; exact agg (by simp [isAggT, hu]) (by simp [mkV, hu])

theorem equal_sc {S : St} : ∀ (d : Nat) (t : TypeId) (sh : List Sc), scT P d t = some sh → ∀ (k : Nat) (w : World) (l m : List AV) (xs ys : List Value), conf sh l = true → conf sh m = true → VRs S l xs → VRs S m ys → (Op.equalIn (k + d) t (mkV P t xs) (mkV P t ys)).run P w = .ok (scsEq l m) w
  | 0, _, _, h => by simp [scT] at h
  | d + 1, t, sh, h => by
    intro k w l m xs ys hl hm hx hy
    unfold scT at h
    split at h <;> first | (cases h; done) | skip
    · rename_i q hu
      cases h
      obtain ⟨a, rfl⟩ := len_one (conf_length hl)
      obtain ⟨b, rfl⟩ := len_one (conf_length hm)
      obtain ⟨x, rfl, ha⟩ := vrs_one hx
      obtain ⟨y, rfl, hb⟩ := vrs_one hy
      cases a <;> simp [conf, Sc.fits] at hl
      cases b <;> simp [conf, Sc.fits] at hm
      subst hl hm
      cases ha; cases hb
      simp [mkV, hu, Op.equalIn, run_underlying hu, scsEq, scEq]
    · rename_i hu
      cases h
      obtain ⟨a, rfl⟩ := len_one (conf_length hl)
      obtain ⟨b, rfl⟩ := len_one (conf_length hm)
      obtain ⟨x, rfl, ha⟩ := vrs_one hx
      obtain ⟨y, rfl, hb⟩ := vrs_one hy
      cases a <;> simp [conf, Sc.fits] at hl
      cases b <;> simp [conf, Sc.fits] at hm
      cases ha; cases hb
      simp [mkV, hu, Op.equalIn, run_underlying hu, scsEq, scEq, ba_eq]
    · rename_i hu
      cases h
      obtain ⟨a, rfl⟩ := len_one (conf_length hl)
      obtain ⟨b, rfl⟩ := len_one (conf_length hm)
      obtain ⟨x, rfl, ha⟩ := vrs_one hx
      obtain ⟨y, rfl, hb⟩ := vrs_one hy
      cases a <;> simp [conf, Sc.fits] at hl
      cases b <;> simp [conf, Sc.fits] at hm
      cases ha; cases hb
      simp [mkV, hu, Op.equalIn, run_underlying hu, scsEq, scEq]
    · rename_i fs hu
      split at h <;> first | (cases h; done) | skip
      rename_i hst
      have hf : P.fieldsOf t = fs := by simp [Program.fieldsOf, hu]
      have e1 : mkV P t xs = .agg xs.toArray := by simp [mkV, hu]
      have e2 : mkV P t ys = .agg ys.toArray := by simp [mkV, hu]
      rw [e1, e2, show k + (d + 1) = (k + d) + 1 from rfl, run_equalIn_struct (P := P) w (k + d) t _ _ (by rw [hf]; exact hu) hst, hf]
      have hlx := hx.length
      have hly := hy.length
      have go : ∀ (gs : List Field) (j : Nat) (s : List Sc), scF P (scT P d) j gs = some s → conf s (l.drop j) = true → conf s (m.drop j) = true → j ≤ l.length → j ≤ m.length →
          (Op.eqFields (k + d) xs.toArray ys.toArray gs).run P w = .ok (scsEq (l.drop j) (m.drop j)) w := by
        intro gs
        induction gs with
        | nil =>
          intro j s hs c1 c2 _ _
          simp [scF] at hs
          subst hs
          have h1 := conf_length c1
          have h2 := conf_length c2
          rw [List.eq_nil_of_length_eq_zero h1, List.eq_nil_of_length_eq_zero h2]
          simp [Op.eqFields, scsEq]
        | cons g gs ih =>
          intro j s hs c1 c2 j1 j2
          simp only [scF] at hs
          split at hs <;> first | (cases hs; done) | skip
          rename_i hg
          obtain ⟨hname, hoff⟩ := hg
          simp only [Option.bind_eq_some_iff] at hs
          obtain ⟨r, hr, hs⟩ := hs
          split at hs <;> first | (cases hs; done) | skip
          rename_i hsz
          simp only [Option.map_eq_some_iff] at hs
          obtain ⟨s', hs', rfl⟩ := hs
          obtain ⟨a1, a2⟩ := conf_append c1
          obtain ⟨b1, b2⟩ := conf_append c2
          have l1 := conf_length c1
          have l2 := conf_length c2
          simp only [List.length_drop, List.length_append] at l1 l2
          have hname' : g.name ≠ "_" := by simpa using hname
          have p1 := part_mk hsz hr rfl (xs := xs) (k := j) (by omega) w
          have p2 := part_mk hsz hr rfl (xs := ys) (k := j) (by omega) w
          have heq := equal_sc d g.type r hr k w _ _ _ _ a1 b1 ((hx.drop j).take r.length) ((hy.drop j).take r.length)
          have ih' := ih (j + r.length) s' hs' (by rw [← List.drop_drop]; exact a2) (by rw [← List.drop_drop]; exact b2) (by omega) (by omega)
          simp only [Op.eqFields, if_pos hname', hoff, Sem.run_bind, p1, p2, heq, Result.andThen_ok]
          rw [scsEq_append (l := l.drop j) (m := m.drop j) r.length (by simp; omega)]
          cases scsEq ((l.drop j).take r.length) ((m.drop j).take r.length) with
          | true => simp only [Bool.not_true, Bool.false_eq_true, if_false, Bool.true_and, List.drop_drop]; exact ih'
          | false => simp
      have := go fs.toList 0 sh h (by simpa using hl) (by simpa using hm) (Nat.zero_le _) (Nat.zero_le _)
      simpa using this
    · rename_i n e hu
      simp only [Option.bind_eq_some_iff] at h
      obtain ⟨r, hr, h⟩ := h
      split at h <;> first | (cases h; done) | skip
      rename_i hsz
      cases h
      have e1 : mkV P t xs = .agg xs.toArray := by simp [mkV, hu]
      have e2 : mkV P t ys = .agg ys.toArray := by simp [mkV, hu]
      obtain ⟨i, hi, his⟩ := tS_some hsz
      have hc : P.cellsOf e = r.length := by simp [Program.cellsOf, hi, his]
      rw [e1, e2, show k + (d + 1) = (k + d) + 1 from rfl, run_equalIn_array (P := P) w (k + d) _ _ hu hi, hc]
      have hlx := hx.length
      have hly := hy.length
      have go : ∀ (c j : Nat), conf (List.replicate c r).flatten (l.drop (j * r.length)) = true → conf (List.replicate c r).flatten (m.drop (j * r.length)) = true →
          (Op.eqItems (k + d) e r.length xs.toArray ys.toArray (List.range' j c)).run P w = .ok (scsEq (l.drop (j * r.length)) (m.drop (j * r.length))) w := by
        intro c
        induction c with
        | zero =>
          intro j c1 c2
          have h1 := conf_length c1
          have h2 := conf_length c2
          simp only [List.replicate_zero, List.flatten_nil, List.length_nil] at h1 h2
          rw [List.eq_nil_of_length_eq_zero h1, List.eq_nil_of_length_eq_zero h2]
          simp [Op.eqItems, scsEq]
        | succ c ih =>
          intro j c1 c2
          rw [List.replicate_succ, List.flatten_cons] at c1 c2
          obtain ⟨a1, a2⟩ := conf_append c1
          obtain ⟨b1, b2⟩ := conf_append c2
          have l1 := conf_length c1
          have l2 := conf_length c2
          simp only [List.length_drop, List.length_append] at l1 l2
          have hj : (j + 1) * r.length = j * r.length + r.length := by rw [Nat.add_mul]; omega
          have p1 := part_mk hsz hr rfl (xs := xs) (k := j * r.length) (by
            by_cases h0 : r.length = 0
            · rw [h0]; simp
            · omega) w
          have p2 := part_mk hsz hr rfl (xs := ys) (k := j * r.length) (by
            by_cases h0 : r.length = 0
            · rw [h0]; simp
            · omega) w
          have heq := equal_sc d e r hr k w _ _ _ _ a1 b1 ((hx.drop (j * r.length)).take r.length) ((hy.drop (j * r.length)).take r.length)
          have ih' := ih (j + 1) (by rw [hj, ← List.drop_drop]; exact a2) (by rw [hj, ← List.drop_drop]; exact b2)
          simp only [List.range'_succ, Op.eqItems, Sem.run_bind, p1, p2, heq, Result.andThen_ok]
          rw [scsEq_append (l := l.drop (j * r.length)) (m := m.drop (j * r.length)) r.length (by simp; omega)]
          cases scsEq ((l.drop (j * r.length)).take r.length) ((m.drop (j * r.length)).take r.length) with
          | true => simp only [Bool.not_true, Bool.false_eq_true, if_false, Bool.true_and, List.drop_drop]; rw [hj] at ih'; exact ih'
          | false => simp
      have := go n 0 (by simpa using hl) (by simpa using hm)
      rw [List.range_eq_range']
      simpa using this

theorem check_sc {S : St} {em : Bool} : ∀ (d : Nat) (t : TypeId) (sh : List Sc), scT P d t = some sh → ∀ (k : Nat) (w : World) (l : List AV) (xs : List Value), conf sh l = true → VRs S l xs → (Instr.checkKey em (k + d) t (mkV P t xs)).run P w = .ok () w
  | 0, _, _, h => by simp [scT] at h
  | d + 1, t, sh, h => by
    intro k w l xs hl hx
    unfold scT at h
    have hlx := hx.length
    split at h <;> first | (cases h; done) | skip
    · rename_i q hu
      simp [Instr.checkKey, run_underlying hu]
    · rename_i hu
      simp [Instr.checkKey, run_underlying hu]
    · rename_i hu
      simp [Instr.checkKey, run_underlying hu]
    · rename_i fs hu
      split at h <;> first | (cases h; done) | skip
      have e1 : mkV P t xs = .agg xs.toArray := by simp [mkV, hu]
      rw [e1, show k + (d + 1) = (k + d) + 1 from rfl, Instr.checkKey]
      simp only [Sem.run_bind, run_underlying hu, Result.andThen_ok]
      rw [← Array.forIn_toList]
      have go : ∀ (gs : List Field) (j : Nat) (s : List Sc), scF P (scT P d) j gs = some s → conf s (l.drop j) = true → j ≤ l.length →
          ((forIn gs PUnit.unit fun f _ => (do
            if f.name ≠ "_" then Instr.checkKey em (k + d) f.type (← part f.type xs.toArray f.offset)
            pure (ForInStep.yield PUnit.unit) : Sem (ForInStep PUnit))) : Sem PUnit).run P w = .ok PUnit.unit w := by
        intro gs
        induction gs with
        | nil => intro j s _ _ _; simp
        | cons g gs ih =>
          intro j s hs c1 j1
          simp only [scF] at hs
          split at hs <;> first | (cases hs; done) | skip
          rename_i hg
          obtain ⟨hname, hoff⟩ := hg
          simp only [Option.bind_eq_some_iff] at hs
          obtain ⟨r, hr, hs⟩ := hs
          split at hs <;> first | (cases hs; done) | skip
          rename_i hsz
          simp only [Option.map_eq_some_iff] at hs
          obtain ⟨s', hs', rfl⟩ := hs
          obtain ⟨a1, a2⟩ := conf_append c1
          have l1 := conf_length c1
          simp only [List.length_drop, List.length_append] at l1
          have hname' : g.name ≠ "_" := by simpa using hname
          have p1 := part_mk hsz hr rfl (xs := xs) (k := j) (by omega) w
          have hck := check_sc (em := em) d g.type r hr k w _ _ a1 ((hx.drop j).take r.length)
          have ih' := ih (j + r.length) s' hs' (by rw [← List.drop_drop]; exact a2) (by omega)
          simp only [List.forIn_cons, Sem.run_bind, hname', ne_eq, not_false_eq_true, if_true, hoff, p1, hck, Result.andThen_ok, Sem.run_pure]
          exact ih'
      have := go fs.toList 0 sh h (by simpa using hl) (Nat.zero_le _)
      simp at this ⊢
      rw [this]
      rfl
    · rename_i n e hu
      simp only [Option.bind_eq_some_iff] at h
      obtain ⟨r, hr, h⟩ := h
      split at h <;> first | (cases h; done) | skip
      rename_i hsz
      cases h
      have e1 : mkV P t xs = .agg xs.toArray := by simp [mkV, hu]
      obtain ⟨i, hi, his⟩ := tS_some hsz
      rw [e1, show k + (d + 1) = (k + d) + 1 from rfl, Instr.checkKey]
      simp only [Sem.run_bind, run_underlying hu, Result.andThen_ok]
      simp only [Std.Legacy.Range.forIn_eq_forIn_range', Std.Legacy.Range.size, Nat.sub_zero, Nat.add_one_sub_one, Nat.div_one]
      have go : ∀ (c j : Nat), conf (List.replicate c r).flatten (l.drop (j * r.length)) = true →
          ((forIn (List.range' j c) PUnit.unit fun i _ => (do
            Instr.checkKey em (k + d) e (← part e xs.toArray (i * (← sizeOf e)))
            pure (ForInStep.yield PUnit.unit) : Sem (ForInStep PUnit))) : Sem PUnit).run P w = .ok PUnit.unit w := by
        intro c
        induction c with
        | zero => intro j _; simp
        | succ c ih =>
          intro j c1
          rw [List.replicate_succ, List.flatten_cons] at c1
          obtain ⟨a1, a2⟩ := conf_append c1
          have l1 := conf_length c1
          simp only [List.length_drop, List.length_append] at l1
          have hj : (j + 1) * r.length = j * r.length + r.length := by rw [Nat.add_mul]; omega
          have p1 := part_mk hsz hr rfl (xs := xs) (k := j * r.length) (by
            by_cases h0 : r.length = 0
            · rw [h0]; simp
            · omega) w
          have hck := check_sc (em := em) d e r hr k w _ _ a1 ((hx.drop (j * r.length)).take r.length)
          have ih' := ih (j + 1) (by rw [hj, ← List.drop_drop]; exact a2)
          simp only [List.range'_succ, List.forIn_cons, Sem.run_bind, run_sizeOf hsz, p1, hck, Result.andThen_ok, Sem.run_pure]
          exact ih'
      have := go n 0 (by simpa using hl)
      simp at this ⊢
      rw [this]
      rfl

theorem keyOK_of {d : Nat} {t : TypeId} {sh : List Sc} (h : scT P d t = some sh) (hd : d ≤ 10000) (ha : isAggT P t = some true) (hg : P.eqGuardType P.depth t = false) : KeyOK P t sh := by
  have hm : ∀ xs : List Value, mkV P t xs = .agg xs.toArray := by
    intro xs
    unfold isAggT at ha
    unfold mkV
    split at ha <;> simp_all
  refine ⟨fun S w as bs xs ys h1 h2 h3 h4 => ?_, hg, fun S em w as xs h1 h2 => ?_⟩
  · have := equal_sc d t sh h (10000 - d) w as bs xs ys h1 h2 h3 h4
    rw [hm, hm, show 10000 - d + d = 10000 from by omega] at this
    exact this
  · have := check_sc (em := em) d t sh h (10000 - d) w as xs h1 h2
    rw [hm, show 10000 - d + d = 10000 from by omega] at this
    exact this

end
end Go.Proofs.Ytghjglnebcpcmaa
/-! Rules for stepping: a body in a short form, and what each step of it gives. -/
namespace Go.Proofs.Ytghjglnebcpcmaa

/-- An equality, not told to be one by computation (a rule that is one by computation alone can't serve as a side condition's proof). -/
theorem nr {α : Sort _} {a b : α} (h : a = b) : a = b := h

/-- An operation in short: 'op = none' is one that was passed over. -/
structure LOp where
  dst : Option Nat
  op : Option Op
  g : Option (Option Nat × Bool)

inductive LCode where
  | skip
  | reg (q : List Nat) (l : List LOp)
  | seq (a b : LCode)
  | cond (c : Operand) (a b : LCode)
  | block (id : Nat) (b : LCode)
  | loop (b : LCode)
  | exit (id : Nat)
  | ret
  | bad

def Oper.short (ops : Array Oper) (o : Oper) : LOp := ⟨o.dst, some o.op, o.guard.map fun (j, want) => ((ops[j]?).bind (·.dst), want)⟩

def toL (D : Nat → List Nat) : Code → LCode
  | .skip => .skip
  | .region id ops draw => .reg (if draw = true then D id else []) ((ordOps draw (D id) ops).toList.map (Oper.short (ordOps draw (D id) ops)))
  | .seq a b => .seq (toL D a) (toL D b)
  | .cond c a b => .cond c (toL D a) (toL D b)
  | .block id b => .block id (toL D b)
  | .loop b => .loop (toL D b)
  | .exit id => .exit id
  | .ret => .ret
  | _ => .bad

theorem Keeps.refl (H : AHeap) : Keeps H H := ⟨Nat.le_refl _, fun _ _ => rfl, fun _ _ => rfl⟩
theorem Keeps.trans {A B E : AHeap} (h : Keeps A B) (k : Keeps B E) : Keeps A E :=
  ⟨Nat.le_trans h.size k.size, fun o ho => (k.obj o (Nat.lt_of_lt_of_le ho h.size)).trans (h.obj o ho), fun o ho => (k.wr o (Nat.lt_of_lt_of_le ho h.size)).trans (h.wr o ho)⟩
theorem Keeps.new (H : AHeap) (x : AObj) : Keeps H (H.new x) := ⟨Nat.le_succ _, fun o ho => by simp only [AHeap.new]; rw [if_neg (Nat.ne_of_lt ho)], fun _ _ => rfl⟩
theorem Keeps.quiet {H H' : AHeap} (h : Keeps H H') : H.Quiet H' := h.wr
theorem Keeps.lt {H H' : AHeap} (h : Keeps H H') {o : Nat} (ho : o < H.size) : o < H'.size := Nat.lt_of_lt_of_le ho h.size
/-- A write into what is new is none to what is old. -/
theorem Keeps.set {H H' : AHeap} (h : Keeps H H') {o : Nat} (ho : H.size ≤ o) (x : AObj) : Keeps H (H'.set o x) :=
  ⟨h.size, fun k hk => by simp only [AHeap.set]; rw [if_neg (by omega)]; exact h.obj k hk, fun k hk => by simp only [AHeap.set]; rw [if_neg (by omega)]; exact h.wr k hk⟩
theorem Keeps.new' {H H' : AHeap} (h : Keeps H H') (x : AObj) : Keeps H (H'.new x) := h.trans (Keeps.new _ _)

@[simp] theorem new_size (H : AHeap) (x : AObj) : (H.new x).size = H.size + 1 := nr rfl
@[simp] theorem set_size (H : AHeap) (o : Nat) (x : AObj) : (H.set o x).size = H.size := nr rfl
@[simp] theorem new_self (H : AHeap) (x : AObj) : (H.new x).obj H.size = x := by simp [AHeap.new]
@[simp] theorem set_self (H : AHeap) (o : Nat) (x : AObj) : (H.set o x).obj o = x := by simp [AHeap.set]
theorem new_lt {H : AHeap} {o : Nat} (h : o < H.size) (x : AObj) : (H.new x).obj o = H.obj o := by simp only [AHeap.new]; rw [if_neg (by omega)]
theorem new_old {H : AHeap} {o : Nat} (h : o ≠ H.size) (x : AObj) : (H.new x).obj o = H.obj o := by simp only [AHeap.new]; rw [if_neg h]
theorem set_old {H : AHeap} {o o' : Nat} (h : o' ≠ o) (x : AObj) : (H.set o x).obj o' = H.obj o' := by simp only [AHeap.set]; rw [if_neg h]
theorem set_lt {H : AHeap} {o o' : Nat} (h : o' < o) (x : AObj) : (H.set o x).obj o' = H.obj o' := set_old (by omega) x
theorem set_gt {H : AHeap} {o o' : Nat} (h : o < o') (x : AObj) : (H.set o x).obj o' = H.obj o' := set_old (by omega) x

section
variable {P : Program} {K : TypeId → Option (List Sc)} {C : Calling}

/-- The heap behind a call. -/
def aft (C : Calling) (f : FuncId) (as : List AV) (H : AHeap) : AHeap := ((C f as H).map (·.2)).getD H

theorem aft_of {f : FuncId} {as : List AV} {H : AHeap} {v : AV} {H' : AHeap} (h : C f as H = some (v, H')) : C f as H = some (v, aft C f as H) ∧ aft C f as H = H' := by simp [aft, h]

def wantsL (e : Env) : Option (Option Nat × Bool) → Option Bool
  | none => some true
  | some (t, want) => match t.bind e with
    | some (.bool b) => some (b == want)
    | some (.tup []) => some false
    | _ => none

variable (P K C) in
noncomputable def evL (q : List Nat) : Nat → List LOp → Env → AHeap → Option (Env × AHeap)
  | _, [], e, H => some (e, H)
  | k, ⟨d, none, _⟩ :: r, e, H => evL q (k + 1) r (e.putO d (some (.tup []))) H
  | k, ⟨d, some op, g⟩ :: r, e, H => (wantsL e g).bind fun w =>
    if w = true then (evalOp P K C op e H).bind fun (v, H') => if q.contains k = true ∧ markOK q op e H v H' = false then none else evL q (k + 1) r (e.putO d (some v)) H'
    else evL q (k + 1) r (e.putO d (some (.tup []))) H

variable (P K C) in
noncomputable def evalL : LCode → Env → AHeap → Rn
  | .skip, e, H => some (.normal, e, H)
  | .reg q l, e, H => (evL P K C q 0 l e H).map fun (e', H') => (.normal, e', H')
  | .seq a b, e, H => (evalL a e H).bind fun
    | (.normal, e', H') => evalL b e' H'
    | (.exit id, e', H') => some (.exit id, e', H')
    | (.ret, e', H') => some (.ret, e', H')
  | .cond c a b, e, H => match evalOpd e c with
    | some (.bool t) => if t = true then evalL a e H else evalL b e H
    | _ => none
  | .block id b, e, H => (evalL b e H).map fun
    | (.exit id', e', H') => (if id' = id then .normal else .exit id', e', H')
    | (.normal, e', H') => (.normal, e', H')
    | (.ret, e', H') => (.ret, e', H')
  | .loop b, e, H => loopLim (evalL b) e H
  | .exit id, e, H => some (.exit id, e, H)
  | .ret, e, H => some (.ret, e, H)
  | .bad, _, _ => none

theorem evL_short {q : List Nat} {ops : Array Oper} : ∀ {l : List Oper} {k : Nat} {e : Env} {H : AHeap}, evL P K C q k (l.map (Oper.short ops)) e H = evalOps P K C q ops k l e H
  | [], _, _, _ => rfl
  | o :: l, k, e, H => by
    have hw : wantsL e (o.guard.map fun (j, want) => ((ops[j]?).bind (·.dst), want)) = wants e ops o := by
      unfold wants wantsL
      cases o.guard with
      | none => rfl
      | some x => obtain ⟨j, want⟩ := x; rfl
    simp only [List.map_cons, Oper.short, evL, evalOps, hw]
    congr 1
    funext w
    split
    · congr 1
      funext x
      obtain ⟨v, H'⟩ := x
      simp only
      rw [← evL_short]
    · exact evL_short

theorem evalL_toL {D : Quiets} {f : FuncId} : ∀ {c : Code} {e : Env} {H : AHeap}, evalL P K C (toL (D f) c) e H = evalCode P K C D f c e H
  | .skip, _, _ => rfl
  | .region id ops draw, e, H => by
    simp only [toL, evalL, evalCode]
    rw [evL_short]
  | .seq a b, e, H => by
    simp only [toL, evalL, evalCode, evalL_toL (c := a)]
    congr 1
    funext x
    obtain ⟨x, e', H'⟩ := x
    cases x <;> simp only [evalL_toL (c := b)]
  | .cond c a b, e, H => by simp only [toL, evalL, evalCode, evalL_toL (c := a), evalL_toL (c := b)]; rfl
  | .block id b, e, H => by simp only [toL, evalL, evalCode, evalL_toL (c := b)]; rfl
  | .loop b, e, H => by
    simp only [toL, evalL, evalCode]
    congr 1
    funext e H
    exact evalL_toL (c := b)
  | .exit _, _, _ => rfl
  | .ret, _, _ => rfl
  | .scope _, _, _ => rfl
  | .label _, _, _ => rfl
  | .goto _, _, _ => rfl
  | .refuse _, _, _ => rfl
  | .rangeFunc .., _, _ => rfl

/-! Continuations: what is done with a step's word. -/
variable (P K C) in
noncomputable def stepK (q : List Nat) (k : Nat) (r : List LOp) (d : Option Nat) (op : Op) (e : Env) (H : AHeap) : Option (AV × AHeap) → Option (Env × AHeap)
  | none => none
  | some (v, H') => if q.contains k = true ∧ markOK q op e H v H' = false then none else evL P K C q (k + 1) r (e.putO d (some v)) H'
variable (P K C) in
noncomputable def guardK (q : List Nat) (k : Nat) (r : List LOp) (d : Option Nat) (op : Op) (e : Env) (H : AHeap) (want : Bool) : Option AV → Option (Env × AHeap)
  | some (.bool b) => evL P K C q k ((if b = want then ⟨d, some op, none⟩ else ⟨d, none, none⟩) :: r) e H
  | some (.tup []) => evL P K C q k (⟨d, none, none⟩ :: r) e H
  | _ => none
def regK : Option (Env × AHeap) → Rn
  | some (e, H) => some (.normal, e, H)
  | none => none
variable (P K C) in
noncomputable def seqK (b : LCode) : Rn → Rn
  | some (.normal, e, H) => evalL P K C b e H
  | r => r
variable (P K C) in
noncomputable def condK (a b : LCode) (e : Env) (H : AHeap) : Option AV → Rn
  | some (.bool t) => evalL P K C (if t = true then a else b) e H
  | _ => none
def blockK (id : Nat) : Rn → Rn
  | some (.exit id', e, H) => some (if id' = id then .normal else .exit id', e, H)
  | r => r
variable (P K C) in
noncomputable def loopL (b : LCode) (e : Env) (H : AHeap) : Rn := loopLim (evalL P K C b) e H
variable (P K C) in
noncomputable def loopK (b : LCode) : Rn → Rn
  | some (.normal, e, H) => loopL P K C b e H
  | r => r
variable (P) in
noncomputable def fnK (z : List Nat) (H0 : AHeap) (rs : List ResultVar) : Rn → Option (AV × AHeap)
  | some (.exit _, _, _) => none
  | some (_, e, H) => (evalResults P e H rs).map fun vs => back z H0 (tupled vs) H
  | none => none

@[simp] theorem evL_nil {q : List Nat} {k : Nat} {e : Env} {H : AHeap} : evL P K C q k [] e H = some (e, H) := nr rfl
@[simp] theorem evL_do {q : List Nat} {k : Nat} {d : Option Nat} {op : Op} {r : List LOp} {e : Env} {H : AHeap} : evL P K C q k (⟨d, some op, none⟩ :: r) e H = stepK P K C q k r d op e H (evalOp P K C op e H) := by
  simp only [evL, wantsL, Option.bind_some, if_true]
  cases evalOp P K C op e H <;> rfl
@[simp] theorem evL_pass {q : List Nat} {k : Nat} {d : Option Nat} {r : List LOp} {e : Env} {H : AHeap} : evL P K C q k (⟨d, none, none⟩ :: r) e H = evL P K C q (k + 1) r (e.putO d (some (.tup []))) H := nr rfl
@[simp] theorem evL_guard {q : List Nat} {k : Nat} {d : Option Nat} {op : Op} {t : Nat} {want : Bool} {r : List LOp} {e : Env} {H : AHeap} : evL P K C q k (⟨d, some op, some (some t, want)⟩ :: r) e H = guardK P K C q k r d op e H want (e t) := by
  rw [evL]
  simp only [wantsL, Option.bind_some]
  unfold guardK
  split
  · rename_i b h
    simp only [Option.bind_some, beq_iff_eq]
    by_cases hb : b = want
    · rw [if_pos hb, if_pos hb, evL_do]
      cases evalOp P K C op e H <;> rfl
    · rw [if_neg hb, if_neg hb]; rfl
  · rename_i h
    simp only [Option.bind_some, Bool.false_eq_true, if_false]
    rfl
  · simp
@[simp] theorem guardK_bool {q : List Nat} {k : Nat} {d : Option Nat} {op : Op} {want b : Bool} {r : List LOp} {e : Env} {H : AHeap} : guardK P K C q k r d op e H want (some (.bool b)) = evL P K C q k ((if b = want then ⟨d, some op, none⟩ else ⟨d, none, none⟩) :: r) e H := nr rfl
@[simp] theorem guardK_tup {q : List Nat} {k : Nat} {d : Option Nat} {op : Op} {want : Bool} {r : List LOp} {e : Env} {H : AHeap} : guardK P K C q k r d op e H want (some (.tup [])) = evL P K C q k (⟨d, none, none⟩ :: r) e H := nr rfl
@[simp] theorem stepK_some {k : Nat} {d : Nat} {op : Op} {r : List LOp} {e : Env} {H H' : AHeap} {v : AV} : stepK P K C [] k r (some d) op e H (some (v, H')) = evL P K C [] (k + 1) r (e.put d v) H' := by
  simp only [stepK, List.contains_nil, Bool.false_eq_true, false_and, if_false]
  congr 1
  funext s; simp [Env.putO, Env.put, eq_comm]
@[simp] theorem stepK_none {k : Nat} {op : Op} {r : List LOp} {e : Env} {H H' : AHeap} {v : AV} : stepK P K C [] k r none op e H (some (v, H')) = evL P K C [] (k + 1) r e H' := by
  simp only [stepK, List.contains_nil, Bool.false_eq_true, false_and, if_false]
  congr 1
@[simp] theorem stepK_qsome {a : Nat} {q : List Nat} {k : Nat} {d : Nat} {op : Op} {r : List LOp} {e : Env} {H H' : AHeap} {v : AV} (h : (a :: q).contains k = false ∨ markOK (a :: q) op e H v H' = true) : stepK P K C (a :: q) k r (some d) op e H (some (v, H')) = evL P K C (a :: q) (k + 1) r (e.put d v) H' := by
  have hn : ¬ ((a :: q).contains k = true ∧ markOK (a :: q) op e H v H' = false) := by
    rintro ⟨h1, h2⟩
    rcases h with h | h
    · rw [h] at h1; cases h1
    · rw [h] at h2; cases h2
  simp only [stepK, if_neg hn]
  congr 1
  funext s; simp [Env.putO, Env.put, eq_comm]
@[simp] theorem stepK_qnone {a : Nat} {q : List Nat} {k : Nat} {op : Op} {r : List LOp} {e : Env} {H H' : AHeap} {v : AV} (h : (a :: q).contains k = false ∨ markOK (a :: q) op e H v H' = true) : stepK P K C (a :: q) k r none op e H (some (v, H')) = evL P K C (a :: q) (k + 1) r e H' := by
  have hn : ¬ ((a :: q).contains k = true ∧ markOK (a :: q) op e H v H' = false) := by
    rintro ⟨h1, h2⟩
    rcases h with h | h
    · rw [h] at h1; cases h1
    · rw [h] at h2; cases h2
  simp only [stepK, if_neg hn]
  congr 1
/-- What lies under a mark. -/
@[simp] theorem mark_load {q : List Nat} {t : TypeId} {a : Operand} {e : Env} {H H' : AHeap} {v : AV} : markOK q (.load t a) e H v H' = (if q.contains 997 = true then markLd q e a v else match sepT q with
    | none => match v with
      | .int _ _ => true
      | _ => false
    | some s => match objOf (evalOpd e a), objOfS (e s) with
      | some o1, some os => sepL q o1 os
      | _, _ => false) := nr rfl
@[simp] theorem mark_store {q : List Nat} {t : TypeId} {a x : Operand} {e : Env} {H H' : AHeap} {v : AV} : markOK q (.store t a x) e H v H' = (match sepT q with
    | none => match evalOpd e a, evalOpd e x with
      | some (.ptr o off), some (.bool _) => match H.obj o with
        | .cells cs => match cs[off]? with
          | some (.bool _) => true
          | _ => false
        | _ => false
      | _, _ => false
    | some s => match objOf (evalOpd e a), objOfS (e s) with
      | some o2, some os => !sepL q o2 os
      | _, _ => false) := nr rfl
/-- A marked append leaves a slot's very object alone. -/
@[simp] theorem markApp_one {q : List Nat} {e : Env} {H H' : AHeap} {s : Nat} {os off : Nat} (hs : sepT q = some s) (h8 : q.contains 998 = true) (ho : e s = some (.ptr os off)) (hk : H'.obj os = H.obj os) : markApp q e H H' = true := by
  unfold markApp
  rw [hs]
  simp only [ho, objOfS]
  refine @decide_eq_true _ (Classical.propDecidable _) fun o h => ?_
  unfold sepL at h
  rw [if_pos h8, decide_eq_true_eq] at h
  rw [h]; exact hk
@[simp] theorem mark_call {q : List Nat} {c : Call} {e : Env} {H H' : AHeap} {v : AV} : markOK q (.call c) e H v H' = if isApp (.call c) = true then markApp q e H H' else if q.contains 997 = true then (if isLen (.call c) = true then rowW ((c.args.toList.head?).bind (evalOpd e)) else if isCall (.call c) = true then markCl q e H H' else true) else decide (H.Quiet H') := nr rfl
@[simp] theorem mark_slice {q : List Nat} {t : TypeId} {x : Operand} {lo hi mx : Option Operand} {e : Env} {H H' : AHeap} {v : AV} : markOK q (.slice t x lo hi mx) e H v H' = if q.contains 997 = true then rowW (evalOpd e x) else true := nr rfl
@[simp] theorem isApp_value {f : Operand} {as : Array Operand} {ts : Array TypeId} : isApp (.call ⟨.value f, as, ts⟩) = false := nr rfl
@[simp] theorem isApp_append {as : Array Operand} {ts : Array TypeId} : isApp (.call ⟨.builtin .append, as, ts⟩) = true := nr rfl
@[simp] theorem isApp_len {as : Array Operand} {ts : Array TypeId} : isApp (.call ⟨.builtin .len, as, ts⟩) = false := nr rfl
@[simp] theorem isLen_value {f : Operand} {as : Array Operand} {ts : Array TypeId} : isLen (.call ⟨.value f, as, ts⟩) = false := nr rfl
@[simp] theorem isLen_len {as : Array Operand} {ts : Array TypeId} : isLen (.call ⟨.builtin .len, as, ts⟩) = true := nr rfl
@[simp] theorem isCall_value {f : Operand} {as : Array Operand} {ts : Array TypeId} : isCall (.call ⟨.value f, as, ts⟩) = true := nr rfl
@[simp] theorem rowW_row {o off sz n : Nat} {b : Bool} : rowW (some (.row o off sz n b)) = true := nr rfl
@[simp] theorem rowW_nils : rowW (some .nils) = true := nr rfl
@[simp] theorem rowW_lst {sz n : Nat} {cs : List AV} : rowW (some (.lst sz n cs)) = true := nr rfl
theorem rowW_of {v : AV} {n : Nat} (h : sliceLen v = some n) : rowW (some v) = true := by cases v <;> first | rfl | (cases h; done)
/-- A marked call leaves a slot's very cell alone. -/
@[simp] theorem markCl_none {q : List Nat} {e : Env} {H H' : AHeap} (hs : sepT q = none) : markCl q e H H' = true := by
  unfold markCl
  rw [hs]
@[simp] theorem markCl_one {q : List Nat} {e : Env} {H H' : AHeap} {s d : Nat} {o off : Nat} (hs : sepT q = some s) (hd : sepD q = d) (ho : e s = some (.ptr o off)) (hk : cellO (H'.obj o) (off + d) = cellO (H.obj o) (off + d)) : markCl q e H H' = true := by
  unfold markCl
  rw [hs]
  simp only [ho, decide_eq_true_eq, hd]
  exact hk
@[simp] theorem sepD_nil : sepD [] = 0 := nr rfl
@[simp] theorem sepD_cons {k : Nat} {q : List Nat} : sepD (k :: q) = if 800 ≤ k ∧ k < 997 then k - 800 else sepD q := by
  unfold sepD
  by_cases h : 800 ≤ k ∧ k < 997
  · simp [List.find?, h.1, h.2]
  · rw [List.find?_cons, if_neg h, decide_eq_false h]
@[simp] theorem cellO_cells {cs : List AV} {off : Nat} : cellO (.cells cs) off = cs[off]? := nr rfl
@[simp] theorem markLd_one {q : List Nat} {e : Env} {a : Operand} {v : AV} {s d : Nat} {o off : Nat} (hs : sepT q = some s) (hd : sepD q = d) (ho : e s = some (.ptr o off)) (ha : evalOpd e a = some (.ptr o (off + d))) (hv : oneW v = true) : markLd q e a v = true := by
  unfold markLd
  rw [hs]
  simp [ho, ha, hv, hd]
@[simp] theorem oneW_ptr {o off : Nat} : oneW (.ptr o off) = true := nr rfl
@[simp] theorem oneW_map {o : Nat} : oneW (.map o) = true := nr rfl
@[simp] theorem oneW_int {k : IntKind} {n : Int} : oneW (.int k n) = true := nr rfl
@[simp] theorem mark_alloc {q : List Nat} {t : TypeId} {e : Env} {H H' : AHeap} {v : AV} : markOK q (.alloc t) e H v H' = decide (H.Quiet H') := nr rfl
@[simp] theorem mark_makeSlice {q : List Nat} {t : TypeId} {l c : Operand} {e : Env} {H H' : AHeap} {v : AV} : markOK q (.makeSlice t l c) e H v H' = decide (H.Quiet H') := nr rfl
@[simp] theorem mark_buildSlice {q : List Nat} {t : TypeId} {n : Nat} {ps : Array (Nat × Operand)} {e : Env} {H H' : AHeap} {v : AV} : markOK q (.buildSlice t n ps) e H v H' = (decide (H.Quiet H') && plainO (H'.obj H.size)) := nr rfl
@[simp] theorem plainO_cells {cs : List AV} : plainO (.cells cs) = cs.all plainV := nr rfl
@[simp] theorem plainV_bool {b : Bool} : plainV (.bool b) = true := nr rfl
@[simp] theorem plainV_int {k : IntKind} {n : Int} : plainV (.int k n) = true := nr rfl
@[simp] theorem plainV_str {b : ByteArray} : plainV (.str b) = true := nr rfl
@[simp] theorem objOf_ptr {o off : Nat} : objOf (some (.ptr o off)) = some o := nr rfl
@[simp] theorem objOfS_ptr {o off : Nat} : objOfS (some (.ptr o off)) = some o := nr rfl
@[simp] theorem objOfS_row {o off sz n : Nat} {b : Bool} : objOfS (some (.row o off sz n b)) = some o := nr rfl
@[simp] theorem sepL_nil {o os : Nat} : sepL [] o os = decide (o < os) := nr rfl
@[simp] theorem sepL_cons {k : Nat} {q : List Nat} {o os : Nat} : sepL (k :: q) o os = if k = 998 ∨ q.contains 998 = true then decide (o = os) else if k = 999 then decide (os ≤ o) else sepL q o os := by
  unfold sepL
  by_cases h8 : k = 998
  · subst h8; simp
  have n8 : ¬ 998 = k := fun e => h8 e.symm
  by_cases hq : 998 ∈ q
  · simp [h8, n8, hq]
  by_cases h : k = 999
  · subst h; simp [hq]
  · have : ¬ 999 = k := fun e => h e.symm
    simp [h, this, h8, n8, hq]
@[simp] theorem sepT_nil : sepT [] = none := nr rfl
@[simp] theorem sepT_cons {k : Nat} {q : List Nat} : sepT (k :: q) = if 1000 ≤ k ∧ k < 5000 then some (k - 1000) else sepT q := by
  unfold sepT
  by_cases h : 1000 ≤ k ∧ k < 5000
  · simp [List.find?, h.1, h.2]
  · rw [List.find?_cons, if_neg h, decide_eq_false h]
@[simp] theorem putO_some {e : Env} {d : Nat} {v : AV} : e.putO (some d) (some v) = e.put d v := by
  funext s; simp [Env.putO, Env.put, eq_comm]
@[simp] theorem putO_none {e : Env} {v : AV} : e.putO none (some v) = e := by
  funext s; simp [Env.putO]
@[simp] theorem put_at {e : Env} {d s : Nat} {v : AV} : (e.put d v) s = if s = d then some v else e s := nr rfl
@[simp] theorem args_at {v : AV} {vs : List AV} {k s : Nat} : Env.args (v :: vs) k s = if s = k then some v else Env.args vs (k + 1) s := nr rfl

@[simp] theorem evalL_skip {e : Env} {H : AHeap} : evalL P K C .skip e H = some (.normal, e, H) := nr rfl
@[simp] theorem evalL_reg {q : List Nat} {l : List LOp} {e : Env} {H : AHeap} : evalL P K C (.reg q l) e H = regK (evL P K C q 0 l e H) := by
  simp only [evalL]; cases evL P K C q 0 l e H <;> rfl
@[simp] theorem regK_some {e : Env} {H : AHeap} : regK (some (e, H)) = some (.normal, e, H) := nr rfl
@[simp] theorem evalL_seq {a b : LCode} {e : Env} {H : AHeap} : evalL P K C (.seq a b) e H = seqK P K C b (evalL P K C a e H) := by
  simp only [evalL]
  cases evalL P K C a e H with
  | none => rfl
  | some x => obtain ⟨x, e', H'⟩ := x; cases x <;> rfl
@[simp] theorem seqK_normal {b : LCode} {e : Env} {H : AHeap} : seqK P K C b (some (.normal, e, H)) = evalL P K C b e H := nr rfl
@[simp] theorem seqK_exit {b : LCode} {i : Nat} {e : Env} {H : AHeap} : seqK P K C b (some (.exit i, e, H)) = some (.exit i, e, H) := nr rfl
@[simp] theorem seqK_ret {b : LCode} {e : Env} {H : AHeap} : seqK P K C b (some (.ret, e, H)) = some (.ret, e, H) := nr rfl
@[simp] theorem evalL_cond {c : Operand} {a b : LCode} {e : Env} {H : AHeap} : evalL P K C (.cond c a b) e H = condK P K C a b e H (evalOpd e c) := by
  simp only [evalL]
  unfold condK
  cases evalOpd e c with
  | none => rfl
  | some v => cases v <;> first | rfl | (rename_i t; cases t <;> rfl)
@[simp] theorem condK_bool {a b : LCode} {t : Bool} {e : Env} {H : AHeap} : condK P K C a b e H (some (.bool t)) = evalL P K C (if t = true then a else b) e H := nr rfl
@[simp] theorem evalL_block {id : Nat} {b : LCode} {e : Env} {H : AHeap} : evalL P K C (.block id b) e H = blockK id (evalL P K C b e H) := by
  simp only [evalL]
  cases evalL P K C b e H with
  | none => rfl
  | some x => obtain ⟨x, e', H'⟩ := x; cases x <;> rfl
@[simp] theorem blockK_exit {id i : Nat} {e : Env} {H : AHeap} : blockK id (some (.exit i, e, H)) = some (if i = id then .normal else .exit i, e, H) := nr rfl
@[simp] theorem blockK_normal {id : Nat} {e : Env} {H : AHeap} : blockK id (some (.normal, e, H)) = some (.normal, e, H) := nr rfl
@[simp] theorem blockK_ret {id : Nat} {e : Env} {H : AHeap} : blockK id (some (.ret, e, H)) = some (.ret, e, H) := nr rfl
@[simp] theorem evalL_loop {b : LCode} {e : Env} {H : AHeap} : evalL P K C (.loop b) e H = loopL P K C b e H := nr rfl
theorem loopL_eq {b : LCode} {e : Env} {H : AHeap} : loopL P K C b e H = loopK P K C b (evalL P K C b e H) := by
  unfold loopL
  rw [loopLim_eq]
  cases evalL P K C b e H with
  | none => rfl
  | some x => obtain ⟨x, e', H'⟩ := x; cases x <;> rfl
theorem loopL_un {b b' : LCode} (hb : b = b') {e : Env} {H : AHeap} : loopL P K C b e H = loopK P K C b (evalL P K C b' e H) := by rw [loopL_eq, hb]
@[simp] theorem loopK_normal {b : LCode} {e : Env} {H : AHeap} : loopK P K C b (some (.normal, e, H)) = loopL P K C b e H := nr rfl
@[simp] theorem loopK_exit {b : LCode} {i : Nat} {e : Env} {H : AHeap} : loopK P K C b (some (.exit i, e, H)) = some (.exit i, e, H) := nr rfl
@[simp] theorem loopK_ret {b : LCode} {e : Env} {H : AHeap} : loopK P K C b (some (.ret, e, H)) = some (.ret, e, H) := nr rfl
@[simp] theorem evalL_exit {i : Nat} {e : Env} {H : AHeap} : evalL P K C (.exit i) e H = some (.exit i, e, H) := nr rfl
@[simp] theorem evalL_ret {e : Env} {H : AHeap} : evalL P K C .ret e H = some (.ret, e, H) := nr rfl
@[simp] theorem fnK_ret {z : List Nat} {H0 : AHeap} {rs : List ResultVar} {e : Env} {H : AHeap} : fnK P z H0 rs (some (.ret, e, H)) = (evalResults P e H rs).map fun vs => back z H0 (tupled vs) H := nr rfl
@[simp] theorem fnK_normal {z : List Nat} {H0 : AHeap} {rs : List ResultVar} {e : Env} {H : AHeap} : fnK P z H0 rs (some (.normal, e, H)) = (evalResults P e H rs).map fun vs => back z H0 (tupled vs) H := nr rfl

/-! What a call leaves. -/
theorem Keeps.shut {H H' : AHeap} (k : Keeps H H') : Shut H H' := ⟨k.size, fun o ho => .inl (k.obj o ho)⟩
theorem cut_keeps {H H' : AHeap} (k : Keeps H H') : H.cut H' = H := by
  unfold AHeap.cut
  obtain ⟨n, ob, wr⟩ := H
  simp only [AHeap.mk.injEq, true_and]
  refine ⟨funext fun o => ?_, funext fun o => ?_⟩
  · split
    · rename_i h; exact k.obj o h
    · rfl
  · split
    · rename_i h; exact k.wr o h
    · rfl
@[simp] theorem shut_refl {H : AHeap} : Shut H H := (Keeps.refl H).shut
@[simp] theorem shut_new {H H' : AHeap} {x : AObj} (h : Shut H H') : Shut H (H'.new x) := ⟨Nat.le_succ_of_le h.size, fun o ho => by rw [new_old (by have := h.size; omega)]; exact h.obj o ho⟩
@[simp] theorem shut_set {H H' : AHeap} {o : Nat} {x : AObj} (h : Shut H H') (hx : H.size ≤ o ∨ closedO H.size x = true) : Shut H (H'.set o x) := ⟨h.size, fun k hk => by
  by_cases e : k = o
  · subst e; rw [set_self]; exact .inr (hx.resolve_left (by omega))
  · rw [set_old e]; exact h.obj k hk⟩
theorem shut_of {H H' : AHeap} (k : Keeps H H') : Shut H H' := k.shut
theorem Shut.then {A B E : AHeap} (h : Shut A B) (k : Keeps B E) : Shut A E := ⟨Nat.le_trans h.size k.size, fun o ho => by rw [k.obj o (Nat.lt_of_lt_of_le ho h.size)]; exact h.obj o ho⟩
@[simp] theorem cut_self {H : AHeap} : H.cut H = H := cut_keeps (Keeps.refl H)
@[simp] theorem cut_new {H H' : AHeap} {x : AObj} (h : H.size ≤ H'.size) : H.cut (H'.new x) = H.cut H' := by
  unfold AHeap.cut
  simp only [AHeap.mk.injEq, true_and]
  refine ⟨funext fun o => ?_, funext fun o => ?_⟩
  · by_cases ho : o < H.size
    · rw [if_pos ho, if_pos ho, new_old (by omega)]
    · rw [if_neg ho, if_neg ho]
  · by_cases ho : o < H.size
    · rw [if_pos ho, if_pos ho]; rfl
    · rw [if_neg ho, if_neg ho]
@[simp] theorem cut_set {H H' : AHeap} {o : Nat} {x : AObj} (ho : H.size ≤ o) : H.cut (H'.set o x) = H.cut H' := by
  unfold AHeap.cut
  simp only [AHeap.mk.injEq, true_and]
  refine ⟨funext fun k => ?_, funext fun k => ?_⟩
  · by_cases hk : k < H.size
    · rw [if_pos hk, if_pos hk, set_old (by omega)]
    · rw [if_neg hk, if_neg hk]
  · by_cases hk : k < H.size
    · rw [if_pos hk, if_pos hk]; simp only [AHeap.set]; rw [if_neg (by omega)]
    · rw [if_neg hk, if_neg hk]
@[simp] theorem cut_setO {H H' : AHeap} {o : Nat} {x : AObj} (ho : o < H.size) : H.cut (H'.set o x) = (H.cut H').set o x := by
  unfold AHeap.cut AHeap.set
  simp only [AHeap.mk.injEq, true_and]
  refine ⟨funext fun k => ?_, funext fun k => ?_⟩
  · by_cases hk : k < H.size
    · simp only [if_pos hk]
    · simp only [if_neg hk]; rw [if_neg (by omega)]
  · by_cases hk : k < H.size
    · simp only [if_pos hk]
    · simp only [if_neg hk]; rw [if_neg (by omega)]
@[simp] theorem cut_size {H H' : AHeap} : (H.cut H').size = H.size := nr rfl
theorem cut_obj {H H' : AHeap} {o : Nat} (ho : o < H.size) : (H.cut H').obj o = H'.obj o := by simp only [AHeap.cut]; rw [if_pos ho]
theorem cut_wr {H H' : AHeap} {o : Nat} (ho : o < H.size) : (H.cut H').wr o = H'.wr o := by simp only [AHeap.cut]; rw [if_pos ho]
theorem back_of {z : List Nat} {H H' : AHeap} {v : AV} (hc : closed H.size (frz H' H.size z v) = true) (hs : Shut H H') : back z H v H' = (frz H' H.size z v, H.cut H') := by unfold back; rw [if_pos ⟨hc, hs⟩]
@[simp] theorem back_nil {H H' : AHeap} {v : AV} (hc : closed H.size v = true) (hs : Shut H H') : back [] H v H' = (v, H.cut H') := back_of hc hs
@[simp] theorem back_cons {k : Nat} {z : List Nat} {H H' : AHeap} {v : AV} (hc : closed H.size (frz H' H.size (k :: z) v) = true) (hs : Shut H H') : back (k :: z) H v H' = (frz H' H.size (k :: z) v, H.cut H') := back_of hc hs
@[simp] theorem back_k {H H' : AHeap} {v : AV} (hc : closed H.size v = true) (hk : Keeps H H') : back [] H v H' = (v, H) := by rw [back_nil hc hk.shut, cut_keeps hk]
@[simp] theorem closed_bool {n : Nat} {b : Bool} : closed n (.bool b) = true := nr rfl
@[simp] theorem closed_int {n : Nat} {k : IntKind} {i : Int} : closed n (.int k i) = true := nr rfl
@[simp] theorem closed_str {n : Nat} {s : ByteArray} : closed n (.str s) = true := nr rfl
@[simp] theorem closed_nilp {n : Nat} : closed n .nilp = true := nr rfl
@[simp] theorem closed_nils {n : Nat} : closed n .nils = true := nr rfl
@[simp] theorem closed_nilm {n : Nat} : closed n .nilm = true := nr rfl
@[simp] theorem closed_nilf {n : Nat} : closed n .nilf = true := nr rfl
@[simp] theorem closed_nili {n : Nat} : closed n .nili = true := nr rfl
@[simp] theorem closed_ptr {n o k : Nat} : closed n (.ptr o k) = decide (o < n) := nr rfl
@[simp] theorem closed_row {n o a b c : Nat} {f : Bool} : closed n (.row o a b c f) = decide (o < n) := nr rfl
@[simp] theorem closed_map {n o : Nat} : closed n (.map o) = decide (o < n) := nr rfl
@[simp] theorem closed_ptrl {n k : Nat} {cs : List AV} : closed n (.ptrl cs k) = closedL n cs := by simp only [closed]
@[simp] theorem closed_lst {n a b : Nat} {cs : List AV} : closed n (.lst a b cs) = closedL n cs := by simp only [closed]
@[simp] theorem closed_agg {n : Nat} {cs : List AV} : closed n (.agg cs) = closedL n cs := by simp only [closed]
@[simp] theorem closed_tup {n : Nat} {cs : List AV} : closed n (.tup cs) = closedL n cs := by simp only [closed]
@[simp] theorem closed_ifc {n : Nat} {t : TypeId} {v : AV} : closed n (.ifc t v) = closed n v := by simp only [closed]
@[simp] theorem closed_fn {n : Nat} {f : Fn} {a b : List AV} : closed n (.fn f a b) = (closedL n a && closedL n b) := by simp only [closed]
@[simp] theorem closedL_nil {n : Nat} : closedL n [] = true := nr rfl
@[simp] theorem closedL_cons {n : Nat} {a : AV} {l : List AV} : closedL n (a :: l) = (closed n a && closedL n l) := by simp only [closedL]
theorem closedL_all {n : Nat} : ∀ {l : List AV}, closedL n l = l.all (closed n)
  | [] => rfl
  | a :: l => by simp [closedL_all (l := l)]
@[simp] theorem closedL_append {n : Nat} {l m : List AV} : closedL n (l ++ m) = (closedL n l && closedL n m) := by simp [closedL_all]
@[simp] theorem closedL_map {α : Type} {n : Nat} {f : α → AV} (hf : ∀ a, closed n (f a) = true) {l : List α} : closedL n (l.map f) = true := by simp [closedL_all, hf]
@[simp] theorem closedL_replicate {n k : Nat} {a : AV} (ha : closed n a = true) : closedL n (List.replicate k a) = true := by simp [closedL_all, ha]
theorem closedL_mem {n : Nat} {l : List AV} : closedL n l = true ↔ ∀ a ∈ l, closed n a = true := by rw [closedL_all, List.all_eq_true]
mutual
theorem closed_mono {n m : Nat} (h : n ≤ m) : ∀ {v : AV}, closed n v = true → closed m v = true
  | .bool _, _ => rfl
  | .int _ _, _ => rfl
  | .str _, _ => rfl
  | .nilp, _ => rfl
  | .ptr o _, hv => by simp at hv ⊢; omega
  | .ptrl cs _, hv => by simp at hv ⊢; exact closedL_mono h hv
  | .nils, _ => rfl
  | .row o _ _ _ _, hv => by simp at hv ⊢; omega
  | .lst _ _ cs, hv => by simp at hv ⊢; exact closedL_mono h hv
  | .nilm, _ => rfl
  | .map o, hv => by simp at hv ⊢; omega
  | .nilf, _ => rfl
  | .fn _ a b, hv => by simp at hv ⊢; exact ⟨closedL_mono h hv.1, closedL_mono h hv.2⟩
  | .nili, _ => rfl
  | .ifc _ v, hv => by simp at hv ⊢; exact closed_mono h hv
  | .agg cs, hv => by simp at hv ⊢; exact closedL_mono h hv
  | .tup cs, hv => by simp at hv ⊢; exact closedL_mono h hv
theorem closedL_mono {n m : Nat} (h : n ≤ m) : ∀ {l : List AV}, closedL n l = true → closedL m l = true
  | [], _ => rfl
  | a :: l, hv => by simp at hv ⊢; exact ⟨closed_mono h hv.1, closedL_mono h hv.2⟩
end
@[simp] theorem closedO_cells {n : Nat} {cs : List AV} : closedO n (.cells cs) = closedL n cs := nr rfl
@[simp] theorem closedO_dead {n : Nat} : closedO n .dead = true := nr rfl
@[simp] theorem closedO_iter {n p : Nat} {s : ByteArray} : closedO n (.iter s p) = true := nr rfl
@[simp] theorem closedO_map {n c : Nat} {sh : KSh} {es : List AEnt} : closedO n (.map sh es c) = (es.all fun e => closed n e.key && closed n e.val) := nr rfl
def frzO (H : AHeap) (n : Nat) (z : List Nat) (o off sz m : Nat) (full : Bool) : AObj → AV
  | .cells cs => if off + m * sz ≤ cs.length then .lst sz m (((cs.drop off).take (m * sz)).map (frz H n z)) else .row o off sz m full
  | _ => .row o off sz m full
def frzP (H : AHeap) (n : Nat) (z : List Nat) (o off : Nat) : AObj → AV
  | .cells cs => .ptrl (cs.map (frz H n z)) off
  | _ => .ptr o off
@[simp] theorem frz_nil {H : AHeap} {n : Nat} {v : AV} : frz H n [] v = v := by simp only [frz]
theorem frz_nil' {H : AHeap} {n : Nat} : frz H n [] = id := by funext v; simp
@[simp] theorem frz_row {H : AHeap} {n k : Nat} {z : List Nat} {o off sz m : Nat} {full : Bool} : frz H n (k :: z) (.row o off sz m full) = if o < n then .row o off sz m full else frzO H n z o off sz m full (H.obj o) := by
  simp only [frz]
  split
  · rfl
  · unfold frzO; cases H.obj o <;> rfl
@[simp] theorem frz_ptr {H : AHeap} {n k : Nat} {z : List Nat} {o off : Nat} : frz H n (k :: z) (.ptr o off) = if o < n then .ptr o off else frzP H n z o off (H.obj o) := by
  simp only [frz]
  split
  · rfl
  · unfold frzP; cases H.obj o <;> rfl
@[simp] theorem frzO_cells {H : AHeap} {n : Nat} {z : List Nat} {o off sz m : Nat} {full : Bool} {cs : List AV} : frzO H n z o off sz m full (.cells cs) = if off + m * sz ≤ cs.length then .lst sz m (((cs.drop off).take (m * sz)).map (frz H n z)) else .row o off sz m full := nr rfl
@[simp] theorem frzP_cells {H : AHeap} {n : Nat} {z : List Nat} {o off : Nat} {cs : List AV} : frzP H n z o off (.cells cs) = .ptrl (cs.map (frz H n z)) off := nr rfl
@[simp] theorem frz_agg {H : AHeap} {n k : Nat} {z : List Nat} {cs : List AV} : frz H n (k :: z) (.agg cs) = .agg (cs.map (frz H n z)) := by simp only [frz]
@[simp] theorem frz_tup {H : AHeap} {n k : Nat} {z : List Nat} {cs : List AV} : frz H n (k :: z) (.tup cs) = .tup (cs.map (frz H n z)) := by simp only [frz]
@[simp] theorem frz_ifc {H : AHeap} {n k : Nat} {z : List Nat} {t : TypeId} {v : AV} : frz H n (k :: z) (.ifc t v) = .ifc t (frz H n z v) := by simp only [frz]
@[simp] theorem frz_bool {H : AHeap} {n : Nat} {z : List Nat} {b : Bool} : frz H n z (.bool b) = .bool b := by cases z <;> simp only [frz]
@[simp] theorem frz_int {H : AHeap} {n : Nat} {z : List Nat} {k : IntKind} {i : Int} : frz H n z (.int k i) = .int k i := by cases z <;> simp only [frz]
@[simp] theorem frz_str {H : AHeap} {n : Nat} {z : List Nat} {s : ByteArray} : frz H n z (.str s) = .str s := by cases z <;> simp only [frz]
@[simp] theorem frz_nilp {H : AHeap} {n : Nat} {z : List Nat} : frz H n z .nilp = .nilp := by cases z <;> simp only [frz]
@[simp] theorem frz_nils {H : AHeap} {n : Nat} {z : List Nat} : frz H n z .nils = .nils := by cases z <;> simp only [frz]
@[simp] theorem frz_nilm {H : AHeap} {n : Nat} {z : List Nat} : frz H n z .nilm = .nilm := by cases z <;> simp only [frz]
@[simp] theorem frz_nili {H : AHeap} {n : Nat} {z : List Nat} : frz H n z .nili = .nili := by cases z <;> simp only [frz]
@[simp] theorem frz_lst {H : AHeap} {n : Nat} {z : List Nat} {a b : Nat} {cs : List AV} : frz H n z (.lst a b cs) = .lst a b cs := by cases z <;> simp only [frz]
@[simp] theorem frz_map {H : AHeap} {n : Nat} {z : List Nat} {o : Nat} : frz H n z (.map o) = .map o := by cases z <;> simp only [frz]
@[simp] theorem frz_fn {H : AHeap} {n : Nat} {z : List Nat} {f : Fn} {a b : List AV} : frz H n z (.fn f a b) = .fn f a b := by cases z <;> simp only [frz]

/-- A call, by its body in the short form. -/
theorem runs_body {D : Quiets} {f : FuncId} {fn : Func} {c : LCode} {rs : List ResultVar} (hf : P.funcs[f]? = some fn) (hc : fn.body.map (toL (D f)) = some c) (hok : fn.body.map (codeOK fn.ntmps (D f)) = some true) (hn : (fn.name == "runtime.NumGoroutine") = false) (hr : fn.results.toList = rs) {z : List Nat} (hz : D f frzAt = z)
    {as : List AV} (hl : as.length ≤ fn.ntmps) {H : AHeap} : runs P K D f as H = fnK P z H rs (evalL P K (runs P K D) c (Env.args as 0) H) := by
  rw [runs_eq]
  have hx : evalX P f as H = none := by
    unfold evalX
    rw [hf]
    simp only [Option.bind_some]
    rw [if_neg]
    cases hb : fn.body with
    | none => rw [hb] at hc; cases hc
    | some b => simp
  unfold evalFn
  rw [hx]
  simp only
  unfold evalFn0
  rw [hf]
  simp only [Option.bind_some]
  cases hb : fn.body with
  | none => rw [hb] at hc; cases hc
  | some b =>
    rw [hb] at hc hok
    simp only [Option.map_some, Option.some.injEq] at hc hok
    simp only [Option.bind_some]
    rw [if_pos ⟨hl, hok, hn⟩, ← hc, evalL_toL, hr, hz]
    cases evalCode P K (runs P K D) D f b (Env.args as 0) H with
    | none => rfl
    | some x => obtain ⟨x, e', H'⟩ := x; cases x <;> rfl

/-- A call of one of the model's own functions. -/
theorem runs_ext {D : Quiets} {f : FuncId} {fn : Func} (hf : P.funcs[f]? = some fn) (hb : fn.body.isNone = true) {as : List AV} {v : AV} (h : evalExt fn as = some v) {H : AHeap} : runs P K D f as H = some (v, H) := by
  rw [runs_eq]
  have hx : evalX P f as H = some (v, H) := by
    unfold evalX
    rw [hf]
    simp only [Option.bind_some]
    rw [if_pos hb, h]; rfl
  unfold evalFn
  rw [hx]
theorem ext_add64 {fn : Func} (hm : fn.name = "math/bits.Add64") (hn : (fn.name == "runtime.NumGoroutine") = false) (hx : Extern.findNext fn = none) (he : Extern.find fn = some add64Entry) {x y c : Int} (h0 : 0 ≤ x) (h1 : 0 ≤ y) (h2 : 0 ≤ c) (h3 : c ≤ 1) :
    evalExt fn [.int .u64 x, .int .u64 y, .int .u64 c] = some (.tup [.int .u64 ((x + y + c) % 18446744073709551616), .int .u64 ((x + y + c) / 18446744073709551616)]) := by
  unfold evalExt
  rw [if_pos ⟨hn, hx⟩, if_pos ⟨hm, he⟩]
  simp only
  rw [if_pos ⟨h0, h1, h2, h3⟩]
theorem ext_index {fn : Func} (hm : fn.name = "internal/bytealg.IndexByteString") (hn : (fn.name == "runtime.NumGoroutine") = false) (hx : Extern.findNext fn = none) (he : Extern.find fn = some Extern.BytealgIndexByte.indexByte) {s : ByteArray} {c : Int} :
    evalExt fn [.str s, .int .u8 c] = some (.int .i64 (firstIdx s c.toNat.toUInt8)) := by
  unfold evalExt
  rw [if_pos ⟨hn, hx⟩, if_neg (fun e => by rw [hm] at e; exact absurd e.1 (by decide)), if_pos ⟨hm, he⟩]

end
end Go.Proofs.Ytghjglnebcpcmaa
/-! Rules for stepping: the single operations. What they ask of a type stands in small functions of the type, which a seat answers once. -/
namespace Go.Proofs.Ytghjglnebcpcmaa

section
variable (P : Program) (K : TypeId → Option (List Sc))

/-- How a type's values lie in cells: 'some none': in one; 'some (some n)': in n. -/
def ldS (t : TypeId) : Option (Option Nat) :=
  match isAggT P t with
  | some true => (tS P t).map some
  | some false => some none
  | none => none
def eszS (t : TypeId) : Option Nat :=
  match P.underlying t with
  | some (.slice e) => tS P e
  | _ => none
def arrS (t : TypeId) : Option (Nat × Nat) :=
  match P.underlying t with
  | some (.array n e) => (tS P e).map fun s => (n, s)
  | _ => none
def arrL (t : TypeId) : Option (Option Nat) :=
  match P.underlying t with
  | some (.array _ e) => ldS P e
  | _ => none
/-- A slice's elements: their cells, their bytes, their zero. -/
def mkS (t : TypeId) : Option (Nat × Nat × List AV) :=
  match P.underlying t with
  | some (.slice e) => (tS P e).bind fun s => (tB P e).bind fun b => (tZ P e).map fun z => (s, b, z)
  | _ => none
def mapS (t : TypeId) : Option (KSh × AV) :=
  match P.underlying t with
  | some (.map kt e) => (keySh P K kt).bind fun sh => (tZV P e).map fun z => (sh, z)
  | _ => none
/-- A slice's elements: their cells, their zero. -/
def bsS (t : TypeId) : Option (Nat × List AV) :=
  match P.underlying t with
  | some (.slice e) => (tS P e).bind fun s => (tZ P e).map fun z => (s, z)
  | _ => none
/-- A map's keys. -/
def mkeyS (t : TypeId) : Option KSh :=
  match P.underlying t with
  | some (.map kt _) => keySh P K kt
  | _ => none
def faS (t : TypeId) (f : Nat) : Option Nat := (fieldAt P t f).bind fun fd => (tS P fd.type).bind fun n => if 0 < n then some fd.offset else none
def fdS (t : TypeId) (f : Nat) : Option (Nat × Option Nat) := (fieldAt P t f).bind fun fd => (ldS P fd.type).map fun l => (fd.offset, l)
def plS (t : TypeId) (i : Nat) : Option (Nat × Nat) :=
  match P.underlying t with
  | some (.struct fs) => (places P fs.toList).bind fun pl => pl[i]?
  | some (.array _ e) => (tS P e).map fun s => (i * s, s)
  | _ => none
/-- Whether a struct or an array may be built. -/
def blS (t : TypeId) : Option Bool :=
  match P.underlying t with
  | some (.struct fs) => (places P fs.toList).map fun _ => true
  | some (.array _ e) => (tS P e).map fun _ => true
  | _ => none
inductive CV where
  | int (k : IntKind) | str | bytes | mark | no
def cvS (s d : TypeId) : CV :=
  match P.underlying s, P.underlying d with
  | some _, some (.int k) => .int k
  | some (.slice e), some .string => match P.underlying e with
    | some (.int .u8) => .bytes
    | _ => .str
  | some _, some .string => .str
  | some (.slice e), some (.slice _) => if s = d then (match P.underlying e with
    | some (.int .u8) => .mark
    | _ => .no) else .no
  | _, _ => .no
/-- From a string to its bytes? -/
def cbS (s d : TypeId) : Bool :=
  match P.underlying s, P.underlying d with
  | some .string, some (.slice e) => match P.underlying e with
    | some (.int .u8) => true
    | _ => false
  | _, _ => false
def isIface (t : TypeId) : Option Bool :=
  match P.underlying t with
  | some (.interface _) => some true
  | some _ => some false
  | none => none
inductive LK where
  | str | slice | arr (n : Nat) | map | no
def lnS (t : TypeId) : LK :=
  match P.underlying t with
  | some .string => .str
  | some (.array n _) => .arr n
  | some (.slice _) => .slice
  | some (.map _ _) => .map
  | _ => .no
inductive EK where
  | bool | ptr | slice | map | func | no
def eqS (t : TypeId) : EK :=
  match P.underlying t with
  | some .bool => .bool
  | some (.pointer _) => .ptr
  | some (.slice _) => .slice
  | some (.map _ _) => .map
  | some (.func ..) => .func
  | _ => .no
end

def ldK (l : Option (Option Nat)) (cs : List AV) (off : Nat) : Option AV :=
  match l with
  | some none => cs[off]?
  | some (some n) => if off + n ≤ cs.length then some (.agg ((cs.drop off).take n)) else none
  | none => none
def loadO (l : Option (Option Nat)) (off : Nat) : AObj → Option AV
  | .cells cs => ldK l cs off
  | _ => none
def storeO (s : Option Nat) (o off : Nat) (v : AV) (H : AHeap) : AObj → Option AHeap
  | .cells cs => match v with
    | .agg new => if s = some new.length ∧ off + new.length ≤ cs.length ∧ allOne new = true then some (H.set o (.cells (putCells cs off new))) else none
    | v => if s = some 1 ∧ off < cs.length ∧ v.one = true then some (H.set o (.cells (cs.set off v))) else none
  | _ => none
def eqU : EK → AV → AV → Option Bool
  | .bool, .bool a, .bool b => some (a == b)
  | .ptr, .nilp, .nilp => some true
  | .ptr, .nilp, .ptr _ _ => some false
  | .ptr, .ptr _ _, .nilp => some false
  | .slice, .nils, .nils => some true
  | .slice, .nils, .row .. => some false
  | .slice, .row .., .nils => some false
  | .map, .nilm, .nilm => some true
  | .map, .nilm, .map _ => some false
  | .map, .map _, .nilm => some false
  | .func, .nilf, .nilf => some true
  | .func, .nilf, .fn .. => some false
  | .func, .fn .., .nilf => some false
  | _, _, _ => none
def aggEq (sh : Option (List Sc)) (xs ys : List AV) : Option Bool := sh.bind fun sh => if conf sh xs = true ∧ conf sh ys = true then some (scsEq xs ys) else none
def ixA (s : Option (Nat × Nat)) (x : AV) (i : Int) : Option AV :=
  match s, x with
  | some (len, sz), .ptr o off => if 0 ≤ i ∧ i < len then some (.ptr o (off + i.toNat * sz)) else none
  | some (len, sz), .ptrl cs off => if 0 ≤ i ∧ i < len then some (.ptrl cs (off + i.toNat * sz)) else none
  | _, _ => none
def ixS (s : Option Nat) (x : AV) (i : Int) : Option AV :=
  match x with
  | .row o off sz n _ => if s = some sz ∧ 0 ≤ i ∧ i < n then some (.ptr o (off + i.toNat * sz)) else none
  | .lst sz n cs => if s = some sz ∧ 0 ≤ i ∧ i < n then some (.ptrl cs (i.toNat * sz)) else none
  | _ => none
def lenU (H : AHeap) (x : AV) : LK → Option AV
  | .str => match x with
    | .str s => some (.int .i64 s.size)
    | _ => none
  | .arr n => some (.int .i64 n)
  | .slice => (sliceLen x).map fun n => .int .i64 n
  | .map => match x with
    | .nilm => some (.int .i64 0)
    | .map o => match H.obj o with
      | .map _ es _ => some (.int .i64 es.length)
      | _ => none
    | _ => none
  | .no => none
def fillB (pl : Nat → Option (Nat × Nat)) (cs : List AV) : List (Nat × AV) → Option (List AV)
  | [] => some cs
  | (i, v) :: rest => match pl i with
    | some (off, sz) => if v.cells.length = sz ∧ off + sz ≤ cs.length then fillB pl (putCells cs off v.cells) rest else none
    | none => none
def makeU (H : AHeap) (l c : Int) : Option (Nat × Nat × List AV) → Option (AV × AHeap)
  | some (sz, by_, z) => if 0 ≤ l ∧ l ≤ c ∧ c * by_ ≤ 140737488355328 ∧ z.length = sz ∧ 0 < sz ∧ c ≤ 9223372036854775807 then
        some (.row H.size 0 sz l.toNat (decide (l = c)), H.new (.cells ((List.replicate c.toNat z).flatten)))
      else none
  | none => none
def appU (H : AHeap) (s x : AV) : Option (Nat × Nat × List AV) → Option (AV × AHeap)
  | some (sz, by_, z) => (sliceCells H x).bind fun new => (sliceLen x).bind fun m => (sliceCells H s).bind fun old => (sliceLen s).bind fun n =>
    if m = 0 then some (s, H) else
    if z.length = sz ∧ new.length = m * sz ∧ 0 < sz ∧ old.length = n * sz ∧ (n + m) * by_ ≤ 140737488355328 ∧ n + m ≤ 9223372036854775807 ∧ allOne new = true then
      match s with
      | .nils => some (.row H.size 0 sz m false, H.new (.cells new))
      | .row o _ sz' _ full => if sz' = sz then
          if full = true then some (.row H.size 0 sz (n + m) false, H.new (.cells (old ++ new)))
          else some (.row H.size 0 sz (n + m) false, (H.set o .dead).new (.cells (old ++ new)))
        else none
      | _ => none
    else none
  | none => none
def lit (H : AHeap) (len : Nat) (ps : List (Nat × AV)) : Option (Nat × List AV) → Option (AV × AHeap)
  | some (s, z) => if len * s ≤ 16777216 ∧ z.length = s ∧ 0 < s then
        (fillB (fun i => some (i * s, s)) ((List.replicate len z).flatten) ps).map fun cs => (.row H.size 0 s len true, H.new (.cells cs))
      else none
  | none => none
/-- A lookup's word: of what was found. -/
def lookU (ok : Bool) (z : AV) : Option AEnt → AV
  | some x => if ok then .tup [x.val, .bool true] else x.val
  | none => if ok then .tup [z, .bool false] else z
def lookM (ok : Bool) (k m : AV) (H : AHeap) : Option (KSh × AV) → Option AV
  | some (sh, z) => if sh.fits k = true then
      match m with
      | .nilm => some (if ok then .tup [z, .bool false] else z)
      | .map o => match H.obj o with
        | .map sh' es _ => if sh' = sh then some (lookU ok z (findE k es)) else none
        | _ => none
      | _ => none
    else none
  | none => none
def updM (k v m : AV) (H : AHeap) : Option KSh → Option AHeap
  | some sh => if sh.fits k = true then
      match m with
      | .map o => match H.obj o with
        | .map sh' es clock => if sh' = sh then
            match findE k es with
            | some _ => some (H.set o (.map sh (setE k v es) clock))
            | none => some (H.set o (.map sh (es ++ [⟨k, v, clock⟩]) (clock + 1)))
          else none
        | _ => none
      | _ => none
    else none
  | none => none

section
variable {P : Program} {K : TypeId → Option (List Sc)} {C : Calling}

@[simp] theorem tmp_at {e : Env} {t : Nat} : evalOpd e (.tmp t) = e t := nr rfl
@[simp] theorem const_at {e : Env} {v : Value} : evalOpd e (.const v) = ofValue v := nr rfl
@[simp] theorem func_at {e : Env} {f : FuncId} : evalOpd e (.func f) = some (.fn (.func f) [] []) := nr rfl
theorem ofv_int {k : IntKind} {n : Int} : ofValue (.int k n) = some (.int k n) := rfl
@[simp] theorem ofv_i8 {n : Int} : ofValue (.int .i8 n) = some (.int .i8 n) := nr rfl
@[simp] theorem ofv_i16 {n : Int} : ofValue (.int .i16 n) = some (.int .i16 n) := nr rfl
@[simp] theorem ofv_i32 {n : Int} : ofValue (.int .i32 n) = some (.int .i32 n) := nr rfl
@[simp] theorem ofv_i64 {n : Int} : ofValue (.int .i64 n) = some (.int .i64 n) := nr rfl
@[simp] theorem ofv_u8 {n : Int} : ofValue (.int .u8 n) = some (.int .u8 n) := nr rfl
@[simp] theorem ofv_u16 {n : Int} : ofValue (.int .u16 n) = some (.int .u16 n) := nr rfl
@[simp] theorem ofv_u32 {n : Int} : ofValue (.int .u32 n) = some (.int .u32 n) := nr rfl
@[simp] theorem ofv_bool {b : Bool} : ofValue (.bool b) = some (.bool b) := nr rfl
@[simp] theorem ofv_str {s : ByteArray} : ofValue (.string s) = some (.str s) := nr rfl
@[simp] theorem ofv_ptr : ofValue (.pointer none) = some .nilp := nr rfl
@[simp] theorem ofv_slice : ofValue (.slice none 0 0) = some .nils := nr rfl
@[simp] theorem ofv_map : ofValue (.map none) = some .nilm := nr rfl
@[simp] theorem ofv_func : ofValue .nilFunc = some .nilf := nr rfl
@[simp] theorem ofv_iface : ofValue .nilIface = some .nili := nr rfl
@[simp] theorem arr_list {α : Type} {l : List α} : l.toArray.toList = l := nr rfl
@[simp] theorem opds_nil {e : Env} : evalOpds e [] = some [] := nr rfl
@[simp] theorem opds_cons {e : Env} {x : Operand} {xs : List Operand} : evalOpds e (x :: xs) = (evalOpd e x).bind fun a => (evalOpds e xs).map (a :: ·) := nr rfl
@[simp] theorem parts_nil {e : Env} : evalParts e [] = some [] := nr rfl
@[simp] theorem parts_cons {e : Env} {i : Nat} {x : Operand} {xs : List (Nat × Operand)} : evalParts e ((i, x) :: xs) = (evalOpd e x).bind fun a => (evalParts e xs).map ((i, a) :: ·) := nr rfl
@[simp] theorem opt_none {e : Env} : evalOpt e none = some none := nr rfl
@[simp] theorem opt_some {e : Env} {x : Operand} : evalOpt e (some x) = (evalOpd e x).map some := nr rfl

@[simp] theorem op_move {x : Operand} {e : Env} {H : AHeap} : evalOp P K C (.move x) e H = (evalOpd e x).map fun v => (v, H) := nr rfl
@[simp] theorem op_assign {x : Operand} {e : Env} {H : AHeap} : evalOp P K C (.assign x) e H = (evalOpd e x).map fun v => (v, H) := nr rfl
@[simp] theorem op_pick {c a b : Operand} {e : Env} {H : AHeap} : evalOp P K C (.pick c a b) e H = (evalOpd e c).bind fun t => match t with
  | .bool t => (evalOpd e (if t = true then a else b)).map fun v => (v, H)
  | _ => none := by
  show (match evalOpd e c with
    | some (.bool t) => (if t = true then evalOpd e a else evalOpd e b).map fun v => (v, H)
    | _ => none) = _
  cases evalOpd e c with
  | none => rfl
  | some v => cases v <;> first | rfl | (rename_i t; cases t <;> rfl)
@[simp] theorem op_alloc {t : TypeId} {e : Env} {H : AHeap} : evalOp P K C (.alloc t) e H = (tZ P t).map fun z => (.ptr H.size 0, H.new (.cells z)) := nr rfl
@[simp] theorem op_box {t : TypeId} {x : Operand} {e : Env} {H : AHeap} : evalOp P K C (.box t x) e H = (evalOpd e x).map fun v => (.ptr H.size 0, H.new (.cells v.cells)) := nr rfl
@[simp] theorem loadC_eq {t : TypeId} {cs : List AV} {off : Nat} : loadC P t cs off = ldK (ldS P t) cs off := by
  unfold loadC ldK ldS
  cases isAggT P t with
  | none => rfl
  | some b => cases b with
    | false => rfl
    | true => cases tS P t <;> rfl
@[simp] theorem aload_ptr {H : AHeap} {t : TypeId} {o off : Nat} : aload P H t (.ptr o off) = loadO (ldS P t) off (H.obj o) := by
  simp only [aload, loadO]
  cases H.obj o <;> simp only [loadC_eq]
@[simp] theorem aload_ptrl {H : AHeap} {t : TypeId} {cs : List AV} {off : Nat} : aload P H t (.ptrl cs off) = ldK (ldS P t) cs off := by simp [aload, loadC_eq]
@[simp] theorem op_load {t : TypeId} {a : Operand} {e : Env} {H : AHeap} : evalOp P K C (.load t a) e H = (evalOpd e a).bind fun x => (aload P H t x).map fun v => (v, H) := nr rfl
@[simp] theorem loadO_cells {l : Option (Option Nat)} {off : Nat} {cs : List AV} : loadO l off (.cells cs) = ldK l cs off := nr rfl
@[simp] theorem ldK_one {cs : List AV} {off : Nat} : ldK (some none) cs off = cs[off]? := nr rfl
@[simp] theorem ldK_many {n : Nat} {cs : List AV} {off : Nat} : ldK (some (some n)) cs off = if off + n ≤ cs.length then some (.agg ((cs.drop off).take n)) else none := nr rfl
@[simp] theorem op_store {t : TypeId} {a x : Operand} {e : Env} {H : AHeap} : evalOp P K C (.store t a x) e H = (evalOpd e a).bind fun p => (evalOpd e x).bind fun v => (astore P H t p v).map fun H' => (.tup [], H') := nr rfl
@[simp] theorem astore_ptr {H : AHeap} {t : TypeId} {o off : Nat} {v : AV} : astore P H t (.ptr o off) v = storeO (tS P t) o off v H (H.obj o) := by
  simp only [astore, storeO]
  cases H.obj o <;> rfl
@[simp] theorem storeO_agg {s : Option Nat} {o off : Nat} {new cs : List AV} {H : AHeap} : storeO s o off (.agg new) H (.cells cs) = if s = some new.length ∧ off + new.length ≤ cs.length ∧ allOne new = true then some (H.set o (.cells (putCells cs off new))) else none := nr rfl
@[simp] theorem storeO_one {s : Option Nat} {o off : Nat} {v : AV} {cs : List AV} {H : AHeap} (hv : v.one = true) : storeO s o off v H (.cells cs) = if s = some 1 ∧ off < cs.length then some (H.set o (.cells (cs.set off v))) else none := by
  cases v <;> first | (simp [AV.one] at hv; done) | simp [storeO, AV.one]
theorem op_nil_ptr {x : Operand} {e : Env} {H : AHeap} {o off : Nat} (h : evalOpd e x = some (.ptr o off)) : evalOp P K C (.nilCheck x) e H = some (.ptr o off, H) := by simp [evalOp, step1, h]
@[simp] theorem op_nil {x : Operand} {e : Env} {H : AHeap} : evalOp P K C (.nilCheck x) e H = (evalOpd e x).bind fun v => match v with
    | .ptr o off => some (.ptr o off, H)
    | .ptrl cs off => some (.ptrl cs off, H)
    | .ifc t v => some (.ifc t v, H)
    | .fn (.func f) a b => some (.fn (.func f) a b, H)
    | _ => none := by
  simp only [evalOp, step1]
  cases evalOpd e x with
  | none => rfl
  | some v => cases v <;> first | rfl | (rename_i f _ _; cases f <;> rfl)
@[simp] theorem op_bin {op : BinOp} {t t' : TypeId} {x y : Operand} {e : Env} {H : AHeap} : evalOp P K C (.binOp op t x y t') e H = (evalOpd e x).bind fun a => (evalOpd e y).bind fun b => (abin P K op t a b).map fun v => (v, H) := nr rfl
@[simp] theorem op_un {op : UnOp} {t : TypeId} {x : Operand} {e : Env} {H : AHeap} : evalOp P K C (.unOp op t x) e H = (evalOpd e x).bind fun a => (aun op a).map fun v => (v, H) := nr rfl
@[simp] theorem un_not {b : Bool} : aun .not (.bool b) = some (.bool (!b)) := nr rfl
@[simp] theorem un_neg {k : IntKind} {n : Int} : aun .neg (.int k n) = some (.int k (k.wrap (0 - n))) := nr rfl
@[simp] theorem un_xor {k : IntKind} {n : Int} : aun .xor (.int k n) = some (.int k (k.wrap (BitVec.ofInt k.bits (if k.signed then -1 else k.max) ^^^ BitVec.ofInt k.bits n).toNat)) := nr rfl

@[simp] theorem bin_add {t : TypeId} {k : IntKind} {a b : Int} : abin P K .add t (.int k a) (.int k b) = some (.int k (k.wrap (a + b))) := by simp [abin, arith]
@[simp] theorem bin_sub {t : TypeId} {k : IntKind} {a b : Int} : abin P K .sub t (.int k a) (.int k b) = some (.int k (k.wrap (a - b))) := by simp [abin, arith]
@[simp] theorem bin_mul {t : TypeId} {k : IntKind} {a b : Int} : abin P K .mul t (.int k a) (.int k b) = some (.int k (k.wrap (a * b))) := by simp [abin, arith]
@[simp] theorem bin_quo {t : TypeId} {k : IntKind} {a b : Int} : abin P K .quo t (.int k a) (.int k b) = if b = 0 then none else some (.int k (k.wrap (a.tdiv b))) := by simp [abin, arith]
@[simp] theorem bin_rem {t : TypeId} {k : IntKind} {a b : Int} : abin P K .rem t (.int k a) (.int k b) = if b = 0 then none else some (.int k (a.tmod b)) := by simp [abin, arith]
@[simp] theorem bin_and {t : TypeId} {k : IntKind} {a b : Int} : abin P K .and t (.int k a) (.int k b) = some (.int k (k.wrap (BitVec.ofInt k.bits a &&& BitVec.ofInt k.bits b).toNat)) := by simp [abin, arith]
@[simp] theorem bin_or {t : TypeId} {k : IntKind} {a b : Int} : abin P K .or t (.int k a) (.int k b) = some (.int k (k.wrap (BitVec.ofInt k.bits a ||| BitVec.ofInt k.bits b).toNat)) := by simp [abin, arith]
@[simp] theorem bin_xor {t : TypeId} {k : IntKind} {a b : Int} : abin P K .xor t (.int k a) (.int k b) = some (.int k (k.wrap (BitVec.ofInt k.bits a ^^^ BitVec.ofInt k.bits b).toNat)) := by simp [abin, arith]
@[simp] theorem bin_andNot {t : TypeId} {k : IntKind} {a b : Int} : abin P K .andNot t (.int k a) (.int k b) = some (.int k (k.wrap (BitVec.ofInt k.bits a &&& ~~~BitVec.ofInt k.bits b).toNat)) := by simp [abin, arith]
@[simp] theorem bin_eql {t : TypeId} {k : IntKind} {a b : Int} : abin P K .eql t (.int k a) (.int k b) = some (.bool (decide (a = b))) := by simp [abin, arith]; rfl
@[simp] theorem bin_neq {t : TypeId} {k : IntKind} {a b : Int} : abin P K .neq t (.int k a) (.int k b) = some (.bool (!decide (a = b))) := by simp [abin, arith]; rfl
@[simp] theorem bin_lss {t : TypeId} {k : IntKind} {a b : Int} : abin P K .lss t (.int k a) (.int k b) = some (.bool (decide (a < b))) := by simp [abin, arith]
@[simp] theorem bin_leq {t : TypeId} {k : IntKind} {a b : Int} : abin P K .leq t (.int k a) (.int k b) = some (.bool (decide (a ≤ b))) := by simp [abin, arith]
@[simp] theorem bin_gtr {t : TypeId} {k : IntKind} {a b : Int} : abin P K .gtr t (.int k a) (.int k b) = some (.bool (decide (b < a))) := by simp [abin, arith]
@[simp] theorem bin_geq {t : TypeId} {k : IntKind} {a b : Int} : abin P K .geq t (.int k a) (.int k b) = some (.bool (decide (b ≤ a))) := by simp [abin, arith]
@[simp] theorem bin_shl {t : TypeId} {k k' : IntKind} {a b : Int} : abin P K .shl t (.int k a) (.int k' b) = if b < 0 then none else some (.int k (k.wrap (a * 2 ^ (min b.toNat k.bits)))) := nr rfl
@[simp] theorem bin_shr {t : TypeId} {k k' : IntKind} {a b : Int} : abin P K .shr t (.int k a) (.int k' b) = if b < 0 then none else some (.int k (a.fdiv (2 ^ (min b.toNat k.bits)))) := nr rfl
@[simp] theorem str_eql {t : TypeId} {a b : ByteArray} : abin P K .eql t (.str a) (.str b) = some (.bool (decide (a = b))) := by simp [abin, strOp]
@[simp] theorem str_neq {t : TypeId} {a b : ByteArray} : abin P K .neq t (.str a) (.str b) = some (.bool (!decide (a = b))) := by simp [abin, strOp]
@[simp] theorem str_lss {t : TypeId} {a b : ByteArray} : abin P K .lss t (.str a) (.str b) = some (.bool (Op.bytesLess a.toList b.toList)) := by simp [abin, strOp]
@[simp] theorem str_add {t : TypeId} {a b : ByteArray} : abin P K .add t (.str a) (.str b) = if ((a.size + b.size : Nat) : Int) ≤ 9223372036854775807 then some (.str (a ++ b)) else none := by simp [abin, strOp]
@[simp] theorem aeqS_eq {t : TypeId} {x y : AV} : aeqS P t x y = eqU (eqS P t) x y := by
  unfold aeqS eqU eqS
  cases P.underlying t with
  | none => simp
  | some d => cases d <;> first | rfl | (cases x <;> first | rfl | (cases y <;> rfl))
@[simp] theorem bool_eql {t : TypeId} {a b : Bool} : abin P K .eql t (.bool a) (.bool b) = (eqU (eqS P t) (.bool a) (.bool b)).map .bool := by simp [abin, aeq, aeqS_eq]
@[simp] theorem bool_neq {t : TypeId} {a b : Bool} : abin P K .neq t (.bool a) (.bool b) = (eqU (eqS P t) (.bool a) (.bool b)).map fun b => .bool (!b) := by simp [abin, aeq, aeqS_eq]
@[simp] theorem eqU_bool {a b : Bool} : eqU .bool (.bool a) (.bool b) = some (a == b) := nr rfl
@[simp] theorem agg_eql {t : TypeId} {a b : List AV} : abin P K .eql t (.agg a) (.agg b) = (aggEq (K t) a b).map .bool := by simp [abin, aeq, aggEq]
@[simp] theorem agg_neq {t : TypeId} {a b : List AV} : abin P K .neq t (.agg a) (.agg b) = (aggEq (K t) a b).map fun b => .bool (!b) := by simp [abin, aeq, aggEq]
@[simp] theorem aggEq_some {sh : List Sc} {a b : List AV} : aggEq (some sh) a b = if conf sh a = true ∧ conf sh b = true then some (scsEq a b) else none := nr rfl
@[simp] theorem ptr_eql_nil {t : TypeId} {o off : Nat} : abin P K .eql t (.ptr o off) .nilp = (eqU (eqS P t) (.ptr o off) .nilp).map .bool := by simp [abin, aeq, aeqS_eq]
@[simp] theorem ptr_neq_nil {t : TypeId} {o off : Nat} : abin P K .neq t (.ptr o off) .nilp = (eqU (eqS P t) (.ptr o off) .nilp).map fun b => .bool (!b) := by simp [abin, aeq, aeqS_eq]
@[simp] theorem nilp_eql_nil {t : TypeId} : abin P K .eql t .nilp .nilp = (eqU (eqS P t) .nilp .nilp).map .bool := by simp [abin, aeq, aeqS_eq]
@[simp] theorem nilp_neq_nil {t : TypeId} : abin P K .neq t .nilp .nilp = (eqU (eqS P t) .nilp .nilp).map fun b => .bool (!b) := by simp [abin, aeq, aeqS_eq]
@[simp] theorem row_eql_nil {t : TypeId} {o off sz n : Nat} {f : Bool} : abin P K .eql t (.row o off sz n f) .nils = (eqU (eqS P t) (.row o off sz n f) .nils).map .bool := by simp [abin, aeq, aeqS_eq]
@[simp] theorem nils_eql_nil {t : TypeId} : abin P K .eql t .nils .nils = (eqU (eqS P t) .nils .nils).map .bool := by simp [abin, aeq, aeqS_eq]
@[simp] theorem row_neq_nil {t : TypeId} {o off sz n : Nat} {f : Bool} : abin P K .neq t (.row o off sz n f) .nils = (eqU (eqS P t) (.row o off sz n f) .nils).map fun b => .bool (!b) := by simp [abin, aeq, aeqS_eq]
@[simp] theorem nils_neq_nil {t : TypeId} : abin P K .neq t .nils .nils = (eqU (eqS P t) .nils .nils).map fun b => .bool (!b) := by simp [abin, aeq, aeqS_eq]

@[simp] theorem cstr_tmp {k : Nat} : isCStr (.tmp k) = false := nr rfl
@[simp] theorem cstr_func {k : FuncId} : isCStr (.func k) = false := nr rfl
@[simp] theorem cstr_int {k : IntKind} {n : Int} : isCStr (.const (.int k n)) = false := nr rfl
@[simp] theorem cstr_str {s : ByteArray} : isCStr (.const (.string s)) = true := nr rfl
@[simp] theorem op_convert {s d : TypeId} {x : Operand} {e : Env} {H : AHeap} : evalOp P K C (.convert s d x) e H = (evalOpd e x).bind fun a => if isCStr x = true then abytes P H s d a else aconv P H s d a := nr rfl
def cvK (H : AHeap) (x : AV) : CV → Option (AV × AHeap)
  | .int k => match x with
    | .int _ n => some (.int k (k.wrap n), H)
    | _ => none
  | .str => match x with
    | .str s => some (.str s, H)
    | _ => none
  | .bytes => match x with
    | .str s => some (.str s, H)
    | x => (strOf H x).map fun s => (.str s, H)
  | .mark => match x with
    | .row o off sz n full => (sliceCells H (.row o off sz n full)).map fun _ => (.row o off sz n full, H)
    | _ => none
  | .no => none
@[simp] theorem conv_eq {H : AHeap} {s d : TypeId} {x : AV} : aconv P H s d x = cvK H x (cvS P s d) := by
  unfold aconv amark aconvert cvK cvS
  cases hs : P.underlying s with
  | none => simp
  | some a =>
    cases hd : P.underlying d with
    | none => simp
    | some b =>
      by_cases hsl : ∃ e, a = .slice e
      · obtain ⟨e, rfl⟩ := hsl
        cases b <;> first | (cases x <;> rfl) | skip
        · cases hu : P.underlying e with
          | none => cases x <;> simp [hu]
          | some y => cases y <;> first | (cases x <;> simp [hu]; done) | (rename_i k; cases k <;> cases x <;> simp [hu])
        · by_cases hsd : s = d
          · subst hsd
            cases hu : P.underlying e with
            | none => cases x <;> simp [hu]
            | some y =>
              cases y <;> first | (cases x <;> simp [hu]; done) | skip
              rename_i k
              cases k <;> cases x <;> (try simp [hu])
              all_goals (first | rfl | (generalize sliceCells H _ = q; cases q <;> rfl))
          · cases x <;> simp [hsd]
      · cases b <;> first | (cases x <;> simp; done) | skip
        all_goals cases a <;> first | (cases x <;> simp; done) | exact absurd ⟨_, rfl⟩ hsl
@[simp] theorem abytes_eq {H : AHeap} {s d : TypeId} {b : ByteArray} : abytes P H s d (.str b) = if cbS P s d = true then (if b.size ≤ 9223372036854775807 then some (.row H.size 0 1 b.size false, H.new (.cells (byteC b))) else none) else none := by
  unfold abytes cbS
  cases hs : P.underlying s with
  | none => simp
  | some a => cases hd : P.underlying d with
    | none => cases a <;> simp
    | some c =>
      cases a <;> first | (simp; done) | skip
      cases c <;> first | (simp; done) | skip
      rename_i e
      cases hu : P.underlying e with
      | none => simp [hu]
      | some y => cases y <;> first | (simp [hu]; done) | (rename_i k; cases k <;> simp [hu])
@[simp] theorem cvK_row {H : AHeap} {o off sz n : Nat} {f : Bool} : cvK H (.row o off sz n f) .bytes = (strOf H (.row o off sz n f)).map fun s => (.str s, H) := nr rfl
@[simp] theorem cvK_mark {H : AHeap} {o off sz n : Nat} {f : Bool} : cvK H (.row o off sz n f) .mark = (sliceCells H (.row o off sz n f)).map fun _ => (.row o off sz n f, H) := nr rfl
@[simp] theorem cvK_nils {H : AHeap} : cvK H .nils .bytes = some (.str .empty, H) := nr rfl
@[simp] theorem cvK_lst {H : AHeap} {sz n : Nat} {cs : List AV} : cvK H (.lst sz n cs) .bytes = (strOf H (.lst sz n cs)).map fun s => (.str s, H) := nr rfl
theorem cvK_int {H : AHeap} {k k' : IntKind} {n : Int} : cvK H (.int k' n) (.int k) = some (.int k (k.wrap n), H) := rfl
@[simp] theorem cvK_str {H : AHeap} {s : ByteArray} : cvK H (.str s) .str = some (.str s, H) := nr rfl
@[simp] theorem op_iface {t : TypeId} {x : Operand} {e : Env} {H : AHeap} : evalOp P K C (.makeInterface t x) e H = (evalOpd e x).bind fun a => if isIface P t = some false then some (.ifc t a, H) else none := by
  simp only [evalOp, step1]
  congr 1
  funext a
  unfold isIface
  cases P.underlying t with
  | none => rfl
  | some d => cases d <;> simp
@[simp] theorem op_func {f : Fn} {first cap : Array Operand} {e : Env} {H : AHeap} : evalOp P K C (.makeFunc f first cap) e H = (evalOpds e first.toList).bind fun a => (evalOpds e cap.toList).map fun b => (.fn f a b, H) := nr rfl
@[simp] theorem op_makeMap {t : TypeId} {e : Env} {H : AHeap} : evalOp P K C (.makeMap t none) e H = (mkeyS P K t).map fun sh => (.map H.size, H.new (.map sh [] 0)) := by
  simp only [evalOp, step1, mkeyS]
  cases P.underlying t with
  | none => rfl
  | some d => cases d <;> rfl
@[simp] theorem op_makeSlice {t : TypeId} {l c : Operand} {e : Env} {H : AHeap} : evalOp P K C (.makeSlice t l c) e H = (evalOpd e l).bind fun a => (evalOpd e c).bind fun b => match a, b with
    | .int _ n, .int _ m => makeU H n m (mkS P t)
    | _, _ => none := by
  simp only [evalOp, step1]
  cases evalOpd e l with
  | none => rfl
  | some a => cases evalOpd e c with
    | none => cases a <;> rfl
    | some b =>
      cases a <;> cases b <;> try rfl
      rename_i _ n _ m
      simp only [Option.bind_some]
      unfold amake makeU mkS
      cases P.underlying t with
      | none => rfl
      | some d => cases d <;> try rfl
                  rename_i el
                  simp only
                  cases tS P el with
                  | none => rfl
                  | some s => cases tB P el with
                    | none => rfl
                    | some by_ => cases tZ P el <;> rfl
@[simp] theorem op_fieldAddr {t : TypeId} {x : Operand} {f : Nat} {e : Env} {H : AHeap} : evalOp P K C (.fieldAddr t x f) e H = (faS P t f).bind fun k => (evalOpd e x).bind fun a => match a with
    | .ptr o off => some (.ptr o (off + k), H)
    | .ptrl cs off => some (.ptrl cs (off + k), H)
    | _ => none := by
  simp only [evalOp, step1, faS]
  cases fieldAt P t f with
  | none => rfl
  | some fd =>
    simp only [Option.bind_some]
    cases tS P fd.type with
    | none => rfl
    | some n =>
      simp only [Option.bind_some]
      cases evalOpd e x with
      | none => by_cases h : 0 < n <;> simp [h]
      | some a => by_cases h : 0 < n <;> cases a <;> simp [h]
@[simp] theorem op_field {t : TypeId} {x : Operand} {f : Nat} {e : Env} {H : AHeap} : evalOp P K C (.field t x f) e H = (fdS P t f).bind fun k => (evalOpd e x).bind fun a => match a with
    | .agg cs => (ldK (some k.2) cs k.1).map fun v => (v, H)
    | _ => none := by
  simp only [evalOp, step1, fdS, loadC_eq]
  cases fieldAt P t f with
  | none => rfl
  | some fd =>
    simp only [Option.bind_some]
    cases hl : ldS P fd.type with
    | none =>
      cases evalOpd e x with
      | none => rfl
      | some a => cases a <;> simp [ldK]
    | some l =>
      cases evalOpd e x with
      | none => rfl
      | some a => cases a <;> simp
@[simp] theorem op_indexAddr {t : TypeId} {x i : Operand} {e : Env} {H : AHeap} : evalOp P K C (.indexAddr t x i) e H = (evalOpd e x).bind fun a => (evalOpd e i).bind fun b => match b with
    | .int _ n => (aindexAddr P t a n).map fun v => (v, H)
    | _ => none := by
  simp only [evalOp, step1]
  congr 1
  funext a
  cases evalOpd e i with
  | none => rfl
  | some b => cases b <;> rfl
@[simp] theorem ia_row {t : TypeId} {o off sz n : Nat} {f : Bool} {i : Int} : aindexAddr P t (.row o off sz n f) i = ixS (eszS P t) (.row o off sz n f) i := by
  unfold aindexAddr ixS eszS
  cases P.underlying t with
  | none => simp
  | some d => cases d <;> simp
@[simp] theorem ia_lst {t : TypeId} {sz n : Nat} {cs : List AV} {i : Int} : aindexAddr P t (.lst sz n cs) i = ixS (eszS P t) (.lst sz n cs) i := by
  unfold aindexAddr ixS eszS
  cases P.underlying t with
  | none => simp
  | some d => cases d <;> simp
@[simp] theorem ia_ptr {t : TypeId} {o off : Nat} {i : Int} : aindexAddr P t (.ptr o off) i = ixA (arrS P t) (.ptr o off) i := by
  unfold aindexAddr ixA arrS
  cases P.underlying t with
  | none => simp
  | some d => cases d <;> simp
              cases tS P ‹TypeId› <;> simp
@[simp] theorem ia_ptrl {t : TypeId} {cs : List AV} {off : Nat} {i : Int} : aindexAddr P t (.ptrl cs off) i = ixA (arrS P t) (.ptrl cs off) i := by
  unfold aindexAddr ixA arrS
  cases P.underlying t with
  | none => simp
  | some d => cases d <;> simp
              cases tS P ‹TypeId› <;> simp
@[simp] theorem ixS_row {s : Option Nat} {o off sz n : Nat} {f : Bool} {i : Int} : ixS s (.row o off sz n f) i = if s = some sz ∧ 0 ≤ i ∧ i < n then some (.ptr o (off + i.toNat * sz)) else none := nr rfl
@[simp] theorem ixS_lst {s : Option Nat} {sz n : Nat} {cs : List AV} {i : Int} : ixS s (.lst sz n cs) i = if s = some sz ∧ 0 ≤ i ∧ i < n then some (.ptrl cs (i.toNat * sz)) else none := nr rfl
@[simp] theorem ixA_ptr {len sz o off : Nat} {i : Int} : ixA (some (len, sz)) (.ptr o off) i = if 0 ≤ i ∧ i < len then some (.ptr o (off + i.toNat * sz)) else none := nr rfl
@[simp] theorem ixA_ptrl {len sz off : Nat} {cs : List AV} {i : Int} : ixA (some (len, sz)) (.ptrl cs off) i = if 0 ≤ i ∧ i < len then some (.ptrl cs (off + i.toNat * sz)) else none := nr rfl
@[simp] theorem op_index {t : TypeId} {x i : Operand} {e : Env} {H : AHeap} : evalOp P K C (.index t x i) e H = (evalOpd e x).bind fun a => (evalOpd e i).bind fun b => match b with
    | .int _ n => (aindex P t a n).map fun v => (v, H)
    | _ => none := by
  simp only [evalOp, step1]
  congr 1
  funext a
  cases evalOpd e i with
  | none => rfl
  | some b => cases b <;> rfl
@[simp] theorem op_extract {x : Operand} {i : Nat} {e : Env} {H : AHeap} : evalOp P K C (.extract x i) e H = (evalOpd e x).bind fun a => match a with
    | .tup vs => (vs[i]?).map fun v => (v, H)
    | _ => none := by
  simp only [evalOp, step1]
  cases evalOpd e x with
  | none => rfl
  | some b => cases b <;> rfl
@[simp] theorem op_slice {t : TypeId} {x : Operand} {lo hi mx : Option Operand} {e : Env} {H : AHeap} : evalOp P K C (.slice t x lo hi mx) e H = (evalOpd e x).bind fun a => (evalOpt e lo).bind fun l => (evalOpt e hi).bind fun h => (evalOpt e mx).bind fun m => (aslice P H t a l h m).map fun v => (v, H) := nr rfl

/-! Texts, byte by byte. -/
def ixStr (i : Int) (s : ByteArray) : LK → Option AV
  | .str => if 0 ≤ i then (s.data.toList[i.toNat]?).map fun b => .int .u8 b.toNat else none
  | _ => none
def slStr (lo hi : Option AV) (s : ByteArray) : LK → Option AV
  | .str => (bound 0 lo).bind fun l => (bound s.size hi).bind fun h => if 0 ≤ l ∧ l ≤ h ∧ h ≤ s.size then some (.str (s.extract l.toNat h.toNat)) else none
  | _ => none
@[simp] theorem aindex_str {t : TypeId} {s : ByteArray} {i : Int} : aindex P t (.str s) i = ixStr i s (lnS P t) := by
  unfold aindex ixStr lnS
  cases P.underlying t with
  | none => rfl
  | some d => cases d <;> first | rfl | (simp only [ByteArray.toList_eq])
@[simp] theorem aslice_str {H : AHeap} {t : TypeId} {s : ByteArray} {lo hi : Option AV} : aslice P H t (.str s) lo hi none = slStr lo hi s (lnS P t) := by
  unfold aslice slStr lnS
  cases P.underlying t with
  | none => rfl
  | some d => cases d <;> rfl
@[simp] theorem ixStr_str {i : Int} {s : ByteArray} : ixStr i s .str = if 0 ≤ i then (s.data.toList[i.toNat]?).map fun b => .int .u8 b.toNat else none := nr rfl
@[simp] theorem slStr_str {lo hi : Option AV} {s : ByteArray} : slStr lo hi s .str = (bound 0 lo).bind fun l => (bound s.size hi).bind fun h => if 0 ≤ l ∧ l ≤ h ∧ h ≤ s.size then some (.str (s.extract l.toNat h.toNat)) else none := nr rfl
@[simp] theorem bound_none {d : Nat} : bound d none = some d := nr rfl
@[simp] theorem bound_int {d : Nat} {k : IntKind} {i : Int} : bound d (some (.int k i)) = some i := nr rfl

theorem fillC_eq {pl : Nat → Option (Nat × Nat)} : ∀ {ps : List (Nat × AV)} {cs : List AV}, fillC pl cs ps = fillB pl cs ps
  | [], _ => rfl
  | (i, v) :: ps, cs => by
    simp only [fillC, fillB]
    cases pl i with
    | none => rfl
    | some x => obtain ⟨off, sz⟩ := x; simp only [Option.bind_some, fillC_eq]
@[simp] theorem op_build {t : TypeId} {ps : Array (Nat × Operand)} {e : Env} {H : AHeap} : evalOp P K C (.build t ps) e H = (evalParts e ps.toList).bind fun l => (tZ P t).bind fun z => if blS P t = some true then (fillB (plS P t) z l).map fun cs => (.agg cs, H) else none := by
  simp only [evalOp, step1]
  congr 1
  funext l
  unfold abuild blS
  cases tZ P t with
  | none => rfl
  | some z =>
    simp only [Option.bind_some]
    have hp : plS P t = fun i => match P.underlying t with
      | some (.struct fs) => (places P fs.toList).bind fun pl => pl[i]?
      | some (.array _ e) => (tS P e).map fun s => (i * s, s)
      | _ => none := by funext i; rfl
    rw [hp]
    cases P.underlying t with
    | none => simp
    | some d =>
      cases d <;> simp only [Option.map_none, reduceCtorEq, if_false]
      · rename_i len el
        cases tS P el with
        | none => simp
        | some s => simp [fillC_eq]; rfl
      · rename_i fs
        cases places P fs.toList with
        | none => simp
        | some pl => simp [fillC_eq]; rfl
@[simp] theorem fillB_nil {pl : Nat → Option (Nat × Nat)} {cs : List AV} : fillB pl cs [] = some cs := nr rfl
def fillK (pl : Nat → Option (Nat × Nat)) (cs : List AV) (v : AV) (rest : List (Nat × AV)) : Option (Nat × Nat) → Option (List AV)
  | some (off, sz) => if v.cells.length = sz ∧ off + sz ≤ cs.length then fillB pl (putCells cs off v.cells) rest else none
  | none => none
@[simp] theorem fillB_cons {pl : Nat → Option (Nat × Nat)} {cs : List AV} {i : Nat} {v : AV} {rest : List (Nat × AV)} : fillB pl cs ((i, v) :: rest) = fillK pl cs v rest (pl i) := by
  simp only [fillB, fillK]
@[simp] theorem fillK_some {pl : Nat → Option (Nat × Nat)} {cs : List AV} {v : AV} {rest : List (Nat × AV)} {off sz : Nat} : fillK pl cs v rest (some (off, sz)) = if v.cells.length = sz ∧ off + sz ≤ cs.length then fillB pl (putCells cs off v.cells) rest else none := nr rfl
@[simp] theorem op_buildSlice {t : TypeId} {n : Nat} {ps : Array (Nat × Operand)} {e : Env} {H : AHeap} : evalOp P K C (.buildSlice t n ps) e H = (evalParts e ps.toList).bind fun l => lit H n l (bsS P t) := by
  simp only [evalOp, step1]
  congr 1
  funext l
  unfold abuildSlice lit bsS
  cases P.underlying t with
  | none => rfl
  | some d =>
    cases d <;> try rfl
    rename_i el
    simp only
    cases tS P el with
    | none => rfl
    | some s => cases tZ P el with
      | none => rfl
      | some z => simp only [Option.bind_some, Option.map_some, fillC_eq]
@[simp] theorem lit_some {H : AHeap} {len s : Nat} {z : List AV} {ps : List (Nat × AV)} : lit H len ps (some (s, z)) = if len * s ≤ 16777216 ∧ z.length = s ∧ 0 < s then
        (fillB (fun i => some (i * s, s)) ((List.replicate len z).flatten) ps).map fun cs => (.row H.size 0 s len true, H.new (.cells cs))
      else none := nr rfl
@[simp] theorem op_len {x : Operand} {t : TypeId} {e : Env} {H : AHeap} : evalOp P K C (.call ⟨.builtin .len, #[x], #[t]⟩) e H = (evalOpd e x).bind fun a => (alen P H t a).map fun v => (v, H) := by
  simp only [evalOp, step1, abuiltin, evalOpds, Option.map_some]
  cases evalOpd e x <;> rfl
@[simp] theorem alen_eq {H : AHeap} {t : TypeId} {x : AV} : alen P H t x = lenU H x (lnS P t) := by
  unfold alen lenU lnS
  cases P.underlying t with
  | none => simp
  | some d => cases d <;> first | rfl | (cases x <;> rfl)
@[simp] theorem lenU_slice {H : AHeap} {x : AV} : lenU H x .slice = (sliceLen x).map fun n => .int .i64 n := by cases x <;> rfl
@[simp] theorem lenU_arr {H : AHeap} {x : AV} {n : Nat} : lenU H x (.arr n) = some (.int .i64 n) := by cases x <;> rfl
@[simp] theorem lenU_str {H : AHeap} {s : ByteArray} : lenU H (.str s) .str = some (.int .i64 s.size) := nr rfl
@[simp] theorem len_row {o off sz n : Nat} {f : Bool} : sliceLen (.row o off sz n f) = some n := nr rfl
@[simp] theorem len_lst {sz n : Nat} {cs : List AV} : sliceLen (.lst sz n cs) = some n := nr rfl
@[simp] theorem len_nils : sliceLen .nils = some 0 := nr rfl
@[simp] theorem op_append {x y : Operand} {t : TypeId} {e : Env} {H : AHeap} : evalOp P K C (.call ⟨.builtin .append, #[x, y], #[t, t]⟩) e H = (evalOpd e x).bind fun a => (evalOpd e y).bind fun b => appU H a b (mkS P t) := by
  simp only [evalOp, step1, abuiltin, evalOpds, Option.map_some]
  cases evalOpd e x with
  | none => rfl
  | some a => cases evalOpd e y with
    | none => rfl
    | some b =>
      simp only [Option.map_some, Option.bind_some, if_true]
      unfold aappend appU appC mkS
      cases P.underlying t with
      | none => rfl
      | some d =>
        cases d <;> try rfl
        rename_i el
        simp only
        cases tS P el with
        | none => rfl
        | some s => cases tB P el with
          | none => rfl
          | some by_ => cases tZ P el <;> rfl
/-- append: so many zeros. -/
def extU (H : AHeap) (s : AV) (k : Int) : Option (Nat × Nat × List AV) → Option (AV × AHeap)
  | some (sz, by_, z) => if 0 ≤ k ∧ k * by_ ≤ 140737488355328 ∧ k ≤ 9223372036854775807 ∧ z.length = sz ∧ 0 < sz then appC H s sz by_ z ((List.replicate k.toNat z).flatten) k.toNat else none
  | none => none
def extB (H : AHeap) (s : AV) (r : Option (Nat × Nat × List AV)) : AV → Option (AV × AHeap)
  | .int .i64 k => extU H s k r
  | _ => none
@[simp] theorem extB_int {H : AHeap} {s : AV} {r : Option (Nat × Nat × List AV)} {k : Int} : extB H s r (.int .i64 k) = extU H s k r := nr rfl
theorem op_extend {x y : Operand} {t t' : TypeId} (ht : ¬ t' = t) (hi : P.underlying t' = some (.int .i64)) {e : Env} {H : AHeap} : evalOp P K C (.call ⟨.builtin .append, #[x, y], #[t, t']⟩) e H = (evalOpd e x).bind fun a => (evalOpd e y).bind fun b => extB H a (mkS P t) b := by
  simp only [evalOp, step1, abuiltin, evalOpds, Option.map_some]
  cases evalOpd e x with
  | none => rfl
  | some a => cases evalOpd e y with
    | none => rfl
    | some b =>
      simp only [Option.map_some, Option.bind_some, if_neg ht, hi]
      cases b with
      | int k n =>
        cases k <;> try rfl
        simp only [extB, aextend, mkS]
        unfold extU
        cases P.underlying t with
        | none => rfl
        | some d =>
          cases d <;> try rfl
          rename_i el
          simp only
          cases tS P el with
          | none => rfl
          | some s => cases tB P el with
            | none => rfl
            | some by_ => cases tZ P el <;> rfl
      | _ => rfl
@[simp] theorem op_min {x y : Operand} {ts : Array TypeId} {e : Env} {H : AHeap} : evalOp P K C (.call ⟨.builtin .min, #[x, y], ts⟩) e H = (evalOpd e x).bind fun a => (evalOpd e y).bind fun b => (foldMin a [b]).map fun v => (v, H) := by
  simp only [evalOp, step1, abuiltin, evalOpds, Option.map_some]
  cases evalOpd e x with
  | none => rfl
  | some a => cases evalOpd e y <;> rfl
@[simp] theorem op_max {x y : Operand} {ts : Array TypeId} {e : Env} {H : AHeap} : evalOp P K C (.call ⟨.builtin .max, #[x, y], ts⟩) e H = (evalOpd e x).bind fun a => (evalOpd e y).bind fun b => (foldMax a [b]).map fun v => (v, H) := by
  simp only [evalOp, step1, abuiltin, evalOpds, Option.map_some]
  cases evalOpd e x with
  | none => rfl
  | some a => cases evalOpd e y <;> rfl
@[simp] theorem min_int {k : IntKind} {a b : Int} : foldMin (.int k a) [.int k b] = some (.int k (min a b)) := by
  have h : (if b < a then b else a) = min a b := by rw [Int.min_def]; split <;> split <;> omega
  simp [foldMin, h]
@[simp] theorem max_int {k : IntKind} {a b : Int} : foldMax (.int k a) [.int k b] = some (.int k (max a b)) := by
  have h : (if a < b then b else a) = max a b := by rw [Int.max_def]; split <;> split <;> omega
  simp [foldMax, h]
@[simp] theorem op_callF {f : FuncId} {args : Array Operand} {ts : Array TypeId} {e : Env} {H : AHeap} : evalOp P K C (.call ⟨.value (.func f), args, ts⟩) e H = (evalOpds e args.toList).bind fun as => C f as H := by
  simp only [evalOp, step1]
  cases evalOpds e args.toList with
  | none => rfl
  | some as => simp [evalOpd, clOf]
@[simp] theorem op_callV {t : Nat} {args : Array Operand} {ts : Array TypeId} {e : Env} {H : AHeap} : evalOp P K C (.call ⟨.value (.tmp t), args, ts⟩) e H = (evalOpds e args.toList).bind fun as => (e t).bind fun f => match f with
    | .fn (.func f) first cap => C f (first ++ as ++ cap) H
    | _ => none := by
  simp only [evalOp, step1, evalOpd]
  cases evalOpds e args.toList with
  | none => rfl
  | some as => cases e t with
    | none => rfl
    | some v => cases v <;> first | rfl | (rename_i f _ _; cases f <;> rfl)
@[simp] theorem op_lookup {t : TypeId} {m k : Operand} {ok : Bool} {e : Env} {H : AHeap} : evalOp P K C (.lookup t m k ok) e H = (evalOpd e m).bind fun a => (evalOpd e k).bind fun b => (lookM ok b a H (mapS P K t)).map fun v => (v, H) := by
  simp only [evalOp, step1]
  congr 1
  funext a
  congr 1
  funext b
  congr 1
  unfold alookup lookM mapS
  cases P.underlying t with
  | none => rfl
  | some d =>
    cases d <;> try rfl
    rename_i kt el
    simp only
    cases keySh P K kt with
    | none => rfl
    | some sh => cases tZV P el with
      | none => rfl
      | some z =>
        simp only [Option.bind_some, Option.map_some]
        cases a <;> try rfl
        rename_i o
        simp only
        cases H.obj o <;> try rfl
        rename_i sh' es _
        simp only
        cases findE b es <;> rfl
@[simp] theorem op_mapUpdate {t : TypeId} {m k v : Operand} {e : Env} {H : AHeap} : evalOp P K C (.mapUpdate t m k v) e H = (evalOpd e m).bind fun a => (evalOpd e k).bind fun b => (evalOpd e v).bind fun c => (updM b c a H (mkeyS P K t)).map fun H' => (.tup [], H') := by
  simp only [evalOp, step1]
  congr 1
  funext a
  congr 1
  funext b
  congr 1
  funext c
  congr 1
  unfold amapUpdate updM mkeyS
  cases P.underlying t with
  | none => rfl
  | some d =>
    cases d <;> try rfl
    rename_i kt el
    simp only
    cases keySh P K kt <;> rfl
@[simp] theorem makeU_some {H : AHeap} {l c : Int} {sz by_ : Nat} {z : List AV} : makeU H l c (some (sz, by_, z)) = if 0 ≤ l ∧ l ≤ c ∧ c * by_ ≤ 140737488355328 ∧ z.length = sz ∧ 0 < sz ∧ c ≤ 9223372036854775807 then
        some (.row H.size 0 sz l.toNat (decide (l = c)), H.new (.cells ((List.replicate c.toNat z).flatten)))
      else none := nr rfl
@[simp] theorem lookM_map {ok : Bool} {k z : AV} {o : Nat} {H : AHeap} {sh : KSh} : lookM ok k (.map o) H (some (sh, z)) = if sh.fits k = true then
      match H.obj o with
        | .map sh' es _ => if sh' = sh then some (lookU ok z (findE k es)) else none
        | _ => none
    else none := nr rfl
@[simp] theorem updM_map {k v : AV} {o : Nat} {H : AHeap} {sh : KSh} : updM k v (.map o) H (some sh) = if sh.fits k = true then
      match H.obj o with
        | .map sh' es clock => if sh' = sh then
            match findE k es with
            | some _ => some (H.set o (.map sh (setE k v es) clock))
            | none => some (H.set o (.map sh (es ++ [⟨k, v, clock⟩]) (clock + 1)))
          else none
        | _ => none
    else none := nr rfl
@[simp] theorem res_nil {e : Env} {H : AHeap} : evalResults P e H [] = some [] := nr rfl
@[simp] theorem res_tmp {e : Env} {H : AHeap} {t : Nat} {rs : List ResultVar} : evalResults P e H (.tmp t :: rs) = (e t).bind fun a => (evalResults P e H rs).map (a :: ·) := nr rfl
@[simp] theorem res_cell {e : Env} {H : AHeap} {a : Nat} {t : TypeId} {rs : List ResultVar} : evalResults P e H (.cell a t :: rs) = ((e a).bind fun x => aload P H t x).bind fun a => (evalResults P e H rs).map (a :: ·) := nr rfl
@[simp] theorem tupled_one {v : AV} : tupled [v] = v := nr rfl
@[simp] theorem tupled_nil : tupled [] = .tup [] := nr rfl
@[simp] theorem tupled_many {v w : AV} {vs : List AV} : tupled (v :: w :: vs) = .tup (v :: w :: vs) := nr rfl

end
end Go.Proofs.Ytghjglnebcpcmaa
/-! Helpers for a function's word: what a call keeps, slices that are read, words of 64 bits, small numbers. -/
namespace Go.Proofs.Ytghjglnebcpcmaa

section
variable {P : Program} {K : TypeId → Option (List Sc)} {C : Calling}

/-- A call that answers 'v' and leaves all as it was. -/
def Pure (C : Calling) (f : FuncId) (vs : List AV) (H : AHeap) (v : AV) : Prop := C f vs H = some (v, H)
theorem Pure.run {f : FuncId} {vs : List AV} {H : AHeap} {v : AV} (h : Pure C f vs H v) : C f vs H = some (v, H) := h
theorem Pure.of {f : FuncId} {vs : List AV} {H : AHeap} {v : AV} (h : Pure C f vs H v) {r : Option (AV × AHeap)} (hr : C f vs H = r) : r = some (v, H) := hr.symm.trans h

@[simp] theorem lt_step {a b : Nat} (h : a < b) : a < b + 1 := by omega
@[simp] theorem le_step {a b : Nat} (h : a ≤ b) : a ≤ b + 1 := by omega
@[simp] theorem eq_step {a b : Nat} (h : a ≤ b) : (a = b + 1) = False := by simp; omega
@[simp] theorem eq_step' {a b : Nat} (h : a ≤ b) : (b + 1 = a) = False := by simp; omega

/-- What a call keeps, as a fact of its own. -/
def Kp (C : Calling) (f : FuncId) (vs : List AV) (H : AHeap) : Prop := Keeps H (aft C f vs H)
@[simp] theorem aft_obj {f : FuncId} {vs : List AV} {H : AHeap} {o : Nat} (k : Kp C f vs H) (ho : o < H.size) : (aft C f vs H).obj o = H.obj o := Keeps.obj k o ho
@[simp] theorem aft_lt {f : FuncId} {vs : List AV} {H : AHeap} {o : Nat} (k : Kp C f vs H) (ho : o < H.size) : o < (aft C f vs H).size := Keeps.lt k ho
@[simp] theorem aft_le {f : FuncId} {vs : List AV} {H : AHeap} {n : Nat} (k : Kp C f vs H) (h : n ≤ H.size) : n ≤ (aft C f vs H).size := Nat.le_trans h (Keeps.size k)
@[simp] theorem aft_keeps {f : FuncId} {vs : List AV} {H H0 : AHeap} (k : Kp C f vs H) (h : Keeps H0 H) : Keeps H0 (aft C f vs H) := h.trans k

@[simp] theorem aft_ne {f : FuncId} {vs : List AV} {H : AHeap} {o : Nat} (k : Kp C f vs H) (ho : o < H.size) : (o = (aft C f vs H).size) = False := by
  have := Keeps.lt k ho
  simp; omega
@[simp] theorem aft_ne' {f : FuncId} {vs : List AV} {H : AHeap} {o : Nat} (k : Kp C f vs H) (ho : o < H.size) : ((aft C f vs H).size = o) = False := by
  have := Keeps.lt k ho
  simp; omega
@[simp] theorem aft_ne1 {f : FuncId} {vs : List AV} {H : AHeap} {o n : Nat} (k : Kp C f vs H) (ho : o < H.size) : (o = (aft C f vs H).size + n) = False := by
  have := Keeps.lt k ho
  simp; omega
@[simp] theorem aft_ne1' {f : FuncId} {vs : List AV} {H : AHeap} {o n : Nat} (k : Kp C f vs H) (ho : o < H.size) : ((aft C f vs H).size + n = o) = False := by
  have := Keeps.lt k ho
  simp; omega

variable (P K C) in
/-- The slots and the heap behind a loop. -/
noncomputable def lenv (b : LCode) (e : Env) (H : AHeap) : Env := ((loopL P K C b e H).map fun x => x.2.1).getD e
variable (P K C) in
noncomputable def lheap (b : LCode) (e : Env) (H : AHeap) : AHeap := ((loopL P K C b e H).map fun x => x.2.2).getD H
theorem loop_of {b : LCode} {e : Env} {H : AHeap} {x : AX} {e' : Env} {H' : AHeap} (h : loopL P K C b e H = some (x, e', H')) :
    loopL P K C b e H = some (x, lenv P K C b e H, lheap P K C b e H) ∧ lenv P K C b e H = e' ∧ lheap P K C b e H = H' := by simp [lenv, lheap, h]

@[simp] theorem putCells_at {cs new : List AV} {off : Nat} : putCells cs off new = cs.take off ++ new ++ cs.drop (off + new.length) := nr rfl
@[simp] theorem keeps_refl {H : AHeap} : Keeps H H := Keeps.refl H
@[simp] theorem keeps_new {H H' : AHeap} {x : AObj} (h : Keeps H H') : Keeps H (H'.new x) := h.new' x
@[simp] theorem keeps_set {H H' : AHeap} {o : Nat} {x : AObj} (h : Keeps H H') (ho : H.size ≤ o) : Keeps H (H'.set o x) := h.set ho x
@[simp] theorem quiet_of {H H' : AHeap} (h : Keeps H H') : H.Quiet H' := h.quiet

@[simp] theorem new_obj {H : AHeap} {x : AObj} {o : Nat} : (H.new x).obj o = if o = H.size then x else H.obj o := nr rfl
@[simp] theorem set_obj {H : AHeap} {x : AObj} {o k : Nat} : (H.set o x).obj k = if k = o then x else H.obj k := nr rfl

/-- Only one object was written. -/
structure Upd (o : Nat) (H H' : AHeap) : Prop where
  size : H'.size = H.size
  obj : ∀ k, k ≠ o → H'.obj k = H.obj k
  wr : ∀ k, k ≠ o → H'.wr k = H.wr k
theorem Upd.refl (o : Nat) (H : AHeap) : Upd o H H := ⟨rfl, fun _ _ => rfl, fun _ _ => rfl⟩
theorem Upd.set {o : Nat} {H H' : AHeap} (h : Upd o H H') (x : AObj) : Upd o H (H'.set o x) :=
  ⟨h.size, fun k hk => by rw [set_old hk]; exact h.obj k hk, fun k hk => by simp only [AHeap.set]; rw [if_neg hk]; exact h.wr k hk⟩
theorem Upd.trans {o : Nat} {A B E : AHeap} (h : Upd o A B) (k : Upd o B E) : Upd o A E :=
  ⟨k.size.trans h.size, fun j hj => (k.obj j hj).trans (h.obj j hj), fun j hj => (k.wr j hj).trans (h.wr j hj)⟩
theorem Upd.keeps {o : Nat} {H0 H H' : AHeap} (h : Upd o H H') (k : Keeps H0 H) (ho : H0.size ≤ o) : Keeps H0 H' :=
  ⟨by rw [h.size]; exact k.size, fun j hj => (h.obj j (by omega)).trans (k.obj j hj), fun j hj => (h.wr j (by omega)).trans (k.wr j hj)⟩

/-- A slice that reads as the given cells. -/
structure Reads (H : AHeap) (v : AV) (sz n : Nat) (cs : List AV) : Prop where
  len : sliceLen v = some n
  cells : sliceCells H v = some cs
  size : cs.length = n * sz
  own : match v with
    | .row o _ s _ _ => s = sz ∧ o < H.size
    | .lst s _ _ => s = sz
    | .nils => True
    | _ => False

/-- Where an element of a slice lies. -/
def ixp (v : AV) (sz : Nat) (i : Nat) : AV :=
  match v with
  | .row o off _ _ _ => .ptr o (off + i * sz)
  | .lst _ _ cs => .ptrl cs (i * sz)
  | _ => .nilp

theorem Reads.lst {H : AHeap} {sz n : Nat} {cs : List AV} (h : cs.length = n * sz) : Reads H (.lst sz n cs) sz n cs := ⟨rfl, rfl, h, rfl⟩
theorem Reads.nils {H : AHeap} {sz : Nat} : Reads H .nils sz 0 [] := ⟨rfl, rfl, by simp, trivial⟩
theorem Reads.row {H : AHeap} {o off sz n : Nat} {full : Bool} {all : List AV} (ho : o < H.size) (h : H.obj o = .cells all) (hl : off + n * sz ≤ all.length) : Reads H (.row o off sz n full) sz n ((all.drop off).take (n * sz)) :=
  ⟨rfl, by simp [sliceCells, h, hl], by simp; omega, rfl, ho⟩
theorem Reads.row' {H : AHeap} {o sz n : Nat} {full : Bool} {all : List AV} (ho : o < H.size) (h : H.obj o = .cells all) (hl : all.length = n * sz) : Reads H (.row o 0 sz n full) sz n all := by
  have := Reads.row (full := full) (off := 0) (n := n) (sz := sz) ho h (by omega)
  simpa [← hl] using this
theorem Reads.keep {H H' : AHeap} {v : AV} {sz n : Nat} {cs : List AV} (h : Reads H v sz n cs) (k : Keeps H H') : Reads H' v sz n cs := by
  obtain ⟨h1, h2, h3, h4⟩ := h
  refine ⟨h1, ?_, h3, ?_⟩
  · cases v <;> try exact h2
    rw [← h2]
    simp only [sliceCells, k.obj _ h4.2]
  · cases v <;> try exact h4
    exact ⟨h4.1, Nat.lt_of_lt_of_le h4.2 k.size⟩
theorem Reads.addr {H : AHeap} {v : AV} {sz n : Nat} {cs : List AV} (h : Reads H v sz n cs) {t : TypeId} (ht : eszS P t = some sz) {i : Nat} (hi : i < n) : aindexAddr P t v (i : Int) = some (ixp v sz i) := by
  obtain ⟨h1, h2, h3, h4⟩ := h
  cases v <;> first | (exact h4.elim) | skip
  · simp [sliceLen] at h1; omega
  · obtain ⟨rfl, _⟩ := h4
    simp [sliceLen] at h1
    subst h1
    simp [ht, ixp, hi]
  · have h4 : _ = sz := h4
    subst h4
    simp [sliceLen] at h1
    subst h1
    simp [ht, ixp, hi]
theorem Reads.at {H : AHeap} {v : AV} {sz n : Nat} {cs : List AV} (h : Reads H v sz n cs) {t : TypeId} (hl : ldS P t = some none) (hsz : sz = 1) {i : Nat} (hi : i < n) : aload P H t (ixp v sz i) = cs[i]? := by
  obtain ⟨h1, h2, h3, h4⟩ := h
  subst hsz
  cases v <;> first | (exact h4.elim) | skip
  · simp [sliceLen] at h1; omega
  · obtain ⟨rfl, _⟩ := h4
    simp [sliceLen] at h1
    subst h1
    unfold sliceCells at h2
    simp only at h2
    split at h2 <;> first | (cases h2; done) | skip
    rename_i all ho
    split at h2 <;> first | (cases h2; done) | skip
    cases h2
    simp only [ixp, aload_ptr, ho, loadO_cells, hl, ldK_one, Nat.mul_one]
    rw [List.getElem?_take_of_lt hi, List.getElem?_drop]
  · have h4 : _ = 1 := h4
    subst h4
    simp [sliceLen] at h1
    subst h1
    simp [sliceCells] at h2
    subst h2
    simp [ixp, hl]

@[simp] theorem reads_new {H : AHeap} {x : AObj} {v : AV} {sz n : Nat} {cs : List AV} (h : Reads H v sz n cs) : Reads (H.new x) v sz n cs := h.keep (Keeps.new H x)
@[simp] theorem reads_row {H : AHeap} {o sz n : Nat} {f : Bool} {cs : List AV} (ho : o < H.size) (h : H.obj o = .cells cs) (hl : cs.length = n * sz) : Reads H (.row o 0 sz n f) sz n cs := Reads.row' ho h hl
@[simp] theorem reads_aft {f : FuncId} {vs : List AV} {H : AHeap} {v : AV} {sz n : Nat} {cs : List AV} (k : Kp C f vs H) (h : Reads H v sz n cs) : Reads (aft C f vs H) v sz n cs := h.keep k
@[simp] theorem reads_nils {H : AHeap} {sz : Nat} : Reads H .nils sz 0 [] := Reads.nils
/-- What a call answers. -/
def res (C : Calling) (f : FuncId) (vs : List AV) (H : AHeap) : AV := ((C f vs H).map (·.1)).getD .nilp
theorem res_of {f : FuncId} {vs : List AV} {H : AHeap} {v : AV} {H' : AHeap} (h : C f vs H = some (v, H')) : C f vs H = some (res C f vs H, aft C f vs H) ∧ res C f vs H = v ∧ aft C f vs H = H' := by simp [aft, res, h]

/-- Appended to nothing. -/
theorem app_nils {H : AHeap} {b : AV} {sz by_ n : Nat} {z cs : List AV} (h : Reads H b sz n cs) (hz : z.length = sz) (hs : 0 < sz) (h1 : n * by_ ≤ 140737488355328) (h2 : n ≤ 9223372036854775807) (h3 : allOne cs = true) :
    ∃ v H', appU H .nils b (some (sz, by_, z)) = some (v, H') ∧ Keeps H H' ∧ Reads H' v sz n cs ∧ v = (if n = 0 then .nils else .row H.size 0 sz n false) := by
  obtain ⟨g1, g2, g3, g4⟩ := h
  simp only [appU, g1, g2, Option.bind_some]
  by_cases h0 : n = 0
  · subst h0
    have : cs = [] := List.eq_nil_of_length_eq_zero (by simpa using g3)
    subst this
    exact ⟨.nils, H, by simp [sliceCells], Keeps.refl H, Reads.nils, by simp⟩
  · refine ⟨.row H.size 0 sz n false, H.new (.cells cs), ?_, Keeps.new H _, Reads.row' (by simp) (by simp) g3, by simp [h0]⟩
    have e : sliceCells H .nils = some [] := rfl
    simp [h0, e, hz, g3, hs, h1, h2, h3]

/-! Words of 64 bits. -/
def u (x : BitVec 64) : AV := .int .u64 (x.toNat : Int)
theorem u_ofInt {n : Int} (h0 : 0 ≤ n) (h1 : n < 18446744073709551616) : AV.int .u64 n = u (BitVec.ofInt 64 n) := by
  unfold u
  congr 1
  rw [BitVec.toNat_ofInt]
  omega
theorem u_wrap {n : Int} : AV.int .u64 (IntKind.u64.wrap n) = u (BitVec.ofInt 64 n) := by
  unfold u
  congr 1
  rw [BitVec.toNat_ofInt, IntKind.wrap_u64]
  omega
theorem ofInt_toNat (x : BitVec 64) : BitVec.ofInt 64 (x.toNat : Int) = x := by
  rw [BitVec.ofInt_natCast]; simp
theorem u_wrapN {x : BitVec 64} : IntKind.u64.wrap (x.toNat : Int) = (x.toNat : Int) := by
  rw [IntKind.wrap_u64]; have := x.isLt; omega
@[simp] theorem closed_u {n : Nat} {x : BitVec 64} : closed n (u x) = true := nr rfl
@[simp] theorem frz_u {H : AHeap} {n : Nat} {z : List Nat} {x : BitVec 64} : frz H n z (u x) = u x := frz_int
@[simp] theorem u_or {t : TypeId} {x y : BitVec 64} : abin P K .or t (u x) (u y) = some (u (x ||| y)) := by
  simp only [u, bin_or, IntKind.bits, ofInt_toNat, u_wrapN]; rfl
@[simp] theorem u_and {t : TypeId} {x y : BitVec 64} : abin P K .and t (u x) (u y) = some (u (x &&& y)) := by
  simp only [u, bin_and, IntKind.bits, ofInt_toNat, u_wrapN]; rfl
@[simp] theorem u_xor {t : TypeId} {x y : BitVec 64} : abin P K .xor t (u x) (u y) = some (u (x ^^^ y)) := by
  simp only [u, bin_xor, IntKind.bits, ofInt_toNat, u_wrapN]; rfl
@[simp] theorem u_andNot {t : TypeId} {x y : BitVec 64} : abin P K .andNot t (u x) (u y) = some (u (x &&& ~~~y)) := by
  simp only [u, bin_andNot, IntKind.bits, ofInt_toNat, u_wrapN]; rfl
@[simp] theorem u_add {t : TypeId} {x y : BitVec 64} : abin P K .add t (u x) (u y) = some (u (x + y)) := by
  simp only [u, bin_add]; congr 2
@[simp] theorem u_sub {t : TypeId} {x y : BitVec 64} : abin P K .sub t (u x) (u y) = some (u (x - y)) := by
  simp only [u, bin_sub]; congr 2; rw [IntKind.wrap_u64, BitVec.toNat_sub]; have := x.isLt; have := y.isLt; omega
@[simp] theorem u_mul {t : TypeId} {x y : BitVec 64} : abin P K .mul t (u x) (u y) = some (u (x * y)) := by
  simp only [u, bin_mul]; congr 2
@[simp] theorem u_shl {t : TypeId} {x : BitVec 64} {k : IntKind} {s : Int} (hs : 0 ≤ s) : abin P K .shl t (u x) (.int k s) = some (u (x <<< s.toNat)) := by
  simp only [u, bin_shl]
  rw [if_neg (by omega)]
  congr 2
  rw [IntKind.wrap_u64, BitVec.toNat_shiftLeft, Nat.shiftLeft_eq]
  simp only [IntKind.bits]
  have hmin : ((x.toNat : Int) * 2 ^ (min s.toNat 64)) % 18446744073709551616 = ((x.toNat * 2 ^ s.toNat % 2 ^ 64 : Nat) : Int) := by
    by_cases h : s.toNat ≤ 64
    · rw [Nat.min_eq_left h]
      have e : (x.toNat : Int) * 2 ^ s.toNat = ((x.toNat * 2 ^ s.toNat : Nat) : Int) := by rw [Int.natCast_mul, Int.natCast_pow]; rfl
      rw [e]
      generalize x.toNat * 2 ^ s.toNat = m
      rw [show (2 : Nat) ^ 64 = 18446744073709551616 from rfl]
      omega
    · rw [Nat.min_eq_right (by omega)]
      have e : 2 ^ s.toNat = 2 ^ 64 * 2 ^ (s.toNat - 64) := by rw [← Nat.pow_add]; congr 1; omega
      rw [e, show x.toNat * (2 ^ 64 * 2 ^ (s.toNat - 64)) = 2 ^ 64 * (x.toNat * 2 ^ (s.toNat - 64)) from by rw [Nat.mul_left_comm], Nat.mul_mod_right]
      omega
  exact hmin
@[simp] theorem u_shlU {t : TypeId} {x y : BitVec 64} : abin P K .shl t (u x) (u y) = some (u (x <<< y.toNat)) := by
  rw [u, show u y = .int .u64 (y.toNat : Int) from rfl]
  have := u_shl (P := P) (K := K) (t := t) (x := x) (k := .u64) (s := (y.toNat : Int)) (by omega)
  rw [u] at this
  rw [this]; simp
@[simp] theorem u_shr {t : TypeId} {x : BitVec 64} {k : IntKind} {s : Int} (hs : 0 ≤ s) : abin P K .shr t (u x) (.int k s) = some (u (x >>> s.toNat)) := by
  simp only [u, bin_shr]
  rw [if_neg (by omega)]
  congr 2
  simp only [IntKind.bits]
  rw [BitVec.toNat_ushiftRight, Nat.shiftRight_eq_div_pow, Int.fdiv_eq_ediv_of_nonneg _ (by exact Int.le_of_lt (Int.pow_pos (by omega)))]
  by_cases h : s.toNat ≤ 64
  · rw [Nat.min_eq_left h]; push_cast; rfl
  · rw [Nat.min_eq_right (by omega)]
    have hx := x.isLt
    have e1 : x.toNat / 2 ^ s.toNat = 0 := Nat.div_eq_of_lt (Nat.lt_of_lt_of_le hx (Nat.pow_le_pow_right (by omega) (by omega)))
    rw [e1]
    have : (2 : Int) ^ 64 = 18446744073709551616 := by decide
    rw [this]; omega
@[simp] theorem u_shrU {t : TypeId} {x y : BitVec 64} : abin P K .shr t (u x) (u y) = some (u (x >>> y.toNat)) := by
  rw [u, show u y = .int .u64 (y.toNat : Int) from rfl]
  have := u_shr (P := P) (K := K) (t := t) (x := x) (k := .u64) (s := (y.toNat : Int)) (by omega)
  rw [u] at this
  rw [this]; simp
@[simp] theorem bin_shrU {t : TypeId} {k : IntKind} {a : Int} {y : BitVec 64} : abin P K .shr t (.int k a) (u y) = some (.int k (a.fdiv (2 ^ (min y.toNat k.bits)))) := by
  rw [u, bin_shr, if_neg (by omega)]; simp
@[simp] theorem bin_shlU {t : TypeId} {k : IntKind} {a : Int} {y : BitVec 64} : abin P K .shl t (.int k a) (u y) = some (.int k (k.wrap (a * 2 ^ (min y.toNat k.bits)))) := by
  rw [u, bin_shl, if_neg (by omega)]; simp
@[simp] theorem un_xorU {x : BitVec 64} : aun .xor (u x) = some (u (~~~x)) := by
  rw [u, un_xor]
  simp only [IntKind.bits, IntKind.signed, IntKind.max, ofInt_toNat, Bool.false_eq_true, if_false]
  rw [u_wrapN]
  have : BitVec.ofInt 64 (2 ^ 64 - 1) ^^^ x = ~~~x := by
    rw [show BitVec.ofInt 64 (2 ^ 64 - 1) = BitVec.allOnes 64 from by decide, BitVec.allOnes_xor]
  exact congrArg (fun y : BitVec 64 => some (AV.int .u64 (y.toNat : Int))) this
@[simp] theorem un_negU {x : BitVec 64} : aun .neg (u x) = some (u (-x)) := by
  rw [u, un_neg]
  congr 2
  rw [IntKind.wrap_u64, BitVec.toNat_neg]
  have := x.isLt
  omega
@[simp] theorem u_eql {t : TypeId} {x y : BitVec 64} : abin P K .eql t (u x) (u y) = some (.bool (decide (x = y))) := by
  simp only [u, bin_eql]; congr 2; simp [BitVec.toNat_eq]; omega
@[simp] theorem u_neq {t : TypeId} {x y : BitVec 64} : abin P K .neq t (u x) (u y) = some (.bool (!decide (x = y))) := by
  simp only [u, bin_neq]; congr 3; simp [BitVec.toNat_eq]; omega
@[simp] theorem u_lss {t : TypeId} {x y : BitVec 64} : abin P K .lss t (u x) (u y) = some (.bool (decide (x < y))) := by
  simp only [u, bin_lss]; congr 2; simp [BitVec.lt_def]
@[simp] theorem u_leq {t : TypeId} {x y : BitVec 64} : abin P K .leq t (u x) (u y) = some (.bool (decide (x ≤ y))) := by
  simp only [u, bin_leq]; congr 2; simp [BitVec.le_def]
@[simp] theorem u_gtr {t : TypeId} {x y : BitVec 64} : abin P K .gtr t (u x) (u y) = some (.bool (decide (y < x))) := by
  simp only [u, bin_gtr]; congr 2; simp [BitVec.lt_def]
@[simp] theorem u_geq {t : TypeId} {x y : BitVec 64} : abin P K .geq t (u x) (u y) = some (.bool (decide (y ≤ x))) := by
  simp only [u, bin_geq]; congr 2; simp [BitVec.le_def]
@[simp] theorem u_one {x : BitVec 64} : (u x).one = true := nr rfl
@[simp] theorem u_cells {x : BitVec 64} : (u x).cells = [u x] := nr rfl
@[simp] theorem u_fits {x : BitVec 64} : (Sc.i .u64).fits (u x) = true := nr rfl
@[simp] theorem u_scEq {x y : BitVec 64} : scEq (u x) (u y) = decide (x = y) := by
  simp only [u, scEq]
  by_cases h : x = y
  · simp [h]
  · have : ¬ x.toNat = y.toNat := fun e => h (BitVec.eq_of_toNat_eq e)
    simp [h]; omega
@[simp] theorem ofv_u64 {n : Int} (h0 : 0 ≤ n) (h1 : n < 18446744073709551616) : ofValue (.int .u64 n) = some (u (BitVec.ofInt 64 n)) := by rw [← u_ofInt h0 h1]; rfl
@[simp] theorem cvK_u64 {H : AHeap} {k : IntKind} {n : Int} : cvK H (.int k n) (.int .u64) = some (u (BitVec.ofInt 64 n), H) := by rw [cvK_int, u_wrap]
@[simp] theorem cvK_uu {H : AHeap} {x : BitVec 64} : cvK H (u x) (.int .u64) = some (u x, H) := by
  rw [u, cvK_u64, ofInt_toNat]; rfl
@[simp] theorem cvK_ui8 {H : AHeap} {x : BitVec 64} : cvK H (u x) (.int .i8) = some (.int .i8 (IntKind.i8.wrap (x.toNat : Int)), H) := nr rfl
@[simp] theorem cvK_i8 {H : AHeap} {k : IntKind} {n : Int} : cvK H (.int k n) (.int .i8) = some (.int .i8 (IntKind.i8.wrap n), H) := nr rfl
@[simp] theorem cvK_ui16 {H : AHeap} {x : BitVec 64} : cvK H (u x) (.int .i16) = some (.int .i16 (IntKind.i16.wrap (x.toNat : Int)), H) := nr rfl
@[simp] theorem cvK_i16 {H : AHeap} {k : IntKind} {n : Int} : cvK H (.int k n) (.int .i16) = some (.int .i16 (IntKind.i16.wrap n), H) := nr rfl
@[simp] theorem cvK_ui32 {H : AHeap} {x : BitVec 64} : cvK H (u x) (.int .i32) = some (.int .i32 (IntKind.i32.wrap (x.toNat : Int)), H) := nr rfl
@[simp] theorem cvK_i32 {H : AHeap} {k : IntKind} {n : Int} : cvK H (.int k n) (.int .i32) = some (.int .i32 (IntKind.i32.wrap n), H) := nr rfl
@[simp] theorem cvK_ui64 {H : AHeap} {x : BitVec 64} : cvK H (u x) (.int .i64) = some (.int .i64 (IntKind.i64.wrap (x.toNat : Int)), H) := nr rfl
@[simp] theorem cvK_i64 {H : AHeap} {k : IntKind} {n : Int} : cvK H (.int k n) (.int .i64) = some (.int .i64 (IntKind.i64.wrap n), H) := nr rfl
@[simp] theorem cvK_uu8 {H : AHeap} {x : BitVec 64} : cvK H (u x) (.int .u8) = some (.int .u8 (IntKind.u8.wrap (x.toNat : Int)), H) := nr rfl
@[simp] theorem cvK_u8 {H : AHeap} {k : IntKind} {n : Int} : cvK H (.int k n) (.int .u8) = some (.int .u8 (IntKind.u8.wrap n), H) := nr rfl
@[simp] theorem cvK_uu16 {H : AHeap} {x : BitVec 64} : cvK H (u x) (.int .u16) = some (.int .u16 (IntKind.u16.wrap (x.toNat : Int)), H) := nr rfl
@[simp] theorem cvK_u16 {H : AHeap} {k : IntKind} {n : Int} : cvK H (.int k n) (.int .u16) = some (.int .u16 (IntKind.u16.wrap n), H) := nr rfl
@[simp] theorem cvK_uu32 {H : AHeap} {x : BitVec 64} : cvK H (u x) (.int .u32) = some (.int .u32 (IntKind.u32.wrap (x.toNat : Int)), H) := nr rfl
@[simp] theorem cvK_u32 {H : AHeap} {k : IntKind} {n : Int} : cvK H (.int k n) (.int .u32) = some (.int .u32 (IntKind.u32.wrap n), H) := nr rfl
@[simp] theorem one_int {k : IntKind} {n : Int} : (AV.int k n).one = true := nr rfl
@[simp] theorem one_bool {b : Bool} : (AV.bool b).one = true := nr rfl
@[simp] theorem one_str {b : ByteArray} : (AV.str b).one = true := nr rfl
@[simp] theorem one_ptr {o k : Nat} : (AV.ptr o k).one = true := nr rfl
@[simp] theorem one_row {o a b c : Nat} {f : Bool} : (AV.row o a b c f).one = true := nr rfl
@[simp] theorem one_nils : AV.nils.one = true := nr rfl
@[simp] theorem one_map {o : Nat} : (AV.map o).one = true := nr rfl
@[simp] theorem allOne_nil : allOne [] = true := nr rfl
@[simp] theorem allOne_cons {a : AV} {l : List AV} : allOne (a :: l) = (a.one && allOne l) := nr rfl
@[simp] theorem cells_agg {l : List AV} : (AV.agg l).cells = l := nr rfl
@[simp] theorem cells_int {k : IntKind} {n : Int} : (AV.int k n).cells = [.int k n] := nr rfl
@[simp] theorem cells_bool {b : Bool} : (AV.bool b).cells = [.bool b] := nr rfl
@[simp] theorem cells_str {b : ByteArray} : (AV.str b).cells = [.str b] := nr rfl
@[simp] theorem cells_ptr {o k : Nat} : (AV.ptr o k).cells = [.ptr o k] := nr rfl
@[simp] theorem cells_row {o a b c : Nat} {f : Bool} : (AV.row o a b c f).cells = [.row o a b c f] := nr rfl
@[simp] theorem cells_nils : AV.nils.cells = [.nils] := nr rfl
@[simp] theorem cells_map {o : Nat} : (AV.map o).cells = [.map o] := nr rfl
@[simp] theorem conf_nil : conf [] [] = true := nr rfl
@[simp] theorem conf_cons {c : Sc} {s : List Sc} {a : AV} {l : List AV} : conf (c :: s) (a :: l) = (c.fits a && conf s l) := nr rfl
@[simp] theorem fits_int {k k' : IntKind} {n : Int} : (Sc.i k).fits (.int k' n) = decide (k = k') := nr rfl
@[simp] theorem fits_str {s : ByteArray} : Sc.s.fits (.str s) = true := nr rfl
@[simp] theorem fits_bool {b : Bool} : Sc.b.fits (.bool b) = true := nr rfl
@[simp] theorem scsEq_nil : scsEq [] [] = true := nr rfl
@[simp] theorem scsEq_cons {a b : AV} {l m : List AV} : scsEq (a :: l) (b :: m) = (scEq a b && scsEq l m) := nr rfl
@[simp] theorem scEq_int {k k' : IntKind} {a b : Int} : scEq (.int k a) (.int k' b) = decide (a = b) := by simp [scEq]; rfl
@[simp] theorem scEq_bool {a b : Bool} : scEq (.bool a) (.bool b) = (a == b) := nr rfl
@[simp] theorem scEq_str {a b : ByteArray} : scEq (.str a) (.str b) = decide (a = b) := nr rfl

/-- A small number's low bits. -/
theorem i64_and63 {i : Nat} : IntKind.i64.wrap (((BitVec.ofInt 64 (i : Int) &&& BitVec.ofInt 64 63).toNat : Nat) : Int) = ((i % 64 : Nat) : Int) := by
  have e : (BitVec.ofInt 64 (i : Int) &&& BitVec.ofInt 64 63).toNat = i % 64 := by
    rw [BitVec.toNat_and, BitVec.ofInt_natCast, show (BitVec.ofInt 64 63).toNat = 2 ^ 6 - 1 from by decide, BitVec.toNat_ofNat, Nat.and_two_pow_sub_one_eq_mod]
    omega
  rw [e, IntWalk.i64_in _ (by omega)]

/-- The low six bits. -/
def lo6 (i : Nat) : Nat := i % 64
@[simp high] theorem and63 {t : TypeId} {i : Nat} : abin P K .and t (.int .i64 (i : Int)) (.int .i64 63) = some (.int .i64 (lo6 i : Int)) := by
  rw [bin_and]
  exact congrArg (fun n => some (AV.int .i64 n)) i64_and63
@[simp] theorem bits_i64 : IntKind.i64.bits = 64 := nr rfl
@[simp] theorem bits_u64 : IntKind.u64.bits = 64 := nr rfl
@[simp] theorem bits_u8 : IntKind.u8.bits = 8 := nr rfl
@[simp] theorem bits_i32 : IntKind.i32.bits = 32 := nr rfl
@[simp] theorem bits_u32 : IntKind.u32.bits = 32 := nr rfl

@[simp] theorem i64w {n : Int} (h0 : -9223372036854775808 ≤ n) (h1 : n ≤ 9223372036854775807) : IntKind.i64.wrap n = n := IntWalk.i64_in n ⟨h0, h1⟩

end
end Go.Proofs.Ytghjglnebcpcmaa
/-! Words for stepwise proofs: what a call or a body comes to, the slots that a body leaves, loops with an invariant, what a call leaves of the heap. -/
namespace Go.Proofs.Ytghjglnebcpcmaa

section
variable {P : Program} {K : TypeId → Option (List Sc)} {C : Calling}

/-- A call comes to a value and a heap. -/
def Fp (r : Option (AV × AHeap)) (Q : AV → AHeap → Prop) : Prop := ∃ v H, r = some (v, H) ∧ Q v H
@[simp] theorem Fp_some {v : AV} {H : AHeap} {Q : AV → AHeap → Prop} : Fp (some (v, H)) Q = Q v H := propext ⟨fun ⟨_, _, h, k⟩ => by cases h; exact k, fun k => ⟨v, H, rfl, k⟩⟩
theorem Fp.mono {r : Option (AV × AHeap)} {Q Q' : AV → AHeap → Prop} (h : Fp r Q) (k : ∀ v H, Q v H → Q' v H) : Fp r Q' := by
  obtain ⟨v, H, h1, h2⟩ := h; exact ⟨v, H, h1, k v H h2⟩
/-- A body comes to a word, slots and a heap. -/
def Wp (r : Rn) (Q : AX → Env → AHeap → Prop) : Prop := ∃ x e H, r = some (x, e, H) ∧ Q x e H
@[simp] theorem Wp_some {x : AX} {e : Env} {H : AHeap} {Q : AX → Env → AHeap → Prop} : Wp (some (x, e, H)) Q = Q x e H := propext ⟨fun ⟨_, _, _, h, k⟩ => by cases h; exact k, fun k => ⟨x, e, H, rfl, k⟩⟩

/-- The slots that a body may write. -/
def defs : LCode → List Nat
  | .reg _ l => l.filterMap (·.dst)
  | .seq a b => defs a ++ defs b
  | .cond _ a b => defs a ++ defs b
  | .block _ b => defs b
  | .loop b => defs b
  | _ => []

theorem putO_ne {e : Env} {d : Option Nat} {v : Option AV} {t : Nat} (h : ∀ k, d = some k → t ≠ k) : (e.putO d v) t = e t := by
  unfold Env.putO
  split
  · rename_i hd; exact absurd rfl (h t hd)
  · rfl

theorem evL_env {q : List Nat} : ∀ {l : List LOp} {k : Nat} {e : Env} {H : AHeap} {e' : Env} {H' : AHeap}, evL P K C q k l e H = some (e', H') → ∀ t, t ∉ l.filterMap (·.dst) → e' t = e t
  | [], _, _, _, _, _, h, _, _ => by simp [evL] at h; rw [h.1]
  | ⟨d, none, g⟩ :: r, k, e, H, e', H', h, t, ht => by
    simp only [evL] at h
    have h1 := evL_env h t (fun hh => ht (by simp only [List.filterMap_cons]; split <;> simp_all))
    rw [h1]
    exact putO_ne (fun k hk hh => ht (by simp only [List.filterMap_cons, hk, hh]; simp))
  | ⟨d, some op, g⟩ :: r, k, e, H, e', H', h, t, ht => by
    simp only [evL, Option.bind_eq_some_iff] at h
    obtain ⟨w, _, h⟩ := h
    have hr : t ∉ r.filterMap (·.dst) := fun hh => ht (by simp only [List.filterMap_cons]; split <;> simp_all)
    have hd : ∀ k, d = some k → t ≠ k := fun k hk hh => ht (by simp only [List.filterMap_cons, hk, hh]; simp)
    split at h
    · simp only [Option.bind_eq_some_iff] at h
      obtain ⟨⟨v, H1⟩, _, h⟩ := h
      simp only at h
      split at h
      · cases h
      · rw [evL_env h t hr]; exact putO_ne hd
    · rw [evL_env h t hr]; exact putO_ne hd

theorem iter_env {F : Env → AHeap → Rn} {t : Nat} (hF : ∀ {e H x e' H'}, F e H = some (x, e', H') → e' t = e t) : ∀ {n : Nat} {e : Env} {H : AHeap} {x e' H'}, iter F n e H = some (x, e', H') → e' t = e t
  | 0, _, _, _, _, _, h => by simp [iter] at h
  | n + 1, e, H, x, e', H', h => by
    simp only [iter] at h
    cases hf : F e H with
    | none => rw [hf] at h; cases h
    | some y =>
      rw [hf] at h
      obtain ⟨y, e1, H1⟩ := y
      cases y with
      | normal => exact (iter_env hF h).trans (hF hf)
      | exit i => simp at h; rw [← h.2.1]; exact hF hf
      | ret => simp at h; rw [← h.2.1]; exact hF hf

theorem evalL_env : ∀ {c : LCode} {e : Env} {H : AHeap} {x : AX} {e' : Env} {H' : AHeap}, evalL P K C c e H = some (x, e', H') → ∀ t, t ∉ defs c → e' t = e t
  | .skip, _, _, _, _, _, h, _, _ => by simp [evalL] at h; rw [h.2.1]
  | .exit _, _, _, _, _, _, h, _, _ => by simp [evalL] at h; rw [h.2.1]
  | .ret, _, _, _, _, _, h, _, _ => by simp [evalL] at h; rw [h.2.1]
  | .bad, _, _, _, _, _, h, _, _ => by simp [evalL] at h
  | .reg q l, e, H, x, e', H', h, t, ht => by
    simp only [evalL, Option.map_eq_some_iff] at h
    obtain ⟨⟨e1, H1⟩, h1, h2⟩ := h
    simp at h2
    rw [← h2.2.1]
    exact evL_env h1 t ht
  | .seq a b, e, H, x, e', H', h, t, ht => by
    simp only [defs, List.mem_append, not_or] at ht
    simp only [evalL, Option.bind_eq_some_iff] at h
    obtain ⟨⟨y, e1, H1⟩, h1, h2⟩ := h
    have ha := evalL_env h1 t ht.1
    cases y with
    | normal => exact (evalL_env h2 t ht.2).trans ha
    | exit i => simp at h2; rw [← h2.2.1]; exact ha
    | ret => simp at h2; rw [← h2.2.1]; exact ha
  | .cond c a b, e, H, x, e', H', h, t, ht => by
    simp only [defs, List.mem_append, not_or] at ht
    simp only [evalL] at h
    split at h
    · split at h
      · exact evalL_env h t ht.1
      · exact evalL_env h t ht.2
    · cases h
  | .block id b, e, H, x, e', H', h, t, ht => by
    simp only [defs] at ht
    simp only [evalL, Option.map_eq_some_iff] at h
    obtain ⟨⟨y, e1, H1⟩, h1, h2⟩ := h
    have ha := evalL_env h1 t ht
    cases y <;> simp at h2 <;> (rw [← h2.2.1]; exact ha)
  | .loop b, e, H, x, e', H', h, t, ht => by
    simp only [defs] at ht
    simp only [evalL] at h
    obtain ⟨n, hn⟩ := loopLim_iff.1 h
    exact iter_env (fun h1 => evalL_env h1 t ht) hn

theorem loopL_env {b : LCode} {e : Env} {H : AHeap} {x : AX} {e' : Env} {H' : AHeap} (h : loopL P K C b e H = some (x, e', H')) (t : Nat) (ht : t ∉ defs b) : e' t = e t :=
  evalL_env (c := .loop b) (P := P) (K := K) (C := C) h t ht

/-- A loop, by an invariant with a number that falls; 'r' is what the loop comes to. Slots that the body doesn't write stay. -/
theorem loop_rule {b b' : LCode} (hb : b = b') {e : Env} {H : AHeap} {r : Rn} (hL : loopL P K C b e H = r) (I : Nat → Env → AHeap → Prop) (Q : AX → Env → AHeap → Prop) (n : Nat) (h0 : I n e H)
    (step : ∀ m e1 H1, (∀ t, t ∉ defs b → e1 t = e t) → I m e1 H1 → Wp (evalL P K C b' e1 H1) fun x e2 H2 => match x with
      | .normal => ∃ k, k < m ∧ I k e2 H2
      | x => Q x e2 H2) :
    ∃ x e' H', r = some (x, e', H') ∧ Q x e' H' ∧ ∀ t, t ∉ defs b → e' t = e t := by
  subst hb
  have main : ∀ n e1 H1, (∀ t, t ∉ defs b → e1 t = e t) → I n e1 H1 → ∃ x e' H', loopL P K C b e1 H1 = some (x, e', H') ∧ Q x e' H' ∧ ∀ t, t ∉ defs b → e' t = e t := by
    intro n
    induction n using Nat.strongRecOn with
    | ind n ih =>
      intro e1 H1 hf hi
      obtain ⟨x, e2, H2, h1, h2⟩ := step n e1 H1 hf hi
      have hf2 : ∀ t, t ∉ defs b → e2 t = e t := fun t ht => (evalL_env h1 t ht).trans (hf t ht)
      cases x with
      | normal =>
        obtain ⟨k, hk, h2⟩ := h2
        obtain ⟨x, e', H', h3, h4⟩ := ih k hk e2 H2 hf2 h2
        exact ⟨x, e', H', by rw [loopL_eq, h1]; exact h3, h4⟩
      | exit i => exact ⟨.exit i, e2, H2, by rw [loopL_eq, h1]; rfl, h2, hf2⟩
      | ret => exact ⟨.ret, e2, H2, by rw [loopL_eq, h1]; rfl, h2, hf2⟩
  obtain ⟨x, e', H', h1, h2, h3⟩ := main n e H (fun _ _ => rfl) h0
  exact ⟨x, e', H', by rw [← hL, h1], h2, h3⟩

/-- A loop that counts: its invariant holds of i, from a on, and it goes on while i is below n. -/
theorem loop_count {b b' : LCode} (hb : b = b') {e : Env} {H : AHeap} {r : Rn} (hL : loopL P K C b e H = r) (n : Nat) (I : Nat → Env → AHeap → Prop) (Q : AX → Env → AHeap → Prop) (a : Nat) (ha : a ≤ n) (h0 : I a e H)
    (step : ∀ i e1 H1, (∀ t, t ∉ defs b → e1 t = e t) → a ≤ i → i < n → I i e1 H1 → Wp (evalL P K C b' e1 H1) fun x e2 H2 => match x with
      | .normal => I (i + 1) e2 H2
      | x => Q x e2 H2)
    (stop : ∀ e1 H1, (∀ t, t ∉ defs b → e1 t = e t) → I n e1 H1 → Wp (evalL P K C b' e1 H1) fun x e2 H2 => match x with
      | .normal => False
      | x => Q x e2 H2) :
    ∃ x e' H', r = some (x, e', H') ∧ Q x e' H' ∧ ∀ t, t ∉ defs b → e' t = e t := by
  refine loop_rule hb hL (fun m e1 H1 => ∃ i, a ≤ i ∧ i ≤ n ∧ m = n - i ∧ I i e1 H1) Q (n - a) ⟨a, Nat.le_refl _, ha, rfl, h0⟩ ?_
  rintro m e1 H1 hf ⟨i, hai, hi, rfl, hI⟩
  by_cases hlt : i < n
  · obtain ⟨x, e2, H2, h1, h2⟩ := step i e1 H1 hf hai hlt hI
    refine ⟨x, e2, H2, h1, ?_⟩
    cases x with
    | normal => exact ⟨n - (i + 1), by omega, i + 1, by omega, by omega, rfl, h2⟩
    | exit i => exact h2
    | ret => exact h2
  · have : i = n := by omega
    subst this
    obtain ⟨x, e2, H2, h1, h2⟩ := stop e1 H1 hf hI
    refine ⟨x, e2, H2, h1, ?_⟩
    cases x with
    | normal => exact absurd h2 (by simp)
    | exit i => exact h2
    | ret => exact h2

/-! What is left of a heap: all but some objects. -/
structure Fr (F : List Nat) (H H' : AHeap) : Prop where
  size : H.size ≤ H'.size
  obj : ∀ o, o < H.size → o ∉ F → H'.obj o = H.obj o
  wr : ∀ o, o < H.size → o ∉ F → H'.wr o = H.wr o
theorem Fr.refl (F : List Nat) (H : AHeap) : Fr F H H := ⟨Nat.le_refl _, fun _ _ _ => rfl, fun _ _ _ => rfl⟩
theorem Fr.trans {F G : List Nat} {A B E : AHeap} (h : Fr F A B) (k : Fr G B E) (hG : ∀ o, o ∈ G → o ∈ F ∨ A.size ≤ o) : Fr F A E := by
  refine ⟨Nat.le_trans h.size k.size, fun o ho hF => ?_, fun o ho hF => ?_⟩
  · have hn : o ∉ G := fun hg => by rcases hG o hg with h1 | h1 <;> first | exact hF h1 | omega
    exact (k.obj o (Nat.lt_of_lt_of_le ho h.size) hn).trans (h.obj o ho hF)
  · have hn : o ∉ G := fun hg => by rcases hG o hg with h1 | h1 <;> first | exact hF h1 | omega
    exact (k.wr o (Nat.lt_of_lt_of_le ho h.size) hn).trans (h.wr o ho hF)
theorem Fr.weak {F G : List Nat} {A B : AHeap} (h : Fr F A B) (hG : ∀ o, o ∈ F → o ∈ G ∨ A.size ≤ o) : Fr G A B := (Fr.refl G A).trans h hG
theorem Keeps.fr {A B : AHeap} (h : Keeps A B) (F : List Nat) : Fr F A B := ⟨h.size, fun o ho _ => h.obj o ho, fun o ho _ => h.wr o ho⟩
theorem Fr.then {F : List Nat} {A B E : AHeap} (h : Fr F A B) (k : Keeps B E) : Fr F A E := h.trans (k.fr []) (by simp)
theorem Fr.set {F : List Nat} {A B : AHeap} (h : Fr F A B) {o : Nat} (ho : o ∈ F ∨ A.size ≤ o) (x : AObj) : Fr F A (B.set o x) :=
  ⟨h.size, fun k hk hF => by simp only [AHeap.set]; rw [if_neg (by rintro rfl; rcases ho with h1 | h1 <;> first | exact hF h1 | omega)]; exact h.obj k hk hF,
   fun k hk hF => by simp only [AHeap.set]; rw [if_neg (by rintro rfl; rcases ho with h1 | h1 <;> first | exact hF h1 | omega)]; exact h.wr k hk hF⟩
theorem Fr.new {F : List Nat} {A B : AHeap} (h : Fr F A B) (x : AObj) : Fr F A (B.new x) := h.then (Keeps.new B x)
theorem Fr.keeps {F : List Nat} {Z A B : AHeap} (h : Fr F A B) (k : Keeps Z A) (hF : ∀ o, o ∈ F → Z.size ≤ o) : Keeps Z B :=
  ⟨Nat.le_trans k.size h.size, fun o ho => (h.obj o (Nat.lt_of_lt_of_le ho k.size) (fun hh => by have := hF o hh; omega)).trans (k.obj o ho),
   fun o ho => (h.wr o (Nat.lt_of_lt_of_le ho k.size) (fun hh => by have := hF o hh; omega)).trans (k.wr o ho)⟩
theorem Fr.lt {F : List Nat} {A B : AHeap} (h : Fr F A B) {o : Nat} (ho : o < A.size) : o < B.size := Nat.lt_of_lt_of_le ho h.size
theorem Fr.none {A B : AHeap} (h : Fr [] A B) : Keeps A B := ⟨h.size, fun o ho => h.obj o ho (by simp), fun o ho => h.wr o ho (by simp)⟩

/-- A slice reads as it did where its object was let be. -/
theorem Reads.fr {F : List Nat} {A B : AHeap} {v : AV} {sz n : Nat} {cs : List AV} (h : Reads A v sz n cs) (k : Fr F A B) (hF : match v with
    | .row o _ _ _ _ => o ∉ F
    | _ => True) : Reads B v sz n cs := by
  obtain ⟨h1, h2, h3, h4⟩ := h
  refine ⟨h1, ?_, h3, ?_⟩
  · cases v <;> try exact h2
    rw [← h2]
    simp only [sliceCells, k.obj _ h4.2 hF]
  · cases v <;> try exact h4
    exact ⟨h4.1, Nat.lt_of_lt_of_le h4.2 k.size⟩

end
end Go.Proofs.Ytghjglnebcpcmaa
/-! Slices that grow, and small numbers: helpers for stepwise proofs. -/
namespace Go.Proofs.Ytghjglnebcpcmaa

section
variable {P : Program} {K : TypeId → Option (List Sc)} {C : Calling}

/-- The objects that a slice lies in. -/
def objs : AV → List Nat
  | .row o _ _ _ _ => [o]
  | _ => []
/-- A slice that may grow. -/
def grows : AV → Prop
  | .nils => True
  | .row .. => True
  | _ => False
@[simp] theorem objs_row {o a b c : Nat} {f : Bool} : objs (.row o a b c f) = [o] := nr rfl
@[simp] theorem objs_nils : objs .nils = [] := nr rfl
@[simp] theorem objs_lst {a b : Nat} {cs : List AV} : objs (.lst a b cs) = [] := nr rfl
@[simp] theorem grows_row {o a b c : Nat} {f : Bool} : grows (.row o a b c f) := trivial
@[simp] theorem grows_nils : grows .nils := trivial

theorem Reads.lt {H : AHeap} {v : AV} {sz n : Nat} {cs : List AV} (h : Reads H v sz n cs) {o : Nat} (ho : o ∈ objs v) : o < H.size := by
  have h4 := h.own
  cases v <;> first | (simp [objs] at ho; done) | skip
  simp at ho
  subst ho; exact h4.2

/-- A slice reads as it did where its objects were let be. -/
theorem Reads.frO {F : List Nat} {A B : AHeap} {v : AV} {sz n : Nat} {cs : List AV} (h : Reads A v sz n cs) (k : Fr F A B) (hF : ∀ o, o ∈ objs v → o ∉ F) : Reads B v sz n cs := by
  refine h.fr k ?_
  cases v <;> simp
  exact hF _ (by simp)

/-- Appended: something to what may grow. -/
theorem app_of {H : AHeap} {v w : AV} {sz by_ n m : Nat} {z cs new : List AV} {r : Option (AV × AHeap)} (hr : appU H v w (some (sz, by_, z)) = r) (h : Reads H v sz n cs) (hg : grows v) (hw : Reads H w sz m new) (hm : 0 < m) (hz : z.length = sz) (hs : 0 < sz) (h1 : (n + m) * by_ ≤ 140737488355328) (h2 : n + m ≤ 9223372036854775807) (h3 : allOne new = true) :
    ∃ H', r = some (.row H.size 0 sz (n + m) false, H') ∧ Fr (objs v) H H' ∧ H'.size = H.size + 1 ∧ H'.obj H.size = .cells (cs ++ new) ∧ Reads H' (.row H.size 0 sz (n + m) false) sz (n + m) (cs ++ new) := by
  obtain ⟨g1, g2, g3, g4⟩ := h
  obtain ⟨w1, w2, w3, w4⟩ := hw
  have hsz : (cs ++ new).length = (n + m) * sz := by rw [List.length_append, g3, w3, Nat.add_mul]
  subst hr
  simp only [appU, g1, g2, w1, w2, Option.bind_some]
  rw [if_neg (by omega), if_pos ⟨hz, w3, hs, g3, h1, h2, h3⟩]
  cases v <;> first | (exact hg.elim) | skip
  · simp [sliceLen] at g1
    simp [sliceCells] at g2
    subst g1; subst g2
    simp only [Nat.zero_add] at hsz ⊢
    exact ⟨_, rfl, (Keeps.new H _).fr _, rfl, by simp, Reads.row' (by simp) (by simp) (by simpa using hsz)⟩
  · obtain ⟨rfl, g4⟩ := g4
    rename_i o off n' full
    simp only [if_true]
    cases full with
    | true =>
      simp only [if_true]
      exact ⟨_, rfl, (Keeps.new H _).fr _, rfl, by simp, Reads.row' (by simp) (by simp) hsz⟩
    | false =>
      simp only [Bool.false_eq_true, if_false]
      refine ⟨_, rfl, ((Fr.refl _ H).set (.inl (by simp)) _).new _, rfl, ?_, Reads.row' (by simp) ?_ hsz⟩
      · simp
      · simp

/-- Appended: something, or nothing, to what may grow. -/
theorem app_any {H : AHeap} {v w : AV} {sz by_ n m : Nat} {z cs new : List AV} {r : Option (AV × AHeap)} (hr : appU H v w (some (sz, by_, z)) = r) (h : Reads H v sz n cs) (hg : grows v) (hw : Reads H w sz m new) (hz : z.length = sz) (hs : 0 < sz) (h1 : (n + m) * by_ ≤ 140737488355328) (h2 : n + m ≤ 9223372036854775807) (h3 : allOne new = true) :
    ∃ v' H', r = some (v', H') ∧ grows v' ∧ Fr (objs v) H H' ∧ (∀ o, o ∈ objs v' → o ∈ objs v ∨ o = H.size ∧ H'.size = H.size + 1) ∧ Reads H' v' sz (n + m) (cs ++ new) := by
  by_cases hm : m = 0
  · subst hm
    have : new = [] := List.eq_nil_of_length_eq_zero (by simpa using hw.size)
    subst this
    refine ⟨v, H, ?_, hg, Fr.refl _ _, fun o ho => .inl ho, by simpa using h⟩
    rw [← hr]
    simp only [appU, h.len, h.cells, hw.len, hw.cells, Option.bind_some]
    simp
  · obtain ⟨H', h1, h2, h3, h4, h5⟩ := app_of hr h hg hw (by omega) hz hs h1 h2 h3
    exact ⟨_, H', h1, by simp, h2, fun o ho => .inr ⟨by simpa using ho, h3⟩, h5⟩

/-- An element of several cells. -/
theorem Reads.atN {H : AHeap} {v : AV} {sz n : Nat} {cs : List AV} (h : Reads H v sz n cs) {t : TypeId} (hl : ldS P t = some (some sz)) {i : Nat} (hi : i < n) : aload P H t (ixp v sz i) = some (.agg ((cs.drop (i * sz)).take sz)) := by
  obtain ⟨h1, h2, h3, h4⟩ := h
  have hb : i * sz + sz ≤ n * sz := by
    have : (i + 1) * sz ≤ n * sz := Nat.mul_le_mul_right _ hi
    rw [Nat.add_mul] at this; omega
  cases v <;> first | (exact h4.elim) | skip
  · simp [sliceLen] at h1; omega
  · obtain ⟨rfl, _⟩ := h4
    simp [sliceLen] at h1
    subst h1
    unfold sliceCells at h2
    simp only at h2
    split at h2 <;> first | (cases h2; done) | skip
    rename_i all ho
    split at h2 <;> first | (cases h2; done) | skip
    rename_i hle
    cases h2
    simp only [ixp, aload_ptr, ho, loadO_cells, hl, ldK_many]
    rw [if_pos (by omega)]
    congr 2
    rw [List.drop_take, List.take_take, List.drop_drop, Nat.min_eq_left (by omega)]
  · have h4 : _ = sz := h4
    subst h4
    simp [sliceLen] at h1
    subst h1
    simp [sliceCells] at h2
    subst h2
    simp only [ixp, aload_ptrl, hl, ldK_many]
    rw [if_pos (by omega)]

/-- A field of an element. -/
theorem Reads.fld {H : AHeap} {v : AV} {sz n : Nat} {cs : List AV} (h : Reads H v sz n cs) {t : TypeId} (hl : ldS P t = some none) {i : Nat} (hi : i < n) {j : Nat} (hj : j < sz) :
    (match ixp v sz i with
      | .ptr o off => aload P H t (.ptr o (off + j))
      | .ptrl cs off => aload P H t (.ptrl cs (off + j))
      | _ => none) = cs[i * sz + j]? := by
  obtain ⟨h1, h2, h3, h4⟩ := h
  have hb : i * sz + sz ≤ n * sz := by
    have : (i + 1) * sz ≤ n * sz := Nat.mul_le_mul_right _ hi
    rw [Nat.add_mul] at this; omega
  cases v <;> first | (exact h4.elim) | skip
  · simp [sliceLen] at h1; omega
  · obtain ⟨rfl, _⟩ := h4
    simp [sliceLen] at h1
    subst h1
    unfold sliceCells at h2
    simp only at h2
    split at h2 <;> first | (cases h2; done) | skip
    rename_i all ho
    split at h2 <;> first | (cases h2; done) | skip
    cases h2
    simp only [ixp, aload_ptr, ho, loadO_cells, hl, ldK_one]
    rw [List.getElem?_take_of_lt (by omega), List.getElem?_drop, Nat.add_assoc]
  · have h4 : _ = sz := h4
    subst h4
    simp [sliceLen] at h1
    subst h1
    simp [sliceCells] at h2
    subst h2
    simp only [ixp, aload_ptrl, hl, ldK_one]

@[simp] theorem ne_size {H : AHeap} {o : Nat} (h : o < H.size) : (o = H.size) = False := by simp; omega
@[simp] theorem ne_size' {H : AHeap} {o : Nat} (h : o < H.size) : (H.size = o) = False := by simp; omega
@[simp] theorem ne_size1 {H : AHeap} {o n : Nat} (h : o < H.size) : (o = H.size + n) = False := by simp; omega
@[simp] theorem ne_size1' {H : AHeap} {o n : Nat} (h : o < H.size) : (H.size + n = o) = False := by simp; omega

@[simp] theorem fits_many {s : List Sc} {l : List AV} : (KSh.many s).fits (.agg l) = conf s l := nr rfl
@[simp] theorem fits_one {c : Sc} {a : AV} : (KSh.one c).fits a = c.fits a := nr rfl
@[simp] theorem lookU_some {ok : Bool} {z : AV} {x : AEnt} : lookU ok z (some x) = if ok = true then .tup [x.val, .bool true] else x.val := nr rfl
@[simp] theorem lookU_none {ok : Bool} {z : AV} : lookU ok z none = if ok = true then .tup [z, .bool false] else z := nr rfl

@[simp] theorem eqU_rn {o a b c : Nat} {f : Bool} : eqU .slice (.row o a b c f) .nils = some false := nr rfl
@[simp] theorem eqU_nr {o a b c : Nat} {f : Bool} : eqU .slice .nils (.row o a b c f) = some false := nr rfl
@[simp] theorem eqU_pn {o a : Nat} : eqU .ptr (.ptr o a) .nilp = some false := nr rfl
@[simp] theorem eqU_np {o a : Nat} : eqU .ptr .nilp (.ptr o a) = some false := nr rfl
@[simp] theorem eqU_pp : eqU .ptr .nilp .nilp = some true := nr rfl
@[simp] theorem eqU_mn {o : Nat} : eqU .map (.map o) .nilm = some false := nr rfl
@[simp] theorem eqU_mm : eqU .map .nilm .nilm = some true := nr rfl
@[simp] theorem eqU_fn {f : Fn} {a b : List AV} : eqU .func (.fn f a b) .nilf = some false := nr rfl
@[simp] theorem eqU_ff : eqU .func .nilf .nilf = some true := nr rfl
@[simp] theorem eqU_nn : eqU .slice .nils .nils = some true := nr rfl

@[simp] theorem nat_neg {n : Nat} : ((n : Int) < 0) = False := by simp
@[simp] theorem add_nn {a b : Int} (ha : 0 ≤ a) (hb : 0 ≤ b) : 0 ≤ a + b := by omega

/-! Small numbers. -/
@[simp high] theorem shr1 {t : TypeId} {k : IntKind} {a : Int} (hk : 1 ≤ k.bits) : abin P K .shr t (.int k a) (u 1#64) = some (.int k (a / 2)) := by
  rw [bin_shrU]
  have : min (1#64 : BitVec 64).toNat k.bits = 1 := by
    have : (1#64 : BitVec 64).toNat = 1 := by decide
    omega
  rw [this, Int.fdiv_eq_ediv_of_nonneg _ (by decide)]
  rfl

/-- A number with its lowest bit turned. -/
def flip1 (a : Int) : Int := if a % 2 = 0 then a + 1 else a - 1
theorem flip_nat (n : Nat) : n ^^^ 1 = if n % 2 = 0 then n + 1 else n - 1 := by
  have h1 : (n ^^^ 1) / 2 = n / 2 := by rw [Nat.xor_div_two]; simp
  have h2 : (n ^^^ 1) % 2 = (n + 1) % 2 := by
    have := Nat.xor_mod_two_pow (a := n) (b := 1) (n := 1)
    simp only [Nat.pow_one] at this
    rw [this]
    rcases Nat.mod_two_eq_zero_or_one n with h | h
    · rw [h, show (0 ^^^ 1 % 2 : Nat) = 1 from by decide]; omega
    · rw [h, show (1 ^^^ 1 % 2 : Nat) = 0 from by decide]; omega
  split <;> omega
theorem i64_toNat {a : Int} (h0 : -9223372036854775808 ≤ a) (h1 : a ≤ 9223372036854775807) : (BitVec.ofInt 64 a).toNat = (if 0 ≤ a then a.toNat else (a + 18446744073709551616).toNat) := by
  rw [BitVec.toNat_ofInt]
  split <;> omega
@[simp high] theorem xor1 {t : TypeId} {a : Int} (h0 : -9223372036854775808 ≤ a) (h1 : a ≤ 9223372036854775807) : abin P K .xor t (.int .i64 a) (.int .i64 1) = some (.int .i64 (flip1 a)) := by
  rw [bin_xor]
  have e : (BitVec.ofInt 64 a ^^^ BitVec.ofInt 64 1).toNat = (BitVec.ofInt 64 a).toNat ^^^ 1 := by rw [BitVec.toNat_xor]; rfl
  have e2 : IntKind.i64.wrap (((BitVec.ofInt IntKind.i64.bits a ^^^ BitVec.ofInt IntKind.i64.bits 1).toNat : Nat) : Int) = flip1 a := by
    show IntKind.i64.wrap (((BitVec.ofInt 64 a ^^^ BitVec.ofInt 64 1).toNat : Nat) : Int) = flip1 a
    rw [e, flip_nat, i64_toNat h0 h1, IntKind.wrap_i64]
    unfold flip1
    repeat' split
    all_goals omega
  rw [e2]
theorem and1_nat (n : Nat) : n &&& 1 = n % 2 := Nat.and_one_is_mod n
@[simp high] theorem and1 {t : TypeId} {a : Int} (h0 : -9223372036854775808 ≤ a) (h1 : a ≤ 9223372036854775807) : abin P K .and t (.int .i64 a) (.int .i64 1) = some (.int .i64 (a % 2)) := by
  rw [bin_and]
  have e : (BitVec.ofInt 64 a &&& BitVec.ofInt 64 1).toNat = (BitVec.ofInt 64 a).toNat &&& 1 := by rw [BitVec.toNat_and]; rfl
  have e2 : IntKind.i64.wrap (((BitVec.ofInt IntKind.i64.bits a &&& BitVec.ofInt IntKind.i64.bits 1).toNat : Nat) : Int) = a % 2 := by
    show IntKind.i64.wrap (((BitVec.ofInt 64 a &&& BitVec.ofInt 64 1).toNat : Nat) : Int) = a % 2
    rw [e, and1_nat, i64_toNat h0 h1, IntKind.wrap_i64]
    split <;> omega
  rw [e2]

end
end Go.Proofs.Ytghjglnebcpcmaa
/-! What a law's arguments read as: numbers, bools, texts, slices and structs of them. -/
namespace Go.Proofs.Ytghjglnebcpcmaa

section
variable {P : Program}

theorem tc_int {k : IntKind} {t : TypeId} (hu : P.underlying t = some (.int k)) {d : Nat} {cs : List AV} (h : TC P (d + 1) t cs) : ∃ n, cs = [.int k n] ∧ k.min ≤ n ∧ n ≤ k.max := by
  simpa only [TC, hu] using h
theorem tc_i64 {t : TypeId} (hu : P.underlying t = some (.int .i64)) {d : Nat} {cs : List AV} (h : TC P (d + 1) t cs) : ∃ n, cs = [.int .i64 n] ∧ -9223372036854775808 ≤ n ∧ n ≤ 9223372036854775807 := by
  obtain ⟨n, h1, h2, h3⟩ := tc_int hu h
  have m1 : IntKind.i64.min = -9223372036854775808 := by decide
  have m2 : IntKind.i64.max = 9223372036854775807 := by decide
  rw [m1] at h2
  rw [m2] at h3
  exact ⟨n, h1, h2, h3⟩
theorem tc_u64 {t : TypeId} (hu : P.underlying t = some (.int .u64)) {d : Nat} {cs : List AV} (h : TC P (d + 1) t cs) : ∃ x, cs = [u x] := by
  obtain ⟨n, h1, h2, h3⟩ := tc_int hu h
  have m1 : IntKind.u64.min = 0 := by decide
  have m2 : IntKind.u64.max = 18446744073709551615 := by decide
  rw [m1] at h2
  rw [m2] at h3
  exact ⟨BitVec.ofInt 64 n, by rw [h1, u_ofInt h2 (by omega)]⟩
theorem tc_bool {t : TypeId} (hu : P.underlying t = some .bool) {d : Nat} {cs : List AV} (h : TC P (d + 1) t cs) : ∃ b, cs = [.bool b] := by
  simpa only [TC, hu] using h
theorem tc_str {t : TypeId} (hu : P.underlying t = some .string) {d : Nat} {cs : List AV} (h : TC P (d + 1) t cs) : ∃ s : ByteArray, cs = [.str s] ∧ s.size ≤ 9223372036854775807 := by
  simpa only [TC, hu] using h
theorem tv_i64 {t : TypeId} (hu : P.underlying t = some (.int .i64)) {d : Nat} {a : AV} (h : TV P (d + 1) t a) : ∃ n, a = .int .i64 n ∧ -9223372036854775808 ≤ n ∧ n ≤ 9223372036854775807 := by
  unfold TV at h
  rw [hu] at h
  obtain ⟨n, h1, h2⟩ := tc_i64 hu h
  exact ⟨n, by simpa using h1, h2⟩
theorem tv_u64 {t : TypeId} (hu : P.underlying t = some (.int .u64)) {d : Nat} {a : AV} (h : TV P (d + 1) t a) : ∃ x, a = u x := by
  unfold TV at h
  rw [hu] at h
  obtain ⟨x, h1⟩ := tc_u64 hu h
  exact ⟨x, by simpa using h1⟩
theorem tv_boolV {t : TypeId} (hu : P.underlying t = some .bool) {d : Nat} {a : AV} (h : TV P (d + 1) t a) : ∃ b, a = .bool b := by
  unfold TV at h
  rw [hu] at h
  obtain ⟨b, h1⟩ := tc_bool hu h
  exact ⟨b, by simpa using h1⟩
theorem tv_str {t : TypeId} (hu : P.underlying t = some .string) {d : Nat} {a : AV} (h : TV P (d + 1) t a) : ∃ s : ByteArray, a = .str s ∧ s.size ≤ 9223372036854775807 := by
  unfold TV at h
  rw [hu] at h
  obtain ⟨s, h1, h2⟩ := tc_str hu h
  exact ⟨s, by simpa using h1, h2⟩
theorem tc_slice {t e : TypeId} (hu : P.underlying t = some (.slice e)) {d : Nat} {cs : List AV} (h : TC P (d + 1) t cs) :
    ∃ n ds, cs = [.lst (P.cellsOf e) n ds] ∧ ds.length = n * P.cellsOf e ∧ n ≤ 9223372036854775807 ∧ ∀ i, i < n → TC P d e ((ds.drop (i * P.cellsOf e)).take (P.cellsOf e)) := by
  simpa only [TC, hu] using h
theorem tv_slice {t e : TypeId} (hu : P.underlying t = some (.slice e)) {d : Nat} {a : AV} (h : TV P (d + 1) t a) :
    ∃ n ds, a = .lst (P.cellsOf e) n ds ∧ ds.length = n * P.cellsOf e ∧ n ≤ 9223372036854775807 ∧ ∀ i, i < n → TC P d e ((ds.drop (i * P.cellsOf e)).take (P.cellsOf e)) := by
  unfold TV at h
  rw [hu] at h
  obtain ⟨n, ds, h1, h2⟩ := tc_slice hu h
  exact ⟨n, ds, by simpa using h1, h2⟩
theorem tc_struct {t : TypeId} {fs : Array Field} (hu : P.underlying t = some (.struct fs)) {d : Nat} {cs : List AV} (h : TC P (d + 1) t cs) : cs.length = P.cellsOf t ∧ ∀ f ∈ fs.toList, TC P d f.type ((cs.drop f.offset).take (P.cellsOf f.type)) := by
  simpa only [TC, hu] using h
theorem tv_struct {t : TypeId} {fs : Array Field} (hu : P.underlying t = some (.struct fs)) {d : Nat} {a : AV} (h : TV P d t a) : ∃ cs, a = .agg cs ∧ TC P d t cs := by
  unfold TV at h
  rw [hu] at h
  exact h

/-- Rows of cells that are told piece by piece. -/
theorem chunks {α : Type} (f : α → List AV) (Q : α → Prop) {sz : Nat} (hf : ∀ s, (f s).length = sz) : ∀ {n : Nat} {ds : List AV}, ds.length = n * sz → (∀ i, i < n → ∃ s, Q s ∧ (ds.drop (i * sz)).take sz = f s) → ∃ ss : List α, ds = ss.flatMap f ∧ ss.length = n ∧ ∀ s, s ∈ ss → Q s
  | 0, ds, h, _ => by
    have : ds = [] := List.eq_nil_of_length_eq_zero (by simpa using h)
    subst this
    exact ⟨[], rfl, rfl, by simp⟩
  | n + 1, ds, h, hp => by
    obtain ⟨s, hq, hs⟩ := hp 0 (by omega)
    simp only [Nat.zero_mul, List.drop_zero] at hs
    have hl : ds.length = n * sz + sz := by rw [h, Nat.add_mul]; omega
    obtain ⟨ss, h1, h2, h3⟩ := chunks f Q hf (n := n) (ds := ds.drop sz) (by rw [List.length_drop]; omega) fun i hi => by
      obtain ⟨s, hq, hs⟩ := hp (i + 1) (by omega)
      refine ⟨s, hq, ?_⟩
      rw [List.drop_drop, show sz + i * sz = (i + 1) * sz from by rw [Nat.add_mul]; omega]
      exact hs
    refine ⟨s :: ss, ?_, by simp [h2], fun x hx => ?_⟩
    · rw [List.flatMap_cons, ← h1, ← hs, List.take_append_drop]
    · rcases List.mem_cons.1 hx with rfl | hx
      · exact hq
      · exact h3 x hx

end
end Go.Proofs.Ytghjglnebcpcmaa
