/- What a call's arguments read as: abstract values whose cells are never written; and from the interpreter's word on a law to the machine's call. -/
import Derived.Test.YtphkkcocimmmfaaAL15
import Derived.Carry
import Derived.ChangeOld
import Derived.WideShapes
namespace Go.Proofs.Ytphkkcocimmmfaa
open Go.RowKit

section
variable {P : Program} {K : TypeId → Option (List Sc)}

/-- Cells of a value of a type. -/
def TC (P : Program) : Nat → TypeId → List AV → Prop
  | 0, _, _ => False
  | d + 1, t, cs => match P.underlying t with
    | some .bool => ∃ b, cs = [.bool b]
    | some (.int k) => ∃ n, cs = [.int k n] ∧ k.min ≤ n ∧ n ≤ k.max
    | some .string => ∃ s, cs = [.str s] ∧ s.size ≤ 9223372036854775807
    | some (.slice e) => ∃ n ds, cs = [.lst (P.cellsOf e) n ds] ∧ ds.length = n * P.cellsOf e ∧ n ≤ 9223372036854775807 ∧ ∀ i, i < n → TC P d e ((ds.drop (i * P.cellsOf e)).take (P.cellsOf e))
    | some (.struct fs) => cs.length = P.cellsOf t ∧ ∀ f ∈ fs.toList, TC P d f.type ((cs.drop f.offset).take (P.cellsOf f.type))
    | some (.array n e) => cs.length = P.cellsOf t ∧ ∀ i, i < n → TC P d e ((cs.drop (i * P.cellsOf e)).take (P.cellsOf e))
    | _ => False

def consec (P : Program) : Nat → List Field → Nat → Bool
  | k, [], m => decide (k = m)
  | k, f :: fs, m => decide (f.offset = k) && consec P (k + P.cellsOf f.type) fs m

/-- Types of plain data: no pointers, maps, functions, interfaces. -/
def plainT (P : Program) : Nat → TypeId → Bool
  | 0, _ => false
  | d + 1, t => match P.underlying t with
    | some .bool => true
    | some (.int _) => true
    | some .string => true
    | some (.slice e) => decide (0 < P.cellsOf e) && plainT P d e
    | some (.struct fs) => consec P 0 fs.toList (P.cellsOf t) && fs.toList.all fun f => plainT P d f.type
    | some (.array n e) => decide (P.cellsOf t = n * P.cellsOf e) && plainT P d e
    | _ => false

/-- Before the call: nothing of the call's own. -/
def start (w : World) : St := ⟨fun _ => (0, 0), ⟨0, fun _ => .dead, fun _ => 0⟩, w⟩
def H0 : AHeap := ⟨0, fun _ => .dead, fun _ => 0⟩

theorem start_sim (w : World) : Sim (start w) := ⟨fun o ho => absurd ho (Nat.not_lt_zero _), fun o o' ho => absurd ho (Nat.not_lt_zero _), fun o ho => absurd ho (Nat.not_lt_zero _)⟩
theorem start_free (w : World) (b : Nat) : ¬ (start w).owned b := by rintro ⟨o, ho, _⟩; exact absurd ho (Nat.not_lt_zero _)

theorem mapM_get {α β : Type} {f : α → Option β} : ∀ {l : List α} {r : List β}, l.mapM f = some r → ∀ {i : Nat} {x : α}, l[i]? = some x → ∃ y, r[i]? = some y ∧ f x = some y := by
  intro l
  induction l with
  | nil => intro r _ i x hx; simp at hx
  | cons a l ih =>
    intro r h i x hx
    rw [List.mapM_cons] at h
    cases ha : f a with
    | none => simp [ha] at h
    | some b =>
      cases hl : l.mapM f with
      | none => simp [ha, hl] at h
      | some bs =>
        simp [ha, hl] at h
        subst h
        cases i with
        | zero => simp at hx; subst hx; exact ⟨b, by simp, ha⟩
        | succ i => simp at hx; obtain ⟨y, hy, hf⟩ := ih hl hx; exact ⟨y, by simpa using hy, hf⟩

theorem mapM_len {α β : Type} {f : α → Option β} : ∀ {l : List α} {r : List β}, l.mapM f = some r → r.length = l.length := by
  intro l
  induction l with
  | nil => intro r h; simp at h; subst h; rfl
  | cons a l ih =>
    intro r h
    rw [List.mapM_cons] at h
    cases ha : f a with
    | none => simp [ha] at h
    | some b =>
      cases hl : l.mapM f with
      | none => simp [ha, hl] at h
      | some bs => simp [ha, hl] at h; subst h; simp [ih hl]

/-- Parts that lie one behind the other are put together. -/
theorem joined {S : St} {sz : Nat} {T : List AV → Prop} {R : Nat → Value → Prop} : ∀ {n : Nat}, (∀ i, i < n → ∃ as vs, VRs S as vs ∧ as.length = sz ∧ T as ∧ ∀ j v, vs[j]? = some v → R (i * sz + j) v) →
    ∃ ds xs, VRs S ds xs ∧ ds.length = n * sz ∧ (∀ i, i < n → T ((ds.drop (i * sz)).take sz)) ∧ ∀ j v, xs[j]? = some v → R j v
  | 0, _ => ⟨[], [], .nil, by simp, fun i hi => absurd hi (Nat.not_lt_zero _), fun j v h => by simp at h⟩
  | n + 1, h => by
    obtain ⟨ds, xs, h1, h2, h3, h4⟩ := joined (n := n) fun i hi => h i (by omega)
    obtain ⟨as, vs, g1, g2, g3, g4⟩ := h n (by omega)
    have hlen := h1.length
    refine ⟨ds ++ as, xs ++ vs, h1.append g1, by rw [List.length_append, h2, g2, Nat.add_mul]; omega, fun i hi => ?_, fun j v hj => ?_⟩
    · by_cases hin : i < n
      · have hle : i * sz + sz ≤ n * sz := by
          have := Nat.mul_le_mul_right sz (show i + 1 ≤ n by omega)
          rw [Nat.add_mul] at this; omega
        rw [List.drop_append_of_le_length (by omega), List.take_append_of_le_length (by rw [List.length_drop]; omega)]
        exact h3 i hin
      · have : i = n := by omega
        subst this
        rw [← h2, List.drop_left, ← g2, List.take_length]
        exact g3
    · by_cases hj' : j < xs.length
      · rw [List.getElem?_append_left hj'] at hj
        exact h4 j v hj
      · rw [List.getElem?_append_right (by omega)] at hj
        have := g4 _ v hj
        rw [show n * sz + (j - xs.length) = j from by omega] at this
        exact this

theorem cells?_get {w : World} {base : Nat} {a : Addr} {n : Nat} {vs : List Value} (h : w.cells? base a n = some vs) : vs.length = n ∧ ∀ j v, vs[j]? = some v → w.cell? (a.add j) = some v := by
  unfold World.cells? at h
  split at h <;> first | (cases h; done) | skip
  have hl := mapM_len h
  refine ⟨by simpa using hl, fun j v hj => ?_⟩
  have hlt : j < n := by have := (List.getElem?_eq_some_iff.1 hj).1; simp at hl; omega
  obtain ⟨y, hy, hf⟩ := mapM_get h (i := j) (x := j) (by simp [hlt])
  rw [hj] at hy; cases hy
  exact hf

theorem cell?_spot {w : World} {a : Addr} {v : Value} (h : w.cell? a = some v) : a.spot = none ∧ a.block < w.heap.size := by
  refine ⟨?_, World.block_lt_of_cell? w a h⟩
  unfold World.cell? at h
  split at h
  · cases hs : a.spot with
    | none => rfl
    | some s => simp [hs] at h
  · cases h

theorem consec_parts {S : St} {T : Field → List AV → Prop} {cs : List Value} {m : Nat} (hm : cs.length = m) : ∀ {fs : List Field} {k : Nat}, consec P k fs m = true →
    (∀ f ∈ fs, ∃ as, VRs S as ((cs.drop f.offset).take (P.cellsOf f.type)) ∧ as.length = P.cellsOf f.type ∧ T f as) →
    ∃ ds, VRs S ds (cs.drop k) ∧ k ≤ m ∧ ds.length = m - k ∧ ∀ f ∈ fs, k ≤ f.offset ∧ T f ((ds.drop (f.offset - k)).take (P.cellsOf f.type))
  | [], k, h, _ => by
    simp [consec] at h
    subst h
    refine ⟨[], ?_, Nat.le_refl _, by simp, by simp⟩
    rw [List.drop_of_length_le (by omega)]
    exact .nil
  | f :: fs, k, h, hp => by
    simp only [consec, Bool.and_eq_true, decide_eq_true_eq] at h
    obtain ⟨h1, h2⟩ := h
    obtain ⟨ds, g1, g2, g3, g4⟩ := consec_parts hm h2 (fun f' hf' => hp f' (by simp [hf']))
    obtain ⟨as, a1, a2, a3⟩ := hp f (by simp)
    rw [h1] at a1
    refine ⟨as ++ ds, ?_, by omega, by rw [List.length_append]; omega, fun f' hf' => ?_⟩
    · have := a1.append g1
      rw [← List.drop_drop, List.take_append_drop] at this
      exact this
    · rcases List.mem_cons.1 hf' with rfl | hf'
      · refine ⟨by omega, ?_⟩
        rw [show f'.offset - k = 0 from by omega, List.drop_zero, ← a2, List.take_left]
        exact a3
      · obtain ⟨b1, b2⟩ := g4 f' hf'
        refine ⟨by omega, ?_⟩
        rw [show f'.offset - k = as.length + (f'.offset - (k + P.cellsOf f.type)) from by omega, List.drop_append]
        have e0 : List.drop (as.length + (f'.offset - (k + P.cellsOf f.type))) as = [] := List.drop_of_length_le (by omega)
        rw [e0, List.nil_append, show as.length + (f'.offset - (k + P.cellsOf f.type)) - as.length = f'.offset - (k + P.cellsOf f.type) from by omega]
        exact b2

/-- A reading is an abstract value of the type. -/
theorem trod_sound {H : Type} {enc : TypeId × Value → H} {w : World} {spare : Nat → Bool} {held : Bool} : ∀ (d : Nat) (n : Nat) (t : TypeId) (cs : List Value) (x : DataW H × List MemPlace), plainT P d t = true → DataW.trod enc P w 0 spare held n t cs = some x → ∃ as, VRs (start w) as cs ∧ TC P d t as
  | 0, _, _, _, _, hp, _ => by simp [plainT] at hp
  | d + 1, 0, _, _, _, _, h => by simp [DataW.trod] at h
  | d + 1, n + 1, t, cs, x, hp, h => by
    rw [DataW.trod_step] at h
    unfold DataW.trodStep at h
    unfold plainT at hp
    unfold TC
    split at hp <;> first | (cases hp; done) | skip
    · rename_i hu
      rw [hu] at h
      simp only [] at h
      split at h
      all_goals (try (cases h; done))
      all_goals (try (rename_i heq; cases heq; done))
      all_goals (try (rename_i heq _; cases heq; done))
      all_goals (try (rename_i heq _ _; cases heq; done))
      exact ⟨_, .cons _ _ _ _ (.bool _) .nil, _, rfl⟩
    · rename_i k hu
      rw [hu] at h
      simp only [] at h
      split at h
      all_goals (try (cases h; done))
      all_goals (try (rename_i heq; cases heq; done))
      all_goals (try (rename_i heq _; cases heq; done))
      all_goals (try (rename_i heq _ _; cases heq; done))
      rename_i heq
      cases heq
      split at h <;> first | (cases h; done) | skip
      rename_i hc
      obtain ⟨rfl, hwf⟩ := hc
      simp only [Lit.wf, Bool.and_eq_true, decide_eq_true_eq] at hwf
      exact ⟨_, .cons _ _ _ _ (.int _ _) .nil, _, rfl, hwf.1, hwf.2⟩
    · rename_i hu
      rw [hu] at h
      simp only [] at h
      split at h
      all_goals (try (cases h; done))
      all_goals (try (rename_i heq; cases heq; done))
      all_goals (try (rename_i heq _; cases heq; done))
      all_goals (try (rename_i heq _ _; cases heq; done))
      split at h <;> first | (cases h; done) | skip
      rename_i hs
      exact ⟨_, .cons _ _ _ _ (.str _) .nil, _, rfl, by simp only [maxLen] at hs; omega⟩
    · rename_i e hu
      simp only [Bool.and_eq_true, decide_eq_true_eq] at hp
      obtain ⟨hpos, hpe⟩ := hp
      rw [hu] at h
      simp only [] at h
      split at h
      all_goals (try (cases h; done))
      all_goals (try (rename_i heq; cases heq; done))
      all_goals (try (rename_i heq _; cases heq; done))
      all_goals (try (rename_i heq _ _; cases heq; done))
      · exact ⟨[.lst (P.cellsOf e) 0 []], .cons _ _ _ _ (.lst0 _ _ _) .nil, 0, [], rfl, by simp, by omega, fun i hi => absurd hi (Nat.not_lt_zero _)⟩
      · rename_i a len cap heq
        cases heq
        split at h <;> first | (cases h; done) | skip
        rename_i hc
        simp only [Option.bind_eq_some_iff] at h
        obtain ⟨elems, hel, _⟩ := h
        have hm : len ≤ 9223372036854775807 := by have := hc.2.2; simp only [maxLen] at this; omega
        by_cases h0 : len = 0
        · subst h0
          exact ⟨[.lst (P.cellsOf e) 0 []], .cons _ _ _ _ (.lst0 _ _ _) .nil, 0, [], rfl, by simp, by omega, fun i hi => absurd hi (Nat.not_lt_zero _)⟩
        · have hparts : ∀ i, i < len → ∃ vs y, w.cells? 0 (a.add (i * P.cellsOf e)) (P.cellsOf e) = some vs ∧ DataW.trod enc P w 0 spare held n e vs = some y := by
            intro i hi
            obtain ⟨y, _, hy⟩ := mapM_get hel (i := i) (x := i) (by simp [hi])
            simp only [Option.bind_eq_some_iff] at hy
            obtain ⟨vs, hvs, hy⟩ := hy
            exact ⟨vs, y, hvs, hy⟩
          obtain ⟨vs0, _, hv0, _⟩ := hparts 0 (by omega)
          obtain ⟨l0, c0⟩ := cells?_get hv0
          have hfirst : ∃ v, vs0[0]? = some v := ⟨vs0[0]'(by omega), by simp⟩
          obtain ⟨v0, hv0'⟩ := hfirst
          have hcell0 := c0 0 v0 hv0'
          have hspot := cell?_spot hcell0
          obtain ⟨b, off, spot⟩ := a
          have hsp : spot = none := by simpa [Addr.add] using hspot.1
          subst hsp
          have hb : b < w.heap.size := by simpa [Addr.add] using hspot.2
          obtain ⟨ds, xs, g1, g2, g3, g4⟩ := joined (S := start w) (sz := P.cellsOf e) (T := TC P d e) (R := fun j v => w.cell? ⟨b, off + j, none⟩ = some v) (n := len) (by
            intro i hi
            obtain ⟨vs, y, hvs, hy⟩ := hparts i hi
            obtain ⟨as, q1, q2⟩ := trod_sound d n e vs y hpe hy
            obtain ⟨l1, c1⟩ := cells?_get hvs
            refine ⟨as, vs, q1, by rw [q1.length, l1], q2, fun j v hj => ?_⟩
            have := c1 j v hj
            rw [add_plain, add_plain] at this
            rw [← Nat.add_assoc]
            exact this)
          refine ⟨[.lst (P.cellsOf e) len ds], .cons _ _ _ _ (.lst _ _ _ _ b off xs g1 g2 hb (start_free w b) g4 hc.2.1) .nil, len, ds, rfl, g2, hm, g3⟩
    · rename_i fs hu
      simp only [Bool.and_eq_true] at hp
      obtain ⟨hcon, hall⟩ := hp
      rw [hu] at h
      simp only [] at h
      split at h
      all_goals (try (cases h; done))
      all_goals (try (rename_i heq; cases heq; done))
      all_goals (try (rename_i heq _; cases heq; done))
      all_goals (try (rename_i heq _ _; cases heq; done))
      rename_i hl
      simp only [Option.map_eq_some_iff] at h
      obtain ⟨xs, hxs, _⟩ := h
      rw [List.all_eq_true] at hall
      obtain ⟨ds, g1, g2, g3, g4⟩ := consec_parts (P := P) (S := start w) (T := fun f as => TC P d f.type as) hl hcon (by
        intro f hf
        obtain ⟨i, hi, he⟩ := List.getElem_of_mem hf
        obtain ⟨y, _, hy⟩ := mapM_get hxs (i := i) (x := f) (by rw [← he]; simp)
        obtain ⟨as, q1, q2⟩ := trod_sound d n f.type _ y (hall f hf) hy
        refine ⟨as, q1, ?_, q2⟩
        have hlen := q1.length
        rw [hlen]
        -- the part lies within
        have key : ∀ {gs : List Field} {k : Nat}, consec P k gs (P.cellsOf t) = true → (∀ g ∈ gs, k ≤ g.offset ∧ g.offset + P.cellsOf g.type ≤ P.cellsOf t) ∧ k ≤ P.cellsOf t := by
          intro gs
          induction gs with
          | nil => intro k hk; simp [consec] at hk; exact ⟨by simp, by omega⟩
          | cons g gs ih =>
            intro k hk
            simp only [consec, Bool.and_eq_true, decide_eq_true_eq] at hk
            obtain ⟨i1, i2⟩ := ih hk.2
            refine ⟨fun g' hg' => ?_, by omega⟩
            rcases List.mem_cons.1 hg' with rfl | hg'
            · exact ⟨by omega, by omega⟩
            · have := i1 g' hg'; exact ⟨by omega, this.2⟩
        have := (key hcon).1 f hf
        simp only [List.length_take, List.length_drop]
        omega)
      simp only [List.drop_zero, Nat.sub_zero] at g1 g3 g4
      exact ⟨ds, g1, g3, fun f hf => (g4 f hf).2⟩
    · rename_i k e hu
      simp only [Bool.and_eq_true, decide_eq_true_eq] at hp
      obtain ⟨hsz, hpe⟩ := hp
      rw [hu] at h
      simp only [] at h
      split at h
      all_goals (try (cases h; done))
      all_goals (try (rename_i heq; cases heq; done))
      all_goals (try (rename_i heq _; cases heq; done))
      all_goals (try (rename_i heq _ _; cases heq; done))
      rename_i hl
      simp only [Option.map_eq_some_iff] at h
      obtain ⟨xs, hxs, _⟩ := h
      obtain ⟨ds, ys, g1, g2, g3, g4⟩ := joined (S := start w) (sz := P.cellsOf e) (T := TC P d e) (R := fun j v => cs[j]? = some v) (n := k) (by
        intro i hi
        obtain ⟨y, _, hy⟩ := mapM_get hxs (i := i) (x := i) (by simp [hi])
        obtain ⟨as, q1, q2⟩ := trod_sound d n e _ y hpe hy
        have hle : i * P.cellsOf e + P.cellsOf e ≤ k * P.cellsOf e := by
          have := Nat.mul_le_mul_right (P.cellsOf e) (show i + 1 ≤ k by omega)
          rw [Nat.add_mul] at this; omega
        refine ⟨as, _, q1, by rw [q1.length]; simp; omega, q2, fun j v hj => ?_⟩
        rw [List.getElem?_take] at hj
        split at hj
        · rw [List.getElem?_drop] at hj; exact hj
        · cases hj)
      have hys : ys = cs := by
        apply List.ext_getElem?
        intro j
        have hyl := g1.length
        by_cases hj : j < ys.length
        · have : ys[j]? = some ys[j] := by simp [hj]
          rw [this, g4 j _ this]
        · rw [List.getElem?_eq_none (by omega), List.getElem?_eq_none (by omega)]
      rw [hys] at g1
      exact ⟨ds, g1, by rw [g2, hsz], g3⟩

/-- An argument's abstract value, of the type that the function asks for. -/
def TV (P : Program) (d : Nat) (t : TypeId) (a : AV) : Prop :=
  match P.underlying t with
  | some (.struct _) => ∃ cs, a = .agg cs ∧ TC P d t cs
  | some (.array _ _) => ∃ cs, a = .agg cs ∧ TC P d t cs
  | _ => TC P d t [a]

theorem arg_sound {H : Type} {enc : TypeId × Value → H} {w : World} {d : Nat} {t : TypeId} {v : Value} {x : DataW H} {ps : List MemPlace} {base : Nat} (hp : plainT P d t = true) (h : DataW.Trod enc P w 0 (fun _ => true) true t v x ps) (hok : Value.okWide P w .any base t v) : ∃ a, VR (start w) a v ∧ TV P d t a := by
  obtain ⟨n, h⟩ := h
  obtain ⟨as, h1, h2⟩ := trod_sound d n t _ _ hp h
  have one : v.cells.toList = [v] → (∀ fs, P.underlying t ≠ some (.struct fs)) → (∀ n e, P.underlying t ≠ some (.array n e)) → ∃ a, VR (start w) a v ∧ TV P d t a := by
    intro hone h3 h4
    rw [hone] at h1
    cases h1 with
    | cons a _ _ _ ha hn =>
      cases hn
      refine ⟨a, ha, ?_⟩
      unfold TV
      split
      · rename_i hu; exact (h3 _ hu).elim
      · rename_i hu; exact (h4 _ _ hu).elim
      · exact h2
  cases d with
  | zero => simp [plainT] at hp
  | succ d =>
    have hp' := hp
    unfold plainT at hp'
    split at hp' <;> first | (cases hp'; done) | skip
    · rename_i hu
      obtain ⟨b, rfl⟩ := WideShapes.okWide_bool hu hok
      exact one rfl (by rw [hu]; simp) (by rw [hu]; simp)
    · rename_i hu
      obtain ⟨b, rfl⟩ := WideShapes.okWide_int hu hok
      exact one rfl (by rw [hu]; simp) (by rw [hu]; simp)
    · rename_i hu
      obtain ⟨b, rfl⟩ := WideShapes.okWide_string hu hok
      exact one rfl (by rw [hu]; simp) (by rw [hu]; simp)
    · rename_i hu
      obtain ⟨_, _, _, rfl⟩ := WideShapes.okWide_slice hu hok
      exact one rfl (by rw [hu]; simp) (by rw [hu]; simp)
    · rename_i fs hu
      obtain ⟨cs, rfl, _⟩ := WideShapes.okWide_struct hu hok
      refine ⟨.agg as, by have := VR.agg (S := start w) as _ h1; simpa [Value.cells] using this, ?_⟩
      unfold TV
      rw [hu]
      exact ⟨as, rfl, h2⟩
    · rename_i k e hu
      unfold Value.okWide at hok
      rw [hu] at hok
      obtain ⟨cs, rfl, _⟩ := hok
      refine ⟨.agg as, by have := VR.agg (S := start w) as _ h1; simpa [Value.cells] using this, ?_⟩
      unfold TV
      rw [hu]
      exact ⟨as, rfl, h2⟩

/-- From the interpreter's word on a law to the machine's call. -/
theorem law_calls {D : Quiets} (hG : Good P K) {f : FuncId} {as : List AV} {v : AV} {H' : AHeap} (h : runs P K D f as H0 = some (v, H')) {w : World} {vs : List Value} (hv : VRs (start w) as vs) {b : Bool} (hb : v = .bool b) :
    Calls P f vs.toArray w fun e w' => e = .returned (.bool b) ∧ Below w.heap.size w w' := by
  subst hb
  obtain ⟨_, hc⟩ := runs_ok hG f as H0 _ H' h
  refine (hc (start w) vs (start_sim w) rfl hv).mono ?_
  rintro e w' ⟨T, x, rfl, rfl, _, _, hE, hx⟩
  cases hx
  exact ⟨rfl, hE.os, hE.tape, hE.output, hE.size, fun k hk => (hE.other k hk (start_free w k)).1⟩

end
end Go.Proofs.Ytphkkcocimmmfaa
