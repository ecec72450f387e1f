/- Words for stepwise proofs: what a call or a body comes to, the slots that a body leaves, loops with an invariant, what a call leaves of the heap. -/
import Derived.Test.YtphkkcocimmmfaaAL20
namespace Go.Proofs.Ytphkkcocimmmfaa

section
variable {P : Program} {K : TypeId → Option (List Sc)} {C : Calling}

/-- A call comes to a value and a heap. -/
def Fp (r : Option (AV × AHeap)) (Q : AV → AHeap → Prop) : Prop := ∃ v H, r = some (v, H) ∧ Q v H
@[simp] theorem Fp_some {v : AV} {H : AHeap} {Q : AV → AHeap → Prop} : Fp (some (v, H)) Q = Q v H := propext ⟨fun ⟨_, _, h, k⟩ => by cases h; exact k, fun k => ⟨v, H, rfl, k⟩⟩
theorem Fp.mono {r : Option (AV × AHeap)} {Q Q' : AV → AHeap → Prop} (h : Fp r Q) (k : ∀ v H, Q v H → Q' v H) : Fp r Q' := by
  obtain ⟨v, H, h1, h2⟩ := h; exact ⟨v, H, h1, k v H h2⟩
/-- A body comes to a word, slots and a heap. -/
def Wp (r : Rn) (Q : AX → Env → AHeap → Prop) : Prop := ∃ x e H, r = some (x, e, H) ∧ Q x e H
@[simp] theorem Wp_some {x : AX} {e : Env} {H : AHeap} {Q : AX → Env → AHeap → Prop} : Wp (some (x, e, H)) Q = Q x e H := propext ⟨fun ⟨_, _, _, h, k⟩ => by cases h; exact k, fun k => ⟨x, e, H, rfl, k⟩⟩

theorem pure_of {f : FuncId} {vs : List AV} {H : AHeap} {v : AV} (h : Fp (C f vs H) fun w H' => w = v ∧ Keeps H H') : Pure C f vs H v := by
  obtain ⟨w, H', h1, rfl, h2⟩ := h; exact ⟨H', h1, h2⟩
theorem Pure.fp {f : FuncId} {vs : List AV} {H : AHeap} {v : AV} (h : Pure C f vs H v) : Fp (C f vs H) fun w H' => w = v ∧ Keeps H H' := by
  obtain ⟨H', h1, h2⟩ := h; exact ⟨v, H', h1, rfl, h2⟩
theorem Pure.of {f : FuncId} {vs : List AV} {H : AHeap} {v : AV} (h : Pure C f vs H v) {r : Option (AV × AHeap)} (hr : C f vs H = r) : ∃ H', r = some (v, H') ∧ Keeps H H' := by
  obtain ⟨H', h1, h2⟩ := h; exact ⟨H', hr.symm.trans h1, h2⟩

/-- The slots that a body may write. -/
def defs : LCode → List Nat
  | .reg _ l => l.filterMap (·.dst)
  | .seq a b => defs a ++ defs b
  | .cond _ a b => defs a ++ defs b
  | .block _ b => defs b
  | .loop b => defs b
  | _ => []

theorem putO_ne {e : Env} {d : Option Nat} {v : Option AV} {t : Nat} (h : ∀ k, d = some k → t ≠ k) : (e.putO d v) t = e t := by
  unfold Env.putO
  split
  · rename_i hd; exact absurd rfl (h t hd)
  · rfl

theorem evL_env {q : List Nat} : ∀ {l : List LOp} {k : Nat} {e : Env} {H : AHeap} {e' : Env} {H' : AHeap}, evL P K C q k l e H = some (e', H') → ∀ t, t ∉ l.filterMap (·.dst) → e' t = e t
  | [], _, _, _, _, _, h, _, _ => by simp [evL] at h; rw [h.1]
  | ⟨d, none, g⟩ :: r, k, e, H, e', H', h, t, ht => by
    simp only [evL] at h
    have h1 := evL_env h t (fun hh => ht (by simp only [List.filterMap_cons]; split <;> simp_all))
    rw [h1]
    exact putO_ne (fun k hk hh => ht (by simp only [List.filterMap_cons, hk, hh]; simp))
  | ⟨d, some op, g⟩ :: r, k, e, H, e', H', h, t, ht => by
    simp only [evL, Option.bind_eq_some_iff] at h
    obtain ⟨w, _, h⟩ := h
    have hr : t ∉ r.filterMap (·.dst) := fun hh => ht (by simp only [List.filterMap_cons]; split <;> simp_all)
    have hd : ∀ k, d = some k → t ≠ k := fun k hk hh => ht (by simp only [List.filterMap_cons, hk, hh]; simp)
    split at h
    · simp only [Option.bind_eq_some_iff] at h
      obtain ⟨⟨v, H1⟩, _, h⟩ := h
      simp only at h
      split at h
      · cases h
      · rw [evL_env h t hr]; exact putO_ne hd
    · rw [evL_env h t hr]; exact putO_ne hd

theorem iter_env {F : Env → AHeap → Rn} {t : Nat} (hF : ∀ {e H x e' H'}, F e H = some (x, e', H') → e' t = e t) : ∀ {n : Nat} {e : Env} {H : AHeap} {x e' H'}, iter F n e H = some (x, e', H') → e' t = e t
  | 0, _, _, _, _, _, h => by simp [iter] at h
  | n + 1, e, H, x, e', H', h => by
    simp only [iter] at h
    cases hf : F e H with
    | none => rw [hf] at h; cases h
    | some y =>
      rw [hf] at h
      obtain ⟨y, e1, H1⟩ := y
      cases y with
      | normal => exact (iter_env hF h).trans (hF hf)
      | exit i => simp at h; rw [← h.2.1]; exact hF hf
      | ret => simp at h; rw [← h.2.1]; exact hF hf

theorem evalL_env : ∀ {c : LCode} {e : Env} {H : AHeap} {x : AX} {e' : Env} {H' : AHeap}, evalL P K C c e H = some (x, e', H') → ∀ t, t ∉ defs c → e' t = e t
  | .skip, _, _, _, _, _, h, _, _ => by simp [evalL] at h; rw [h.2.1]
  | .exit _, _, _, _, _, _, h, _, _ => by simp [evalL] at h; rw [h.2.1]
  | .ret, _, _, _, _, _, h, _, _ => by simp [evalL] at h; rw [h.2.1]
  | .bad, _, _, _, _, _, h, _, _ => by simp [evalL] at h
  | .reg q l, e, H, x, e', H', h, t, ht => by
    simp only [evalL, Option.map_eq_some_iff] at h
    obtain ⟨⟨e1, H1⟩, h1, h2⟩ := h
    simp at h2
    rw [← h2.2.1]
    exact evL_env h1 t ht
  | .seq a b, e, H, x, e', H', h, t, ht => by
    simp only [defs, List.mem_append, not_or] at ht
    simp only [evalL, Option.bind_eq_some_iff] at h
    obtain ⟨⟨y, e1, H1⟩, h1, h2⟩ := h
    have ha := evalL_env h1 t ht.1
    cases y with
    | normal => exact (evalL_env h2 t ht.2).trans ha
    | exit i => simp at h2; rw [← h2.2.1]; exact ha
    | ret => simp at h2; rw [← h2.2.1]; exact ha
  | .cond c a b, e, H, x, e', H', h, t, ht => by
    simp only [defs, List.mem_append, not_or] at ht
    simp only [evalL] at h
    split at h
    · split at h
      · exact evalL_env h t ht.1
      · exact evalL_env h t ht.2
    · cases h
  | .block id b, e, H, x, e', H', h, t, ht => by
    simp only [defs] at ht
    simp only [evalL, Option.map_eq_some_iff] at h
    obtain ⟨⟨y, e1, H1⟩, h1, h2⟩ := h
    have ha := evalL_env h1 t ht
    cases y <;> simp at h2 <;> (rw [← h2.2.1]; exact ha)
  | .loop b, e, H, x, e', H', h, t, ht => by
    simp only [defs] at ht
    simp only [evalL] at h
    obtain ⟨n, hn⟩ := loopLim_iff.1 h
    exact iter_env (fun h1 => evalL_env h1 t ht) hn

theorem loopL_env {b : LCode} {e : Env} {H : AHeap} {x : AX} {e' : Env} {H' : AHeap} (h : loopL P K C b e H = some (x, e', H')) (t : Nat) (ht : t ∉ defs b) : e' t = e t :=
  evalL_env (c := .loop b) (P := P) (K := K) (C := C) h t ht

/-- A loop, by an invariant with a number that falls; 'r' is what the loop comes to. Slots that the body doesn't write stay. -/
theorem loop_rule {b b' : LCode} (hb : b = b') {e : Env} {H : AHeap} {r : Rn} (hL : loopL P K C b e H = r) (I : Nat → Env → AHeap → Prop) (Q : AX → Env → AHeap → Prop) (n : Nat) (h0 : I n e H)
    (step : ∀ m e1 H1, (∀ t, t ∉ defs b → e1 t = e t) → I m e1 H1 → Wp (evalL P K C b' e1 H1) fun x e2 H2 => match x with
      | .normal => ∃ k, k < m ∧ I k e2 H2
      | x => Q x e2 H2) :
    ∃ x e' H', r = some (x, e', H') ∧ Q x e' H' ∧ ∀ t, t ∉ defs b → e' t = e t := by
  subst hb
  have main : ∀ n e1 H1, (∀ t, t ∉ defs b → e1 t = e t) → I n e1 H1 → ∃ x e' H', loopL P K C b e1 H1 = some (x, e', H') ∧ Q x e' H' ∧ ∀ t, t ∉ defs b → e' t = e t := by
    intro n
    induction n using Nat.strongRecOn with
    | ind n ih =>
      intro e1 H1 hf hi
      obtain ⟨x, e2, H2, h1, h2⟩ := step n e1 H1 hf hi
      have hf2 : ∀ t, t ∉ defs b → e2 t = e t := fun t ht => (evalL_env h1 t ht).trans (hf t ht)
      cases x with
      | normal =>
        obtain ⟨k, hk, h2⟩ := h2
        obtain ⟨x, e', H', h3, h4⟩ := ih k hk e2 H2 hf2 h2
        exact ⟨x, e', H', by rw [loopL_eq, h1]; exact h3, h4⟩
      | exit i => exact ⟨.exit i, e2, H2, by rw [loopL_eq, h1]; rfl, h2, hf2⟩
      | ret => exact ⟨.ret, e2, H2, by rw [loopL_eq, h1]; rfl, h2, hf2⟩
  obtain ⟨x, e', H', h1, h2, h3⟩ := main n e H (fun _ _ => rfl) h0
  exact ⟨x, e', H', by rw [← hL, h1], h2, h3⟩

/-- A loop that counts: its invariant holds of i, from a on, and it goes on while i is below n. -/
theorem loop_count {b b' : LCode} (hb : b = b') {e : Env} {H : AHeap} {r : Rn} (hL : loopL P K C b e H = r) (n : Nat) (I : Nat → Env → AHeap → Prop) (Q : AX → Env → AHeap → Prop) (a : Nat) (ha : a ≤ n) (h0 : I a e H)
    (step : ∀ i e1 H1, (∀ t, t ∉ defs b → e1 t = e t) → a ≤ i → i < n → I i e1 H1 → Wp (evalL P K C b' e1 H1) fun x e2 H2 => match x with
      | .normal => I (i + 1) e2 H2
      | x => Q x e2 H2)
    (stop : ∀ e1 H1, (∀ t, t ∉ defs b → e1 t = e t) → I n e1 H1 → Wp (evalL P K C b' e1 H1) fun x e2 H2 => match x with
      | .normal => False
      | x => Q x e2 H2) :
    ∃ x e' H', r = some (x, e', H') ∧ Q x e' H' ∧ ∀ t, t ∉ defs b → e' t = e t := by
  refine loop_rule hb hL (fun m e1 H1 => ∃ i, a ≤ i ∧ i ≤ n ∧ m = n - i ∧ I i e1 H1) Q (n - a) ⟨a, Nat.le_refl _, ha, rfl, h0⟩ ?_
  rintro m e1 H1 hf ⟨i, hai, hi, rfl, hI⟩
  by_cases hlt : i < n
  · obtain ⟨x, e2, H2, h1, h2⟩ := step i e1 H1 hf hai hlt hI
    refine ⟨x, e2, H2, h1, ?_⟩
    cases x with
    | normal => exact ⟨n - (i + 1), by omega, i + 1, by omega, by omega, rfl, h2⟩
    | exit i => exact h2
    | ret => exact h2
  · have : i = n := by omega
    subst this
    obtain ⟨x, e2, H2, h1, h2⟩ := stop e1 H1 hf hI
    refine ⟨x, e2, H2, h1, ?_⟩
    cases x with
    | normal => exact absurd h2 (by simp)
    | exit i => exact h2
    | ret => exact h2

/-! What is left of a heap: all but some objects. -/
structure Fr (F : List Nat) (H H' : AHeap) : Prop where
  size : H.size ≤ H'.size
  obj : ∀ o, o < H.size → o ∉ F → H'.obj o = H.obj o
  wr : ∀ o, o < H.size → o ∉ F → H'.wr o = H.wr o
theorem Fr.refl (F : List Nat) (H : AHeap) : Fr F H H := ⟨Nat.le_refl _, fun _ _ _ => rfl, fun _ _ _ => rfl⟩
theorem Fr.trans {F G : List Nat} {A B E : AHeap} (h : Fr F A B) (k : Fr G B E) (hG : ∀ o, o ∈ G → o ∈ F ∨ A.size ≤ o) : Fr F A E := by
  refine ⟨Nat.le_trans h.size k.size, fun o ho hF => ?_, fun o ho hF => ?_⟩
  · have hn : o ∉ G := fun hg => by rcases hG o hg with h1 | h1 <;> first | exact hF h1 | omega
    exact (k.obj o (Nat.lt_of_lt_of_le ho h.size) hn).trans (h.obj o ho hF)
  · have hn : o ∉ G := fun hg => by rcases hG o hg with h1 | h1 <;> first | exact hF h1 | omega
    exact (k.wr o (Nat.lt_of_lt_of_le ho h.size) hn).trans (h.wr o ho hF)
theorem Fr.weak {F G : List Nat} {A B : AHeap} (h : Fr F A B) (hG : ∀ o, o ∈ F → o ∈ G ∨ A.size ≤ o) : Fr G A B := (Fr.refl G A).trans h hG
theorem Keeps.fr {A B : AHeap} (h : Keeps A B) (F : List Nat) : Fr F A B := ⟨h.size, fun o ho _ => h.obj o ho, fun o ho _ => h.wr o ho⟩
theorem Fr.then {F : List Nat} {A B E : AHeap} (h : Fr F A B) (k : Keeps B E) : Fr F A E := h.trans (k.fr []) (by simp)
theorem Fr.set {F : List Nat} {A B : AHeap} (h : Fr F A B) {o : Nat} (ho : o ∈ F ∨ A.size ≤ o) (x : AObj) : Fr F A (B.set o x) :=
  ⟨h.size, fun k hk hF => by simp only [AHeap.set]; rw [if_neg (by rintro rfl; rcases ho with h1 | h1 <;> first | exact hF h1 | omega)]; exact h.obj k hk hF,
   fun k hk hF => by simp only [AHeap.set]; rw [if_neg (by rintro rfl; rcases ho with h1 | h1 <;> first | exact hF h1 | omega)]; exact h.wr k hk hF⟩
theorem Fr.new {F : List Nat} {A B : AHeap} (h : Fr F A B) (x : AObj) : Fr F A (B.new x) := h.then (Keeps.new B x)
theorem Fr.keeps {F : List Nat} {Z A B : AHeap} (h : Fr F A B) (k : Keeps Z A) (hF : ∀ o, o ∈ F → Z.size ≤ o) : Keeps Z B :=
  ⟨Nat.le_trans k.size h.size, fun o ho => (h.obj o (Nat.lt_of_lt_of_le ho k.size) (fun hh => by have := hF o hh; omega)).trans (k.obj o ho),
   fun o ho => (h.wr o (Nat.lt_of_lt_of_le ho k.size) (fun hh => by have := hF o hh; omega)).trans (k.wr o ho)⟩
theorem Fr.lt {F : List Nat} {A B : AHeap} (h : Fr F A B) {o : Nat} (ho : o < A.size) : o < B.size := Nat.lt_of_lt_of_le ho h.size
theorem Fr.none {A B : AHeap} (h : Fr [] A B) : Keeps A B := ⟨h.size, fun o ho => h.obj o ho (by simp), fun o ho => h.wr o ho (by simp)⟩

/-- A slice reads as it did where its object was let be. -/
theorem Reads.fr {F : List Nat} {A B : AHeap} {v : AV} {sz n : Nat} {cs : List AV} (h : Reads A v sz n cs) (k : Fr F A B) (hF : match v with
    | .row o _ _ _ _ => o ∉ F
    | _ => True) : Reads B v sz n cs := by
  obtain ⟨h1, h2, h3, h4⟩ := h
  refine ⟨h1, ?_, h3, ?_⟩
  · cases v <;> try exact h2
    rw [← h2]
    simp only [sliceCells, k.obj _ h4.2 hF]
  · cases v <;> try exact h4
    exact ⟨h4.1, Nat.lt_of_lt_of_le h4.2 k.size⟩

end
end Go.Proofs.Ytphkkcocimmmfaa
