/- And-inverter graphs as lists: what values mean, what is made once, what doesn't ask for the order (no program in sight). -/
import Derived.Test.YtdbbkhmiflignaaAM
namespace Go.Proofs.Ytdbbkhmiflignaa

theorem valsF_app (inp : List Bool) : ∀ (ks js : Kd) (n : Nat) (acc : List Bool), valsF inp (ks ++ js) n acc = valsF inp js (n + (insF ks 0).length) (valsF inp ks n acc)
  | [], js, n, acc => by simp [valsF, insF]
  | k :: ks, js, n, acc => by
    have hsh : ∀ (ks : Kd) (i j : Nat), (insF ks i).length = (insF ks j).length := by
      intro ks
      induction ks with
      | nil => intro i j; rfl
      | cons k ks ih => intro i j; unfold insF; split <;> simp [ih (i + 1) (j + 1)]
    simp only [List.cons_append, valsF, insF]
    split
    · rw [valsF_app inp ks js]; simp [hsh ks 1 0]; congr 1; omega
    · rw [valsF_app inp ks js]; rw [hsh ks (0 + 1) 0]
theorem valsF_pre (inp : List Bool) : ∀ (ks : Kd) (n : Nat) (acc : List Bool), ∃ t, valsF inp ks n acc = acc ++ t
  | [], _, acc => ⟨[], by simp [valsF]⟩
  | k :: ks, n, acc => by
    unfold valsF
    split
    · obtain ⟨t, ht⟩ := valsF_pre inp ks (n + 1) (acc ++ [inp.getD n false])
      exact ⟨_, by rw [ht, List.append_assoc]⟩
    · obtain ⟨t, ht⟩ := valsF_pre inp ks n (acc ++ [litV acc k.1 && litV acc k.2])
      exact ⟨_, by rw [ht, List.append_assoc]⟩

/-- A literal's value. -/
def V (inp : List Bool) (ks : Kd) (l : Int) : Bool := litV (valsF inp ks 0 [false]) l
theorem W_len (inp : List Bool) (ks : Kd) : (valsF inp ks 0 [false]).length = ks.length + 1 := by rw [valsF_len]; simp; omega
theorem litV_app {vs t : List Bool} {l : Int} (h : (l / 2).toNat < vs.length) : litV (vs ++ t) l = litV vs l := by
  simp [litV, List.getD_eq_getElem?_getD, List.getElem?_append, h]
theorem V_app (inp : List Bool) {ks : Kd} (js : Kd) {l : Int} (h : isL ks.length l) : V inp (ks ++ js) l = V inp ks l := by
  unfold V
  rw [valsF_app]
  obtain ⟨t, ht⟩ := valsF_pre inp js (0 + (insF ks 0).length) (valsF inp ks 0 [false])
  rw [ht, litV_app]
  rw [W_len]
  unfold isL at h
  omega
theorem litV_flip {vs : List Bool} {l : Int} (_h0 : 0 ≤ l) : litV vs (flip1 l) = !litV vs l := by
  unfold litV flip1
  split
  · rename_i h
    rw [show (l + 1) / 2 = l / 2 from by omega]
    have h1 : ¬ l % 2 = 1 := by omega
    have h2 : (l + 1) % 2 = 1 := by omega
    simp [h1, h2]
  · rename_i h
    rw [show (l - 1) / 2 = l / 2 from by omega]
    have h1 : l % 2 = 1 := by omega
    have h2 : ¬ (l - 1) % 2 = 1 := by omega
    simp [h1, h2]
theorem V_flip {inp : List Bool} {ks : Kd} {l : Int} (h0 : 0 ≤ l) : V inp ks (flip1 l) = !V inp ks l := litV_flip h0
theorem V_zero (inp : List Bool) (ks : Kd) : V inp ks 0 = false := by
  unfold V
  obtain ⟨t, ht⟩ := valsF_pre inp ks 0 [false]
  rw [ht]; simp [litV]
theorem V_one (inp : List Bool) (ks : Kd) : V inp ks 1 = true := by
  have := V_flip (inp := inp) (ks := ks) (l := 0) (by omega)
  rw [V_zero] at this
  exact this

theorem split_at {ks : Kd} {i : Nat} {k : Int × Int} (h : ks[i]? = some k) : ks = ks.take i ++ (k :: ks.drop (i + 1)) := by
  have hi := (List.getElem?_eq_some_iff.1 h).1
  have hk := (List.getElem?_eq_some_iff.1 h).2
  rw [← hk, List.getElem_cons_drop, List.take_append_drop]
/-- An and's value. -/
theorem V_node {m : Int} {ks : Kd} (hr : Rt m ks) (inp : List Bool) {i : Nat} {k : Int × Int} (h : ks[i]? = some k) (hk : k ≠ (0, 0)) : V inp ks (2 * ((i : Int) + 1)) = (V inp ks k.1 && V inp ks k.2) := by
  have hi := (List.getElem?_eq_some_iff.1 h).1
  have hb := hr.kids i k h hk
  have hs := split_at h
  have hl : (ks.take i).length = i := by rw [List.length_take]; omega
  have l1 : isL (ks.take i).length k.1 := by rw [isL_lt, hl]; omega
  have l2 : isL (ks.take i).length k.2 := by rw [isL_lt, hl]; omega
  have e1 : V inp ks k.1 = V inp (ks.take i) k.1 := by rw [hs, V_app inp _ (by rw [hl] at l1; simpa [hl] using l1)]; congr 1; rw [← hs]
  have e2 : V inp ks k.2 = V inp (ks.take i) k.2 := by rw [hs, V_app inp _ (by rw [hl] at l2; simpa [hl] using l2)]; congr 1; rw [← hs]
  rw [e1, e2]
  have hv : valsF inp ks 0 [false] = valsF inp (ks.drop (i + 1)) (0 + (insF (ks.take i) 0).length) (valsF inp (ks.take i) 0 [false] ++ [V inp (ks.take i) k.1 && V inp (ks.take i) k.2]) := by
    conv => lhs; rw [hs]
    rw [valsF_app, valsF, if_neg hk]
    rfl
  unfold V at hv ⊢
  rw [hv]
  obtain ⟨t, ht⟩ := valsF_pre inp (ks.drop (i + 1)) (0 + (insF (ks.take i) 0).length) (valsF inp (ks.take i) 0 [false] ++ [litV (valsF inp (ks.take i) 0 [false]) k.1 && litV (valsF inp (ks.take i) 0 [false]) k.2])
  rw [ht]
  have hW := W_len inp (ks.take i)
  rw [hl] at hW
  have h2 : (2 * ((i : Int) + 1) / 2).toNat = i + 1 := by omega
  have h3 : ¬ (2 * ((i : Int) + 1) % 2 = 1) := by omega
  generalize valsF inp (ks.take i) 0 [false] = W at *
  simp [litV, List.getD_eq_getElem?_getD, hW]

theorem Fit.V {m : Int} {ks : Kd} {r : Ans} (h : Fit m ks r) (inp : List Bool) {l : Int} (hl : isL ks.length l) : Go.Proofs.Ytdbbkhmiflignaa.V inp r.ks l = Go.Proofs.Ytdbbkhmiflignaa.V inp ks l := by
  obtain ⟨t, ht⟩ := h.more
  rw [ht, V_app inp _ hl]

theorem V_and2 {m : Int} {ks : Kd} (hr : Rt m ks) (inp : List Bool) {a b : Int} (ha : isL ks.length a) (hb : isL ks.length b) (hab : a ≤ b) (he : (and2 m ks a b).e = 0) :
    V inp (and2 m ks a b).ks (and2 m ks a b).l = (V inp ks a && V inp ks b) := by
  have hf := hr.and2 ha hb hab
  have ha0 := ha.1
  unfold and2 at he hf ⊢
  split
  · rename_i h1
    rw [V_zero]
    rcases h1 with h1 | h1
    · rw [h1, V_zero]; simp
    · rw [← h1, V_flip ha0]; simp
  · rename_i h1
    rw [if_neg h1] at he hf
    split
    · rename_i h2
      rcases h2 with h2 | h2
      · rw [h2, V_one]; simp
      · rw [h2]; simp
    · rename_i h2
      rw [if_neg h2] at he hf
      split
      · rename_i i hi
        obtain ⟨_, h4, _⟩ := findK_some hi
        exact V_node hr inp h4 (by simp; intro e; exact absurd e (fun e => h1 (.inl e)))
      · rename_i hn
        rw [hn] at he hf
        simp only at he hf
        unfold putF at he hf ⊢
        split
        · rename_i hfull; rw [if_pos hfull] at he; cases he
        · rename_i hfull
          rw [if_neg hfull] at hf
          have h0 : ¬ a = 0 := fun e => h1 (.inl e)
          have hx := V_node hf.rt inp (i := ks.length) (k := (a, b)) (by simp) (by simp [h0])
          simp only at hx ⊢
          rw [hx, V_app inp _ ha, V_app inp _ hb]
theorem V_and {m : Int} {ks : Kd} (hr : Rt m ks) (inp : List Bool) {a b : Int} (he : (andF m ks a b).e = 0) :
    isL ks.length a ∧ isL ks.length b ∧ V inp (andF m ks a b).ks (andF m ks a b).l = (V inp ks a && V inp ks b) := by
  unfold andF at he ⊢
  split
  · rename_i hab
    rw [if_pos hab] at he
    refine ⟨hab.1, hab.2, ?_⟩
    split
    · rename_i hlt; rw [if_pos hlt] at he; rw [V_and2 hr inp hab.2 hab.1 (by omega) he, Bool.and_comm]
    · rename_i hlt; rw [if_neg hlt] at he; rw [V_and2 hr inp hab.1 hab.2 (by omega) he]
  · rename_i hab; rw [if_neg hab] at he; cases he
theorem V_or {m : Int} {ks : Kd} (hr : Rt m ks) (inp : List Bool) {a b : Int} (he : (orF m ks a b).e = 0) :
    isL ks.length a ∧ isL ks.length b ∧ V inp (orF m ks a b).ks (orF m ks a b).l = (V inp ks a || V inp ks b) := by
  unfold orF at he ⊢
  split
  · rename_i hab
    rw [if_pos hab] at he
    refine ⟨hab.1, hab.2, ?_⟩
    unfold turnF at he ⊢
    split
    · rename_i h0
      obtain ⟨_, _, hv⟩ := V_and hr inp h0
      have hl := (hr.and (flip1 a) (flip1 b)).lit.1
      simp only
      rw [V_flip hl, hv, V_flip hab.1.1, V_flip hab.2.1]; simp
    · rename_i h0; rw [if_neg h0] at he; exact absurd he h0
  · rename_i hab; rw [if_neg hab] at he; cases he
theorem V_either {m : Int} {ks : Kd} (hr : Rt m ks) (inp : List Bool) {a b c d : Int} (he : (eitherF m ks a b c d).e = 0) :
    isL ks.length a ∧ isL ks.length b ∧ V inp (eitherF m ks a b c d).ks (eitherF m ks a b c d).l = ((V inp ks a && V inp ks b) || (V inp (andF m ks a b).ks c && V inp (andF m ks a b).ks d)) := by
  unfold eitherF at he ⊢
  simp only at he ⊢
  split
  · rename_i h1
    rw [if_pos h1] at he
    have f1 := hr.and a b
    obtain ⟨la, lb, hv1⟩ := V_and hr inp h1
    refine ⟨la, lb, ?_⟩
    split
    · rename_i h2
      rw [if_pos h2] at he
      have f2 := f1.rt.and c d
      obtain ⟨lc, ld, hv2⟩ := V_and f1.rt inp h2
      obtain ⟨lx, ly, hv3⟩ := V_or f2.rt inp he
      rw [hv3, f2.V inp f1.lit, hv1, hv2]
    · rename_i h2; rw [if_neg h2] at he; exact absurd he h2
  · rename_i h1; rw [if_neg h1] at he; exact absurd he h1
theorem V_xor {m : Int} {ks : Kd} (hr : Rt m ks) (inp : List Bool) {a b : Int} (he : (xorF m ks a b).e = 0) :
    isL ks.length a ∧ isL ks.length b ∧ V inp (xorF m ks a b).ks (xorF m ks a b).l = (V inp ks a != V inp ks b) := by
  unfold xorF at he ⊢
  split
  · rename_i hab
    rw [if_pos hab] at he
    refine ⟨hab.1, hab.2, ?_⟩
    have f1 := hr.and a (flip1 b)
    obtain ⟨_, _, hv⟩ := V_either hr inp he
    rw [hv, f1.V inp (flip_bounds hab.1), f1.V inp hab.2, V_flip hab.1.1, V_flip hab.2.1]
    cases V inp ks a <;> cases V inp ks b <;> rfl
  · rename_i hab; rw [if_neg hab] at he; cases he
theorem V_mux {m : Int} {ks : Kd} (hr : Rt m ks) (inp : List Bool) {c a b : Int} (he : (muxF m ks c a b).e = 0) :
    isL ks.length c ∧ isL ks.length a ∧ isL ks.length b ∧ V inp (muxF m ks c a b).ks (muxF m ks c a b).l = (V inp ks c && V inp ks a || !V inp ks c && V inp ks b) := by
  unfold muxF at he ⊢
  split
  · rename_i hab
    rw [if_pos hab] at he
    refine ⟨hab.1, hab.2.1, hab.2.2, ?_⟩
    have f1 := hr.and c a
    obtain ⟨_, _, hv⟩ := V_either hr inp he
    rw [hv, f1.V inp (flip_bounds hab.1), f1.V inp hab.2.2, V_flip hab.1.1]
  · rename_i hab; rw [if_neg hab] at he; cases he

/-! Inputs stay when no input is made. -/
theorem insF_more {ks t : Kd} (h : ∀ k, k ∈ t → k ≠ (0, 0)) (i : Nat) : insF (ks ++ t) i = insF ks i := by
  have h2 : ∀ (t : Kd), (∀ k, k ∈ t → k ≠ (0, 0)) → ∀ i, insF t i = [] := by
    intro t
    induction t with
    | nil => intro _ _; rfl
    | cons k t ih => intro h i; rw [insF, if_neg (h k (by simp))]; exact ih (fun k hk => h k (by simp [hk])) _
  induction ks generalizing i with
  | nil => rw [List.nil_append, h2 t h i]; rfl
  | cons k ks ih => simp only [List.cons_append, insF]; rw [ih]
/-- Only ands are added. -/
def Ands (ks : Kd) (r : Ans) : Prop := ∃ t, r.ks = ks ++ t ∧ ∀ k, k ∈ t → k ≠ (0, 0)
theorem Ands.same {ks : Kd} {l e : Int} : Ands ks ⟨l, e, ks⟩ := ⟨[], by simp, by simp⟩
theorem Ands.trans {ks : Kd} {r s : Ans} (h : Ands ks r) (k : Ands r.ks s) : Ands ks s := by
  obtain ⟨t, h1, h2⟩ := h
  obtain ⟨t', k1, k2⟩ := k
  refine ⟨t ++ t', by rw [k1, h1, List.append_assoc], fun x hx => ?_⟩
  rcases List.mem_append.1 hx with h | h
  · exact h2 x h
  · exact k2 x h
theorem Ands.and2 (m : Int) (ks : Kd) (a b : Int) : Ands ks (and2 m ks a b) := by
  unfold Go.Proofs.Ytdbbkhmiflignaa.and2
  split
  · exact Ands.same
  · rename_i h1
    split
    · exact Ands.same
    · split
      · exact Ands.same
      · unfold putF
        split
        · exact Ands.same
        · exact ⟨[(a, b)], rfl, fun k hk => by simp at hk; subst hk; simp; intro e; exact absurd e (fun e => h1 (.inl e))⟩
theorem Ands.and (m : Int) (ks : Kd) (a b : Int) : Ands ks (andF m ks a b) := by
  unfold andF
  split
  · split <;> exact Ands.and2 ..
  · exact Ands.same
theorem Ands.or (m : Int) (ks : Kd) (a b : Int) : Ands ks (orF m ks a b) := by
  unfold orF
  split
  · have h := Ands.and m ks (flip1 a) (flip1 b)
    unfold turnF
    split <;> exact h
  · exact Ands.same
theorem Ands.either (m : Int) (ks : Kd) (a b c d : Int) : Ands ks (eitherF m ks a b c d) := by
  unfold eitherF
  have hx := Ands.and m ks a b
  have hy := Ands.and m (andF m ks a b).ks c d
  simp only
  split
  · split
    · exact (hx.trans hy).trans (Ands.or ..)
    · exact hx.trans hy
  · exact hx
theorem Ands.xor (m : Int) (ks : Kd) (a b : Int) : Ands ks (xorF m ks a b) := by
  unfold xorF
  split
  · exact Ands.either ..
  · exact Ands.same
theorem Ands.mux (m : Int) (ks : Kd) (c a b : Int) : Ands ks (muxF m ks c a b) := by
  unfold muxF
  split
  · exact Ands.either ..
  · exact Ands.same
theorem Ands.does {m : Int} {ks : Kd} {w a b c : Int} (hw : w ≠ 0) : Ands ks (doesF m ks w a b c) := by
  unfold doesF
  rw [if_neg hw]
  split
  · exact Ands.and ..
  split
  · exact Ands.or ..
  split
  · exact Ands.xor ..
  split
  · exact Ands.mux ..
  · exact Ands.same
theorem Ands.ins {ks : Kd} {r : Ans} (h : Ands ks r) (i : Nat) : insF r.ks i = insF ks i := by
  obtain ⟨t, h1, h2⟩ := h
  rw [h1, insF_more h2]

end Go.Proofs.Ytdbbkhmiflignaa
