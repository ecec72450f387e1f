/- A term's value hangs on its own variables alone (plain), and the law's loops. -/
import Derived.Test.YtiaoojghohfkjaaEQ
namespace Go.Proofs.Ytiaoojghohfkjaa
set_option maxRecDepth 100000
set_option maxHeartbeats 2000000

theorem V_congr {l1 l2 : ByteArray → Option Vl} {ns : List Nd} (kok : Kok ns) {S : Nat → Prop} (hc : Cl ns S) (hv : ∀ (i : Nat) (n : Nd), S i → ns[i]? = some n → n.op = 2 → l1 n.name = l2 n.name) : ∀ (i : Nat) (n : Nd), S i → ns[i]? = some n → V l1 ns ((i : Int) + 1) = V l2 ns ((i : Int) + 1) := by
  intro i
  induction i using Nat.strongRecOn with
  | ind i ih =>
    intro n hS hn
    obtain ⟨⟨a0, a1⟩, ⟨b0, b1⟩, ⟨d0, d1⟩⟩ := kok i n hn
    have hi := (List.getElem?_eq_some_iff.1 hn).1
    have K : ∀ k, (k = n.a ∨ k = n.b ∨ k = n.c) → pick (valsV l1 ns) k = pick (valsV l2 ns) k := fun k hk => by
      by_cases h0 : 0 < k
      · have hkl : k ≤ i := by rcases hk with rfl | rfl | rfl <;> assumption
        obtain ⟨m, hm⟩ : ∃ m, ns[(k - 1).toNat]? = some m := ⟨ns[(k - 1).toNat]'(by omega), List.getElem?_eq_getElem (by omega)⟩
        have := ih (k - 1).toNat (by omega) m (hc i n hS hn k hk h0) hm
        rw [show (((k - 1).toNat : Nat) : Int) + 1 = k from by omega] at this
        exact this
      · unfold pick
        rw [if_pos (by omega), if_pos (by omega)]
    rw [V_node kok hn, V_node kok hn]
    unfold nodeV kidsV
    rw [K n.a (.inl rfl), K n.b (.inr (.inl rfl)), K n.c (.inr (.inr rfl))]
    by_cases h2 : n.op = 2
    · rw [hv i n hS hn h2]
    · simp only [h2, if_false]
/-- A name's variable. -/
def vnum (ns : List Nd) (s : ByteArray) : Int := match vidx ns s with
  | some i => (i : Int) + 1
  | none => 0
theorem var_num (ns : List Nd) (s : ByteArray) : ((vidx ns s).map num).getD (.int .i64 0) = .int .i64 (vnum ns s) := by
  unfold vnum
  cases vidx ns s <;> rfl
theorem lookL_append (l m : List Nm) (s : ByteArray) : lookL (l ++ m) s = (lookL l s).or (lookL m s) := by
  unfold lookL
  rw [List.find?_append]
  cases l.find? (fun n => decide (n.name = s)) <;> rfl
theorem lookL_filter {l : List Nm} {s : ByteArray} {p : Nm → Bool} (h : ∀ n, n ∈ l → n.name = s → p n = true) : lookL (l.filter p) s = lookL l s := by
  unfold lookL
  induction l with
  | nil => rfl
  | cons x l ih =>
    have ih' := ih fun n hn hs => h n (List.mem_cons_of_mem _ hn) hs
    rw [List.filter_cons]
    by_cases c : x.name = s
    · rw [if_pos (h x (by simp) c)]
      simp [c]
    · split
      · simp only [List.find?_cons, c, decide_false]
        exact ih'
      · simp only [List.find?_cons, c, decide_false]
        exact ih'
/-- The law: other variables' values change nothing. -/
theorem own_law {look : ByteArray → Option Vl} {ns : List Nd} (g : Gok ns) {id : Int} (h1 : 1 ≤ id) (h2 : id ≤ ns.length) (other : List Nm) :
    worthS (lookL (((fullS look ns (varsT ns ns.length)).filter fun e => decide (vnum ns e.name ∈ coneT ns id)) ++ other)) ns id = (V (lookL (fullS look ns (varsT ns ns.length))) ns id, 0) := by
  have hfit := full_fit (look := look) g
  have hlook : ∀ (i : Nat) (n : Nd), (i : Int) + 1 ∈ coneT ns id → ns[i]? = some n → n.op = 2 → lookL (((fullS look ns (varsT ns ns.length)).filter fun e => decide (vnum ns e.name ∈ coneT ns id)) ++ other) n.name = lookL (fullS look ns (varsT ns ns.length)) n.name := fun i n hi hn hn2 => by
    rw [lookL_append, lookL_filter, look_full g hn hn2]
    · rfl
    · intro e _ he
      simp only [decide_eq_true_eq]
      unfold vnum
      rw [he, g.uniq i n hn hn2]
      exact hi
  unfold worthS
  rw [if_neg (by omega)]
  have hany : (coneT ns id).any (unfit (lookL (((fullS look ns (varsT ns ns.length)).filter fun e => decide (vnum ns e.name ∈ coneT ns id)) ++ other)) ns) = false := by
    rw [List.any_eq_false]
    intro x hx
    obtain ⟨j, rfl, hj1, hj2⟩ := cone_mem hx
    obtain ⟨n, hn⟩ : ∃ n, ns[j - 1]? = some n := ⟨ns[j - 1]'(by omega), List.getElem?_eq_getElem (by omega)⟩
    unfold unfit
    rw [show ((j : Int) - 1).toNat = j - 1 from by omega, List.getD_eq_getElem?_getD, hn]
    simp only [Option.getD_some, Bool.and_eq_true, decide_eq_true_eq, Bool.not_eq_true']
    rintro ⟨hn2, hf⟩
    have := hlook (j - 1) n (by rw [show ((j - 1 : Nat) : Int) + 1 = j from by omega]; exact hx) hn hn2
    have h3 := hfit _ _ hn hn2
    unfold varFit at hf h3
    rw [this, h3] at hf
    cases hf
  rw [hany]
  simp only [Bool.false_eq_true, if_false]
  have hid : id ∈ coneT ns id := by
    obtain ⟨i, rfl⟩ := Int.eq_ofNat_of_zero_le (show 0 ≤ id by omega)
    exact (mem_cone g.kok (by omega) (by omega) (by omega)).2 (by rw [Int.toNat_natCast]; exact cP_self g.kok i (by omega))
  obtain ⟨n, hn⟩ : ∃ n, ns[(id - 1).toNat]? = some n := ⟨ns[(id - 1).toNat]'(by omega), List.getElem?_eq_getElem (by omega)⟩
  have hcl : Cl ns fun i => ((i : Int) + 1) ∈ coneT ns id := fun i n hS hn k hk h0 => by
    have := (cone_kid g.kok h1 h2 hS hn hk h0).1
    show (((k - 1).toNat : Nat) : Int) + 1 ∈ coneT ns id
    rw [show (((k - 1).toNat : Nat) : Int) + 1 = k from by omega]
    exact this
  have := V_congr g.kok hcl hlook (id - 1).toNat n (by rw [show (((id - 1).toNat : Nat) : Int) + 1 = id from by omega]; exact hid) hn
  rw [show (((id - 1).toNat : Nat) : Int) + 1 = id from by omega] at this
  rw [this]

/-- What reads so in each heap is constant. -/
theorem const_reads {v : AV} {sz n : Nat} {cs : List AV} (h : ∀ H, Reads H v sz n cs) : n = 0 ∨ v = .lst sz n cs := by
  obtain ⟨h1, h2, h3, h4⟩ := h ⟨0, fun _ => .dead, fun _ => 0⟩
  cases v <;> first | (exact h4.elim) | skip
  · simp [sliceLen] at h1; exact .inl (by omega)
  · exact absurd h4.2 (by simp)
  · right
    have h4 : _ = sz := h4
    subst h4
    simp [sliceLen] at h1
    simp [sliceCells] at h2
    rw [h1, h2]
theorem flatN_get {l : List Nm} {i : Nat} {n : Nm} (h : l[i]? = some n) : (flatN l)[i * 4]? = some (.str n.name) := by
  have := congrArg (fun l => l[0]?) (flatN_at h)
  simp only [Nm.cs, List.getElem?_cons_zero] at this
  rw [← this, List.getElem?_take_of_lt (by omega), List.getElem?_drop]
  simp
theorem own_loop1 {H : AHeap} {s : AV} {xs : List Int} (hs : RI H s xs) (hm : xs.length ≤ 1000000) {x : Int} {e : Env} {r : Rn} (hL : loopL Go.Proofs.Try.prog KT R l_plaitlaw4_EvalOwn_1 e H = r)
    (e16 : e 16 = some s) (e19 : e 19 = some (.int .i64 x)) (e21 : e 21 = some (.bool false)) (e22 : e 22 = some (.int .i64 0)) :
    ∃ y e' H', r = some (y, e', H') ∧ (H' = H ∧ y = .exit 2 ∧ e' 21 = some (.bool (decide (x ∈ xs)))) ∧ ∀ t, t ∉ defs l_plaitlaw4_EvalOwn_1 → e' t = e t := by
  refine loop_count l_plaitlaw4_EvalOwn_1.eq_1 hL xs.length (fun i e1 H1 => H1 = H ∧ e1 22 = some (.int .i64 i) ∧ e1 21 = some (.bool (decide (x ∈ xs.take i)))) _ 0 (Nat.zero_le _) ⟨rfl, e22, by simpa using e21⟩ ?_ ?_
  · rintro i f H1 hf - hi ⟨rfl, f22, f21⟩
    obtain ⟨a1, a2⟩ := loadi_of hs hi
    replace a2 := a2 H1 (Keeps.refl _)
    have w1 : IntKind.i64.wrap ((i : Int) + 1) = (i : Int) + 1 := i64w (by omega) (by omega)
    have c1 : (i : Int) < xs.length := by omega
    have hlen := hs.len
    have ht : xs.take (i + 1) = xs.take i ++ [xs.getD i 0] := by rw [List.take_add_one]; simp [List.getD_eq_getElem?_getD, hi]
    rw [ht]
    generalize xs.getD i 0 = y at *
    by_cases c : x ∈ xs.take i
    · rw [decide_eq_true c] at f21
      simp [hf, e16, f21, f22, hlen, c1, w1, c]
    · rw [decide_eq_false c] at f21
      by_cases d : y = x
      · simp [hf, e16, e19, f21, f22, hlen, c1, w1, a1, a2, d]
      · have d' : ¬ x = y := fun h => d h.symm
        simp [hf, e16, e19, f21, f22, hlen, c1, w1, a1, a2, c, d, d']
  · rintro f H1 hf ⟨rfl, f22, f21⟩
    have hlen := hs.len
    rw [List.take_of_length_le (Nat.le_refl _)] at f21
    simp [hf, e16, f22, f21, hlen]
end Go.Proofs.Ytiaoojghohfkjaa
