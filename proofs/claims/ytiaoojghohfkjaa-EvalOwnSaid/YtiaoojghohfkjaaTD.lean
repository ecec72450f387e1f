/- Graphs of terms: their nodes, what a graph in memory is, the plain functions on it. -/
import Derived.Test.YtiaoojghohfkjaaTC
import Derived.Test.YtiaoojghohfkjaaBVR
import Derived.Test.YtiaoojghohfkjaaALC
namespace Go.Proofs.Ytiaoojghohfkjaa
set_option maxRecDepth 100000

def ixG (l : Option (Option Nat)) (cs : List AV) (i : Int) : Option (Nat × Nat) → Option AV
  | some (len, sz) => if 0 ≤ i ∧ i < len then ldK l cs (i.toNat * sz) else none
  | none => none
@[simp] theorem aindex_agg {P : Program} {t : TypeId} {cs : List AV} {i : Int} : aindex P t (.agg cs) i = ixG (arrL P t) cs i (arrS P t) := by
  unfold aindex ixG arrL arrS
  cases P.underlying t with
  | none => rfl
  | some d =>
    cases d <;> try rfl
    rename_i len el
    simp only [loadC_eq]
    cases tS P el <;> rfl
@[simp] theorem ixG_some {l : Option (Option Nat)} {cs : List AV} {i : Int} {len sz : Nat} : ixG l cs i (some (len, sz)) = if 0 ≤ i ∧ i < len then ldK l cs (i.toNat * sz) else none := nr rfl

structure Nd where
  op : Int
  sort : Int
  a : Int
  b : Int
  c : Int
  p : Int
  q : Int
  vw : Int
  vl : BitVec 64
  vh : BitVec 64
  name : ByteArray
  deriving DecidableEq
def Nd.cs (n : Nd) : List AV := [.int .i64 n.op, .int .i64 n.sort, .int .i64 n.a, .int .i64 n.b, .int .i64 n.c, .int .i64 n.p, .int .i64 n.q, .int .i64 n.vw, u n.vl, u n.vh, .str n.name]
@[simp] theorem Nd.cs_len (n : Nd) : n.cs.length = 11 := rfl
theorem Nd.cs_inj {n m : Nd} (h : n.cs = m.cs) : n = m := by
  cases n; cases m
  simp only [Nd.cs, List.cons.injEq, AV.int.injEq, AV.str.injEq, true_and, and_true, u] at h
  obtain ⟨h1, h2, h3, h4, h5, h6, h7, h8, h9, h10, h11⟩ := h
  have e9 := BitVec.eq_of_toNat_eq (Int.ofNat.inj h9)
  have e10 := BitVec.eq_of_toNat_eq (Int.ofNat.inj h10)
  subst h1 h2 h3 h4 h5 h6 h7 h8 e9 e10 h11
  rfl
def Nd.zero : Nd := ⟨0, 0, 0, 0, 0, 0, 0, 0, 0#64, 0#64, .empty⟩
def shN' : KSh := .many [.i .i64, .i .i64, .i .i64, .i .i64, .i .i64, .i .i64, .i .i64, .i .i64, .i .u64, .i .u64, .s]
theorem keyEq_nd (n m : Nd) : keyEq (.agg n.cs) (.agg m.cs) = decide (n = m) := by
  have hu : ∀ x y : BitVec 64, scEq (u x) (u y) = decide (x = y) := fun x y => by
    simp only [u, scEq_int, decide_eq_decide]
    exact ⟨fun h => BitVec.eq_of_toNat_eq (Int.ofNat.inj h), fun h => by rw [h]⟩
  simp only [keyEq, Nd.cs, scsEq_cons, scsEq_nil, scEq_int, scEq_str, hu, Bool.and_true, ← Bool.decide_and]
  rw [decide_eq_decide]
  constructor
  · rintro ⟨h1, h2, h3, h4, h5, h6, h7, h8, h9, h10, h11⟩
    cases n; cases m
    simp only at h1 h2 h3 h4 h5 h6 h7 h8 h9 h10 h11
    subst h1 h2 h3 h4 h5 h6 h7 h8 h9 h10 h11
    rfl
  · rintro rfl; simp

/-! Maps by what they tell. -/
theorem findE_append (k : AV) : ∀ (es : List AEnt) (e : AEnt), findE k (es ++ [e]) = (findE k es).or (if keyEq k e.key = true then some e else none)
  | [], e => by simp [findE]
  | x :: es, e => by
    simp only [List.cons_append, findE]
    split
    · rfl
    · exact findE_append k es e

/-- A node's place. -/
def idx (ns : List Nd) (n : Nd) : Option Nat := ns.findIdx? (fun m => decide (n = m))
def vidx (ns : List Nd) (s : ByteArray) : Option Nat := ns.findIdx? (fun m => decide (m.op = 2) && decide (s = m.name))
theorem idx_append (ns : List Nd) (n m : Nd) : idx (ns ++ [m]) n = (idx ns n).or (if n = m then some ns.length else none) := by
  unfold idx
  rw [List.findIdx?_append]
  congr 1
  by_cases h : n = m <;> simp [h, List.findIdx?_cons]
theorem vidx_append (ns : List Nd) (s : ByteArray) (m : Nd) : vidx (ns ++ [m]) s = (vidx ns s).or (if m.op = 2 ∧ s = m.name then some ns.length else none) := by
  unfold vidx
  rw [List.findIdx?_append]
  congr 1
  by_cases h : m.op = 2 <;> by_cases h2 : s = m.name <;> simp [h, h2, List.findIdx?_cons]

def num (i : Nat) : AV := .int .i64 ((i : Int) + 1)
/-- The slice of a graph's nodes. -/
def slv (o : Nat) (ns : List Nd) : AV := if ns = [] then .nils else .row o 0 11 ns.length false
def flat (ns : List Nd) : List AV := ns.flatMap Nd.cs
theorem flat_len (ns : List Nd) : (flat ns).length = ns.length * 11 := by
  unfold flat
  induction ns with
  | nil => rfl
  | cons n ns ih => simp only [List.flatMap_cons, List.length_append, ih, Nd.cs_len, List.length_cons]; omega
theorem flat_append (ns : List Nd) (n : Nd) : flat (ns ++ [n]) = flat ns ++ n.cs := by simp [flat]
theorem flat_drop : ∀ (ns : List Nd) (i : Nat), (flat ns).drop (i * 11) = flat (ns.drop i)
  | ns, 0 => by simp
  | [], i + 1 => by simp [flat]
  | n :: ns, i + 1 => by
    have e : (i + 1) * 11 = 11 + i * 11 := by omega
    rw [e, ← List.drop_drop]
    have : (flat (n :: ns)).drop 11 = flat ns := by simp [flat, List.drop_append]
    rw [this, flat_drop ns i]; rfl
theorem flat_at {ns : List Nd} {i : Nat} {n : Nd} (h : ns[i]? = some n) : ((flat ns).drop (i * 11)).take 11 = n.cs := by
  have hlt := (List.getElem?_eq_some_iff.1 h).1
  rw [flat_drop, List.drop_eq_getElem_cons hlt]
  have : ns[i] = n := (List.getElem?_eq_some_iff.1 h).2
  simp [flat, this]
  exact List.take_left' rfl
theorem flat_get {ns : List Nd} {i : Nat} {n : Nd} (h : ns[i]? = some n) {j : Nat} (hj : j < 11) : (flat ns)[i * 11 + j]? = n.cs[j]? := by
  rw [← flat_at h, List.getElem?_take_of_lt hj, List.getElem?_drop]

/-- A graph of terms in memory. -/
structure TG (H : AHeap) (g : Nat) (most : Int) (ns : List Nd) (o1 o2 o3 : Nat) : Prop where
  lg : g < H.size
  l1 : ns ≠ [] → o1 < H.size
  l2 : o2 < H.size
  l3 : o3 < H.size
  og : H.obj g = .cells [.int .i64 most, slv o1 ns, .map o2, .map o3]
  b1 : ns ≠ [] → H.obj o1 = .cells (flat ns)
  b2 : ∃ es c, H.obj o2 = .map shN' es c ∧ ∀ n, (findE (.agg n.cs) es).map (·.val) = (idx ns n).map num
  b3 : ∃ es c, H.obj o3 = .map (.one .s) es c ∧ ∀ s, (findE (.str s) es).map (·.val) = (vidx ns s).map num
  n1 : ns ≠ [] → g ≠ o1
  n2 : g ≠ o2
  n3 : g ≠ o3
  n12 : ns ≠ [] → o1 ≠ o2
  n13 : ns ≠ [] → o1 ≠ o3
  n23 : o2 ≠ o3
  lim : (ns.length : Int) ≤ most
  lim2 : most ≤ 4096
theorem TG.keep {H H' : AHeap} {g : Nat} {most : Int} {ns : List Nd} {o1 o2 o3 : Nat} (h : TG H g most ns o1 o2 o3) (k : Keeps H H') : TG H' g most ns o1 o2 o3 :=
  ⟨k.lt h.lg, fun e => k.lt (h.l1 e), k.lt h.l2, k.lt h.l3, (k.obj _ h.lg).trans h.og, fun e => (k.obj _ (h.l1 e)).trans (h.b1 e), by rw [k.obj _ h.l2]; exact h.b2, by rw [k.obj _ h.l3]; exact h.b3, h.n1, h.n2, h.n3, h.n12, h.n13, h.n23, h.lim, h.lim2⟩
theorem slv_len (o : Nat) (ns : List Nd) : sliceLen (slv o ns) = some ns.length := by
  unfold slv
  split
  · rename_i h; subst h; rfl
  · rfl
theorem slv_reads {H : AHeap} {o : Nat} {ns : List Nd} (h1 : ns ≠ [] → o < H.size) (h2 : ns ≠ [] → H.obj o = .cells (flat ns)) : Reads H (slv o ns) 11 ns.length (flat ns) := by
  unfold slv
  split
  · rename_i h; subst h; exact Reads.nils
  · rename_i h; exact Reads.row' (h1 h) (h2 h) (flat_len ns)
theorem slv_grows (o : Nat) (ns : List Nd) : grows (slv o ns) := by unfold slv; split <;> trivial
theorem slv_row {o : Nat} {ns : List Nd} {i : Nat} (h : i < ns.length) : slv o ns = .row o 0 11 ns.length false := by
  unfold slv; rw [if_neg (by rintro rfl; simp at h)]
@[simp] theorem slv_one (o : Nat) (ns : List Nd) : (slv o ns).one = true := by unfold slv; split <;> rfl
@[simp] theorem slv_cells (o : Nat) (ns : List Nd) : (slv o ns).cells = [slv o ns] := by unfold slv; split <;> rfl

theorem len_run {H : AHeap} {g : Nat} {most : Int} {ns : List Nd} {o1 o2 o3 : Nat} (h : TG H g most ns o1 o2 o3) : R f_plait_term_Graph_Len [.ptr g 0] H = some (.int .i64 ns.length, H) := by
  rw [e_plait_term_Graph_Len]
  simp (maxDischargeDepth := 40) [c_plait_term_Graph_Len, h.og, slv_len]
theorem var_run {H : AHeap} {g : Nat} {most : Int} {ns : List Nd} {o1 o2 o3 : Nat} (h : TG H g most ns o1 o2 o3) {s : ByteArray} : R f_plait_term_Graph_Var [.ptr g 0, .str s] H = some (.tup [((vidx ns s).map num).getD (.int .i64 0), .bool (vidx ns s).isSome], H) := by
  obtain ⟨es, c, h1, h2⟩ := h.b3
  have h3 := h2 s
  rw [e_plait_term_Graph_Var]
  cases hf : findE (.str s) es with
  | none =>
    rw [hf] at h3
    have : vidx ns s = none := by cases hv : vidx ns s with | none => rfl | some i => rw [hv] at h3; cases h3
    simp (maxDischargeDepth := 40) [c_plait_term_Graph_Var, h.og, h1, hf, this]
  | some x =>
    rw [hf] at h3
    cases hv : vidx ns s with
    | none => rw [hv] at h3; cases h3
    | some i =>
      rw [hv] at h3
      have hx : x.val = num i := by simpa using h3
      simp (maxDischargeDepth := 40) [c_plait_term_Graph_Var, h.og, h1, hf, hx, num]
def nodeS (ns : List Nd) (id : Int) : Option Nd := if id < 1 ∨ (ns.length : Int) < id then none else ns[(id - 1).toNat]?
theorem node_run {H : AHeap} {g : Nat} {most : Int} {ns : List Nd} {o1 o2 o3 : Nat} (h : TG H g most ns o1 o2 o3) {id : Int} : R f_plait_term_Graph_Node [.ptr g 0, .int .i64 id] H = some (.tup [.agg ((nodeS ns id).getD Nd.zero).cs, .bool (nodeS ns id).isSome], H) := by
  have hl := h.lim
  have hl2 := h.lim2
  unfold nodeS
  rw [e_plait_term_Graph_Node]
  have ng : ¬ g = H.size := Nat.ne_of_lt h.lg
  by_cases c1 : id < 1
  · simp (maxDischargeDepth := 40) [c_plait_term_Graph_Node, c1, Nd.cs, Nd.zero]
  by_cases c2 : (ns.length : Int) < id
  · simp (maxDischargeDepth := 40) [c_plait_term_Graph_Node, c1, c2, h.og, ng, slv_len, Nd.cs, Nd.zero]
  obtain ⟨i, rfl⟩ : ∃ i : Nat, id = (i : Int) + 1 := ⟨(id - 1).toNat, by omega⟩
  have hi : i < ns.length := by omega
  have hne : ns ≠ [] := by rintro rfl; simp at hi
  obtain ⟨n, hn⟩ : ∃ n, ns[i]? = some n := ⟨ns[i], by simp [hi]⟩
  have w1 : IntKind.i64.wrap (i : Int) = (i : Int) := i64w (by omega) (by omega)
  have hx : ns[i] = n := (List.getElem?_eq_some_iff.1 hn).2
  have hs := slv_row (o := o1) hi
  have hsl := slv_len o1 ns
  have ho := h.b1 hne
  have hlt := h.l1 hne
  have n1 : ¬ o1 = H.size := Nat.ne_of_lt hlt
  have hfl := flat_len ns
  have hat := flat_at hn
  have hle : i * 11 + 11 ≤ ns.length * 11 := by omega
  have e1 : ((i : Int) + 1 - 1).toNat = i := by omega
  have c3 : (i : Int) < ns.length := by omega
  have hg := h.og
  rw [hs] at hg hsl
  simp (maxDischargeDepth := 40) [c_plait_term_Graph_Node, c1, c2, hg, hx, w1, c3, hi, ho, n1, ng, hfl, hat, hle]
  simp (maxDischargeDepth := 40) [Nd.cs]
end Go.Proofs.Ytiaoojghohfkjaa
