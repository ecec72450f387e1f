/- The interpreter is right: operations that read and compute. -/
import Derived.Test.YtphkkcocimmmfaaAL4
import Derived.Tactics
import Derived.Laws.Entries
import Derived.Laws.Slices
import Derived.Laws.Strings
namespace Go.Proofs.Ytphkkcocimmmfaa
open Go.RowKit

/-- What the judgement of '==' and of keys needs of a struct's or an array's type: that it goes scalar by scalar. -/
structure KeyOK (P : Program) (t : TypeId) (sh : List Sc) : Prop where
  eq : ∀ (S : St) (w : World) (as bs : List AV) (xs ys : List Value), conf sh as = true → conf sh bs = true → VRs S as xs → VRs S bs ys → (Op.equal t (.agg xs.toArray) (.agg ys.toArray)).run P w = .ok (scsEq as bs) w
  guard : P.eqGuardType P.depth t = false
  chk : ∀ (S : St) (em : Bool) (w : World) (as : List AV) (xs : List Value), conf sh as = true → VRs S as xs → (Instr.checkKey em 10000 t (.agg xs.toArray)).run P w = .ok () w

def KeysOK (P : Program) (K : TypeId → Option (List Sc)) : Prop := ∀ t sh, K t = some sh → KeyOK P t sh

def EnvR (S : St) (e : Env) (tmps : Array Value) : Prop := ∀ t v, e t = some v → ∃ x, tmps[t]? = some x ∧ VR S v x

theorem EnvR.ext {S T : St} (h : Ext S T) {e : Env} {tmps : Array Value} (hE : EnvR S e tmps) : EnvR T e tmps :=
  fun t v hv => let ⟨x, hx, hr⟩ := hE t v hv; ⟨x, hx, hr.ext h⟩

theorem ofCell_sound (S : St) {v : Value} {a : AV} (h : ofCell v = some a) : VR S a v := by
  unfold ofCell at h
  split at h <;> first | cases h | skip
  all_goals first
    | exact .bool _
    | exact .int _ _
    | exact .str _
    | exact .nilp
    | exact .nils
    | exact .nilm
    | exact .nilf
    | exact .nili

theorem ofCells_sound (S : St) : ∀ {vs : List Value} {as : List AV}, ofCells vs = some as → VRs S as vs
  | [], as, h => by simp [ofCells] at h; subst h; exact .nil
  | v :: vs, as, h => by
    simp only [ofCells, Option.bind_eq_some_iff, Option.map_eq_some_iff] at h
    obtain ⟨a, ha, bs, hb, rfl⟩ := h
    exact .cons a v bs vs (ofCell_sound S ha) (ofCells_sound S hb)

theorem ofValue_sound (S : St) {v : Value} {a : AV} (h : ofValue v = some a) : VR S a v := by
  unfold ofValue at h
  split at h
  · rename_i cs
    simp only [Option.map_eq_some_iff] at h
    obtain ⟨as, ha, rfl⟩ := h
    have := VR.agg (S := S) as cs.toList (ofCells_sound S ha)
    simpa using this
  · exact ofCell_sound S h

theorem evalOpd_sound {S : St} {e : Env} {a : Act} (hE : EnvR S e a.tmps) {x : Operand} {v : AV} (h : evalOpd e x = some v) : VR S v (a.eval x) := by
  cases x with
  | tmp t =>
    obtain ⟨y, hy, hr⟩ := hE t v h
    simp only [Act.eval, Array.getD_eq_getD_getElem?, hy, Option.getD_some]
    exact hr
  | const c => exact ofValue_sound S h
  | global g => cases h
  | func f => simp [evalOpd] at h; subst h; exact .fn (.func f) [] [] [] [] .nil .nil

theorem evalOpds_sound {S : St} {e : Env} {a : Act} (hE : EnvR S e a.tmps) : ∀ {xs : List Operand} {vs : List AV}, evalOpds e xs = some vs → VRs S vs (xs.map a.eval)
  | [], vs, h => by simp [evalOpds] at h; subst h; exact .nil
  | x :: xs, vs, h => by
    simp only [evalOpds, Option.bind_eq_some_iff, Option.map_eq_some_iff] at h
    obtain ⟨v, hv, ws, hw, rfl⟩ := h
    exact .cons v _ ws _ (evalOpd_sound hE hv) (evalOpds_sound hE hw)

theorem VR.cells {S : St} {v : AV} {x : Value} (h : VR S v x) : VRs S v.cells x.cells.toList := by
  cases h <;> first
    | (simp only [AV.cells, Value.cells]; assumption)
    | skip
  all_goals simp only [AV.cells, Value.cells]
  all_goals exact .cons _ _ _ _ (by first | exact .bool _ | exact .int _ _ | exact .str _ | exact .nilp | exact .nils | exact .nilm | exact .nilf | exact .nili | exact .lst0 _ _ _ | exact .ptr _ _ _ ‹_› ‹_› | exact .map _ ‹_› | exact .ptrl _ _ _ _ _ ‹_› ‹_› ‹_› ‹_› | exact .row _ _ _ _ _ _ _ ‹_› ‹_› ‹_› ‹_› ‹_› ‹_› | exact .row0 _ _ _ _ _ _ ‹_› ‹_› | exact .lst _ _ _ _ _ _ _ ‹_› ‹_› ‹_› ‹_› ‹_› ‹_› | exact .fn _ _ _ _ _ ‹_› ‹_› | exact .ifc _ _ _ ‹_› | exact .tup _ _ ‹_›) .nil

theorem VR.one {S : St} {v : AV} {x : Value} (h : VR S v x) (h1 : v.one = true) : x.oneCell' = true := by
  cases h <;> first | rfl | (simp [AV.one] at h1)

theorem VRs.ones {S : St} : ∀ {as : List AV} {xs : List Value}, VRs S as xs → allOne as = true → ∀ x ∈ xs, x.oneCell' = true
  | _, _, .nil, _, x, hx => by simp at hx
  | _, _, .cons a y as ys ha hs, h1, x, hx => by
    simp [allOne] at h1
    rcases List.mem_cons.1 hx with rfl | hx
    · exact ha.one h1.1
    · exact hs.ones h1.2 x hx

section
variable {P : Program} {K : TypeId → Option (List Sc)}

theorem run_typeInfo {t : TypeId} {i : TypeInfo} (h : P.info? t = some i) (w : World) : (typeInfo t).run P w = .ok i w := by simp [typeInfo, h]
theorem tS_some {t : TypeId} {n : Nat} (h : tS P t = some n) : ∃ i, P.info? t = some i ∧ i.size = n := by simpa [tS] using h
theorem run_sizeOf {t : TypeId} {n : Nat} (h : tS P t = some n) (w : World) : (sizeOf t).run P w = .ok n w := by
  obtain ⟨i, hi, rfl⟩ := tS_some h
  simp [sizeOf, run_typeInfo hi]
theorem run_isAgg {t : TypeId} {b : Bool} (h : isAggT P t = some b) (w : World) : (isAgg t).run P w = .ok b w := by
  unfold isAggT at h
  unfold isAgg
  split at h <;> first | cases h | skip
  · rename_i hu; simp [run_underlying hu]
  · rename_i hu; simp [run_underlying hu]
  · rename_i d h1 h2 hu
    simp only [Sem.run_bind, run_underlying hu, Result.andThen_ok]
    cases d <;> first | rfl | exact (h1 _ rfl).elim | exact (h2 _ _ rfl).elim

theorem add_plain (b off n : Nat) : (⟨b, off, none⟩ : Addr).add n = ⟨b, off + n, none⟩ := Addr.add_lit b off n

theorem loadC_sound {S : St} {w : World} {t : TypeId} {cs : List AV} {xs : List Value} {off b base : Nat} {v : AV} (hs : VRs S cs xs) (hc : ∀ j x, xs[j]? = some x → w.cell? ⟨b, base + j, none⟩ = some x)
    (h : loadC P t cs off = some v) : ∃ y, (loadVar t ⟨b, base + off, none⟩).run P w = .ok y w ∧ VR S v y := by
  unfold loadC at h
  split at h
  · rename_i hg
    simp only [Option.bind_eq_some_iff] at h
    obtain ⟨n, hn, h⟩ := h
    split at h
    · rename_i hle
      cases h
      refine ⟨.agg ((xs.drop off).take n).toArray, ?_, .agg _ _ ((hs.drop off).take n)⟩
      have hl := hs.length
      have hlen : ((xs.drop off).take n).length = n := by simp; omega
      have hload := run_loadCells_list (P := P) w ⟨b, base + off, none⟩ ((xs.drop off).take n) (fun j x hj => by
        rw [add_plain, Nat.add_assoc]
        apply hc
        rw [List.getElem?_take] at hj
        split at hj
        · rw [List.getElem?_drop] at hj; exact hj
        · cases hj)
      rw [hlen] at hload
      simp [loadVar, run_isAgg hg, run_sizeOf hn, hload]
    · cases h
  · rename_i hg
    obtain ⟨x, hx, hv⟩ := hs.get h
    refine ⟨x, ?_, hv⟩
    simp [loadVar, run_isAgg hg, hc off x hx]
  · cases h

theorem part_sound {S : St} {w : World} {t : TypeId} {cs : List AV} {xs : List Value} {off : Nat} {v : AV} (hs : VRs S cs xs) (h : loadC P t cs off = some v) :
    ∃ y, (part t xs.toArray off).run P w = .ok y w ∧ VR S v y := by
  unfold loadC at h
  split at h
  · rename_i hg
    simp only [Option.bind_eq_some_iff] at h
    obtain ⟨n, hn, h⟩ := h
    split at h
    · rename_i hle
      cases h
      refine ⟨.agg ((xs.drop off).take n).toArray, ?_, .agg _ _ ((hs.drop off).take n)⟩
      simp only [part, Sem.run_bind, run_isAgg hg, Result.andThen_ok, if_true, run_sizeOf hn, Sem.run_pure]
      congr 2
      apply Array.ext'
      simp [List.extract_eq_take_drop]
    · cases h
  · rename_i hg
    obtain ⟨x, hx, hv⟩ := hs.get h
    refine ⟨x, ?_, hv⟩
    simp [part, run_isAgg hg, hx]
  · cases h

theorem ObjR.cellsOf {S : St} {o : Nat} {cs : List AV} (h : ObjR S o (.cells cs)) : ∃ c e xs, S.w.heap[(S.ι o).1]? = some (.cells c e (0, 0)) ∧ VRs S cs xs ∧ (S.ι o).2 + xs.length ≤ c.size ∧ (∀ j x, xs[j]? = some x → c[(S.ι o).2 + j]? = some x) ∧
    (∀ j x, xs[j]? = some x → S.w.cell? ⟨(S.ι o).1, (S.ι o).2 + j, none⟩ = some x) := by
  cases h with
  | cells _ c e xs h1 h2 h3 h4 => exact ⟨c, e, xs, h1, h2, h3, h4, fun j x hj => by simp [World.cell?, h1, h4 j x hj]⟩

theorem aload_sound {S : St} (hS : Sim S) {t : TypeId} {a v : AV} {x : Value} (ha : VR S a x) (h : aload P S.H t a = some v) : ∃ y, (Instr.loadAt t x).run P S.w = .ok y S.w ∧ VR S v y := by
  unfold aload at h
  split at h
  · rename_i o off
    split at h
    · rename_i cs hobj
      cases ha with
      | ptr _ _ m ho hm =>
        have hr := hS.objs o ho
        rw [hobj] at hr
        obtain ⟨c, e, xs, _, h2, _, _, h5⟩ := hr.cellsOf
        obtain ⟨y, hy, hv⟩ := loadC_sound h2 h5 h
        exact ⟨y, by simp [Instr.loadAt, Instr.sureAddr, hy], hv⟩
    · cases h
  · rename_i cs off
    cases ha with
    | ptrl _ b base _ xs hs hb hn hc =>
      obtain ⟨y, hy, hv⟩ := loadC_sound hs hc h
      exact ⟨y, by simp [Instr.loadAt, Instr.sureAddr, hy], hv⟩
  · cases h

theorem arith_sound {S : St} {w : World} {op : BinOp} {k : IntKind} {a b : Int} {v : AV} {t : TypeId} (h1 : op ≠ .shl) (h2 : op ≠ .shr) (h : arith op k a b = some v) : ∃ y, (binOp op t (.int k a) (.int k b)).run P w = .ok y w ∧ VR S v y := by
  cases op <;> simp only [arith] at h <;> (try contradiction)
  case quo => split at h <;> cases h; rename_i hb; exact ⟨_, by simp [binOp, Op.intDiv, hb], .int _ _⟩
  case rem => split at h <;> cases h; rename_i hb; exact ⟨_, by simp [binOp, Op.intDiv, hb], .int _ _⟩
  all_goals (try (cases h))
  all_goals refine ⟨_, ?_, by first | exact .int _ _ | exact .bool _⟩
  all_goals simp [binOp, Op.intArith, Op.intBits, Op.intCmp]

theorem ba_eq (a b : ByteArray) : (a == b) = decide (a = b) := by
  rw [Bool.eq_iff_iff]
  simp only [decide_eq_true_eq]
  show (a.data == b.data) = true ↔ _
  rw [beq_iff_eq]
  exact ByteArray.ext_iff.symm

theorem ba_list (a b : ByteArray) : (a.toList == b.toList) = decide (a = b) := by
  rw [Bool.eq_iff_iff]
  simp only [beq_iff_eq, decide_eq_true_eq, ByteArray.toList_eq]
  rw [ByteArray.ext_iff, ← Array.toList_inj]

theorem strOp_sound {S : St} {w : World} {op : BinOp} {a b : ByteArray} {v : AV} {t : TypeId} (h : strOp op a b = some v) : ∃ y, (binOp op t (.string a) (.string b)).run P w = .ok y w ∧ VR S v y := by
  cases op <;> simp only [strOp] at h <;> (try contradiction)
  case add =>
    split at h <;> cases h
    rename_i hb
    have : ¬ (IntKind.i64.max < ((a.size + b.size : Nat) : Int)) := by show ¬ ((9223372036854775807 : Int) < _); omega
    exact ⟨_, by simp only [binOp, Op.stringOp]; rw [if_neg (by simpa using this)]; rfl, .str _⟩
  all_goals (try (cases h))
  all_goals exact ⟨_, by simp [binOp, Op.stringOp, ba_list], .bool _⟩

theorem eqGuard_scalar {op : BinOp} {t : TypeId} {x y : Operand} {a b : Value} (w : World) (h1 : ∀ cs, a ≠ .agg cs) (h2 : a ≠ .nilIface) : (eqGuard op t x y a b).run P w = .ok () w := by
  unfold eqGuard
  cases a <;> first
    | exact absurd rfl h2
    | exact absurd rfl (h1 _)
    | (split <;> simp)

theorem eqGuard_agg (hK : KeysOK P K) {op : BinOp} {t : TypeId} {x y : Operand} {cs : Array Value} {b : Value} (w : World) {sh : List Sc} (h : K t = some sh) : (eqGuard op t x y (.agg cs) b).run P w = .ok () w := by
  unfold eqGuard
  cases b <;> (split <;> simp [(hK t sh h).guard])

theorem aeqS_sound {S : St} {w : World} {t : TypeId} {a b : AV} {x y : Value} {r : Bool} (ha : VR S a x) (hb : VR S b y) (h : aeqS P t a b = some r) :
    (Op.equal t x y).run P w = .ok r w ∧ x ≠ .nilIface ∧ (∀ cs, x ≠ .agg cs) ∧ (∀ k n, x ≠ .int k n) ∧ (∀ s, x ≠ .string s) ∧ (∀ k n, x ≠ .float k n) ∧ (∀ k n m, x ≠ .complex k n m) := by
  have key : (∀ d, (Op.equalIn (d + 1) t x y).run P w = .ok r w) → (Op.equal t x y).run P w = .ok r w := fun h => h 9999
  unfold aeqS at h
  split at h <;> first
    | (cases h; done)
    | (rename_i hu
       cases ha <;> cases hb <;> (cases h; exact ⟨key fun d => by simp [Op.equalIn, run_underlying hu], by simp, by simp, by simp, by simp, by simp, by simp⟩))

theorem aeq_sound (hK : KeysOK P K) {S : St} {w : World} {t : TypeId} {a b : AV} {x y : Value} {r : Bool} (ha : VR S a x) (hb : VR S b y) (h : aeq P K t a b = some r) :
    (Op.equal t x y).run P w = .ok r w ∧ x ≠ .nilIface ∧ ((∃ cs, x = .agg cs) → ∃ sh, K t = some sh) ∧ (∀ k n, x ≠ .int k n) ∧ (∀ s, x ≠ .string s) ∧ (∀ k n, x ≠ .float k n) ∧ (∀ k n m, x ≠ .complex k n m) := by
  unfold aeq at h
  split at h
  · simp only [Option.bind_eq_some_iff] at h
    obtain ⟨sh, hsh, h⟩ := h
    split at h
    · rename_i hc
      cases h
      cases ha with
      | agg as xs hs =>
        cases hb with
        | agg bs ys hs' => exact ⟨(hK t sh hsh).eq S w _ _ xs ys hc.1 hc.2 hs hs', by simp, fun _ => ⟨sh, hsh⟩, by simp, by simp, by simp, by simp⟩
    · cases h
  · obtain ⟨h1, h2, h3, h4⟩ := aeqS_sound (w := w) ha hb h
    exact ⟨h1, h2, fun ⟨cs, e⟩ => absurd e (h3 cs), h4⟩

theorem eqGuard_int {op : BinOp} {t : TypeId} {x y : Operand} {k : IntKind} {n : Int} {b : Value} (w : World) : (eqGuard op t x y (.int k n) b).run P w = .ok () w := eqGuard_scalar w (by simp) (by simp)
theorem eqGuard_str {op : BinOp} {t : TypeId} {x y : Operand} {s : ByteArray} {b : Value} (w : World) : (eqGuard op t x y (.string s) b).run P w = .ok () w := eqGuard_scalar w (by simp) (by simp)

theorem abin_sound (hK : KeysOK P K) {S : St} {w : World} {op : BinOp} {t : TypeId} {ox oy : Operand} {a b v : AV} {x y : Value} (ha : VR S a x) (hb : VR S b y) (h : abin P K op t a b = some v) :
    ∃ z, (do eqGuard op t ox oy x y; binOp op t x y : Sem Value).run P w = .ok z w ∧ VR S v z := by
  unfold abin at h
  split at h
  · rename_i k n k' m
    cases ha; cases hb
    split at h <;> cases h
    rename_i hm
    refine ⟨_, ?_, .int _ _⟩
    simp only [Sem.run_bind, eqGuard_int, Result.andThen_ok, binOp, Op.shift]
    rw [if_neg hm]
    rfl
  · rename_i k n k' m
    cases ha; cases hb
    split at h <;> cases h
    rename_i hm
    refine ⟨_, ?_, .int _ _⟩
    simp only [Sem.run_bind, eqGuard_int, Result.andThen_ok, binOp, Op.shift]
    rw [if_neg hm]
    rfl
  · rename_i op' k n k' m h1 h2
    cases ha; cases hb
    split at h
    · rename_i hk
      subst hk
      obtain ⟨z, hz, hv⟩ := arith_sound (P := P) (S := S) (w := w) (t := t) (fun e => h1 e) (fun e => h2 e) h
      exact ⟨z, by simp only [Sem.run_bind, eqGuard_int, Result.andThen_ok]; exact hz, hv⟩
    · cases h
  · cases ha; cases hb
    obtain ⟨z, hz, hv⟩ := strOp_sound (P := P) (S := S) (w := w) (t := t) h
    exact ⟨z, by simp only [Sem.run_bind, eqGuard_str, Result.andThen_ok]; exact hz, hv⟩
  · simp only [Option.map_eq_some_iff] at h
    obtain ⟨r, hr, rfl⟩ := h
    obtain ⟨h1, h2, h3, h4, h5, h6, h7⟩ := aeq_sound hK (w := w) ha hb hr
    refine ⟨_, ?_, .bool r⟩
    have hg : (eqGuard .eql t ox oy x y).run P w = .ok () w := by
      by_cases hx : ∃ cs, x = .agg cs
      · obtain ⟨sh, hsh⟩ := h3 hx; obtain ⟨cs, rfl⟩ := hx; exact eqGuard_agg hK w hsh
      · exact eqGuard_scalar w (fun cs e => hx ⟨cs, e⟩) h2
    simp only [Sem.run_bind, hg, Result.andThen_ok]
    cases x <;> first
      | (simp at h4; done)
      | (simp at h5; done)
      | (simp at h6; done)
      | (simp at h7; done)
      | simp [binOp, h1]
  · simp only [Option.map_eq_some_iff] at h
    obtain ⟨r, hr, rfl⟩ := h
    obtain ⟨h1, h2, h3, h4, h5, h6, h7⟩ := aeq_sound hK (w := w) ha hb hr
    refine ⟨_, ?_, .bool (!r)⟩
    have hg : (eqGuard .neq t ox oy x y).run P w = .ok () w := by
      by_cases hx : ∃ cs, x = .agg cs
      · obtain ⟨sh, hsh⟩ := h3 hx; obtain ⟨cs, rfl⟩ := hx; exact eqGuard_agg hK w hsh
      · exact eqGuard_scalar w (fun cs e => hx ⟨cs, e⟩) h2
    simp only [Sem.run_bind, hg, Result.andThen_ok]
    cases x <;> first
      | (simp at h4; done)
      | (simp at h5; done)
      | (simp at h6; done)
      | (simp at h7; done)
      | simp [binOp, h1]
  · cases h

theorem aun_sound {S : St} {w : World} {op : UnOp} {a v : AV} {x : Value} (ha : VR S a x) (h : aun op a = some v) : ∃ z, (Op.unary op x).run P w = .ok z w ∧ VR S v z := by
  unfold aun at h
  split at h
  · cases ha; cases h; exact ⟨_, by simp [Op.unary, Op.intArith], .int _ _⟩
  · cases ha; cases h; refine ⟨_, ?_, .int _ _⟩; simp [Op.unary, Op.intBits]
  · cases ha; cases h; exact ⟨_, by simp [Op.unary], .bool _⟩
  · cases h

end
end Go.Proofs.Ytphkkcocimmmfaa
