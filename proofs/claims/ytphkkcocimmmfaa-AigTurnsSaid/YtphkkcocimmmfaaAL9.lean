/- The interpreter is right: indexes, cuts, lengths, conversions, new rows, built values. -/
import Derived.Test.YtphkkcocimmmfaaAL8
namespace Go.Proofs.Ytphkkcocimmmfaa
open Go.RowKit

section
variable {P : Program} {K : TypeId → Option (List Sc)}

theorem aindexAddr_sound {S : St} {t : TypeId} {x v : AV} {y : Value} {k : IntKind} {i : Int} (hx : VR S x y) (h : aindexAddr P t x i = some v) : ∃ z, (Instr.indexAt t y (.int k i)).run P S.w = .ok z S.w ∧ VR S v z := by
  unfold aindexAddr at h
  split at h <;> first | (cases h; done) | skip
  · rename_i len e o off hu
    simp only [Option.bind_eq_some_iff] at h
    obtain ⟨sz, hsz, h⟩ := h
    split at h <;> first | (cases h; done) | skip
    rename_i hi
    cases h
    cases hx with
    | ptr _ _ m ho hm =>
      refine ⟨_, ?_, .ptr o (off + i.toNat * sz) m ho hm⟩
      simp [Instr.indexAt, asIntOf, run_underlying hu, Instr.sureAddr, hi, run_sizeOf hsz, add_plain, Nat.add_assoc]
  · rename_i len e cs off hu
    simp only [Option.bind_eq_some_iff] at h
    obtain ⟨sz, hsz, h⟩ := h
    split at h <;> first | (cases h; done) | skip
    rename_i hi
    cases h
    cases hx with
    | ptrl _ b base _ xs hs hb hn hc =>
      refine ⟨_, ?_, .ptrl cs b base (off + i.toNat * sz) xs hs hb hn hc⟩
      simp [Instr.indexAt, asIntOf, run_underlying hu, Instr.sureAddr, hi, run_sizeOf hsz, add_plain, Nat.add_assoc]
  · rename_i e o off sz n full hu
    split at h <;> first | (cases h; done) | skip
    rename_i hc
    obtain ⟨hsz, h0, h1⟩ := hc
    cases h
    cases hx with
    | row0 => simp at h1; omega
    | row _ _ _ _ cap m _ ho hm g1 g2 g3 g4 =>
      refine ⟨_, ?_, .ptr o (off + i.toNat * sz) m ho hm⟩
      simp [Instr.indexAt, asIntOf, run_underlying hu, h0, h1, run_sizeOf hsz, add_plain, Nat.add_assoc]
  · rename_i e sz n cs hu
    split at h <;> first | (cases h; done) | skip
    rename_i hc
    obtain ⟨hsz, h0, h1⟩ := hc
    cases h
    cases hx with
    | lst0 => simp at h1; omega
    | lst _ _ cap _ b off xs hs hl hb hn hcell hle =>
      refine ⟨_, ?_, .ptrl cs b off (i.toNat * sz) xs hs hb hn hcell⟩
      simp [Instr.indexAt, asIntOf, run_underlying hu, h0, h1, run_sizeOf hsz, add_plain]

theorem aindex_sound {S : St} {t : TypeId} {x v : AV} {y : Value} {k : IntKind} {i : Int} (hx : VR S x y) (h : aindex P t x i = some v) : ∃ z, (Instr.index t y (.int k i)).run P S.w = .ok z S.w ∧ VR S v z := by
  unfold aindex at h
  split at h <;> first | (cases h; done) | skip
  · rename_i len e cs hu
    simp only [Option.bind_eq_some_iff] at h
    obtain ⟨sz, hsz, h⟩ := h
    split at h <;> first | (cases h; done) | skip
    rename_i hi
    cases hx with
    | agg _ xs hs =>
      obtain ⟨z, hz, hv⟩ := part_sound (P := P) (w := S.w) hs h
      exact ⟨z, by simp [Instr.index, asIntOf, run_underlying hu, hi, run_sizeOf hsz, hz], hv⟩
  · rename_i s hu
    cases hx
    split at h <;> first | (cases h; done) | skip
    rename_i h0
    simp only [Option.map_eq_some_iff] at h
    obtain ⟨b, hb, rfl⟩ := h
    refine ⟨_, ?_, .int _ _⟩
    have hlt : i.toNat < s.size := by
      have := (List.getElem?_eq_some_iff.1 hb).1
      simpa [ByteArray.toList_eq] using this
    have hget : s[i.toNat]? = some b := by
      rw [ByteArray.toList_eq] at hb
      rw [getElem?_pos s i.toNat hlt]
      have h2 := (List.getElem?_eq_some_iff.1 hb).2
      rw [← h2]
      rfl
    simp [Instr.index, asIntOf, run_underlying hu, h0, hget]

theorem run_bound {S : St} {d y : Nat} {l : Option AV} {ly : Option Value} (hl : match l, ly with | none, none => True | some a, some b => VR S a b | _, _ => False) {i : Int} (h : bound d l = some i) :
    (l = none ∧ ly = none ∧ i = d) ∨ ∃ k, ly = some (.int k i) := by
  cases l <;> cases ly <;> simp at hl
  · simp [bound] at h; exact .inl ⟨rfl, rfl, h.symm⟩
  · rename_i a b
    cases a <;> simp [bound] at h
    cases hl
    subst h
    exact .inr ⟨_, rfl⟩

def OptVR (S : St) (l : Option AV) (ly : Option Value) : Prop := match l, ly with | none, none => True | some a, some b => VR S a b | _, _ => False

theorem run_bounds {S : St} {isS : Bool} {n cap : Nat} {lo hi : Option AV} {ly hy : Option Value} (hl : OptVR S lo ly) (hh : OptVR S hi hy) {l h : Int} (el : bound 0 lo = some l) (eh : bound n hi = some h)
    (h0 : 0 ≤ l) (h1 : l ≤ h) (h2 : h ≤ n) (hc : n ≤ cap) : (Instr.sliceBounds isS n cap ly hy none).run P S.w = .ok (l.toNat, h.toNat, cap) S.w := by
  have hh0 : 0 ≤ h := by omega
  have hhc : h ≤ (cap : Int) := by omega
  rcases run_bound (y := cap) hl el with ⟨rfl, rfl, rfl⟩ | ⟨k, rfl⟩ <;> rcases run_bound (y := cap) hh eh with ⟨rfl, rfl, rfl⟩ | ⟨k', rfl⟩
  · simp [Instr.sliceBounds]
  · have h3 := run_sliceBound (P := P) S.w k' h cap .sliceAlen hh0 hhc
    have h4 := run_sliceBound (P := P) S.w k' h cap .sliceAcap hh0 hhc
    cases isS <;> simp [Instr.sliceBounds, h3, h4]
  · have := run_sliceBound (P := P) S.w k l n (.sliceB) h0 (by omega)
    simp [Instr.sliceBounds, this]
  · have := run_sliceBound (P := P) S.w k l h.toNat (.sliceB) h0 (by omega)
    have h3 := run_sliceBound (P := P) S.w k' h cap .sliceAlen hh0 hhc
    have h4 := run_sliceBound (P := P) S.w k' h cap .sliceAcap hh0 hhc
    cases isS <;> simp [Instr.sliceBounds, h3, h4, this]

/-- A part of a row, or nothing of it. -/
theorem VR.cut {S : St} {o off sz n cap m off' : Nat} {full : Bool} (ho : o < S.H.size) (hM : cellsAt S.w (S.ι o).1 m) (g1 : 0 < cap → off' = (S.ι o).2 + off ∧ (S.ι o).2 + off + cap * sz ≤ m) (g2 : n ≤ cap) (g3 : cap ≤ 9223372036854775807) (g4 : full = true → cap = n) :
    VR S (.row o off sz n full) (.slice (some ⟨(S.ι o).1, off', none⟩) n cap) := by
  by_cases h : cap = 0
  · subst h
    obtain rfl : n = 0 := by omega
    exact .row0 o off sz off' m full ho hM
  · obtain ⟨rfl, g⟩ := g1 (by omega)
    exact .row o off sz n cap m full ho hM g g2 g3 g4

theorem VR.rowInfo {S : St} {o off sz n : Nat} {full : Bool} {y : Value} (h : VR S (.row o off sz n full) y) : ∃ cap m off', y = .slice (some ⟨(S.ι o).1, off', none⟩) n cap ∧ o < S.H.size ∧ cellsAt S.w (S.ι o).1 m ∧ (0 < cap → off' = (S.ι o).2 + off ∧ (S.ι o).2 + off + cap * sz ≤ m) ∧ n ≤ cap ∧ cap ≤ 9223372036854775807 ∧ (full = true → cap = n) := by
  cases h with
  | row _ _ _ _ cap m _ ho hM g1 g2 g3 g4 => exact ⟨cap, m, _, rfl, ho, hM, fun _ => ⟨rfl, g1⟩, g2, g3, g4⟩
  | row0 _ _ _ off' m _ ho hM => exact ⟨0, m, off', rfl, ho, hM, fun h => absurd h (Nat.lt_irrefl 0), Nat.le_refl _, by omega, fun _ => rfl⟩

theorem run_sliceRow {S : St} {t e : TypeId} {sz b off n cap : Nat} {ly hy my : Option Value} {l h m : Nat} (hu : P.underlying t = some (.slice e)) (hsz : tS P e = some sz) (hb : (Instr.sliceBounds true n cap ly hy my).run P S.w = .ok (l, h, m) S.w) :
    (Instr.sliceAt t (.slice (some ⟨b, off, none⟩) n cap) ly hy my).run P S.w = .ok (.slice (some ⟨b, if m = l then off else off + l * sz, none⟩) (h - l) (m - l)) S.w := by
  by_cases hm : m = l
  · simp [Instr.sliceAt, run_underlying hu, Instr.slice, hb, run_sizeOf hsz, hm]
  · simp [Instr.sliceAt, run_underlying hu, Instr.slice, hb, run_sizeOf hsz, hm, add_plain]

theorem run_bounds3 {S : St} {n cap : Nat} {lo hi : Option AV} {ly hy : Option Value} (hl : OptVR S lo ly) (hh : OptVR S hi hy) {l h m : Int} {k : IntKind} (el : bound 0 lo = some l) (eh : bound n hi = some h) (hs : hi.isSome = true)
    (h0 : 0 ≤ l) (h1 : l ≤ h) (h2 : h ≤ m) (hm : m ≤ n) (hc : n ≤ cap) : (Instr.sliceBounds true n cap ly hy (some (.int k m))).run P S.w = .ok (l.toNat, h.toNat, m.toNat) S.w := by
  have a1 := run_sliceBound (P := P) S.w k m cap .slice3Acap (by omega) (by omega)
  rcases run_bound (y := cap) hh eh with ⟨rfl, rfl, rfl⟩ | ⟨k', rfl⟩
  · simp at hs
  · have a2 := run_sliceBound (P := P) S.w k' h m.toNat .slice3B (by omega) (by omega)
    rcases run_bound (y := cap) hl el with ⟨rfl, rfl, rfl⟩ | ⟨k'', rfl⟩
    · simp [Instr.sliceBounds, a1, a2]
    · have a3 := run_sliceBound (P := P) S.w k'' l h.toNat .slice3C (by omega) (by omega)
      simp [Instr.sliceBounds, a1, a2, a3]

theorem aslice_sound {S : St} (hS : Sim S) {t : TypeId} {x v : AV} {y : Value} {lo hi mx : Option AV} {ly hy my : Option Value} (hx : VR S x y) (hl : OptVR S lo ly) (hh : OptVR S hi hy) (hm : OptVR S mx my) (h : aslice P S.H t x lo hi mx = some v) :
    ∃ z, (Instr.sliceAt t y ly hy my).run P S.w = .ok z S.w ∧ VR S v z := by
  unfold aslice at h
  split at h <;> first | (cases h; done) | skip
  · rename_i s hu
    simp only [Option.bind_eq_some_iff] at h
    obtain ⟨l, el, u, eu, h⟩ := h
    split at h <;> first | (cases h; done) | skip
    rename_i hc
    cases h
    cases hx
    cases my <;> simp [OptVR] at hm
    have hb := run_bounds (P := P) (isS := false) (cap := s.size) hl hh el eu hc.1 hc.2.1 hc.2.2 (Nat.le_refl _)
    exact ⟨_, by simp [Instr.sliceAt, run_underlying hu, Instr.slice, hb], .str _⟩
  · rename_i e o off sz n full hu
    simp only [Option.bind_eq_some_iff] at h
    obtain ⟨l, el, u, eu, h⟩ := h
    split at h <;> first | (cases h; done) | skip
    rename_i hc
    obtain ⟨hsz, h0, h1, h2⟩ := hc
    cases h
    cases my <;> simp [OptVR] at hm
    obtain ⟨cap, m, off', rfl, ho, hM, g1, g2, g3, g4⟩ := hx.rowInfo
    have hb := run_bounds (P := P) (isS := true) (cap := cap) hl hh el eu h0 h1 h2 g2
    refine ⟨_, run_sliceRow hu hsz hb, ?_⟩
    rw [show (u - l).toNat = u.toNat - l.toNat from by omega]
    refine VR.cut ho hM (fun hpos => ?_) (by omega) (by omega) (fun hf => ?_)
    · obtain ⟨rfl, g⟩ := g1 (by omega)
      rw [if_neg (by omega)]
      refine ⟨by omega, ?_⟩
      have : cap * sz = l.toNat * sz + (cap - l.toNat) * sz := by rw [← Nat.add_mul]; congr 1; omega
      omega
    · simp at hf
      have := g4 hf.1
      omega
  · rename_i e o off sz n full k m hu
    simp only [Option.bind_eq_some_iff] at h
    obtain ⟨l, el, u, eu, h⟩ := h
    split at h <;> first | (cases h; done) | skip
    rename_i hc
    obtain ⟨hsz, hs, h0, h1, h2, h3⟩ := hc
    cases h
    cases my <;> simp [OptVR] at hm
    cases hm
    obtain ⟨cap, M, off', rfl, ho, hM, g1, g2, g3, g4⟩ := hx.rowInfo
    have hb := run_bounds3 (P := P) (k := k) (cap := cap) hl hh el eu hs h0 h1 h2 h3 g2
    refine ⟨_, run_sliceRow hu hsz hb, ?_⟩
    rw [show (u - l).toNat = u.toNat - l.toNat from by omega]
    refine VR.cut ho hM (fun hpos => ?_) (by omega) (by omega) (fun hf => ?_)
    · obtain ⟨rfl, g⟩ := g1 (by omega)
      rw [if_neg (by omega)]
      refine ⟨by omega, ?_⟩
      have : cap * sz = l.toNat * sz + (m.toNat - l.toNat) * sz + (cap - m.toNat) * sz := by rw [← Nat.add_mul, ← Nat.add_mul]; congr 1; omega
      omega
    · simp at hf
      omega
  · rename_i e sz n cs hu
    simp only [Option.bind_eq_some_iff] at h
    obtain ⟨l, el, u, eu, h⟩ := h
    split at h <;> first | (cases h; done) | skip
    rename_i hc
    obtain ⟨hsz, h0, h1, h2⟩ := hc
    cases h
    cases my <;> simp [OptVR] at hm
    by_cases hz : (u - l).toNat = 0
    · rw [hz]
      simp only [Nat.zero_mul, List.take_zero]
      cases hx with
      | lst0 _ cap a =>
        have hb := run_bounds (P := P) (isS := true) (cap := cap) hl hh el eu h0 h1 (by simpa using h2) (Nat.zero_le _)
        have e0 : u.toNat - l.toNat = 0 := by omega
        cases a with
        | none => exact ⟨.slice none 0 (cap - l.toNat), by simp [Instr.sliceAt, run_underlying hu, Instr.slice, hb, run_sizeOf hsz, e0], .lst0 _ _ _⟩
        | some a => exact ⟨.slice (if cap = l.toNat then some a else some (a.add (l.toNat * sz))) 0 (cap - l.toNat), by simp [Instr.sliceAt, run_underlying hu, Instr.slice, hb, run_sizeOf hsz, e0], .lst0 _ _ _⟩
      | lst _ _ cap _ b off xs hs hl' hb' hn hcell hle =>
        have hb := run_bounds (P := P) (isS := true) (cap := cap) hl hh el eu h0 h1 h2 hle
        refine ⟨_, run_sliceRow hu hsz hb, ?_⟩
        rw [show u.toNat - l.toNat = 0 from by omega]
        exact .lst0 _ _ _
    · cases hx with
      | lst0 => simp at h2; omega
      | lst _ _ cap _ b off xs hs hl' hb' hn hcell hle =>
        have hb := run_bounds (P := P) (isS := true) (cap := cap) hl hh el eu h0 h1 h2 hle
        refine ⟨_, run_sliceRow hu hsz hb, ?_⟩
        rw [if_neg (by omega), show (u - l).toNat = u.toNat - l.toNat from by omega]
        refine .lst sz _ _ _ b (off + l.toNat * sz) _ ((hs.drop (l.toNat * sz)).take _) ?_ hb' hn (fun j x hj => ?_) (by omega)
        · simp only [List.length_take, List.length_drop, hl']
          have : n * sz = l.toNat * sz + (u.toNat - l.toNat) * sz + (n - u.toNat) * sz := by rw [← Nat.add_mul, ← Nat.add_mul]; congr 1; omega
          omega
        · rw [List.getElem?_take] at hj
          split at hj
          · rw [List.getElem?_drop] at hj
            rw [Nat.add_assoc]
            exact hcell _ x hj
          · cases hj
  · rename_i e hu
    simp only [Option.bind_eq_some_iff] at h
    obtain ⟨sz, hsz, l, el, u, eu, h⟩ := h
    split at h <;> first | (cases h; done) | skip
    rename_i hc
    obtain ⟨rfl, rfl⟩ := hc
    cases h
    cases hx
    cases my <;> simp [OptVR] at hm
    have hb := run_bounds (P := P) (S := S) (isS := true) (n := 0) (cap := 0) hl hh el eu (Int.le_refl _) (Int.le_refl _) (Int.le_refl _) (Nat.le_refl _)
    exact ⟨_, by simp [Instr.sliceAt, run_underlying hu, Instr.slice, hb, run_sizeOf hsz], .nils⟩
  · rename_i n e o off hu
    simp only [Option.bind_eq_some_iff] at h
    obtain ⟨sz, hsz, l, el, u, eu, h⟩ := h
    split at h <;> first | (cases h; done) | skip
    rename_i cs hobj
    split at h <;> first | (cases h; done) | skip
    rename_i hc
    obtain ⟨h0, h1, h2, h3, h4⟩ := hc
    cases h
    cases my <;> simp [OptVR] at hm
    cases hx with
    | ptr _ _ m ho hM =>
      have hb := run_bounds (P := P) (isS := false) (cap := n) hl hh el eu h0 h1 h2 (Nat.le_refl _)
      have hr := hS.objs o ho
      rw [hobj] at hr
      obtain ⟨c, e0, xs, k1, k2, k3, _, _⟩ := hr.cellsOf
      obtain ⟨c1, e1, fr1, q1, q2⟩ := hM
      rw [k1] at q1
      cases q1
      have hlen := k2.length
      refine ⟨.slice (some ⟨(S.ι o).1, if n = l.toNat then (S.ι o).2 + off else (S.ι o).2 + off + l.toNat * sz, none⟩) (u.toNat - l.toNat) (n - l.toNat), ?_, ?_⟩
      · by_cases hnl : n = l.toNat
        · simp [Instr.sliceAt, run_underlying hu, Instr.sureAddr, hb, run_sizeOf hsz, ← hnl]
        · simp [Instr.sliceAt, run_underlying hu, Instr.sureAddr, hb, run_sizeOf hsz, hnl, add_plain]
      · rw [show (u - l).toNat = u.toNat - l.toNat from by omega]
        refine VR.cut ho ⟨c, _, _, k1, q2⟩ (fun hpos => ?_) (by omega) (by omega) (fun hf => ?_)
        · rw [if_neg (by omega)]
          refine ⟨by omega, ?_⟩
          have : n * sz = l.toNat * sz + (n - l.toNat) * sz := by rw [← Nat.add_mul]; congr 1; omega
          omega
        · simp at hf
          omega

theorem alen_sound {S : St} (hS : Sim S) {t ty : TypeId} {x v : AV} {y : Value} (hx : VR S x y) (h : alen P S.H t x = some v) (rest : List TypeId) : ∃ z, (Builtin.len_ (t :: rest).toArray ty #[y]).run P S.w = .ok z S.w ∧ VR S v z := by
  unfold alen at h
  split at h <;> first | (cases h; done) | skip
  · rename_i s hu; cases h; cases hx; exact ⟨_, by simp [Builtin.len_, run_underlying hu, goInt], .int _ _⟩
  · rename_i n e hu; cases h; exact ⟨_, by simp [Builtin.len_, run_underlying hu, goInt], .int _ _⟩
  · rename_i e hu
    simp only [Option.map_eq_some_iff] at h
    obtain ⟨n, hn, rfl⟩ := h
    cases hx <;> simp [sliceLen] at hn <;> subst hn
    all_goals exact ⟨_, by simp [Builtin.len_, run_underlying hu, goInt], .int _ _⟩
  · rename_i hu; cases h; cases hx; exact ⟨_, by simp [Builtin.len_, run_underlying hu, goInt], .int _ _⟩
  · rename_i o hu
    split at h <;> first | (cases h; done) | skip
    rename_i sh es clock hobj
    cases h
    cases hx with
    | map _ ho =>
      obtain ⟨ms, hb, hE⟩ := mapObj hS ho hobj
      have hget := run_getMap (P := P) hb
      exact ⟨_, by simp [Builtin.len_, run_underlying hu, goInt, hget, hE.length], .int _ _⟩

theorem foldMin_sound {S : St} {w : World} : ∀ {as : List AV} {xs : List Value} {a v : AV} {x : Value}, VRs S as xs → VR S a x → foldMin a as = some v → ∃ z, (xs.foldlM Builtin.min2 x).run P w = .ok z w ∧ VR S v z
  | _, _, a, v, x, .nil, ha, h => by simp [foldMin] at h; subst h; exact ⟨x, rfl, ha⟩
  | _, _, a, v, x, .cons b y bs ys hb hs, ha, h => by
    unfold foldMin at h
    split at h <;> first | (cases h; done) | skip
    · rename_i heq; cases heq
    rename_i heq
    cases heq
    split at h <;> first | (cases h; done) | skip
    rename_i hk
    subst hk
    cases ha; cases hb
    obtain ⟨z, hz, hv⟩ := foldMin_sound (w := w) hs (.int _ _) h
    exact ⟨z, by simpa [Builtin.min2] using hz, hv⟩

theorem foldMax_sound {S : St} {w : World} : ∀ {as : List AV} {xs : List Value} {a v : AV} {x : Value}, VRs S as xs → VR S a x → foldMax a as = some v → ∃ z, (xs.foldlM Builtin.max2 x).run P w = .ok z w ∧ VR S v z
  | _, _, a, v, x, .nil, ha, h => by simp [foldMax] at h; subst h; exact ⟨x, rfl, ha⟩
  | _, _, a, v, x, .cons b y bs ys hb hs, ha, h => by
    unfold foldMax at h
    split at h <;> first | (cases h; done) | skip
    · rename_i heq; cases heq
    rename_i heq
    cases heq
    split at h <;> first | (cases h; done) | skip
    rename_i hk
    subst hk
    cases ha; cases hb
    obtain ⟨z, hz, hv⟩ := foldMax_sound (w := w) hs (.int _ _) h
    exact ⟨z, by simpa [Builtin.max2] using hz, hv⟩

theorem zeros_toList {S : St} {z : List AV} {zv : Array Value} (hz : VRs S z zv.toList) (hp : 0 < zv.size) (n : Nat) : VRs S ((List.replicate n z).flatten) ((Array.range (n * zv.size)).map (zv[· % zv.size]!)).toList := by
  have : ((Array.range (n * zv.size)).map (zv[· % zv.size]!)).toList = (List.replicate n zv.toList).flatten := by
    apply List.ext_getElem
    · simp
    · intro i h1 h2
      have hi : i < n * zv.size := by simpa using h1
      have hmod : i % zv.size < zv.size := Nat.mod_lt _ hp
      simp only [Array.toList_map, List.getElem_map, Array.getElem_toList, Array.getElem_range]
      rw [getElem!_pos zv _ hmod]
      clear h1
      induction n generalizing i with
      | zero => simp at hi
      | succ n ih =>
        by_cases hlt : i < zv.size
        · simp only [List.replicate_succ, List.flatten_cons]
          rw [List.getElem_append_left (by simpa using hlt)]
          simp [Nat.mod_eq_of_lt hlt]
        · have hge : zv.size ≤ i := by omega
          simp only [List.replicate_succ, List.flatten_cons]
          rw [List.getElem_append_right (by simpa using hge)]
          have hi' : i - zv.size < n * zv.size := by rw [Nat.add_mul] at hi; omega
          have := ih (i - zv.size) (by simpa using hi') hi' (Nat.mod_lt _ hp)
          simp only [Array.length_toList]
          rw [← this]
          congr 1
          rw [Nat.mod_eq_sub_mod hge]
  rw [this]
  clear this
  induction n with
  | zero => simp; exact .nil
  | succ n ih => simp only [List.replicate_succ, List.flatten_cons]; exact hz.append ih

theorem amake_sound {S : St} (hS : Sim S) {t : TypeId} {l c : Int} {k k' : IntKind} {v : AV} {H' : AHeap} (h : amake P S.H t l c = some (v, H')) :
    ∃ (T : St) (r : Value), (Instr.makeSlice t (.int k l) (.int k' c)).run P S.w = .ok r T.w ∧ T.H = H' ∧ Sim T ∧ Ext S T ∧ VR T v r := by
  unfold amake at h
  split at h <;> first | (cases h; done) | skip
  rename_i e hu
  simp only [Option.bind_eq_some_iff] at h
  obtain ⟨sz, hsz, by_, hby, z, hz, h⟩ := h
  split at h <;> first | (cases h; done) | skip
  rename_i hc
  obtain ⟨h0, h1, h2, h3, h4, h5⟩ := hc
  cases h
  obtain ⟨i, zv, hi, hzz, hvz⟩ := tZ_some S hz
  have hby' : i.bytes = by_ := by simpa [tB, hi] using hby
  subst hby'
  have hsz' : i.size = sz := by simpa [tS, hi] using hsz
  subst hsz'
  have hzs : zv.cells.size = i.size := by have := hvz.length; simp at this; omega
  have wl : IntKind.i64.wrap l = l := by simp [IntKind.wrap, IntKind.bits, IntKind.signed]; omega
  have wc : IntKind.i64.wrap c = c := by simp [IntKind.wrap, IntKind.bits, IntKind.signed]; omega
  have hbig : ¬ (281474976710656 < (i.bytes : Int) * c) := by rw [Int.mul_comm]; omega
  obtain ⟨g1, g2, g3, g4⟩ := alloc_cells hS (zeros_toList hvz (by omega) c.toNat) (c := (Array.range (c.toNat * zv.cells.size)).map (zv.cells[· % zv.cells.size]!)) (e := e) [] (by simp) (Grew.alloc S.w _)
  have hrun : (Instr.makeSlice t (.int k l) (.int k' c)).run P S.w = .ok (.slice (some ⟨S.w.heap.size, 0, none⟩) l.toNat c.toNat) (S.w.alloc (.cells ((Array.range (c.toNat * zv.cells.size)).map (zv.cells[· % zv.cells.size]!)) e)) := by
    have n1 : ¬ (c < 0) := by omega
    have n2 : ¬ (l < 0) := by omega
    have n3 : ¬ (c < l) := by omega
    by_cases hn : c.toNat = 0
    · simp [Instr.makeSlice, run_underlying hu, asInt, asIntOf, run_typeInfo hi, wl, wc, n1, n2, n3, hbig, sizeOf, hn, newRow, show Array.range 0 = #[] from rfl]
    · have hn' : ¬ (c.toNat * i.size = 0) := by
        intro h; rcases Nat.mul_eq_zero.1 h with h | h <;> omega
      simp [Instr.makeSlice, run_underlying hu, asInt, asIntOf, run_typeInfo hi, wl, wc, n1, n2, n3, hbig, sizeOf, hn', newRow, run_zeroValue hi hzz, hzs]
  refine ⟨_, _, hrun, rfl, g1, g2, ?_⟩
  have := VR.row_new (S := S.alloc (.cells (List.replicate c.toNat z).flatten) (S.w.alloc (.cells ((Array.range (c.toNat * zv.cells.size)).map (zv.cells[· % zv.cells.size]!)) e))) (H := S.H.size) i.size l.toNat c.toNat _ (decide (l = c))
    (by simp [St.alloc, AHeap.new]) (by rw [g3]; exact g4) (by rw [g3]) (by simp [hzs]) (by omega) (by omega) (by intro h; simp at h; omega)
  rwa [g3] at this

end
end Go.Proofs.Ytphkkcocimmmfaa
