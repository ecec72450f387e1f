/- Texts BVR EA EB BV2 BV3 BV4 BVW BVP EC ED BRT EE TD TE TF TH TI TL TNL TJ TO EF SA SB EG TQ of this claim, one behind the other. -/
import Derived.Test.YtiobohfiaapgeaaK5
section
namespace Go.Proofs.Ytiobohfiaapgeaa
set_option maxRecDepth 100000
def rightF (w : Int) (l h : BitVec 64) : Bool := if w = 0 then decide (l ≤ 1#64 ∧ h = 0#64) else decide (0 < w ∧ w ≤ 128) && decide (mkN l h &&& maskN w.toNat = mkN l h)
theorem bvRight_run {w : Int} {l h : BitVec 64} {H : AHeap} : R Zd1 [.agg [.int .i64 w, u l, u h]] H = some (.bool (rightF w l h), H) := by
  unfold rightF
  rw [Zjh]
  by_cases w0 : w = 0
  · subst w0
    by_cases c1 : l ≤ 1#64 <;> simp (maxDischargeDepth := 40) [Zf3, c1]
  by_cases c1 : 0 < w
  rotate_left
  · simp (maxDischargeDepth := 40) [Zf3, w0, c1]
  by_cases c2 : w ≤ 128
  rotate_left
  · simp (maxDischargeDepth := 40) [Zf3, w0, c1, c2]
  obtain ⟨n, rfl⟩ : ∃ n : Nat, w = (n : Int) := ⟨w.toNat, by omega⟩
  have hn : n ≤ 128 := by omega
  have n0 : ¬ n = 0 := by omega
  have n1 : 0 < n := by omega
  have r1 := fun H => (of_run (a := .int .i64 n) (x := mkN l h) (H := H)).run
  have r2 := fun H => (cut_run hn (x := mkN l h) (H := H)).run
  simp only [N, Bt, lo_mk, hi_mk] at r1 r2
  have e : (lo (mkN l h &&& maskN n) = l ∧ hi (mkN l h &&& maskN n) = h) ↔ mkN l h &&& maskN n = mkN l h := by
    constructor
    · intro ⟨a, b⟩; exact pair_ext (by rw [a, lo_mk]) (by rw [b, hi_mk])
    · intro a; rw [a, lo_mk, hi_mk]; exact ⟨rfl, rfl⟩
  simp (maxDischargeDepth := 40) [Zf3, n0, n1, c2, r1, r2]
  rw [← Bool.decide_and, decide_eq_decide]; exact e
end Go.Proofs.Ytiobohfiaapgeaa
end
section
namespace Go.Proofs.Ytiobohfiaapgeaa
set_option maxRecDepth 100000
set_option maxHeartbeats 2000000
structure Vl where
  w : Int
  n : W128
def Vl.zero : Vl := ⟨0, 0#128⟩
def Vl.cs (v : Vl) : List AV := [.int .i64 v.w, u (lo v.n), u (hi v.n)]
abbrev Vl.av (v : Vl) : AV := .agg [.int .i64 v.w, u (lo v.n), u (hi v.n)]
def Vl.ok (v : Vl) : Bool := rightF v.w (lo v.n) (hi v.n)
def Vl.yes (v : Vl) : Bool := decide (lo v.n = 1#64)
def Vl.bool (b : Bool) : Vl := ⟨0, if b = true then 1#128 else 0#128⟩
def Vl.sort (v : Vl) : Int := if v.ok = true then v.w else -1
theorem Vl.ext' {a b : Vl} (h1 : a.w = b.w) (h2 : lo a.n = lo b.n) (h3 : hi a.n = hi b.n) : a = b := by
  obtain ⟨w, n⟩ := a
  obtain ⟨w', n'⟩ := b
  simp only at h1 h2 h3
  subst h1
  congr 1
  apply BitVec.eq_of_getLsbD_eq
  intro i hi'
  by_cases h : i < 64
  · have := congrArg (fun x : BitVec 64 => x.getLsbD i) h2
    simpa [lo, h] using this
  · have := congrArg (fun x : BitVec 64 => x.getLsbD (i - 64)) h3
    have e : 64 + (i - 64) = i := by omega
    have e2 : i - 64 < 64 := by omega
    simpa [hi, e, e2] using this
def flatV (l : List Vl) : List AV := l.flatMap Vl.cs
theorem flatV_at {l : List Vl} : ∀ {i : Nat} {v : Vl}, l[i]? = some v → ((flatV l).drop (i * 3)).take 3 = v.cs := by
  induction l with
  | nil => intro i v h; simp at h
  | cons x l ih =>
    intro i v h
    cases i with
    | zero => simp at h; subst h; simp [flatV, Vl.cs]
    | succ i =>
      simp at h
      rw [show (i + 1) * 3 = i * 3 + 3 from by omega]
      simpa [flatV, Vl.cs] using ih h
def RV (H : AHeap) (v : AV) (l : List Vl) : Prop := Reads H v 3 l.length (flatV l)
theorem RV.len {H : AHeap} {v : AV} {l : List Vl} (h : RV H v l) : sliceLen v = some l.length := Reads.len h
theorem RV.keep {H H' : AHeap} {v : AV} {l : List Vl} (h : RV H v l) (k : Keeps H H') : RV H' v l := Reads.keep h k
theorem RV.at {H : AHeap} {v : AV} {l : List Vl} (h : RV H v l) {i : Nat} {x : Vl} (hi : l[i]? = some x) : aindexAddr Try.prog Zp v (i : Int) = some (ixp v 3 i) ∧ ∀ H', Keeps H H' → aload Try.prog H' Za (ixp v 3 i) = some x.av := by
  have hlt := (List.getElem?_eq_some_iff.1 hi).1
  refine ⟨Reads.addr h (by simp) hlt, fun H' k => ?_⟩
  rw [Reads.atN (Reads.keep h k) (by simp) hlt, flatV_at hi]
  rfl
theorem right_run {v : Vl} {H : AHeap} : R Zd1 [.agg [.int .i64 v.w, u (lo v.n), u (hi v.n)]] H = some (.bool v.ok, H) := bvRight_run
theorem yes_run {v : Vl} {H : AHeap} : R Zc6 [.agg [.int .i64 v.w, u (lo v.n), u (hi v.n)]] H = some (.bool v.yes, H) := by
  rw [Zkp]
  simp (maxDischargeDepth := 40) [Zji, Vl.yes]
theorem bool_run {b : Bool} {H : AHeap} : R Zeb [.bool b] H = some ((Vl.bool b).av, H) := by
  rw [Zjw]
  cases b <;> simp (maxDischargeDepth := 40) [Ziw, Vl.bool, Vl.av] <;> exact ⟨rfl, rfl⟩
theorem fits_run {v : Vl} {s : Int} {H : AHeap} : R Zf4 [.agg [.int .i64 v.w, u (lo v.n), u (hi v.n)], .int .i64 s] H = some (.bool (v.ok && decide (v.w = s)), H) := by
  have hr := fun H => right_run (v := v) (H := H)
  rw [Zkc]
  cases hv : v.ok <;> rw [hv] at hr <;> simp (maxDischargeDepth := 40) [Ziu, hr]
end Go.Proofs.Ytiobohfiaapgeaa
end
section
namespace Go.Proofs.Ytiobohfiaapgeaa
set_option maxRecDepth 100000
set_option maxHeartbeats 2000000
instance : DecidableEq Vl := fun a b => decidable_of_iff (a.w = b.w ∧ a.n = b.n) (by cases a; cases b; simp)
@[simp] theorem cells_fn {f : Fn} {a b : List AV} : (AV.fn f a b).cells = [.fn f a b] := rfl
@[simp] theorem cells_nilf : AV.nilf.cells = [.nilf] := rfl
@[simp] theorem one_nilf : AV.nilf.one = true := rfl
@[simp] theorem one_fn {f : Fn} {a b : List AV} : (AV.fn f a b).one = true := rfl
def boolV (op : Int) (a b : Vl) : Bool :=
  if op = 3 then !a.yes else if op = 4 then a.yes && b.yes else if op = 5 then a.yes || b.yes else if op = 6 then a.yes != b.yes else if op = 7 then !a.yes || b.yes else decide (a = b)
def boolF (op : Int) : FuncId := if op = 3 then Zd2 else if op = 4 then Zd3 else if op = 5 then Zd4 else if op = 6 then Zdj else if op = 7 then Zd5 else Zd6
theorem vl_eq {a b : Vl} : decide (a = b) = (decide (a.w = b.w) && decide (lo a.n = lo b.n) && decide (hi a.n = hi b.n)) := by
  rw [← Bool.decide_and, ← Bool.decide_and, decide_eq_decide]
  constructor
  · rintro rfl; exact ⟨⟨rfl, rfl⟩, rfl⟩
  · rintro ⟨⟨h1, h2⟩, h3⟩; exact Vl.ext' h1 h2 h3
theorem bools1_run {H : AHeap} {s : AV} {a : Vl} (hs : RV H s [a]) : R Zd2 [s] H = some (.bool (!a.yes), H) := by
  obtain ⟨x0, y0⟩ := hs.at (i := 0) (x := a) rfl
  have x0' : aindexAddr Try.prog Zp s 0 = some (ixp s 3 0) := x0
  have z0 := y0 H (Keeps.refl H)
  have hy := fun H => yes_run (v := a) (H := H)
  rw [Zi6]
  simp (maxDischargeDepth := 40) [Zhe, x0', z0, hy]
theorem boolsB_run {H : AHeap} {s : AV} {a b : Vl} {op : Int} (h1 : 4 ≤ op) (h2 : op ≤ 8) (hs : RV H s [a, b]) : R (boolF op) [s] H = some (.bool (boolV op a b), H) := by
  obtain ⟨x0, y0⟩ := hs.at (i := 0) (x := a) rfl
  obtain ⟨x1, y1⟩ := hs.at (i := 1) (x := b) rfl
  have x0' : aindexAddr Try.prog Zp s 0 = some (ixp s 3 0) := x0
  have x1' : aindexAddr Try.prog Zp s 1 = some (ixp s 3 1) := x1
  have z0 := y0 H (Keeps.refl H)
  have z1 := y1 H (Keeps.refl H)
  have hy := fun H => yes_run (v := a) (H := H)
  have hz := fun H => yes_run (v := b) (H := H)
  have hop : op = 4 ∨ op = 5 ∨ op = 6 ∨ op = 7 ∨ op = 8 := by omega
  rcases hop with rfl | rfl | rfl | rfl | rfl
  · rw [show boolF 4 = Zd3 from rfl, Zi7]
    cases ha : a.yes <;> rw [ha] at hy <;> simp (maxDischargeDepth := 40) [Zhf, x0', z0, x1', z1, hy, hz, boolV, ha]
  · rw [show boolF 5 = Zd4 from rfl, Zi8]
    cases ha : a.yes <;> rw [ha] at hy <;> simp (maxDischargeDepth := 40) [Zhg, x0', z0, x1', z1, hy, hz, boolV, ha]
  · rw [show boolF 6 = Zdj from rfl, Zi9]
    simp (maxDischargeDepth := 40) [Zhh, x0', z0, x1', z1, hy, hz, boolV, bne]
  · rw [show boolF 7 = Zd5 from rfl, Zja]
    cases ha : a.yes <;> rw [ha] at hy <;> simp (maxDischargeDepth := 40) [Zhi, x0', z0, x1', z1, hy, hz, boolV, ha]
  · rw [show boolF 8 = Zd6 from rfl, Zjb]
    simp (maxDischargeDepth := 40) [Zhj, x0', z0, x1', z1, boolV, vl_eq, Bool.and_assoc]
theorem ite_run {H : AHeap} {s : AV} {a b c : Vl} {p q : Int} (hs : RV H s [a, b, c]) : R Zd7 [.int .i64 p, .int .i64 q, s] H = some (.tup [(if a.yes = true then b else c).av, .int .i64 0], H) := by
  obtain ⟨x0, y0⟩ := hs.at (i := 0) (x := a) rfl
  obtain ⟨x1, y1⟩ := hs.at (i := 1) (x := b) rfl
  obtain ⟨x2, y2⟩ := hs.at (i := 2) (x := c) rfl
  have x0' : aindexAddr Try.prog Zp s 0 = some (ixp s 3 0) := x0
  have x1' : aindexAddr Try.prog Zp s 1 = some (ixp s 3 1) := x1
  have x2' : aindexAddr Try.prog Zp s 2 = some (ixp s 3 2) := x2
  have hy := fun H => yes_run (v := a) (H := H)
  rw [Zjc]
  cases ha : a.yes <;> rw [ha] at hy <;> simp (maxDischargeDepth := 40) [Zhk, x0', y0, x1', y1, x2', y2, hy]
theorem logic1_run {H : AHeap} {s : AV} {f : FuncId} {b : Bool} {o : Nat} {p q : Int} (ho : o < H.size) (hf : H.obj o = .cells [.fn (.func f) [] []]) (h : ∀ H', Keeps H H' → R f [s] H' = some (.bool b, H')) : R Zb6 [.int .i64 p, .int .i64 q, s, .ptr o 0] H = some (.tup [(Vl.bool b).av, .int .i64 0], H) := by
  have hb := fun H => bool_run (b := b) (H := H)
  have hne : ¬ o = H.size := Nat.ne_of_lt ho
  rw [Zjd]
  simp (maxDischargeDepth := 40) [Zhl, hf, hne, h, hb]
theorem back_open {H H' : AHeap} {v : AV} (hc : closed H.size v = false) : back [] H v H' = (v, H') := by
  unfold back
  rw [if_neg]
  rintro ⟨h, -⟩
  have : frz H' H.size [] v = v := by cases v <;> rfl
  rw [this, hc] at h
  cases h
theorem logic_run {H : AHeap} {f : FuncId} : ∃ H', R Zc2 [.fn (.func f) [] []] H = some (.agg [.fn (.func Zb6) [] [.ptr H.size 0]], H') ∧ Keeps H H' ∧ H.size < H'.size ∧ H'.obj H.size = .cells [.fn (.func f) [] []] := by
  rw [Zj0]
  simp (maxDischargeDepth := 40) [Zh7]
  refine ⟨_, back_open ?_, ?_, ?_, ?_⟩
  · simp only [closed, closedL]; simp
  · exact ((Keeps.new _ _).trans (Keeps.new _ _)).set (Nat.le_succ _) _
  · simp
  · simp
theorem bools_run {H : AHeap} {op : Int} : (3 ≤ op → op ≤ 8 → ∃ o H', R Ze0 [.int .i64 op] H = some (.tup [.agg [.fn (.func Zb6) [] [.ptr o 0]], .bool true], H') ∧ Keeps H H' ∧ o < H'.size ∧ H'.obj o = .cells [.fn (.func (boolF op)) [] []]) ∧
    (op = 9 → R Ze0 [.int .i64 op] H = some (.tup [.agg [.fn (.func Zd7) [] []], .bool true], H)) ∧ (¬ (3 ≤ op ∧ op ≤ 9) → R Ze0 [.int .i64 op] H = some (.tup [.agg [.nilf], .bool false], H)) := by
  rw [Zjx]
  refine ⟨fun h1 h2 => ?_, fun h => ?_, fun h => ?_⟩
  · have hop : op = 3 ∨ op = 4 ∨ op = 5 ∨ op = 6 ∨ op = 7 ∨ op = 8 := by omega
    have main : ∀ f, ∃ o H', R Zc2 [.fn (.func f) [] []] (H.new (.cells [.nilf])) = some (.agg [.fn (.func Zb6) [] [.ptr o 0]], H') ∧ Keeps (H.new (.cells [.nilf])) H' ∧ H.size < o ∧ o < H'.size ∧ H'.obj o = .cells [.fn (.func f) [] []] := fun f => by
      obtain ⟨H', h1, h2, h3, h4⟩ := logic_run (H := H.new (.cells [.nilf])) (f := f)
      exact ⟨_, H', h1, h2, by simp, h3, h4⟩
    have fin : ∀ (o : Nat) (H' : AHeap), Keeps (H.new (.cells [.nilf])) H' → H.size < o → o < H'.size → ∀ f, H'.obj o = .cells [.fn (.func f) [] []] → ∃ o_1 H'_1, back [] H (.tup [.agg [.fn (.func Zb6) [] [.ptr o 0]], .bool true]) (H'.set H.size (.cells [.fn (.func Zb6) [] [.ptr o 0]])) = (.tup [.agg [.fn (.func Zb6) [] [.ptr o_1 0]], .bool true], H'_1) ∧ Keeps H H'_1 ∧ o_1 < H'_1.size ∧ H'_1.obj o_1 = .cells [.fn (.func f) [] []] := by
      intro o H' k ho ho' f hf
      rw [back_open (by simp [closed, closedL]; omega)]
      have k2 : Keeps H H' := (Keeps.new _ _).trans k
      exact ⟨o, _, rfl, k2.set (Nat.le_refl _) _, by simpa using ho', by rw [set_old (by omega)]; exact hf⟩
    rcases hop with rfl | rfl | rfl | rfl | rfl | rfl
    · obtain ⟨o, H', hr, k, ho, ho', hf⟩ := main Zd2
      have hs : H'.obj H.size = .cells [.nilf] := by rw [k.obj _ (by simp)]; simp
      have hz : H.size < H'.size := by omega
      simp (maxDischargeDepth := 40) [Zdg, hr, hs, boolF]
      exact fin o H' k ho ho' _ hf
    · obtain ⟨o, H', hr, k, ho, ho', hf⟩ := main Zd3
      have hs : H'.obj H.size = .cells [.nilf] := by rw [k.obj _ (by simp)]; simp
      have hz : H.size < H'.size := by omega
      simp (maxDischargeDepth := 40) [Zdg, hr, hs, boolF]
      exact fin o H' k ho ho' _ hf
    · obtain ⟨o, H', hr, k, ho, ho', hf⟩ := main Zd4
      have hs : H'.obj H.size = .cells [.nilf] := by rw [k.obj _ (by simp)]; simp
      have hz : H.size < H'.size := by omega
      simp (maxDischargeDepth := 40) [Zdg, hr, hs, boolF]
      exact fin o H' k ho ho' _ hf
    · obtain ⟨o, H', hr, k, ho, ho', hf⟩ := main Zdj
      have hs : H'.obj H.size = .cells [.nilf] := by rw [k.obj _ (by simp)]; simp
      have hz : H.size < H'.size := by omega
      simp (maxDischargeDepth := 40) [Zdg, hr, hs, boolF]
      exact fin o H' k ho ho' _ hf
    · obtain ⟨o, H', hr, k, ho, ho', hf⟩ := main Zd5
      have hs : H'.obj H.size = .cells [.nilf] := by rw [k.obj _ (by simp)]; simp
      have hz : H.size < H'.size := by omega
      simp (maxDischargeDepth := 40) [Zdg, hr, hs, boolF]
      exact fin o H' k ho ho' _ hf
    · obtain ⟨o, H', hr, k, ho, ho', hf⟩ := main Zd6
      have hs : H'.obj H.size = .cells [.nilf] := by rw [k.obj _ (by simp)]; simp
      have hz : H.size < H'.size := by omega
      simp (maxDischargeDepth := 40) [Zdg, hr, hs, boolF]
      exact fin o H' k ho ho' _ hf
  · subst h
    simp (maxDischargeDepth := 40) [Zdg, closed, closedL]
  · have c3 : ¬ op = 3 := by omega
    have c4 : ¬ op = 4 := by omega
    have c5 : ¬ op = 5 := by omega
    have c6 : ¬ op = 6 := by omega
    have c7 : ¬ op = 7 := by omega
    have c8 : ¬ op = 8 := by omega
    have c9 : ¬ op = 9 := by omega
    simp (maxDischargeDepth := 40) [Zdg, c3, c4, c5, c6, c7, c8, c9, closed, closedL]
theorem words_run {H : AHeap} {op : Int} : ∃ o H', R Zgc [.int .i64 op] H = some (.agg [.fn (.func Zbt) [] [.ptr o 0]], H') ∧ Keeps H H' ∧ o < H'.size ∧ H'.obj o = .cells [.int .i64 op] := by
  rw [Zjy]
  simp (maxDischargeDepth := 40) [Zh5]
  rw [back_open]
  rotate_left
  · simp only [closed, closedL]; simp
  refine ⟨_, _, rfl, ?_, ?_, ?_⟩
  · exact ((Keeps.new _ _).trans (Keeps.new _ _)).set (Nat.le_succ _) _
  · simp
  · simp
end Go.Proofs.Ytiobohfiaapgeaa
end
section
namespace Go.Proofs.Ytiobohfiaapgeaa
set_option maxRecDepth 100000
def inBit (x : W128) (i : Nat) (r : W128) : W128 := if x.getLsbD i = true then r <<< 1 ||| 1#128 else r <<< 1
def QI (x b : W128) (n : Nat) (q r : W128) : Prop := q.toNat = x.toNat / 2 ^ n / b.toNat * 2 ^ n ∧ r.toNat = x.toNat / 2 ^ n % b.toNat
theorem inBit_nat (x : W128) (i : Nat) (r : W128) : (inBit x i r).toNat = (2 * r.toNat + (x.getLsbD i).toNat) % 2 ^ 128 := by
  have hr := r.isLt
  have hs : (r <<< 1).toNat = 2 * r.toNat % 2 ^ 128 := by rw [BitVec.toNat_shiftLeft, Nat.shiftLeft_eq]; omega
  unfold inBit
  by_cases h : x.getLsbD i = true
  · rw [if_pos h, h, BitVec.toNat_or, hs]
    have e : 2 * r.toNat % 2 ^ 128 = 2 ^ 1 * (r.toNat % 2 ^ 127) := by omega
    rw [e, show (1#128 : W128).toNat = 1 from rfl, ← Nat.two_pow_add_eq_or_of_lt (by decide : 1 < 2 ^ 1)]
    simp
    omega
  · rw [if_neg h, hs]
    simp at h
    simp [h]
theorem top_nat (r : W128) : r.getLsbD 127 = decide (2 ^ 127 ≤ r.toNat) := by
  have h := BitVec.msb_eq_decide r
  rw [BitVec.msb_eq_getLsbD_last] at h
  simpa using h
theorem qi_start (x b : W128) : QI x b 128 0#128 0#128 := by
  have h : x.toNat / 2 ^ 128 = 0 := Nat.div_eq_of_lt x.isLt
  exact ⟨by rw [h]; simp, by rw [h]; simp⟩
theorem qi_end {x b q r : W128} (h : QI x b 0 q r) : q = x / b ∧ r = x % b := by
  obtain ⟨h1, h2⟩ := h
  simp at h1 h2
  exact ⟨BitVec.eq_of_toNat_eq (by rw [h1, BitVec.toNat_udiv]), BitVec.eq_of_toNat_eq (by rw [h2, BitVec.toNat_umod])⟩
theorem half (a n i : Nat) (h : n = i + 1) : a / 2 ^ i = 2 * (a / 2 ^ n) + (a.testBit i).toNat := by
  subst h
  rw [Nat.pow_succ, ← Nat.div_div_eq_div_mul]
  have : (a.testBit i).toNat = a / 2 ^ i % 2 := by rw [Nat.testBit_eq_decide_div_mod_eq]; by_cases h : a / 2 ^ i % 2 = 1 <;> simp [h]; omega
  omega
theorem qi_step {x b q r : W128} {i : Nat} (_hi : i ≤ 127) (hb : 0 < b.toNat) (h : QI x b (i + 1) q r) :
    (¬ (r.getLsbD 127 = true ∨ ¬ inBit x i r < b) → QI x b i q (inBit x i r)) ∧
    ((r.getLsbD 127 = true ∨ ¬ inBit x i r < b) → QI x b i (q + 1#128 <<< i) (inBit x i r - b)) := by
  obtain ⟨h1, h2⟩ := h
  have hn := inBit_nat x i r
  have ht := top_nat r
  have hx := half x.toNat (i + 1) i rfl
  have hg : x.getLsbD i = x.toNat.testBit i := BitVec.testBit_toNat x |>.symm
  rw [← hg] at hx
  generalize hc : (x.getLsbD i).toNat = c at *
  have hc1 : c ≤ 1 := by rw [← hc]; exact Bool.toNat_le _
  generalize hA : x.toNat / 2 ^ (i + 1) = A at *
  generalize hr1 : inBit x i r = r1 at *
  have hrb : r.toNat < b.toNat := by rw [h2]; exact Nat.mod_lt _ hb
  have hbl := b.isLt
  have hrl := r1.isLt
  -- A = q0 b + r
  generalize hq0 : A / b.toNat = q0 at *
  have hAq : A = q0 * b.toNat + r.toNat := by rw [h2, ← hq0, Nat.mul_comm]; exact (Nat.div_add_mod _ _).symm
  have hA' : x.toNat / 2 ^ i = 2 * q0 * b.toNat + (2 * r.toNat + c) := by rw [hx, hAq, Nat.mul_add, Nat.mul_assoc]; omega
  rw [ht]
  simp only [decide_eq_true_eq, BitVec.lt_def]
  refine ⟨fun hno => ?_, fun hyes => ?_⟩
  · have e : 2 * r.toNat + c < b.toNat := by omega
    have d : x.toNat / 2 ^ i / b.toNat = 2 * q0 := by
      rw [hA', Nat.mul_comm, Nat.mul_add_div hb, Nat.div_eq_of_lt e]; rfl
    have m : x.toNat / 2 ^ i % b.toNat = 2 * r.toNat + c := by
      rw [hA', Nat.mul_comm, Nat.mul_add_mod, Nat.mod_eq_of_lt e]
    refine ⟨?_, ?_⟩
    · rw [d, h1, Nat.pow_succ, Nat.mul_comm (2 ^ i) 2, ← Nat.mul_assoc, Nat.mul_comm q0 2]
    · rw [m, hn]; omega
  · have e : b.toNat ≤ 2 * r.toNat + c := by omega
    have e' : 2 * r.toNat + c - b.toNat < b.toNat := by omega
    have hA2 : x.toNat / 2 ^ i = b.toNat * (2 * q0 + 1) + (2 * r.toNat + c - b.toNat) := by
      rw [hA', Nat.mul_add, Nat.mul_comm b.toNat]; omega
    have d : x.toNat / 2 ^ i / b.toNat = 2 * q0 + 1 := by
      rw [hA2, Nat.mul_add_div hb, Nat.div_eq_of_lt e']
    have m : x.toNat / 2 ^ i % b.toNat = 2 * r.toNat + c - b.toNat := by
      rw [hA2, Nat.mul_add_mod, Nat.mod_eq_of_lt e']
    have hsum : (2 * q0 + 1) * 2 ^ i ≤ x.toNat := by
      rw [← d]
      exact Nat.le_trans (Nat.mul_le_mul_right _ (Nat.div_le_self _ _)) (Nat.div_mul_le_self _ _)
    have hq' : (2 * q0 + 1) * 2 ^ i = q.toNat + 2 ^ i := by
      rw [h1, Nat.pow_succ, Nat.add_mul, Nat.mul_comm (2 ^ i) 2, ← Nat.mul_assoc, Nat.mul_comm q0 2]; omega
    have hxl := x.isLt
    refine ⟨?_, ?_⟩
    · rw [d, hq', BitVec.toNat_add, BitVec.toNat_shiftLeft, show (1#128 : W128).toNat = 1 from rfl, Nat.one_shiftLeft]
      rw [Nat.mod_eq_of_lt (a := 2 ^ i) (by omega), Nat.mod_eq_of_lt (by omega)]
    · rw [m, BitVec.toNat_sub, hn]; omega
end Go.Proofs.Ytiobohfiaapgeaa
namespace Go.Proofs.Ytiobohfiaapgeaa
set_option maxRecDepth 100000
structure QH (H0 : AHeap) (o2 o3 o4 o5 : Nat) (x b q r : W128) (H : AHeap) : Prop where
  k : Keeps H0 H
  h4 : H0.size ≤ o4
  h5 : H0.size ≤ o5
  z2 : o2 < H.size
  z3 : o3 < H.size
  z4 : o4 < H.size
  z5 : o5 < H.size
  n24 : ¬ o2 = o4
  n25 : ¬ o2 = o5
  n34 : ¬ o3 = o4
  n35 : ¬ o3 = o5
  n45 : ¬ o4 = o5
  ob2 : H.obj o2 = .cells [u (lo x), u (hi x)]
  ob3 : H.obj o3 = .cells [u (lo b), u (hi b)]
  ob4 : H.obj o4 = .cells [u (lo q), u (hi q)]
  ob5 : H.obj o5 = .cells [u (lo r), u (hi r)]
theorem QH.keep {H0 : AHeap} {o2 o3 o4 o5 : Nat} {x b q r : W128} {H H' : AHeap} (h : QH H0 o2 o3 o4 o5 x b q r H) (k : Keeps H H') : QH H0 o2 o3 o4 o5 x b q r H' :=
  ⟨h.k.trans k, h.h4, h.h5, k.lt h.z2, k.lt h.z3, k.lt h.z4, k.lt h.z5, h.n24, h.n25, h.n34, h.n35, h.n45, (k.obj _ h.z2).trans h.ob2, (k.obj _ h.z3).trans h.ob3, (k.obj _ h.z4).trans h.ob4, (k.obj _ h.z5).trans h.ob5⟩
theorem QH.n54 {H0 : AHeap} {o2 o3 o4 o5 : Nat} {x b q r : W128} {H : AHeap} (h : QH H0 o2 o3 o4 o5 x b q r H) : ¬ o5 = o4 := fun e => h.n45 e.symm
theorem QH.set5 {H0 : AHeap} {o2 o3 o4 o5 : Nat} {x b q r : W128} {H : AHeap} (h : QH H0 o2 o3 o4 o5 x b q r H) (r' : W128) : QH H0 o2 o3 o4 o5 x b q r' (H.set o5 (.cells [u (lo r'), u (hi r')])) := by
  refine ⟨h.k.set h.h5 _, h.h4, h.h5, h.z2, h.z3, h.z4, h.z5, h.n24, h.n25, h.n34, h.n35, h.n45, ?_, ?_, ?_, ?_⟩
  · simp [h.n25, h.ob2]
  · simp [h.n35, h.ob3]
  · simp [h.n45, h.ob4]
  · simp
theorem QH.set4 {H0 : AHeap} {o2 o3 o4 o5 : Nat} {x b q r : W128} {H : AHeap} (h : QH H0 o2 o3 o4 o5 x b q r H) (q' : W128) : QH H0 o2 o3 o4 o5 x b q' r (H.set o4 (.cells [u (lo q'), u (hi q')])) := by
  refine ⟨h.k.set h.h4 _, h.h4, h.h5, h.z2, h.z3, h.z4, h.z5, h.n24, h.n25, h.n34, h.n35, h.n45, ?_, ?_, ?_, ?_⟩
  · simp [h.n24, h.ob2]
  · simp [h.n34, h.ob3]
  · simp
  · have : ¬ o5 = o4 := fun e => h.n45 e.symm
    simp [this, h.ob5]
set_option maxHeartbeats 1000000 in
theorem quo_loop {H0 : AHeap} {o2 o3 o4 o5 : Nat} {x b : W128} (hb : 0 < b.toNat) {e : Env} {H : AHeap} {r : Rn} (hL : loopL Try.prog KT R Zcj e H = r) (h0 : QH H0 o2 o3 o4 o5 x b 0#128 0#128 H)
    (e2 : e 2 = some (.ptr o2 0)) (e3 : e 3 = some (.ptr o3 0)) (e4 : e 4 = some (.ptr o4 0)) (e5 : e 5 = some (.ptr o5 0)) (e6 : e 6 = some (.int .i64 127)) :
    ∃ y e' H', r = some (y, e', H') ∧ (y = .exit 0 ∧ QH H0 o2 o3 o4 o5 x b (x / b) (x % b) H') ∧ ∀ t, t ∉ defs Zcj → e' t = e t := by
  refine loop_count Zcj.eq_1 hL 128 (fun i e1 H1 => ∃ q s, e1 6 = some (.int .i64 (127 - (i : Int))) ∧ QI x b (128 - i) q s ∧ QH H0 o2 o3 o4 o5 x b q s H1) _ 0 (by omega)
    ⟨0#128, 0#128, e6, qi_start x b, h0⟩ ?_ ?_
  · rintro i e1 H1 hf - hi' ⟨q, s, f6, hq, g1⟩
    obtain ⟨j, hj, hij⟩ : ∃ j : Nat, j ≤ 127 ∧ i = 127 - j := ⟨127 - i, by omega, by omega⟩
    have e127 : (127 : Int) - (i : Int) = (j : Int) := by omega
    have e128 : 128 - i = j + 1 := by omega
    have e126 : 128 - (i + 1) = j := by omega
    have e125 : (127 : Int) - ((i + 1 : Nat) : Int) = (j : Int) - 1 := by omega
    have w1 : IntKind.i64.wrap ((j : Int) - 1) = (j : Int) - 1 := i64w (by omega) (by omega)
    rw [e127] at f6
    rw [e128] at hq
    obtain ⟨hA, hB⟩ := qi_step (i := j) (by omega) hb hq
    rw [e126, e125]
    have n24 := g1.n24
    have n25 := g1.n25
    have n34 := g1.n34
    have n35 := g1.n35
    have n45 := g1.n45
    have n54 := g1.n54
    have b1 := fun H => (bit_run (x := s) (i := 127) (by omega) (H := H)).run
    have b2 := fun H => (nleft_run (x := s) (n := 1) (by omega) (H := H)).run
    have b3 := fun H => (bit_run (x := x) (i := j) (by omega) (H := H)).run
    have b4 := fun H => (nless_run (x := inBit x j s) (y := b) (H := H)).run
    have b5 := fun H => (nsub_run (x := inBit x j s) (y := b) (H := H)).run
    have b6 := fun H => (nleft_run (x := 1#128) (n := j) (by omega) (H := H)).run
    have b7 := fun H => (nadd_run (x := q) (y := 1#128 <<< j) (H := H)).run
    simp only [N, show lo (1#128) = 1#64 from rfl, show hi (1#128) = 0#64 from rfl, show ((127 : Nat) : Int) = 127 from rfl, show ((1 : Nat) : Int) = 1 from rfl] at b1 b2 b3 b4 b5 b6 b7
    have el0 : x.getLsbD j = false → lo (s <<< 1) = lo (inBit x j s) := fun hx => by simp [inBit, hx]
    have eh0 : x.getLsbD j = false → hi (s <<< 1) = hi (inBit x j s) := fun hx => by simp [inBit, hx]
    have el1 : x.getLsbD j = true → lo (s <<< 1) ||| 1#64 = lo (inBit x j s) := fun hx => by simp [inBit, hx, lo_or, show lo (1#128 : W128) = 1#64 from rfl]
    have eh1 : x.getLsbD j = true → hi (s <<< 1) = hi (inBit x j s) := fun hx => by simp [inBit, hx, hi_or, show hi (1#128 : W128) = 0#64 from rfl]
    have g5 := g1.set5 (s <<< 1)
    have g6 := g5.set5 (inBit x j s)
    have g7 := g6.set5 (inBit x j s - b)
    have g8 := g7.set4 (q + 1#128 <<< j)
    have g5' := g5
    have hoc : ∀ c, s.getLsbD 127 = c → s[127] = c := fun c h => by simpa using h
    rcases hx : x.getLsbD j with _ | _
    · have es : s <<< 1 = inBit x j s := by simp [inBit, hx]
      rw [es] at b2 g5
      have g57 := (g5.set5 (inBit x j s - b)).set4 (q + 1#128 <<< j)
      rcases ho : s.getLsbD 127 with _ | _
      · by_cases hl : inBit x j s < b
        · simp [hf, f6, e2, e3, e5, n25, n35, w1, g1.ob2, g1.ob3, g1.ob5, b1, b2, b3, b4, hx, hoc _ ho, hl]
          exact ⟨_, _, hA (by rw [ho]; simp [hl]), g5⟩
        · simp [hf, f6, e2, e3, e4, e5, n25, n35, n45, w1, g1.ob2, g1.ob3, g1.ob4, g1.ob5, b1, b2, b3, b4, b5, b6, b7, hx, hoc _ ho, hl]
          exact ⟨_, _, hB (by simp [hl]), g57⟩
      · simp [hf, f6, e2, e3, e4, e5, n25, n35, n45, w1, g1.ob2, g1.ob3, g1.ob4, g1.ob5, b1, b2, b3, b5, b6, b7, hx, hoc _ ho]
        exact ⟨_, _, hB (by simp [ho]), g57⟩
    · have el := el1 hx
      have eh := eh1 hx
      rcases ho : s.getLsbD 127 with _ | _
      · by_cases hl : inBit x j s < b
        · simp [hf, f6, e2, e3, e5, n25, n35, w1, g1.ob2, g1.ob3, g1.ob5, b1, b2, b3, b4, el, eh, hx, hoc _ ho, hl]
          exact ⟨_, _, hA (by rw [ho]; simp [hl]), by rw [eh] at g6; exact g6⟩
        · simp [hf, f6, e2, e3, e4, e5, n25, n35, n45, w1, g1.ob2, g1.ob3, g1.ob4, g1.ob5, b1, b2, b3, b4, b5, b6, b7, el, eh, hx, hoc _ ho, hl]
          exact ⟨_, _, hB (by simp [hl]), by rw [eh] at g8; exact g8⟩
      · simp [hf, f6, e2, e3, e4, e5, n25, n35, n45, w1, g1.ob2, g1.ob3, g1.ob4, g1.ob5, b1, b2, b3, b5, b6, b7, el, eh, hx, hoc _ ho]
        exact ⟨_, _, hB (by simp [ho]), by rw [eh] at g8; exact g8⟩
  · rintro e1 H1 hf ⟨q, s, f6, hq, g1⟩
    simp [f6]
    obtain ⟨rfl, rfl⟩ := qi_end hq
    exact g1
end Go.Proofs.Ytiobohfiaapgeaa
namespace Go.Proofs.Ytiobohfiaapgeaa
set_option maxRecDepth 100000
theorem quo_run {x b : W128} (hb : 0 < b.toNat) {H : AHeap} : Pure R Zct [N x, N b] H (.tup [N (x / b), N (x % b)]) := by
  unfold Pure
  rw [Zhb]
  simp [Zft, N]
  generalize hL : loopL _ _ _ _ _ _ = q
  obtain ⟨y, e1, H1, rfl, ⟨rfl, g⟩, fr⟩ := quo_loop (H0 := H) (o2 := H.size) (o3 := H.size + 1) (o4 := H.size + 1 + 1) (o5 := H.size + 1 + 1 + 1) (x := x) hb hL
    ⟨((((Keeps.refl H).new' _).new' _).new' _).new' _, by omega, by omega, by simp; try omega, by simp; try omega, by simp; try omega, by simp, by omega, by omega, by omega, by omega, by omega, by simp, by simp, by simp, by simp⟩
    (by simp) (by simp) (by simp) (by simp) (by simp)
  have k : Keeps H ((H1.set (H.size + 1 + 1) (.cells [u (lo (x / b)), u (hi (x / b))])).set (H.size + 1 + 1 + 1) (.cells [u (lo (x % b)), u (hi (x % b))])) := (g.k.set g.h4 _).set g.h5 _
  simp [fr, g.ob4, g.ob5, k]
theorem zero_iff (b : W128) : (lo b = 0#64 ∧ hi b = 0#64) ↔ b = 0#128 := by
  refine ⟨fun h => pair_ext (by rw [h.1]; rfl) (by rw [h.2]; rfl), ?_⟩
  rintro rfl
  exact ⟨rfl, rfl⟩
theorem divided_run {w : Nat} (hw : w ≤ 128) {x b : W128} {H : AHeap} : Pure R Zcs [.int .i64 w, N x, N b] H (.tup [N (if b = 0#128 then maskN w else x / b), N (x % b)]) := by
  have hz := zero_iff b
  by_cases hb : b = 0#128
  · have hz' := hz.2 hb
    have hm : x % b = x := by rw [hb, BitVec.umod_zero]
    unfold Pure
    rw [Zh9]
    simp (maxDischargeDepth := 40) [Zha, N, hw, hb]
  · have hb' : 0 < b.toNat := by
      rcases Nat.eq_zero_or_pos b.toNat with h0 | h0
      · exact absurd (BitVec.eq_of_toNat_eq (by rw [h0]; rfl)) hb
      · exact h0
    have g1 := fun H => (quo_run (x := x) hb' (H := H)).run
    simp only [N] at g1
    unfold Pure
    rw [Zh9]
    simp (maxDischargeDepth := 40) [Zha, N, hz, hb, g1]
end Go.Proofs.Ytiobohfiaapgeaa
namespace Go.Proofs.Ytiobohfiaapgeaa
set_option maxRecDepth 100000
theorem E_zero_iff {w : Nat} (hw : w ≤ 128) (x : BitVec w) : E x = 0#128 ↔ x = 0#w := by
  constructor
  · intro h; apply E_inj hw; rw [h, E]; simp
  · rintro rfl; simp [E]
theorem set_add {w : Nat} (hw : w ≤ 128) (x y : W128) : (x + y).setWidth w = x.setWidth w + y.setWidth w := BitVec.setWidth_add x y hw
theorem set_neg {w : Nat} (hw : w ≤ 128) (x : W128) : (-x).setWidth w = -(x.setWidth w) := by
  apply BitVec.eq_of_toNat_eq
  have h : 2 ^ w ∣ 2 ^ 128 := Nat.pow_dvd_pow 2 hw
  rw [BitVec.toNat_setWidth, BitVec.toNat_neg, BitVec.toNat_neg, BitVec.toNat_setWidth, Nat.mod_mod_of_dvd _ h]
  have hx := x.isLt
  obtain ⟨k, hk⟩ := h
  have hp : 0 < 2 ^ w := Nat.two_pow_pos w
  have e := Nat.div_add_mod x.toNat (2 ^ w)
  have hm := Nat.mod_lt x.toNat hp
  have hkk : x.toNat / 2 ^ w < k := by rw [Nat.div_lt_iff_lt_mul hp, Nat.mul_comm, ← hk]; exact hx
  generalize hA : x.toNat / 2 ^ w = A at *
  generalize hB : x.toNat % 2 ^ w = B at *
  generalize hP : 2 ^ w = P at *
  rw [hk, ← e, show P * k - (P * A + B) = P * (k - A - 1) + (P - B) by
    have : P * k = P * (k - A - 1) + P * A + P := by rw [← Nat.mul_add, ← Nat.mul_succ]; congr 1; omega
    omega]
  rw [Nat.mul_add_mod]
theorem set_sub {w : Nat} (hw : w ≤ 128) (x y : W128) : (x - y).setWidth w = x.setWidth w - y.setWidth w := by
  rw [BitVec.sub_eq_add_neg, BitVec.sub_eq_add_neg, set_add hw, set_neg hw]
theorem set_mul {w : Nat} (hw : w ≤ 128) (x y : W128) : (x * y).setWidth w = x.setWidth w * y.setWidth w := BitVec.setWidth_mul x y hw
theorem size_run {w : Nat} (h1 : 1 ≤ w) (hw : w ≤ 128) {x : BitVec w} {H : AHeap} : Pure R Zdx [B x] H (N (E x.abs)) := by
  have e := set_neg hw (E x)
  rw [E_set hw] at e
  unfold Pure
  rw [Zkz, BitVec.abs_eq]
  cases hm : x.msb <;> simp (maxDischargeDepth := 40) [Zj5, B, Bt, N, h1, hw, hm, e]
theorem turnedIf_run {t : Bool} {x : W128} {H : AHeap} : Pure R Zdv [.bool t, N x] H (N (if t = true then -x else x)) := by
  unfold Pure
  rw [Zjp]
  cases t <;> simp (maxDischargeDepth := 40) [Zhw, N]
end Go.Proofs.Ytiobohfiaapgeaa
namespace Go.Proofs.Ytiobohfiaapgeaa
set_option maxRecDepth 100000
@[simp] theorem s_size {w : Nat} (h1 : 1 ≤ w) (hw : w ≤ 128) {x : BitVec w} {H : AHeap} : R Zdx [.agg [.int .i64 (w : Nat), u (lo (E x)), u (hi (E x))]] H = some (.agg [u (lo (E x.abs)), u (hi (E x.abs))], H) := ((size_run h1 hw) : Pure R Zdx [.agg [.int .i64 (w : Nat), u (lo (E x)), u (hi (E x))]] H (.agg [u (lo (E x.abs)), u (hi (E x.abs))]))
@[simp] theorem s_turnedIf {t : Bool} {x : W128} {H : AHeap} : R Zdv [.bool t, .agg [u (lo x), u (hi x)]] H = some (.agg [u (lo (if t = true then -x else x)), u (hi (if t = true then -x else x))], H) := (turnedIf_run : Pure R Zdv [.bool t, .agg [u (lo x), u (hi x)]] H (.agg [u (lo (if t = true then -x else x)), u (hi (if t = true then -x else x))]))
@[simp] theorem s_divided {w : Nat} (hw : w ≤ 128) {x b : W128} {H : AHeap} : R Zcs [.int .i64 (w : Nat), .agg [u (lo x), u (hi x)], .agg [u (lo b), u (hi b)]] H = some (.tup [.agg [u (lo (if b = 0#128 then maskN w else x / b)), u (hi (if b = 0#128 then maskN w else x / b))], .agg [u (lo (x % b)), u (hi (x % b))]], H) := ((divided_run hw) : Pure R Zcs [.int .i64 (w : Nat), .agg [u (lo x), u (hi x)], .agg [u (lo b), u (hi b)]] H (.tup [.agg [u (lo (if b = 0#128 then maskN w else x / b)), u (hi (if b = 0#128 then maskN w else x / b))], .agg [u (lo (x % b)), u (hi (x % b))]]))
end Go.Proofs.Ytiobohfiaapgeaa
end
section
namespace Go.Proofs.Ytiobohfiaapgeaa
set_option maxRecDepth 100000
theorem zero_dec (x : W128) : (decide (lo x = 0#64) && decide (hi x = 0#64)) = decide (x = 0#128) := by rw [← Bool.decide_and, decide_eq_decide]; exact zero_iff x
def smodN {w : Nat} (a b : BitVec w) : W128 :=
  if E a.abs % E b.abs = 0#128 ∨ a.msb = false ∧ b.msb = false then E a.abs % E b.abs else if b.msb = false then E b - E a.abs % E b.abs else if a.msb = false then E a.abs % E b.abs + E b else -(E a.abs % E b.abs)
set_option maxHeartbeats 1000000 in
theorem smod_run {w : Nat} (h1 : 1 ≤ w) (hw : w ≤ 128) {a b : BitVec w} {H : AHeap} : Pure R Zgi [B a, B b] H (N (smodN a b)) := by
  unfold Pure
  rw [Zk0]
  unfold smodN
  generalize hm : a.msb = p
  generalize hn : b.msb = q
  by_cases h0 : E a.abs % E b.abs = 0#128
  · simp (maxDischargeDepth := 40) [Zi2, B, Bt, N, h1, hw, h0]
  · cases p <;> cases q <;> simp (maxDischargeDepth := 40) [Zi2, B, Bt, N, h1, hw, h0, zero_dec, hm, hn]
def bitF (n : Int) (x y : W128) : W128 := if n = 15 then ~~~(x &&& y) else if n = 12 then x &&& y else if n = 16 then ~~~(x ||| y) else if n = 13 then x ||| y else if n = 17 then ~~~(x ^^^ y) else x ^^^ y
theorem bitwise_run {n : Int} {x y : W128} {H : AHeap} : Pure R Ze1 [.int .i64 n, N x, N y] H (N (bitF n x y)) := by
  have ra := fun H => (nnot_run (x := x &&& y) (H := H)).run
  have ro := fun H => (nnot_run (x := x ||| y) (H := H)).run
  have rx := fun H => (nnot_run (x := x ^^^ y) (H := H)).run
  simp only [N, lo_and, hi_and, lo_or, hi_or, lo_xor, hi_xor] at ra ro rx
  unfold Pure bitF
  rw [Zj3]
  by_cases c1 : n = 15
  · simp (maxDischargeDepth := 9) [Zeh, N, c1, ra]
  by_cases c2 : n = 12
  · simp (maxDischargeDepth := 9) [Zeh, N, c2, lo_and, hi_and]
  by_cases c3 : n = 16
  · simp (maxDischargeDepth := 9) [Zeh, N, c3, ro]
  by_cases c4 : n = 13
  · simp (maxDischargeDepth := 9) [Zeh, N, c4, lo_or, hi_or]
  by_cases c5 : n = 17
  · simp (maxDischargeDepth := 9) [Zeh, N, c5, rx]
  · simp (maxDischargeDepth := 9) [Zeh, N, c1, c2, c3, c4, c5, lo_xor, hi_xor]
def shN {w : Nat} (b : BitVec w) : Nat := if b.toNat < w then b.toNat else w
def shiftF {w : Nat} (n : Int) (a b : BitVec w) : W128 :=
  if n = 26 then E a <<< shN b else if n = 28 ∧ a.msb = true then E a >>> shN b ||| ~~~(maskN w >>> shN b) else E a >>> shN b
theorem sh_small {w : Nat} (hw : w ≤ 128) (b : BitVec w) : (hi (E b) = 0#64 ∧ (lo (E b)).toNat < w) ↔ b.toNat < w := by
  have h1 := hi_nat (E b)
  have h2 := lo_nat (E b)
  rw [E_nat hw] at h1 h2
  have h3 : hi (E b) = 0#64 ↔ (hi (E b)).toNat = 0 := ⟨fun h => by rw [h]; rfl, fun h => BitVec.eq_of_toNat_eq (by rw [h]; rfl)⟩
  rw [h3, h1, h2]
  omega
set_option maxHeartbeats 4000000 in
theorem shifted_run {w : Nat} (h1 : 1 ≤ w) (hw : w ≤ 128) {n : Int} {a b : BitVec w} {H : AHeap} : Pure R Ze2 [.int .i64 n, B a, B b] H (N (shiftF n a b)) := by
  unfold Pure shiftF shN
  rw [Zj4]
  have hs := sh_small hw b
  have hlo := lo_nat (E b)
  rw [E_nat hw] at hlo
  have hW : ((BitVec.ofNat 64 w).toNat) = w := by rw [BitVec.toNat_ofNat]; omega
  by_cases hb : b.toNat < w
  · have hb1 := (hs.2 hb).1
    have hb2 := (hs.2 hb).2
    have hl : (lo (E b)).toNat = b.toNat := by rw [hlo]; omega
    have hb3 : b.toNat ≤ 128 := by omega
    have hb4 : lo (E b) < BitVec.ofNat 64 w := by rw [BitVec.lt_def, hW]; omega
    have w1 : IntKind.i64.wrap (b.toNat : Int) = (b.toNat : Int) := i64w (by omega) (by omega)
    by_cases c1 : n = 26
    · simp (maxDischargeDepth := 40) [Zc5, B, Bt, N, c1, hb, hb1, hl, hb3, hb4, w1]
    by_cases c2 : n = 28
    · cases hm : a.msb <;> simp (maxDischargeDepth := 40) [Zc5, B, Bt, N, h1, hw, c2, hb, hb1, hl, hb3, hb4, w1, hm, lo_or, hi_or]
    · simp (maxDischargeDepth := 40) [Zc5, B, Bt, N, c1, c2, hb, hb1, hl, hb3, hb4, w1]
  · by_cases hh : hi (E b) = 0#64
    · have hb4 : ¬ lo (E b) < BitVec.ofNat 64 w := by
        rw [BitVec.lt_def, hW]
        exact fun e => hb (hs.1 ⟨hh, e⟩)
      by_cases c1 : n = 26
      · simp (maxDischargeDepth := 40) [Zc5, B, Bt, N, hw, c1, hb, hh, hb4]
      by_cases c2 : n = 28
      · cases hm : a.msb <;> simp (maxDischargeDepth := 40) [Zc5, B, Bt, N, h1, hw, c2, hb, hh, hb4, hm, lo_or, hi_or]
      · simp (maxDischargeDepth := 40) [Zc5, B, Bt, N, hw, c1, c2, hb, hh, hb4]
    · by_cases c1 : n = 26
      · simp (maxDischargeDepth := 40) [Zc5, B, Bt, N, hw, c1, hb, hh]
      by_cases c2 : n = 28
      · cases hm : a.msb <;> simp (maxDischargeDepth := 40) [Zc5, B, Bt, N, h1, hw, c2, hb, hh, hm, lo_or, hi_or]
      · simp (maxDischargeDepth := 40) [Zc5, B, Bt, N, hw, c1, c2, hb, hh]
end Go.Proofs.Ytiobohfiaapgeaa
namespace Go.Proofs.Ytiobohfiaapgeaa
set_option maxRecDepth 100000
@[simp] theorem s_smod {w : Nat} (h1 : 1 ≤ w) (hw : w ≤ 128) {x y : BitVec w} {H : AHeap} : R Zgi [.agg [.int .i64 (w : Nat), u (lo (E x)), u (hi (E x))], .agg [.int .i64 (w : Nat), u (lo (E y)), u (hi (E y))]] H = some (.agg [u (lo (smodN x y)), u (hi (smodN x y))], H) := (smod_run h1 hw).run
def udivN (w : Nat) (x y : W128) : W128 := if y = 0#128 then maskN w else x / y
def reckF {w : Nat} (n : Int) (a b : BitVec w) : W128 :=
  if n = 18 then E a + E b else if n = 19 then E a - E b else if n = 20 then E a * E b else if n = 21 then udivN w (E a) (E b) else if n = 22 then E a % E b
  else if n = 23 then (if (a.msb != b.msb) = true then -(udivN w (E a.abs) (E b.abs)) else udivN w (E a.abs) (E b.abs))
  else if n = 24 then (if a.msb = true then -(E a.abs % E b.abs) else E a.abs % E b.abs) else smodN a b
set_option maxHeartbeats 4000000 in
theorem reckoned_run {w : Nat} (h1 : 1 ≤ w) (hw : w ≤ 128) {n : Int} {a b : BitVec w} {H : AHeap} : Pure R Zdu [.int .i64 n, B a, B b] H (N (reckF n a b)) := by
  unfold Pure reckF udivN
  rw [Zjn]
  by_cases c1 : n = 18
  · simp (maxDischargeDepth := 40) [Zcz, B, Bt, N, c1]
  by_cases c2 : n = 19
  · simp (maxDischargeDepth := 40) [Zcz, B, Bt, N, c2]
  by_cases c3 : n = 20
  · simp (maxDischargeDepth := 40) [Zcz, B, Bt, N, c3]
  by_cases c4 : n = 21
  · simp (maxDischargeDepth := 40) [Zcz, B, Bt, N, hw, c4]
  by_cases c5 : n = 22
  · simp (maxDischargeDepth := 40) [Zcz, B, Bt, N, hw, c5]
  by_cases c6 : n = 23
  · simp (maxDischargeDepth := 40) [Zcz, B, Bt, N, h1, hw, c6]
  by_cases c7 : n = 24
  · simp (maxDischargeDepth := 40) [Zcz, B, Bt, N, h1, hw, c7]
  · simp (maxDischargeDepth := 40) [Zcz, B, Bt, N, h1, hw, c1, c2, c3, c4, c5, c6, c7]
end Go.Proofs.Ytiobohfiaapgeaa
namespace Go.Proofs.Ytiobohfiaapgeaa
set_option maxRecDepth 100000
theorem bitwise_un {n : Int} {x y : W128} {H : AHeap} : Pure R Ze1 [.int .i64 n, .agg [u (lo x), u (hi x)], .agg [u (lo y), u (hi y)]] H (.agg [u (lo (bitF n x y)), u (hi (bitF n x y))]) := bitwise_run
@[simp] theorem s_bitwise {n : Int} {x y : W128} {H : AHeap} : R Ze1 [.int .i64 n, .agg [u (lo x), u (hi x)], .agg [u (lo y), u (hi y)]] H = some (.agg [u (lo (bitF n x y)), u (hi (bitF n x y))], H) := bitwise_un.run
theorem reckoned_un {w : Nat} (h1 : 1 ≤ w) (hw : w ≤ 128) {n : Int} {x y : BitVec w} {H : AHeap} : Pure R Zdu [.int .i64 n, .agg [.int .i64 (w : Nat), u (lo (E x)), u (hi (E x))], .agg [.int .i64 (w : Nat), u (lo (E y)), u (hi (E y))]] H (.agg [u (lo (reckF n x y)), u (hi (reckF n x y))]) := reckoned_run h1 hw
@[simp] theorem s_reckoned {w : Nat} (h1 : 1 ≤ w) (hw : w ≤ 128) {n : Int} {x y : BitVec w} {H : AHeap} : R Zdu [.int .i64 n, .agg [.int .i64 (w : Nat), u (lo (E x)), u (hi (E x))], .agg [.int .i64 (w : Nat), u (lo (E y)), u (hi (E y))]] H = some (.agg [u (lo (reckF n x y)), u (hi (reckF n x y))], H) := (reckoned_un h1 hw).run
theorem shifted_un {w : Nat} (h1 : 1 ≤ w) (hw : w ≤ 128) {n : Int} {x y : BitVec w} {H : AHeap} : Pure R Ze2 [.int .i64 n, .agg [.int .i64 (w : Nat), u (lo (E x)), u (hi (E x))], .agg [.int .i64 (w : Nat), u (lo (E y)), u (hi (E y))]] H (.agg [u (lo (shiftF n x y)), u (hi (shiftF n x y))]) := shifted_run h1 hw
@[simp] theorem s_shifted {w : Nat} (h1 : 1 ≤ w) (hw : w ≤ 128) {n : Int} {x y : BitVec w} {H : AHeap} : R Ze2 [.int .i64 n, .agg [.int .i64 (w : Nat), u (lo (E x)), u (hi (E x))], .agg [.int .i64 (w : Nat), u (lo (E y)), u (hi (E y))]] H = some (.agg [u (lo (shiftF n x y)), u (hi (shiftF n x y))], H) := (shifted_un h1 hw).run
@[simp] theorem s_bool {b : Bool} {H : AHeap} : R Zeb [.bool b] H = some (Bt 0 (if b = true then 1#128 else 0#128), H) := boolB_run.run
def topN (w : Nat) : W128 := 1#128 <<< (w - 1)
def cmpN (n : Int) (x y : W128) : Bool :=
  if n = 29 ∨ n = 33 then decide (x < y) else if n = 30 ∨ n = 34 then !decide (y < x) else if n = 31 ∨ n = 35 then decide (y < x) else !decide (x < y)
def cmpF {w : Nat} (n : Int) (a b : BitVec w) : Bool :=
  if n = 33 ∨ n = 34 ∨ n = 35 ∨ n = 36 then cmpN n (E a ^^^ topN w) (E b ^^^ topN w) else cmpN n (E a) (E b)
set_option maxHeartbeats 4000000 in
theorem compared_run {w : Nat} (h1 : 1 ≤ w) (hw : w ≤ 128) {n : Int} {a b : BitVec w} {H : AHeap} : Pure R Zej [.int .i64 n, B a, B b] H (.bool (cmpF n a b)) := by
  have w1 : IntKind.i64.wrap ((w : Int) - 1) = ((w - 1 : Nat) : Int) := by rw [i64w (by omega) (by omega)]; omega
  have w2 : w - 1 ≤ 128 := by omega
  have rl := fun H => (nleft_run (x := 1#128) (n := w - 1) w2 (H := H)).run
  have ra := fun H => (nless_run (x := E a ^^^ topN w) (y := E b ^^^ topN w) (H := H)).run
  have rb := fun H => (nless_run (x := E b ^^^ topN w) (y := E a ^^^ topN w) (H := H)).run
  simp only [N, lo_xor, hi_xor, show lo (1#128 : W128) = 1#64 from rfl, show hi (1#128 : W128) = 0#64 from rfl, show (1#128 : W128) <<< (w - 1) = topN w from rfl] at rl ra rb
  unfold Pure cmpF cmpN
  rw [Zjo]
  by_cases c1 : n = 33
  · simp (maxDischargeDepth := 40) [Zc0, B, Bt, c1, w1, rl, ra]
  by_cases c2 : n = 34
  · simp (maxDischargeDepth := 40) [Zc0, B, Bt, c2, w1, rl, rb]
  by_cases c3 : n = 35
  · simp (maxDischargeDepth := 40) [Zc0, B, Bt, c3, w1, rl, rb]
  by_cases c4 : n = 36
  · simp (maxDischargeDepth := 40) [Zc0, B, Bt, c4, w1, rl, ra]
  by_cases c5 : n = 29
  · simp (maxDischargeDepth := 40) [Zc0, B, Bt, c5]
  by_cases c6 : n = 30
  · simp (maxDischargeDepth := 40) [Zc0, B, Bt, c6]
  by_cases c7 : n = 31
  · simp (maxDischargeDepth := 40) [Zc0, B, Bt, c7]
  · simp (maxDischargeDepth := 40) [Zc0, B, Bt, c1, c2, c3, c4, c5, c6, c7]
end Go.Proofs.Ytiobohfiaapgeaa
namespace Go.Proofs.Ytiobohfiaapgeaa
set_option maxRecDepth 100000
@[simp] theorem s_compared {w : Nat} (h1 : 1 ≤ w) (hw : w ≤ 128) {n : Int} {x y : BitVec w} {H : AHeap} : R Zej [.int .i64 n, .agg [.int .i64 (w : Nat), u (lo (E x)), u (hi (E x))], .agg [.int .i64 (w : Nat), u (lo (E y)), u (hi (E y))]] H = some (.bool (cmpF n x y), H) := (compared_run h1 hw).run
def BB (b : Bool) : AV := Bt 0 (if b = true then 1#128 else 0#128)
def twoF {w : Nat} (n : Int) (a b : BitVec w) : AV :=
  if 12 ≤ n ∧ n ≤ 17 then B ((bitF n (E a) (E b)).setWidth w) else if 18 ≤ n ∧ n ≤ 25 then B ((reckF n a b).setWidth w) else if 26 ≤ n ∧ n ≤ 28 then B ((shiftF n a b).setWidth w)
  else if 29 ≤ n ∧ n ≤ 36 then BB (cmpF n a b) else if n = 8 then BB (decide (a = b)) else if n = 37 then B (w := 1) (if a = b then 1#1 else 0#1) else Bt 0 0#128
def twoE (n : Int) : Int := if 12 ≤ n ∧ n ≤ 37 ∨ n = 8 then 0 else 11
theorem pair_dec (x y : W128) : (decide (lo x = lo y) && decide (hi x = hi y)) = decide (x = y) := by
  rw [← Bool.decide_and, decide_eq_decide]
  exact ⟨fun h => pair_ext h.1 h.2, fun h => by rw [h]; exact ⟨rfl, rfl⟩⟩
theorem E_iff {w : Nat} (hw : w ≤ 128) (x y : BitVec w) : E x = E y ↔ x = y := ⟨E_inj hw, fun h => by rw [h]⟩
set_option maxHeartbeats 4000000 in
theorem two_run {w : Nat} (h1 : 1 ≤ w) (hw : w ≤ 128) {n : Int} {a b : BitVec w} {H : AHeap} : Pure R Zgp [.int .i64 n, B a, B b] H (.tup [twoF n a b, .int .i64 (twoE n)]) := by
  have he := E_iff hw a b
  unfold Pure twoF twoE BB
  rw [Zk4]
  by_cases c1 : 12 ≤ n ∧ n ≤ 17
  · have d : n ≤ 37 := by omega
    simp (maxDischargeDepth := 40) [Zfi, B, Bt, h1, hw, c1.1, c1.2, d]
  by_cases c2 : 18 ≤ n ∧ n ≤ 25
  · have d1 : 12 ≤ n := by omega
    have d2 : ¬ n ≤ 17 := by omega
    have d3 : n ≤ 37 := by omega
    simp (maxDischargeDepth := 40) [Zfi, B, Bt, h1, hw, c2.1, c2.2, d1, d2, d3]
  by_cases c3 : 26 ≤ n ∧ n ≤ 28
  · have d1 : 12 ≤ n := by omega
    have d2 : ¬ n ≤ 17 := by omega
    have d3 : n ≤ 37 := by omega
    have d4 : 18 ≤ n := by omega
    have d5 : ¬ n ≤ 25 := by omega
    simp (maxDischargeDepth := 40) [Zfi, B, Bt, h1, hw, c3.1, c3.2, d1, d2, d3, d4, d5]
  by_cases c4 : 29 ≤ n ∧ n ≤ 36
  · have d1 : 12 ≤ n := by omega
    have d2 : ¬ n ≤ 17 := by omega
    have d3 : n ≤ 37 := by omega
    have d4 : 18 ≤ n := by omega
    have d5 : ¬ n ≤ 25 := by omega
    have d6 : 26 ≤ n := by omega
    have d7 : ¬ n ≤ 28 := by omega
    simp (maxDischargeDepth := 40) [Zfi, B, Bt, h1, hw, c4.1, c4.2, d1, d2, d3, d4, d5, d6, d7]
  by_cases c5 : n = 8
  · subst c5
    simp (maxDischargeDepth := 40) [Zfi, B, Bt, h1, hw, pair_dec, he]
  by_cases c6 : n = 37
  · subst c6
    by_cases hab : a = b
    · subst hab
      have r := fun H => (cutB_run (w := 1) (by decide) (z := 1#128) (H := H)).run
      rw [show BitVec.setWidth 1 (1#128) = 1#1 from rfl] at r
      simp only [N, B, Bt, show hi (1#128 : W128) = 0#64 from rfl, show ((1 : Nat) : Int) = 1 from rfl, lo_one] at r
      simp (maxDischargeDepth := 40) [Zfi, B, Bt, h1, hw, r]
    · have r := fun H => (cutB_run (w := 1) (by decide) (z := 0#128) (H := H)).run
      rw [show BitVec.setWidth 1 (0#128) = 0#1 from rfl] at r
      simp only [N, B, Bt, show hi (0#128 : W128) = 0#64 from rfl, show lo (0#128 : W128) = 0#64 from rfl, show ((1 : Nat) : Int) = 1 from rfl] at r
      simp (maxDischargeDepth := 40) [Zfi, B, Bt, h1, hw, pair_dec, he, hab, r, show hi (0#128 : W128) = 0#64 from rfl, show lo (0#128 : W128) = 0#64 from rfl]
  · have g1 : (decide (12 ≤ n) && decide (n ≤ 17)) = false := by simp; omega
    have g2 : (decide (18 ≤ n) && decide (n ≤ 25)) = false := by simp; omega
    have g3 : (decide (26 ≤ n) && decide (n ≤ 28)) = false := by simp; omega
    have g4 : (decide (29 ≤ n) && decide (n ≤ 36)) = false := by simp; omega
    have g5 : ¬ (12 ≤ n ∧ n ≤ 37) := by omega
    rw [if_neg c1, if_neg c2, if_neg c3, if_neg c4, if_neg c5, if_neg c6, if_neg (by omega)]
    by_cases i1 : 12 ≤ n
    · have d1 : 18 ≤ n := by omega
      have d2 : 26 ≤ n := by omega
      have d3 : 29 ≤ n := by omega
      have f1 : ¬ n ≤ 17 := by omega
      have f2 : ¬ n ≤ 25 := by omega
      have f3 : ¬ n ≤ 28 := by omega
      have f4 : ¬ n ≤ 36 := by omega
      simp (maxDischargeDepth := 40) [Zfi, B, Bt, h1, hw, i1, d1, d2, d3, f1, f2, f3, f4, c5, c6, show hi (0#128 : W128) = 0#64 from rfl, show lo (0#128 : W128) = 0#64 from rfl]
    · have d1 : ¬ 18 ≤ n := by omega
      have d2 : ¬ 26 ≤ n := by omega
      have d3 : ¬ 29 ≤ n := by omega
      simp (maxDischargeDepth := 40) [Zfi, B, Bt, h1, hw, i1, d1, d2, d3, c5, c6, show hi (0#128 : W128) = 0#64 from rfl, show lo (0#128 : W128) = 0#64 from rfl]
def oneF {w : Nat} (n : Int) (a : BitVec w) : AV := if n = 10 then B (~~~a) else if n = 11 then B (-a) else Bt 0 0#128
theorem set_not {w : Nat} (hw : w ≤ 128) (x : BitVec w) : (~~~E x).setWidth w = ~~~x := by
  apply BitVec.eq_of_getLsbD_eq
  intro i hi
  have : i < 128 := by omega
  rw [BitVec.getLsbD_setWidth, BitVec.getLsbD_not, E_bit hw, BitVec.getLsbD_not]
  simp [hi, this]
set_option maxHeartbeats 4000000 in
theorem one_run {w : Nat} (h1 : 1 ≤ w) (hw : w ≤ 128) {n : Int} {a : BitVec w} {H : AHeap} : Pure R Zhc [.int .i64 n, B a] H (.tup [oneF n a, .int .i64 (if n = 10 ∨ n = 11 then 0 else 11)]) := by
  have e1 := set_not hw a
  have e2 := set_neg hw (E a)
  rw [E_set hw] at e2
  unfold Pure oneF
  rw [Zk3]
  by_cases c1 : n = 10
  · simp (maxDischargeDepth := 40) [Zik, B, Bt, h1, hw, c1, e1]
  by_cases c2 : n = 11
  · simp (maxDischargeDepth := 40) [Zik, B, Bt, h1, hw, c2, e2]
  · simp (maxDischargeDepth := 40) [Zik, B, Bt, h1, hw, c1, c2, show hi (0#128 : W128) = 0#64 from rfl, show lo (0#128 : W128) = 0#64 from rfl]
end Go.Proofs.Ytiobohfiaapgeaa
end
section
namespace Go.Proofs.Ytiobohfiaapgeaa
set_option maxRecDepth 100000
set_option maxHeartbeats 2000000 in
theorem extract_run {w i j d s : Nat} (h1 : 1 ≤ w) (hw : w ≤ 128) (hi' : i = j + d) (hi2 : i < w) (hs : s = d + 1) {a : BitVec w} {H : AHeap} : Pure R Zfl [B a, .int .i64 i, .int .i64 j] H (.tup [B ((E a >>> j).setWidth s), .int .i64 0]) := by
  have hs2 : s ≤ 128 := by omega
  have hj : j ≤ 128 := by omega
  have w1 : IntKind.i64.wrap ((i : Int) - (j : Int)) = (d : Int) := by rw [i64w (by omega) (by omega)]; omega
  have w2 : IntKind.i64.wrap ((d : Int) + 1) = (s : Int) := by rw [i64w (by omega) (by omega)]; omega
  have c1 : ¬ (i : Int) < j := by omega
  have c2 : ¬ i < j := by omega
  have c3 : ¬ (w : Int) ≤ i := by omega
  have c4 : ¬ w ≤ i := by omega
  unfold Pure
  rw [Zj1]
  simp (maxDischargeDepth := 40) [Zh8, B, Bt, h1, hw, hs2, hj, w1, w2, c1, c3]
set_option maxHeartbeats 2000000 in
theorem extend_run {w n s : Nat} (h1 : 1 ≤ w) (hs : s = w + n) (hm : s ≤ 128) {a : BitVec w} {sg : Bool} {H : AHeap} : Pure R Zf6 [B a, .int .i64 n, .bool sg] H (.tup [B ((if (sg && a.msb) = true then E a ||| ~~~maskN w else E a).setWidth s), .int .i64 0]) := by
  have hw : w ≤ 128 := by omega
  have w1 : IntKind.i64.wrap ((w : Int) + (n : Int)) = (s : Int) := by rw [i64w (by omega) (by omega)]; omega
  have w2 : IntKind.i64.wrap (128 - (w : Int)) = 128 - (w : Int) := i64w (by omega) (by omega)
  have c1 : ¬ 128 - (w : Int) < n := by omega
  have c2 : ¬ (n : Int) < 0 := by omega
  have r := fun H => (cutB_run (w := s) hm (z := E a ||| ~~~maskN w) (H := H)).run
  simp only [N, lo_or, hi_or, B, Bt] at r
  unfold Pure
  rw [Zkh]
  cases sg <;> cases hb : a.msb <;> simp (maxDischargeDepth := 40) [Ziz, B, Bt, h1, hw, hm, w1, w2, c1, c2, hb, r]
set_option maxHeartbeats 2000000 in
theorem rotate_left {w n k d : Nat} (h1 : 1 ≤ w) (hw : w ≤ 128) (hk : k = n % w) (hd : d = w - k) {a : BitVec w} {H : AHeap} : Pure R Zey [B a, .int .i64 n, .bool true] H (.tup [B ((E a <<< k ||| E a >>> d).setWidth w), .int .i64 0]) := by
  have hkw : k < w := by rw [hk]; exact Nat.mod_lt _ (by omega)
  have t1 : ((n : Int)).tmod (w : Int) = (k : Int) := by rw [Int.tmod_eq_emod_of_nonneg (by omega), hk]; rfl
  have w1 : IntKind.i64.wrap ((w : Int) - (k : Int)) = (d : Int) := by rw [i64w (by omega) (by omega)]; omega
  have w2 : IntKind.i64.wrap (k : Int) = (k : Int) := i64w (by omega) (by omega)
  have c2 : ¬ (n : Int) < 0 := by omega
  have c3 : ¬ w = 0 := by omega
  have c4 : k ≤ 128 := by omega
  have c5 : d ≤ 128 := by omega
  have r := fun H => (cutB_run (w := w) hw (z := E a <<< k ||| E a >>> d) (H := H)).run
  simp only [N, lo_or, hi_or, B, Bt] at r
  unfold Pure
  rw [Zi0]
  simp (maxDischargeDepth := 40) [Zhm, B, Bt, h1, hw, t1, w1, c2, c3, c4, c5, r]
set_option maxHeartbeats 2000000 in
theorem rotate_right {w n k d k2 d2 : Nat} (h1 : 1 ≤ w) (hw : w ≤ 128) (hk : k = n % w) (hd : d = w - k) (hk2 : k2 = d % w) (hd2 : d2 = w - k2) {a : BitVec w} {H : AHeap} : Pure R Zey [B a, .int .i64 n, .bool false] H (.tup [B ((E a <<< k2 ||| E a >>> d2).setWidth w), .int .i64 0]) := by
  have hkw : k < w := by rw [hk]; exact Nat.mod_lt _ (by omega)
  have hkw2 : k2 < w := by rw [hk2]; exact Nat.mod_lt _ (by omega)
  have t1 : ((n : Int)).tmod (w : Int) = (k : Int) := by rw [Int.tmod_eq_emod_of_nonneg (by omega), hk]; rfl
  have t2 : ((d : Int)).tmod (w : Int) = (k2 : Int) := by rw [Int.tmod_eq_emod_of_nonneg (by omega), hk2]; rfl
  have w1 : IntKind.i64.wrap ((w : Int) - (k : Int)) = (d : Int) := by rw [i64w (by omega) (by omega)]; omega
  have w2 : IntKind.i64.wrap (k : Int) = (k : Int) := i64w (by omega) (by omega)
  have w3 : IntKind.i64.wrap ((w : Int) - (k2 : Int)) = (d2 : Int) := by rw [i64w (by omega) (by omega)]; omega
  have w4 : IntKind.i64.wrap (k2 : Int) = (k2 : Int) := i64w (by omega) (by omega)
  have c2 : ¬ (n : Int) < 0 := by omega
  have c3 : ¬ w = 0 := by omega
  have c4 : k2 ≤ 128 := by omega
  have c5 : d2 ≤ 128 := by omega
  have r := fun H => (cutB_run (w := w) hw (z := E a <<< k2 ||| E a >>> d2) (H := H)).run
  simp only [N, lo_or, hi_or, B, Bt] at r
  unfold Pure
  rw [Zi0]
  simp (maxDischargeDepth := 40) [Zhm, B, Bt, h1, hw, t1, t2, w1, w3, c2, c3, c4, c5, r]
end Go.Proofs.Ytiobohfiaapgeaa
namespace Go.Proofs.Ytiobohfiaapgeaa
set_option maxRecDepth 100000
set_option maxHeartbeats 4000000 in
theorem concat_run {w v s : Nat} (h1 : 1 ≤ w) (h2 : 1 ≤ v) (hs : s = w + v) (hm : s ≤ 128) {a : BitVec w} {b : BitVec v} {H : AHeap} : Pure R Zec [B a, B b] H (.tup [B ((E a <<< v ||| E b).setWidth s), .int .i64 0]) := by
  have hw : w ≤ 128 := by omega
  have hv : v ≤ 128 := by omega
  have w1 : IntKind.i64.wrap ((w : Int) + (v : Int)) = (s : Int) := by rw [i64w (by omega) (by omega)]; omega
  have c1 : ¬ 128 < (s : Int) := by omega
  have c2 : ¬ 128 < s := by omega
  have r := fun H => (cutB_run (w := s) hm (z := E a <<< v ||| E b) (H := H)).run
  simp only [N, lo_or, hi_or, B, Bt] at r
  unfold Pure
  rw [Zkg]
  simp (maxDischargeDepth := 40) (maxSteps := 100000) [Ziy, B, Bt, h1, h2, hw, hv, hm, w1, c1, r]
end Go.Proofs.Ytiobohfiaapgeaa
namespace Go.Proofs.Ytiobohfiaapgeaa
set_option maxRecDepth 100000
theorem set_bit2 {w : Nat} (hw : w ≤ 128) (f : Bool → Bool → Bool) {op : W128 → W128 → W128} {opw : BitVec w → BitVec w → BitVec w} (h1 : ∀ x y i, i < 128 → (op x y).getLsbD i = f (x.getLsbD i) (y.getLsbD i)) (h2 : ∀ x y i, i < w → (opw x y).getLsbD i = f (x.getLsbD i) (y.getLsbD i)) (a b : BitVec w) : (op (E a) (E b)).setWidth w = opw a b := by
  apply BitVec.eq_of_getLsbD_eq
  intro i hi
  rw [BitVec.getLsbD_setWidth, h1 _ _ i (by omega), h2 _ _ i hi, E_bit hw, E_bit hw]
  simp [hi]
theorem two_add {w : Nat} (hw : w ≤ 128) (a b : BitVec w) : twoF 18 a b = B (a + b) := by
  simp [twoF, reckF, set_add hw, E_set hw]
theorem two_sub {w : Nat} (hw : w ≤ 128) (a b : BitVec w) : twoF 19 a b = B (a - b) := by
  simp [twoF, reckF, set_sub hw, E_set hw]
theorem two_mul' {w : Nat} (hw : w ≤ 128) (a b : BitVec w) : twoF 20 a b = B (a * b) := by
  simp [twoF, reckF, set_mul hw, E_set hw]
theorem two_and {w : Nat} (hw : w ≤ 128) (a b : BitVec w) : twoF 12 a b = B (a &&& b) := by
  simp [twoF, bitF, set_bit2 hw (fun p q => p && q) (op := fun x y => x &&& y) (opw := fun x y => x &&& y) (by simp) (by simp)]
theorem two_or {w : Nat} (hw : w ≤ 128) (a b : BitVec w) : twoF 13 a b = B (a ||| b) := by
  simp [twoF, bitF, set_bit2 hw (fun p q => p || q) (op := fun x y => x ||| y) (opw := fun x y => x ||| y) (by simp) (by simp)]
theorem two_nand {w : Nat} (hw : w ≤ 128) (a b : BitVec w) : twoF 15 a b = B (~~~(a &&& b)) := by
  simp only [twoF, bitF]
  rw [if_pos (by omega), if_pos trivial, set_bit2 hw (fun p q => !(p && q)) (op := fun x y => ~~~(x &&& y)) (opw := fun x y => ~~~(x &&& y)) (by intro x y i h; simp [h]) (by intro x y i h; simp [h])]
theorem two_nor {w : Nat} (hw : w ≤ 128) (a b : BitVec w) : twoF 16 a b = B (~~~(a ||| b)) := by
  simp [twoF, bitF, set_bit2 hw (fun p q => !(p || q)) (op := fun x y => ~~~(x ||| y)) (opw := fun x y => ~~~(x ||| y)) (by intro x y i h; simp [h]) (by intro x y i h; simp [h])]
theorem two_xor {w : Nat} (hw : w ≤ 128) (a b : BitVec w) : twoF 14 a b = B (a ^^^ b) := by
  simp [twoF, bitF, set_bit2 hw (fun p q => p ^^ q) (op := fun x y => x ^^^ y) (opw := fun x y => x ^^^ y) (by simp) (by simp)]
theorem two_xnor {w : Nat} (hw : w ≤ 128) (a b : BitVec w) : twoF 17 a b = B (~~~(a ^^^ b)) := by
  simp [twoF, bitF, set_bit2 hw (fun p q => !(p ^^ q)) (op := fun x y => ~~~(x ^^^ y)) (opw := fun x y => ~~~(x ^^^ y)) (by intro x y i h; simp [h]) (by intro x y i h; simp [h])]
end Go.Proofs.Ytiobohfiaapgeaa
namespace Go.Proofs.Ytiobohfiaapgeaa
set_option maxRecDepth 100000
theorem set_nat {w : Nat} (_hw : w ≤ 128) {x : W128} {y : BitVec w} (h : x.toNat = y.toNat) : x.setWidth w = y := by
  apply BitVec.eq_of_toNat_eq
  rw [BitVec.toNat_setWidth, h, Nat.mod_eq_of_lt y.isLt]
theorem div_set {w : Nat} (hw : w ≤ 128) (x y : BitVec w) : (E x / E y).setWidth w = x / y := set_nat hw (by rw [BitVec.toNat_udiv, BitVec.toNat_udiv, E_nat hw, E_nat hw])
theorem mod_set {w : Nat} (hw : w ≤ 128) (x y : BitVec w) : (E x % E y).setWidth w = x % y := set_nat hw (by rw [BitVec.toNat_umod, BitVec.toNat_umod, E_nat hw, E_nat hw])
theorem mask_set {w : Nat} (hw : w ≤ 128) : (maskN w).setWidth w = BitVec.allOnes w := by
  apply BitVec.eq_of_getLsbD_eq
  intro i hi
  rw [BitVec.getLsbD_setWidth, maskN_bit w i hw, BitVec.getLsbD_allOnes]; simp [hi]
def qB {w : Nat} (x y : BitVec w) : BitVec w := if y = 0#w then BitVec.allOnes w else x / y
theorem udiv_set {w : Nat} (hw : w ≤ 128) (x y : BitVec w) : (udivN w (E x) (E y)).setWidth w = qB x y := by
  unfold udivN qB
  by_cases h : y = 0#w
  · rw [if_pos h, if_pos ((E_zero_iff hw y).2 h), mask_set hw]
  · rw [if_neg h, if_neg (fun e => h ((E_zero_iff hw y).1 e)), div_set hw]
theorem two_udiv {w : Nat} (hw : w ≤ 128) (a b : BitVec w) : twoF 21 a b = B (qB a b) := by
  simp [twoF, reckF, udiv_set hw]
theorem two_urem {w : Nat} (hw : w ≤ 128) (a b : BitVec w) : twoF 22 a b = B (a % b) := by
  simp [twoF, reckF, mod_set hw]
def sdivB {w : Nat} (a b : BitVec w) : BitVec w := if (a.msb != b.msb) = true then -(qB a.abs b.abs) else qB a.abs b.abs
def sremB {w : Nat} (a b : BitVec w) : BitVec w := if a.msb = true then -(a.abs % b.abs) else a.abs % b.abs
def smodB {w : Nat} (a b : BitVec w) : BitVec w :=
  if a.abs % b.abs = 0#w ∨ a.msb = false ∧ b.msb = false then a.abs % b.abs else if b.msb = false then b - a.abs % b.abs else if a.msb = false then a.abs % b.abs + b else -(a.abs % b.abs)
theorem two_sdiv {w : Nat} (hw : w ≤ 128) (a b : BitVec w) : twoF 23 a b = B (sdivB a b) := by
  have e : (reckF 23 a b).setWidth w = sdivB a b := by
    unfold reckF sdivB
    simp only [show ¬ (23 : Int) = 18 from by decide, show ¬ (23 : Int) = 19 from by decide, show ¬ (23 : Int) = 20 from by decide, show ¬ (23 : Int) = 21 from by decide, show ¬ (23 : Int) = 22 from by decide, if_false, if_true]
    split
    · rw [set_neg hw, udiv_set hw]
    · rw [udiv_set hw]
  simp [twoF, e]
theorem two_srem {w : Nat} (hw : w ≤ 128) (a b : BitVec w) : twoF 24 a b = B (sremB a b) := by
  have e : (reckF 24 a b).setWidth w = sremB a b := by
    unfold reckF sremB
    simp only [show ¬ (24 : Int) = 18 from by decide, show ¬ (24 : Int) = 19 from by decide, show ¬ (24 : Int) = 20 from by decide, show ¬ (24 : Int) = 21 from by decide, show ¬ (24 : Int) = 22 from by decide, show ¬ (24 : Int) = 23 from by decide, if_false, if_true]
    split
    · rw [set_neg hw, mod_set hw]
    · rw [mod_set hw]
  simp [twoF, e]
theorem mod_zero_iff {w : Nat} (hw : w ≤ 128) (x y : BitVec w) : E x % E y = 0#128 ↔ x % y = 0#w := by
  constructor
  · intro h; rw [← mod_set hw, h]; simp
  · intro h
    apply BitVec.eq_of_toNat_eq
    have := congrArg BitVec.toNat h
    rw [BitVec.toNat_umod] at this ⊢
    rw [E_nat hw, E_nat hw]
    simpa using this
theorem two_smod {w : Nat} (hw : w ≤ 128) (a b : BitVec w) : twoF 25 a b = B (smodB a b) := by
  have e : (reckF 25 a b).setWidth w = smodB a b := by
    unfold reckF smodB smodN
    simp only [show ¬ (25 : Int) = 18 from by decide, show ¬ (25 : Int) = 19 from by decide, show ¬ (25 : Int) = 20 from by decide, show ¬ (25 : Int) = 21 from by decide, show ¬ (25 : Int) = 22 from by decide, show ¬ (25 : Int) = 23 from by decide, show ¬ (25 : Int) = 24 from by decide, if_false, mod_zero_iff hw]
    split
    · rw [mod_set hw]
    split
    · rw [set_sub hw, E_set hw, mod_set hw]
    split
    · rw [set_add hw, E_set hw, mod_set hw]
    · rw [set_neg hw, mod_set hw]
  simp [twoF, e]
theorem shl_set {w : Nat} (hw : w ≤ 128) (a : BitVec w) (n : Nat) : (E a <<< n).setWidth w = a <<< n := by
  apply BitVec.eq_of_getLsbD_eq
  intro i hi
  have : i < 128 := by omega
  rw [BitVec.getLsbD_setWidth, BitVec.getLsbD_shiftLeft, E_bit hw, BitVec.getLsbD_shiftLeft]; simp [hi, this]
theorem shr_set {w : Nat} (hw : w ≤ 128) (a : BitVec w) (n : Nat) : (E a >>> n).setWidth w = a >>> n := by
  apply BitVec.eq_of_getLsbD_eq
  intro i hi
  rw [BitVec.getLsbD_setWidth, BitVec.getLsbD_ushiftRight, E_bit hw, BitVec.getLsbD_ushiftRight]; simp [hi]
theorem sar_set {w : Nat} (hw : w ≤ 128) (a : BitVec w) {n : Nat} (_hn : n ≤ w) : (if a.msb = true then E a >>> n ||| ~~~(maskN w >>> n) else E a >>> n).setWidth w = a.sshiftRight n := by
  apply BitVec.eq_of_getLsbD_eq
  intro i hi
  have h128 : i < 128 := by omega
  rw [BitVec.getLsbD_setWidth, BitVec.getLsbD_sshiftRight]
  by_cases hm : a.msb = true
  · rw [if_pos hm, BitVec.getLsbD_or, BitVec.getLsbD_ushiftRight, E_bit hw, BitVec.getLsbD_not, BitVec.getLsbD_ushiftRight, maskN_bit w _ hw]
    by_cases h : n + i < w
    · have : ¬ w ≤ i := by omega
      simp [hi, h128, h, this]
    · have : ¬ w ≤ i := by omega
      simp [hi, h128, h, hm, this]
  · rw [if_neg hm, BitVec.getLsbD_ushiftRight, E_bit hw]
    by_cases h : n + i < w
    · have : ¬ w ≤ i := by omega
      simp [hi, h, this]
    · have h2 : a.getLsbD (n + i) = false := BitVec.getLsbD_of_ge a _ (by omega)
      have : ¬ w ≤ i := by omega
      simp [hi, h, h2, hm, this]
theorem shN_le {w : Nat} (b : BitVec w) : shN b ≤ w := by unfold shN; split <;> omega
theorem two_shl {w : Nat} (hw : w ≤ 128) (a b : BitVec w) : twoF 26 a b = B (a <<< shN b) := by
  simp [twoF, shiftF, shl_set hw]
theorem two_lshr {w : Nat} (hw : w ≤ 128) (a b : BitVec w) : twoF 27 a b = B (a >>> shN b) := by
  simp [twoF, shiftF, shr_set hw]
theorem two_ashr {w : Nat} (hw : w ≤ 128) (a b : BitVec w) : twoF 28 a b = B (a.sshiftRight (shN b)) := by
  have := sar_set hw a (shN_le b)
  simp [twoF, shiftF, this]
theorem two_comp {w : Nat} (a b : BitVec w) : twoF 37 a b = B (w := 1) (if a = b then 1#1 else 0#1) := by simp [twoF]
end Go.Proofs.Ytiobohfiaapgeaa
end
section
namespace Go.Proofs.Ytiobohfiaapgeaa
set_option maxRecDepth 100000
set_option maxHeartbeats 4000000
def wordV {w : Nat} (n : Int) (x y : BitVec w) : BitVec w :=
  if n = 12 then x &&& y else if n = 13 then x ||| y else if n = 14 then x ^^^ y else if n = 15 then ~~~(x &&& y) else if n = 16 then ~~~(x ||| y) else if n = 17 then ~~~(x ^^^ y)
  else if n = 18 then x + y else if n = 19 then x - y else if n = 20 then x * y else if n = 21 then qB x y else if n = 22 then x % y else if n = 23 then sdivB x y else if n = 24 then sremB x y
  else if n = 25 then smodB x y else if n = 26 then x <<< shN y else if n = 27 then x >>> shN y else x.sshiftRight (shN y)
def isWd (w : Int) (l h : BitVec 64) : Bool := !decide (w = 0) && rightF w l h
theorem isWd_word {w : Int} {l h : BitVec 64} (hw : isWd w l h = true) : ∃ (n : Nat) (x : BitVec n), 1 ≤ n ∧ n ≤ 128 ∧ w = n ∧ l = lo (E x) ∧ h = hi (E x) := by
  unfold isWd rightF at hw
  simp only [Bool.and_eq_true, Bool.not_eq_true', decide_eq_false_iff_not] at hw
  obtain ⟨h0, h1⟩ := hw
  rw [if_neg h0] at h1
  simp only [Bool.and_eq_true, decide_eq_true_eq] at h1
  obtain ⟨⟨h2, h3⟩, h4⟩ := h1
  have hn : w.toNat ≤ 128 := by omega
  refine ⟨w.toNat, (mkN l h).setWidth w.toNat, by omega, hn, by omega, ?_, ?_⟩
  · rw [← cut_E hn, h4, lo_mk]
  · rw [← cut_E hn, h4, hi_mk]
theorem isWd_B {n : Nat} (h1 : 1 ≤ n) (hn : n ≤ 128) (x : BitVec n) : isWd n (lo (E x)) (hi (E x)) = true := by
  have e : mkN (lo (E x)) (hi (E x)) = E x := pair_ext (by rw [lo_mk]) (by rw [hi_mk])
  have h0 : ¬ (n : Int) = 0 := by omega
  unfold isWd rightF
  rw [if_neg h0, e, Int.toNat_natCast, cut_E hn, E_set hn]
  simp; omega
theorem twoF_word {w : Nat} (hw : w ≤ 128) {n : Int} (h : 12 ≤ n ∧ n ≤ 28) (a b : BitVec w) : twoF n a b = B (wordV n a b) := by
  rcases (show n = 12 ∨ n = 13 ∨ n = 14 ∨ n = 15 ∨ n = 16 ∨ n = 17 ∨ n = 18 ∨ n = 19 ∨ n = 20 ∨ n = 21 ∨ n = 22 ∨ n = 23 ∨ n = 24 ∨ n = 25 ∨ n = 26 ∨ n = 27 ∨ n = 28 by omega) with rfl | rfl | rfl | rfl | rfl | rfl | rfl | rfl | rfl | rfl | rfl | rfl | rfl | rfl | rfl | rfl | rfl
  · rw [two_and hw]; simp [wordV]
  · rw [two_or hw]; simp [wordV]
  · rw [two_xor hw]; simp [wordV]
  · rw [two_nand hw]; simp [wordV]
  · rw [two_nor hw]; simp [wordV]
  · rw [two_xnor hw]; simp [wordV]
  · rw [two_add hw]; simp [wordV]
  · rw [two_sub hw]; simp [wordV]
  · rw [two_mul' hw]; simp [wordV]
  · rw [two_udiv hw]; simp [wordV]
  · rw [two_urem hw]; simp [wordV]
  · rw [two_sdiv hw]; simp [wordV]
  · rw [two_srem hw]; simp [wordV]
  · rw [two_smod hw]; simp [wordV]
  · rw [two_shl hw]; simp [wordV]
  · rw [two_lshr hw]; simp [wordV]
  · rw [two_ashr hw]; simp [wordV]
end Go.Proofs.Ytiobohfiaapgeaa
end
section
namespace Go.Proofs.Ytiobohfiaapgeaa
set_option maxRecDepth 100000
def rpt {w : Nat} (x : BitVec w) : Nat → W128
  | 0 => 0#128
  | k + 1 => rpt x k <<< w ||| E x
def repB {w : Nat} (x : BitVec w) (k : Nat) : BitVec (w * k) := (rpt x k).setWidth (w * k)
theorem rpt_bit {w : Nat} (hw : 0 < w) (x : BitVec w) : ∀ (k : Nat), w * k ≤ 128 → ∀ i, (rpt x k).getLsbD i = (decide (i < w * k) && x.getLsbD (i % w))
  | 0, _, i => by simp [rpt]
  | k + 1, h, i => by
    have hk : w * k + w ≤ 128 := by rw [Nat.mul_add] at h; simpa using h
    have e : w * (k + 1) = w * k + w := by rw [Nat.mul_add]; simp
    rw [rpt, BitVec.getLsbD_or, BitVec.getLsbD_shiftLeft, rpt_bit hw x k (by omega), E_bit (by omega), e]
    by_cases h1 : i < w
    · have h2 : i < w * k + w := by omega
      have h3 : i % w = i := Nat.mod_eq_of_lt h1
      simp [h1, h2, h3]
    · have h3 : (i - w) % w = i % w := by
        conv => rhs; rw [show i = (i - w) + w from by omega, Nat.add_mod_right]
      have h4 : x.getLsbD i = false := BitVec.getLsbD_of_ge x i (by omega)
      rw [h3, h4]
      by_cases h5 : i < w * k + w
      · have h6 : i - w < w * k := by omega
        have h7 : i < 128 := by omega
        simp [h1, h5, h6, h7]
      · have h6 : ¬ i - w < w * k := by omega
        simp [h5, h6]
theorem E_repB {w : Nat} (hw : 0 < w) (x : BitVec w) {k : Nat} (hk : w * k ≤ 128) : E (repB x k) = rpt x k := by
  apply BitVec.eq_of_getLsbD_eq
  intro i hi
  rw [E_bit hk, repB, BitVec.getLsbD_setWidth, rpt_bit hw x k hk]
  by_cases h : i < w * k <;> simp [h]
theorem rep_concat {w k : Nat} (h1 : 1 ≤ w) (h2 : 1 ≤ k) (hm : w * (k + 1) ≤ 128) {x : BitVec w} {H : AHeap} : Pure R Zec [B (repB x k), B x] H (.tup [B (repB x (k + 1)), .int .i64 0]) := by
  have e : w * (k + 1) = w * k + w := by rw [Nat.mul_add]; simp
  have hp : 1 ≤ w * k := Nat.mul_pos h1 h2
  have g := concat_run (w := w * k) (v := w) (s := w * (k + 1)) hp h1 e hm (a := repB x k) (b := x) (H := H)
  rw [E_repB h1 x (by omega)] at g
  exact g
theorem rep_loop {w n : Nat} (h1 : 1 ≤ w) (hm : w * n ≤ 128) (hn : 1 ≤ n) (hn2 : n ≤ 128) {x : BitVec w} {o2 o6 : Nat} (hne : ¬ o2 = o6) {e : Env} {H : AHeap} {r : Rn} (hL : loopL Try.prog KT R Zfa e H = r)
    (b2 : H.obj o2 = .cells [.int .i64 w, u (lo (E x)), u (hi (E x))]) (b6 : H.obj o6 = .cells [.int .i64 (w * 1 : Nat), u (lo (E (repB x 1))), u (hi (E (repB x 1)))])
    (e2 : e 2 = some (.ptr o2 0)) (e6 : e 6 = some (.ptr o6 0)) (e25 : e 25 = some (.int .i64 (n - 1 : Nat))) (e26 : e 26 = some (.int .i64 0)) :
    ∃ y e' H', r = some (y, e', H') ∧ (y = .exit 1 ∧ Upd o6 H H' ∧ H'.obj o6 = .cells [.int .i64 (w * n : Nat), u (lo (E (repB x n))), u (hi (E (repB x n)))]) ∧ ∀ t, t ∉ defs Zfa → e' t = e t := by
  refine loop_count Zfa.eq_1 hL (n - 1) (fun i e1 H1 => e1 26 = some (.int .i64 i) ∧ Upd o6 H H1 ∧ H1.obj o6 = .cells [.int .i64 (w * (i + 1) : Nat), u (lo (E (repB x (i + 1)))), u (hi (E (repB x (i + 1))))]) _ 0 (by omega)
    ⟨e26, Upd.refl _ _, b6⟩ ?_ ?_
  · rintro i f H1 hf - hi' ⟨f26, k, hob⟩
    have hle : w * (i + 1 + 1) ≤ w * n := Nat.mul_le_mul_left w (by omega)
    have hw1 := i64w (n := (i : Int) + 1) (by omega) (by omega)
    have r := fun H => (rep_concat h1 (k := i + 1) (by omega) (by omega) (x := x) (H := H)).run
    simp only [B, Bt] at r
    have ho2 : H1.obj o2 = .cells [.int .i64 w, u (lo (E x)), u (hi (E x))] := by rw [k.obj _ hne]; exact b2
    have c1 : (i : Int) < ((n - 1 : Nat) : Int) := by omega
    have c2 : i < n - 1 := hi'
    generalize E (repB x (i + 1)) = A at *
    generalize E (repB x (i + 1 + 1)) = B' at *
    generalize ((w * (i + 1) : Nat) : Int) = wA at *
    generalize ((w * (i + 1 + 1) : Nat) : Int) = wB at *
    simp (maxDischargeDepth := 20) [hf, e2, e6, e25, f26, ho2, hob, r, hw1, c1]
    exact k.set _
  · rintro f H1 hf ⟨f26, k, hob⟩
    have hn1 : n - 1 + 1 = n := by omega
    rw [hn1] at hob
    simp [hf, e25, f26]
    exact ⟨k, hob⟩
theorem repeat_run {w n : Nat} (h1 : 1 ≤ w) (hm : w * n ≤ 128) (hn : 1 ≤ n) {x : BitVec w} {H : AHeap} : Pure R Zf7 [B x, .int .i64 n] H (.tup [B (repB x n), .int .i64 0]) := by
  have hw : w ≤ 128 := by have := Nat.mul_le_mul_left w hn; omega
  have hn2 : n ≤ 128 := by have := Nat.mul_le_mul_right n h1; omega
  have c1 : ¬ (n : Int) < 1 := by omega
  have c2 : ¬ (w : Int) = 0 := by omega
  have hdiv : n ≤ 128 / w := by rw [Nat.le_div_iff_mul_le h1, Nat.mul_comm]; exact hm
  have t1 : (128 : Int).tdiv (w : Int) = ((128 / w : Nat) : Int) := by rw [Int.tdiv_eq_ediv_of_nonneg (by omega)]; rfl
  have hd2 : 128 / w ≤ 128 := Nat.div_le_self _ _
  have w1 : IntKind.i64.wrap ((128 / w : Nat) : Int) = ((128 / w : Nat) : Int) := i64w (by omega) (by omega)
  have w2 : IntKind.i64.wrap ((n : Int) - 1) = ((n - 1 : Nat) : Int) := by rw [i64w (by omega) (by omega)]; omega
  generalize hD : 128 / w = dd at *
  have c3 : ¬ ((dd : Nat) : Int) < n := by omega
  have c4 : ¬ dd < n := by omega
  have c5 : ¬ n < 1 := by omega
  have c6 : ¬ w = 0 := by omega
  have c7 : ¬ n = 0 := by omega
  have hE1 : E (repB x 1) = E x := by rw [E_repB h1 x (by omega)]; simp [rpt]
  unfold Pure
  rw [Zki]
  simp (maxDischargeDepth := 40) [Zi1, B, Bt, h1, hw, c1, c3, c6, t1, w1, w2]
  generalize hL : loopL _ _ _ _ _ _ = q
  obtain ⟨y, e1, H1, rfl, ⟨rfl, k, hob⟩, fr⟩ := rep_loop (o2 := H.size) (o6 := H.size + 1 + 1) h1 hm hn hn2 (x := x) (by omega) hL (by simp) (by simp [hE1]) (by simp) (by simp) (by simp) (by simp)
  have hK : Keeps H H1 := k.keeps (by simp (maxDischargeDepth := 40)) (by omega)
  simp (maxDischargeDepth := 40) [fr, hob, k.obj, hK]
end Go.Proofs.Ytiobohfiaapgeaa
namespace Go.Proofs.Ytiobohfiaapgeaa
set_option maxRecDepth 100000
end Go.Proofs.Ytiobohfiaapgeaa
end
section
namespace Go.Proofs.Ytiobohfiaapgeaa
set_option maxRecDepth 100000
set_option maxHeartbeats 2000000
def Vl.of {w : Nat} (x : BitVec w) : Vl := ⟨w, E x⟩
def Vl.x (v : Vl) (w : Nat) : BitVec w := v.n.setWidth w
theorem Vl.of_x {w : Nat} (hw : w ≤ 128) (x : BitVec w) : (Vl.of x).x w = x := E_set hw x
def rotV {w : Nat} (x : BitVec w) (k : Nat) : BitVec w := (E x <<< k ||| E x >>> (w - k)).setWidth w
def twoV {w : Nat} (n : Int) (a b : BitVec w) : Vl :=
  if n ≤ 28 then Vl.of (wordV n a b) else if n ≤ 36 then Vl.bool (cmpF n a b) else Vl.of (w := 1) (if a = b then 1#1 else 0#1)
def meanV (op p q : Int) (l : List Vl) : Vl :=
  if op ≤ 8 then Vl.bool (boolV op (l.getD 0 Vl.zero) (l.getD 1 Vl.zero))
  else if op = 9 then (if (l.getD 0 Vl.zero).yes = true then l.getD 1 Vl.zero else l.getD 2 Vl.zero)
  else if op = 10 then Vl.of (~~~(l.getD 0 Vl.zero).x (l.getD 0 Vl.zero).w.toNat)
  else if op = 11 then Vl.of (-(l.getD 0 Vl.zero).x (l.getD 0 Vl.zero).w.toNat)
  else if op ≤ 37 then twoV op ((l.getD 0 Vl.zero).x (l.getD 0 Vl.zero).w.toNat) ((l.getD 1 Vl.zero).x (l.getD 0 Vl.zero).w.toNat)
  else if op = 38 then Vl.of ((E ((l.getD 0 Vl.zero).x (l.getD 0 Vl.zero).w.toNat) <<< (l.getD 1 Vl.zero).w.toNat ||| E ((l.getD 1 Vl.zero).x (l.getD 1 Vl.zero).w.toNat)).setWidth ((l.getD 0 Vl.zero).w.toNat + (l.getD 1 Vl.zero).w.toNat))
  else if op = 39 then Vl.of ((E ((l.getD 0 Vl.zero).x (l.getD 0 Vl.zero).w.toNat) >>> q.toNat).setWidth ((p - q).toNat + 1))
  else if op = 40 then Vl.of ((E ((l.getD 0 Vl.zero).x (l.getD 0 Vl.zero).w.toNat)).setWidth ((l.getD 0 Vl.zero).w.toNat + p.toNat))
  else if op = 41 then Vl.of ((if ((l.getD 0 Vl.zero).x (l.getD 0 Vl.zero).w.toNat).msb = true then E ((l.getD 0 Vl.zero).x (l.getD 0 Vl.zero).w.toNat) ||| ~~~maskN (l.getD 0 Vl.zero).w.toNat else E ((l.getD 0 Vl.zero).x (l.getD 0 Vl.zero).w.toNat)).setWidth ((l.getD 0 Vl.zero).w.toNat + p.toNat))
  else if op = 42 then Vl.of (rotV ((l.getD 0 Vl.zero).x (l.getD 0 Vl.zero).w.toNat) (p.toNat % (l.getD 0 Vl.zero).w.toNat))
  else if op = 43 then Vl.of (rotV ((l.getD 0 Vl.zero).x (l.getD 0 Vl.zero).w.toNat) (((l.getD 0 Vl.zero).w.toNat - p.toNat % (l.getD 0 Vl.zero).w.toNat) % (l.getD 0 Vl.zero).w.toNat))
  else Vl.of (repB ((l.getD 0 Vl.zero).x (l.getD 0 Vl.zero).w.toNat) p.toNat)
theorem isWd_of {v : Vl} (h : v.ok = true) (h0 : ¬ v.w = 0) : ∃ (n : Nat) (x : BitVec n), 1 ≤ n ∧ n ≤ 128 ∧ v = Vl.of x := by
  have : isWd v.w (lo v.n) (hi v.n) = true := by
    unfold isWd
    rw [show rightF v.w (lo v.n) (hi v.n) = v.ok from rfl, h]
    simp [h0]
  obtain ⟨n, x, h1, h2, h3, h4, h5⟩ := isWd_word this
  exact ⟨n, x, h1, h2, Vl.ext' h3 h4 h5⟩
theorem Vl.of_ok {n : Nat} (h1 : 1 ≤ n) (hn : n ≤ 128) (x : BitVec n) : (Vl.of x).ok = true := by
  have := isWd_B h1 hn x
  unfold isWd at this
  simp only [Bool.and_eq_true] at this
  exact this.2
theorem Vl.bool_ok (b : Bool) : (Vl.bool b).ok = true := by cases b <;> decide
theorem Vl.of_bool {v : Vl} (h : v.ok = true) (h0 : v.w = 0) : ∃ b, v = Vl.bool b := by
  unfold Vl.ok rightF at h
  rw [if_pos h0] at h
  have h := of_decide_eq_true h
  have hl : lo v.n = 0#64 ∨ lo v.n = 1#64 := by
    have h1 := h.1
    rw [BitVec.le_def] at h1
    have e1 : (1#64 : BitVec 64).toNat = 1 := by decide
    rw [e1] at h1
    rcases (by omega : (lo v.n).toNat = 0 ∨ (lo v.n).toNat = 1) with h2 | h2
    · exact .inl (BitVec.eq_of_toNat_eq (by rw [h2]; rfl))
    · exact .inr (BitVec.eq_of_toNat_eq (by rw [h2]; rfl))
  rcases hl with hl | hl
  · exact ⟨false, Vl.ext' h0 (by rw [hl]; rfl) (by rw [h.2]; rfl)⟩
  · exact ⟨true, Vl.ext' h0 (by rw [hl]; rfl) (by rw [h.2]; rfl)⟩
inductive Fit (op p q : Int) : List Vl → Int → Prop
  | not (a : Bool) : op = 3 → p = 0 → q = 0 → Fit op p q [Vl.bool a] 0
  | two (a b : Bool) : 4 ≤ op → op ≤ 7 → p = 0 → q = 0 → Fit op p q [Vl.bool a, Vl.bool b] 0
  | eq (a b : Vl) : op = 8 → p = 0 → q = 0 → a.ok = true → b.ok = true → a.w = b.w → Fit op p q [a, b] 0
  | ite (c : Bool) (a b : Vl) : op = 9 → p = 0 → q = 0 → a.ok = true → b.ok = true → a.w = b.w → Fit op p q [Vl.bool c, a, b] b.w
  | one (n : Nat) (x : BitVec n) : 1 ≤ n → n ≤ 128 → 10 ≤ op → op ≤ 11 → p = 0 → q = 0 → Fit op p q [Vl.of x] n
  | word (n : Nat) (x y : BitVec n) : 1 ≤ n → n ≤ 128 → 12 ≤ op → op ≤ 28 → p = 0 → q = 0 → Fit op p q [Vl.of x, Vl.of y] n
  | cmp (n : Nat) (x y : BitVec n) : 1 ≤ n → n ≤ 128 → 29 ≤ op → op ≤ 36 → p = 0 → q = 0 → Fit op p q [Vl.of x, Vl.of y] 0
  | comp (n : Nat) (x y : BitVec n) : 1 ≤ n → n ≤ 128 → op = 37 → p = 0 → q = 0 → Fit op p q [Vl.of x, Vl.of y] 1
  | concat (n m : Nat) (x : BitVec n) (y : BitVec m) : 1 ≤ n → 1 ≤ m → n + m ≤ 128 → op = 38 → p = 0 → q = 0 → Fit op p q [Vl.of x, Vl.of y] ((n + m : Nat) : Int)
  | extract (n i j : Nat) (x : BitVec n) : 1 ≤ n → n ≤ 128 → op = 39 → p = i → q = j → j ≤ i → i < n → Fit op p q [Vl.of x] ((i - j + 1 : Nat) : Int)
  | ext (n k : Nat) (x : BitVec n) : 1 ≤ n → n + k ≤ 128 → 40 ≤ op → op ≤ 41 → p = k → q = 0 → Fit op p q [Vl.of x] ((n + k : Nat) : Int)
  | rot (n k : Nat) (x : BitVec n) : 1 ≤ n → n ≤ 128 → 42 ≤ op → op ≤ 43 → p = k → q = 0 → Fit op p q [Vl.of x] n
  | rep (n k : Nat) (x : BitVec n) : 1 ≤ n → 1 ≤ k → n * k ≤ 128 → op = 44 → p = k → q = 0 → Fit op p q [Vl.of x] ((n * k : Nat) : Int)
theorem len1 {l : List Vl} (h : l.length = 1) : ∃ a, l = [a] := by
  cases l with
  | nil => simp at h
  | cons a l => cases l with
    | nil => exact ⟨a, rfl⟩
    | cons b l => simp at h
theorem len2 {l : List Vl} (h : l.length = 2) : ∃ a b, l = [a, b] := by
  cases l with
  | nil => simp at h
  | cons a l => obtain ⟨b, rfl⟩ := len1 (l := l) (by simpa using h); exact ⟨a, b, rfl⟩
theorem len3 {l : List Vl} (h : l.length = 3) : ∃ a b c, l = [a, b, c] := by
  cases l with
  | nil => simp at h
  | cons a l => obtain ⟨b, c, rfl⟩ := len2 (l := l) (by simpa using h); exact ⟨a, b, c, rfl⟩
theorem fit_of {op p q s : Int} {l : List Vl} (hs : sortS op p q (l.map Vl.w) = (s, 0)) (hl : ∀ v, v ∈ l → v.ok = true) : Fit op p q l s := by
  unfold sortS at hs
  by_cases a1 : arity op < 1
  · rw [if_pos a1] at hs; simp at hs
  rw [if_neg a1] at hs
  by_cases a2' : ¬ ((l.map Vl.w).length : Int) = arity op
  · rw [if_pos a2'] at hs; simp at hs
  have a2 : ((l.map Vl.w).length : Int) = arity op := Decidable.not_not.1 a2'
  rw [if_neg a2'] at hs
  split at hs
  · simp at hs
  rename_i a3
  split at hs
  · simp at hs
  rename_i a4
  split at hs
  · simp at hs
  rename_i a5
  have hsv : s = _ := (congrArg Prod.fst hs).symm
  simp only at hsv
  clear hs
  simp only [Bool.not_eq_false] at a3 a4
  rw [List.length_map] at a2
  have hop : 3 ≤ op ∧ op ≤ 44 := by unfold arity at a1; split at a1 <;> first | omega | (split at a1 <;> omega)
  have word : ∀ a, a ∈ l → 0 < a.w → ∃ (n : Nat) (x : BitVec n), 1 ≤ n ∧ n ≤ 128 ∧ a = Vl.of x := fun a ha h => isWd_of (hl a ha) (by omega)
  have bool : ∀ a, a ∈ l → a.w = 0 → ∃ b, a = Vl.bool b := fun a ha h => Vl.of_bool (hl a ha) h
  have ofw : ∀ (n : Nat) (x : BitVec n), (Vl.of x).w = n := fun _ _ => rfl
  have cast : ∀ {n m : Nat}, ((n : Int) = m) → n = m := fun h => by omega
  by_cases b1 : arity op = 1
  · obtain ⟨a, rfl⟩ := len1 (l := l) (by omega)
    have h1 := hl a (by simp)
    simp only [List.map_cons, List.map_nil, List.length_cons, List.length_nil, List.getD_cons_zero, Nat.zero_add, Nat.sub_self] at a4 a5 hsv
    have ho : op = 3 ∨ op = 10 ∨ op = 11 ∨ 39 ≤ op := by unfold arity at b1; split at b1 <;> first | omega | (split at b1 <;> first | omega | (split at b1 <;> first | omega | (split at b1 <;> omega)))
    by_cases c3 : op = 3
    · simp [toldB, c3] at a4
      simp [toldV, c3] at hsv
      obtain ⟨b, rfl⟩ := bool a (by simp) a4.2.2
      rw [hsv]
      exact .not b c3 a4.1 a4.2.1
    by_cases c10 : op ≤ 11
    · have d1 : ¬ op ≤ 7 := by omega
      have d2 : ¬ op = 8 := by omega
      have d3 : ¬ op = 9 := by omega
      have d4 : ¬ op = 38 := by omega
      have d5 : ¬ 39 ≤ op := by omega
      have d6 : ¬ op = 37 := by omega
      have d7 : ¬ 29 ≤ op := by omega
      simp [toldB, d1, d2, d3, d4, d5] at a4
      simp [toldV, d1, d2, d3, d4, d5, d6, d7] at hsv
      obtain ⟨n, x, n1, n2, rfl⟩ := word a (by simp) a4.2.2
      rw [hsv]
      exact .one n x n1 n2 (by omega) c10 a4.1 a4.2.1
    have d1 : ¬ op ≤ 7 := by omega
    have d2 : ¬ op = 8 := by omega
    have d3 : ¬ op = 9 := by omega
    have d4 : ¬ op = 38 := by omega
    have d5 : 39 ≤ op := by omega
    simp only [toldB, d1, d2, d3, d4, d5, if_true, if_false, Bool.and_eq_true, decide_eq_true_eq] at a4
    simp only [toldV, d1, d2, d3, d4, d5, if_true, if_false] at hsv a5
    obtain ⟨n, x, n1, n2, rfl⟩ := word a (by simp) a4.2
    have a4 := a4.1
    rw [ofw] at a4 a5 hsv
    by_cases c39 : op = 39
    · simp [numB, c39] at a4
      simp [numV, c39] at hsv
      obtain ⟨j, rfl⟩ : ∃ j : Nat, q = j := ⟨q.toNat, by omega⟩
      obtain ⟨i, rfl⟩ : ∃ i : Nat, p = i := ⟨p.toNat, by omega⟩
      rw [show s = ((i - j + 1 : Nat) : Int) by omega]
      exact .extract n i j x n1 n2 c39 rfl rfl (by omega) (by omega)
    by_cases c42 : op = 42 ∨ op = 43
    · have e2 : ¬ op = 44 := by omega
      simp only [numB, c39, e2, if_false, decide_eq_true_eq] at a4
      simp only [numV, c39, c42, if_false, if_true] at hsv
      obtain ⟨k, rfl⟩ : ∃ k : Nat, p = k := ⟨p.toNat, by omega⟩
      rw [hsv]
      exact .rot n k x n1 n2 (by omega) (by omega) rfl a4.2
    by_cases c44 : op = 44
    · simp only [numB, c44, if_false, if_true, decide_eq_true_eq, show ¬ (44 : Int) = 39 by omega] at a4
      simp only [numV, c44, if_false, if_true, show ¬ (44 : Int) = 39 by omega, show ¬ ((44 : Int) = 42 ∨ (44 : Int) = 43) by omega] at hsv a5
      obtain ⟨k, rfl⟩ : ∃ k : Nat, p = k := ⟨p.toNat, by omega⟩
      have hk : k ≤ 128 := by
        rcases Nat.lt_or_ge 128 k with h | h
        · exfalso
          rw [Int.min_eq_right (by omega)] at a5
          omega
        · exact h
      rw [Int.min_eq_left (by omega)] at a5 hsv
      rw [hsv, ← Int.natCast_mul]
      exact .rep n k x n1 (by omega) (by rw [← Int.natCast_mul] at a5; omega) c44 rfl a4.2
    · have c40 : op ≤ 41 := by omega
      simp only [numB, c39, c44, if_false, decide_eq_true_eq] at a4
      simp only [numV, c39, c42, c44, if_false] at hsv a5
      obtain ⟨k, rfl⟩ : ∃ k : Nat, p = k := ⟨p.toNat, by omega⟩
      rw [show s = ((n + k : Nat) : Int) by omega]
      exact .ext n k x n1 (by omega) (by omega) c40 rfl a4.2
  by_cases b3 : op = 9
  · rw [b3, arity9] at a2
    obtain ⟨a, b, c, rfl⟩ := len3 (l := l) (by omega)
    simp only [List.map_cons, List.map_nil, List.length_cons, List.length_nil, List.getD_cons_zero, Nat.zero_add, List.getD_cons_succ, Nat.add_sub_cancel] at a4 a5 hsv
    simp [toldB, b3] at a4
    simp [toldV, b3] at hsv
    obtain ⟨y, rfl⟩ := bool a (by simp) a4.2.2.1
    rw [hsv]
    exact .ite y b c b3 a4.1 a4.2.1 (hl b (by simp)) (hl c (by simp)) a4.2.2.2
  have b2 : arity op = 2 := by
    revert a1 b1 b3
    unfold arity
    split
    · omega
    · split
      · omega
      · split
        · omega
        · split <;> omega
  have hox : op ≤ 38 ∧ ¬ op = 3 ∧ ¬ op = 10 ∧ ¬ op = 11 := by
    unfold arity at b2
    split at b2
    · omega
    · split at b2
      · omega
      · split at b2
        · omega
        · omega
  obtain ⟨a, b, rfl⟩ := len2 (l := l) (by omega)
  simp only [List.map_cons, List.map_nil, List.length_cons, List.length_nil, List.getD_cons_zero, Nat.zero_add, List.getD_cons_succ, Nat.add_sub_cancel] at a4 a5 hsv
  by_cases c7 : op ≤ 7
  · simp [toldB, c7] at a4
    simp [toldV, c7] at hsv
    obtain ⟨x, rfl⟩ := bool a (by simp) a4.2.2.1
    obtain ⟨y, rfl⟩ := bool b (by simp) a4.2.2.2
    rw [hsv]
    exact .two x y (by omega) c7 a4.1 a4.2.1
  by_cases c8 : op = 8
  · simp [toldB, c8] at a4
    simp [toldV, c8] at hsv
    rw [hsv]
    exact .eq a b c8 a4.1 a4.2.1 (hl a (by simp)) (hl b (by simp)) a4.2.2
  by_cases c38 : op = 38
  · simp [toldB, c38] at a4
    simp [toldV, c38] at hsv a5
    obtain ⟨n, x, n1, n2, rfl⟩ := word a (by simp) a4.2.2.1
    obtain ⟨m, y, m1, m2, rfl⟩ := word b (by simp) a4.2.2.2
    rw [ofw, ofw] at hsv a5
    rw [hsv, ← Int.natCast_add]
    exact .concat n m x y n1 m1 (by omega) c38 a4.1 a4.2.1
  have d5 : ¬ 39 ≤ op := by omega
  simp [toldB, c7, c8, b3, c38, d5] at a4
  simp only [toldV, c7, c8, b3, c38, d5, if_false] at hsv
  obtain ⟨n, x, n1, n2, rfl⟩ := word a (by simp) a4.2.2.2
  obtain ⟨m, y, m1, m2, rfl⟩ := word b (by simp) (by rw [← a4.2.2.1]; exact a4.2.2.2)
  have e := a4.2.2.1
  rw [ofw, ofw] at e
  have e := cast e
  subst e
  by_cases c37 : op = 37
  · rw [if_pos c37] at hsv
    rw [hsv]
    exact .comp n x y n1 n2 c37 a4.1 a4.2.1
  rw [if_neg c37] at hsv
  by_cases c29 : 29 ≤ op
  · rw [if_pos c29] at hsv
    rw [hsv]
    exact .cmp n x y n1 n2 c29 (by omega) a4.1 a4.2.1
  rw [if_neg c29, ofw] at hsv
  rw [hsv]
  exact .word n x y n1 n2 (by omega) (by omega) a4.1 a4.2.1
end Go.Proofs.Ytiobohfiaapgeaa
end
section
namespace Go.Proofs.Ytiobohfiaapgeaa
set_option maxRecDepth 100000
set_option maxHeartbeats 2000000
theorem mean_bool {op p q : Int} (h : op ≤ 8) (l : List Vl) : meanV op p q l = Vl.bool (boolV op (l.getD 0 Vl.zero) (l.getD 1 Vl.zero)) := by
  unfold meanV; rw [if_pos h]
theorem mean_ite {p q : Int} (a b c : Vl) : meanV 9 p q [a, b, c] = if a.yes = true then b else c := rfl
theorem mean_not {p q : Int} {n : Nat} (hn : n ≤ 128) (x : BitVec n) : meanV 10 p q [Vl.of x] = Vl.of (~~~x) := by
  show Vl.of (~~~(Vl.of x).x n) = _
  rw [Vl.of_x hn]
theorem mean_neg {p q : Int} {n : Nat} (hn : n ≤ 128) (x : BitVec n) : meanV 11 p q [Vl.of x] = Vl.of (-x) := by
  show Vl.of (-(Vl.of x).x n) = _
  rw [Vl.of_x hn]
theorem mean_two {op p q : Int} (h1 : 12 ≤ op) (h2 : op ≤ 37) {n : Nat} (hn : n ≤ 128) (x y : BitVec n) : meanV op p q [Vl.of x, Vl.of y] = twoV op x y := by
  unfold meanV
  rw [if_neg (by omega), if_neg (by omega), if_neg (by omega), if_neg (by omega), if_pos h2]
  show twoV op ((Vl.of x).x n) ((Vl.of y).x n) = _
  rw [Vl.of_x hn, Vl.of_x hn]
theorem mean_concat {p q : Int} {n m : Nat} (hn : n ≤ 128) (hm : m ≤ 128) (x : BitVec n) (y : BitVec m) : meanV 38 p q [Vl.of x, Vl.of y] = Vl.of ((E x <<< m ||| E y).setWidth (n + m)) := by
  show Vl.of ((E ((Vl.of x).x n) <<< m ||| E ((Vl.of y).x m)).setWidth (n + m)) = _
  rw [Vl.of_x hn, Vl.of_x hm]
theorem mean_extract {i j n : Nat} (hn : n ≤ 128) (h : j ≤ i) (x : BitVec n) : meanV 39 i j [Vl.of x] = Vl.of ((E x >>> j).setWidth (i - j + 1)) := by
  have e : ((i : Int) - j).toNat = i - j := by omega
  show Vl.of ((E ((Vl.of x).x n) >>> j).setWidth (((i : Int) - j).toNat + 1)) = _
  rw [Vl.of_x hn, e]
theorem mean_zext {q : Int} {k n : Nat} (hn : n ≤ 128) (x : BitVec n) : meanV 40 k q [Vl.of x] = Vl.of ((E x).setWidth (n + k)) := by
  show Vl.of ((E ((Vl.of x).x n)).setWidth (n + k)) = _
  rw [Vl.of_x hn]
theorem mean_sext {q : Int} {k n : Nat} (hn : n ≤ 128) (x : BitVec n) : meanV 41 k q [Vl.of x] = Vl.of ((if x.msb = true then E x ||| ~~~maskN n else E x).setWidth (n + k)) := by
  show Vl.of ((if ((Vl.of x).x n).msb = true then E ((Vl.of x).x n) ||| ~~~maskN n else E ((Vl.of x).x n)).setWidth (n + k)) = _
  rw [Vl.of_x hn]
theorem mean_rotl {q : Int} {k n : Nat} (hn : n ≤ 128) (x : BitVec n) : meanV 42 k q [Vl.of x] = Vl.of (rotV x (k % n)) := by
  show Vl.of (rotV ((Vl.of x).x n) (k % n)) = _
  rw [Vl.of_x hn]
theorem mean_rotr {q : Int} {k n : Nat} (hn : n ≤ 128) (x : BitVec n) : meanV 43 k q [Vl.of x] = Vl.of (rotV x ((n - k % n) % n)) := by
  show Vl.of (rotV ((Vl.of x).x n) ((n - k % n) % n)) = _
  rw [Vl.of_x hn]
theorem mean_rep {q : Int} {k n : Nat} (hn : n ≤ 128) (x : BitVec n) : meanV 44 k q [Vl.of x] = Vl.of (repB x k) := by
  show Vl.of (repB ((Vl.of x).x n) k) = _
  rw [Vl.of_x hn]
theorem of_w {n : Nat} (x : BitVec n) : (Vl.of x).w = n := rfl
theorem Fit.good {op p q s : Int} {l : List Vl} (h : Fit op p q l s) : (meanV op p q l).ok = true ∧ (meanV op p q l).w = s := by
  cases h with
  | not a h1 h2 h3 => rw [mean_bool (by omega)]; exact ⟨Vl.bool_ok _, rfl⟩
  | two a b h1 h2 h3 h4 => rw [mean_bool (by omega)]; exact ⟨Vl.bool_ok _, rfl⟩
  | eq a b h1 h2 h3 h4 h5 h6 => rw [mean_bool (by omega)]; exact ⟨Vl.bool_ok _, rfl⟩
  | ite c a b h1 h2 h3 h4 h5 h6 =>
    subst h1
    rw [mean_ite]
    split
    · exact ⟨h4, h6⟩
    · exact ⟨h5, rfl⟩
  | one n x h1 h2 h3 h4 h5 h6 =>
    rcases (by omega : op = 10 ∨ op = 11) with rfl | rfl
    · rw [mean_not h2]; exact ⟨Vl.of_ok h1 h2 _, rfl⟩
    · rw [mean_neg h2]; exact ⟨Vl.of_ok h1 h2 _, rfl⟩
  | word n x y h1 h2 h3 h4 h5 h6 =>
    rw [mean_two h3 (by omega) h2, twoV, if_pos h4]
    exact ⟨Vl.of_ok h1 h2 _, rfl⟩
  | cmp n x y h1 h2 h3 h4 h5 h6 =>
    rw [mean_two (by omega) (by omega) h2, twoV, if_neg (by omega), if_pos h4]
    exact ⟨Vl.bool_ok _, rfl⟩
  | comp n x y h1 h2 h3 h4 h5 =>
    rw [mean_two (by omega) (by omega) h2, twoV, if_neg (by omega), if_neg (by omega)]
    exact ⟨Vl.of_ok (by omega) (by omega) _, rfl⟩
  | concat n m x y h1 h2 h3 h4 h5 h6 =>
    subst h4
    rw [mean_concat (by omega) (by omega)]
    exact ⟨Vl.of_ok (by omega) h3 _, rfl⟩
  | extract n i j x h1 h2 h3 h4 h5 h6 h7 =>
    subst h3; subst h4; subst h5
    rw [mean_extract h2 h6]
    exact ⟨Vl.of_ok (by omega) (by omega) _, rfl⟩
  | ext n k x h1 h2 h3 h4 h5 h6 =>
    subst h5
    rcases (by omega : op = 40 ∨ op = 41) with rfl | rfl
    · rw [mean_zext (by omega)]; exact ⟨Vl.of_ok (by omega) h2 _, rfl⟩
    · rw [mean_sext (by omega)]; exact ⟨Vl.of_ok (by omega) h2 _, rfl⟩
  | rot n k x h1 h2 h3 h4 h5 h6 =>
    subst h5
    rcases (by omega : op = 42 ∨ op = 43) with rfl | rfl
    · rw [mean_rotl h2]; exact ⟨Vl.of_ok h1 h2 _, rfl⟩
    · rw [mean_rotr h2]; exact ⟨Vl.of_ok h1 h2 _, rfl⟩
  | rep n k x h1 h2 h3 h4 h5 h6 =>
    subst h4; subst h5
    have hn : n ≤ 128 := Nat.le_trans (Nat.le_mul_of_pos_right n h2) h3
    rw [mean_rep hn]
    exact ⟨Vl.of_ok (Nat.mul_pos h1 h2) h3 _, rfl⟩
abbrev Told1 (f : FuncId) (vs : List AV) (v : Vl) : Prop := ∀ H, R f vs H = some (.tup [.agg [.int .i64 v.w, u (lo v.n), u (hi v.n)], .int .i64 0], H)
theorem words1_one {H : AHeap} {s : AV} {a v : Vl} {op p q : Int} {o : Nat} (hs : RV H s [a]) (ho : o < H.size) (ob : H.obj o = .cells [.int .i64 op]) (h1 : 10 ≤ op) (h2 : op ≤ 11) (r : Told1 Zhc [.int .i64 op, .agg [.int .i64 a.w, u (lo a.n), u (hi a.n)]] v) :
    R Zbt [.int .i64 p, .int .i64 q, s, .ptr o 0] H = some (.tup [v.av, .int .i64 0], H) := by
  obtain ⟨x0, y0⟩ := hs.at (i := 0) (x := a) rfl
  have x0' : aindexAddr Try.prog Zp s 0 = some (ixp s 3 0) := x0
  have hne : ¬ o = H.size := Nat.ne_of_lt ho
  rw [Zdk]
  rcases (by omega : op = 10 ∨ op = 11) with rfl | rfl <;> simp (maxDischargeDepth := 40) [Zc4, x0', y0, ob, hne, r]
theorem words1_concat {H : AHeap} {s : AV} {a b v : Vl} {p q : Int} {o : Nat} (hs : RV H s [a, b]) (ho : o < H.size) (ob : H.obj o = .cells [.int .i64 38]) (r : Told1 Zec [.agg [.int .i64 a.w, u (lo a.n), u (hi a.n)], .agg [.int .i64 b.w, u (lo b.n), u (hi b.n)]] v) :
    R Zbt [.int .i64 p, .int .i64 q, s, .ptr o 0] H = some (.tup [v.av, .int .i64 0], H) := by
  obtain ⟨x0, y0⟩ := hs.at (i := 0) (x := a) rfl
  obtain ⟨x1, y1⟩ := hs.at (i := 1) (x := b) rfl
  have x0' : aindexAddr Try.prog Zp s 0 = some (ixp s 3 0) := x0
  have x1' : aindexAddr Try.prog Zp s 1 = some (ixp s 3 1) := x1
  have hne : ¬ o = H.size := Nat.ne_of_lt ho
  rw [Zdk]
  simp (maxDischargeDepth := 40) [Zc4, x0', y0, x1', y1, ob, hne, r]
theorem words1_two {H : AHeap} {s : AV} {a b v : Vl} {op p q : Int} {o : Nat} (hs : RV H s [a, b]) (ho : o < H.size) (ob : H.obj o = .cells [.int .i64 op]) (h1 : 12 ≤ op) (h2 : op ≤ 37) (r : Told1 Zgp [.int .i64 op, .agg [.int .i64 a.w, u (lo a.n), u (hi a.n)], .agg [.int .i64 b.w, u (lo b.n), u (hi b.n)]] v) :
    R Zbt [.int .i64 p, .int .i64 q, s, .ptr o 0] H = some (.tup [v.av, .int .i64 0], H) := by
  obtain ⟨x0, y0⟩ := hs.at (i := 0) (x := a) rfl
  obtain ⟨x1, y1⟩ := hs.at (i := 1) (x := b) rfl
  have x0' : aindexAddr Try.prog Zp s 0 = some (ixp s 3 0) := x0
  have x1' : aindexAddr Try.prog Zp s 1 = some (ixp s 3 1) := x1
  have hne : ¬ o = H.size := Nat.ne_of_lt ho
  have d1 : ¬ op = 10 := by omega
  have d2 : ¬ op = 11 := by omega
  have d3 : ¬ op = 38 := by omega
  have d4 : ¬ op = 39 := by omega
  have d5 : ¬ op = 40 := by omega
  have d6 : ¬ op = 41 := by omega
  have d7 : ¬ op = 42 := by omega
  have d8 : ¬ op = 43 := by omega
  have d9 : ¬ op = 44 := by omega
  rw [Zdk]
  simp (maxDischargeDepth := 40) [Zc4, x0', y0, x1', y1, ob, hne, r, d1, d2, d3, d4, d5, d6, d7, d8, d9]
theorem words1_extract {H : AHeap} {s : AV} {a v : Vl} {p q : Int} {o : Nat} (hs : RV H s [a]) (ho : o < H.size) (ob : H.obj o = .cells [.int .i64 39]) (r : Told1 Zfl [.agg [.int .i64 a.w, u (lo a.n), u (hi a.n)], .int .i64 p, .int .i64 q] v) :
    R Zbt [.int .i64 p, .int .i64 q, s, .ptr o 0] H = some (.tup [v.av, .int .i64 0], H) := by
  obtain ⟨x0, y0⟩ := hs.at (i := 0) (x := a) rfl
  have x0' : aindexAddr Try.prog Zp s 0 = some (ixp s 3 0) := x0
  have hne : ¬ o = H.size := Nat.ne_of_lt ho
  rw [Zdk]
  simp (maxDischargeDepth := 40) [Zc4, x0', y0, ob, hne, r]
theorem words1_ext {H : AHeap} {s : AV} {a v : Vl} {op p q : Int} {o : Nat} (hs : RV H s [a]) (ho : o < H.size) (ob : H.obj o = .cells [.int .i64 op]) (h1 : 40 ≤ op) (h2 : op ≤ 41) (r : Told1 Zf6 [.agg [.int .i64 a.w, u (lo a.n), u (hi a.n)], .int .i64 p, .bool (decide (op = 41))] v) :
    R Zbt [.int .i64 p, .int .i64 q, s, .ptr o 0] H = some (.tup [v.av, .int .i64 0], H) := by
  obtain ⟨x0, y0⟩ := hs.at (i := 0) (x := a) rfl
  have x0' : aindexAddr Try.prog Zp s 0 = some (ixp s 3 0) := x0
  have hne : ¬ o = H.size := Nat.ne_of_lt ho
  rw [Zdk]
  rcases (by omega : op = 40 ∨ op = 41) with rfl | rfl <;> simp only [Int.reduceEq, decide_false, decide_true] at r <;> simp (maxDischargeDepth := 40) [Zc4, x0', y0, ob, hne, r]
theorem words1_rot {H : AHeap} {s : AV} {a v : Vl} {op p q : Int} {o : Nat} (hs : RV H s [a]) (ho : o < H.size) (ob : H.obj o = .cells [.int .i64 op]) (h1 : 42 ≤ op) (h2 : op ≤ 43) (r : Told1 Zey [.agg [.int .i64 a.w, u (lo a.n), u (hi a.n)], .int .i64 p, .bool (decide (op = 42))] v) :
    R Zbt [.int .i64 p, .int .i64 q, s, .ptr o 0] H = some (.tup [v.av, .int .i64 0], H) := by
  obtain ⟨x0, y0⟩ := hs.at (i := 0) (x := a) rfl
  have x0' : aindexAddr Try.prog Zp s 0 = some (ixp s 3 0) := x0
  have hne : ¬ o = H.size := Nat.ne_of_lt ho
  rw [Zdk]
  rcases (by omega : op = 42 ∨ op = 43) with rfl | rfl <;> simp only [Int.reduceEq, decide_false, decide_true] at r <;> simp (maxDischargeDepth := 40) [Zc4, x0', y0, ob, hne, r]
theorem words1_rep {H : AHeap} {s : AV} {a v : Vl} {p q : Int} {o : Nat} (hs : RV H s [a]) (ho : o < H.size) (ob : H.obj o = .cells [.int .i64 44]) (r : Told1 Zf7 [.agg [.int .i64 a.w, u (lo a.n), u (hi a.n)], .int .i64 p] v) :
    R Zbt [.int .i64 p, .int .i64 q, s, .ptr o 0] H = some (.tup [v.av, .int .i64 0], H) := by
  obtain ⟨x0, y0⟩ := hs.at (i := 0) (x := a) rfl
  have x0' : aindexAddr Try.prog Zp s 0 = some (ixp s 3 0) := x0
  have hne : ¬ o = H.size := Nat.ne_of_lt ho
  rw [Zdk]
  simp (maxDischargeDepth := 40) [Zc4, x0', y0, ob, hne, r]
end Go.Proofs.Ytiobohfiaapgeaa
end
section
namespace Go.Proofs.Ytiobohfiaapgeaa
def bn (w : Nat) (x : W128) : List Bool := (List.range w).map x.getLsbD
def RB (H : AHeap) (v : AV) (bs : List Bool) : Prop := Reads H v 1 bs.length (bs.map .bool)
theorem RB.len {H : AHeap} {v : AV} {bs : List Bool} (h : RB H v bs) : sliceLen v = some bs.length := Reads.len h
theorem RB.keep {H H' : AHeap} {v : AV} {bs : List Bool} (h : RB H v bs) (k : Keeps H H') : RB H' v bs := Reads.keep h k
def BL (bs : List Bool) : AV := .lst 1 bs.length (bs.map .bool)
theorem RB.lst {H : AHeap} {bs : List Bool} : RB H (BL bs) bs := Reads.lst (by simp)
theorem RB.row {H : AHeap} {o n : Nat} {full : Bool} {bs : List Bool} (ho : o < H.size) (h : H.obj o = .cells (bs.map .bool)) (hl : n = bs.length) : RB H (.row o 0 1 n full) bs := by
  subst hl; exact Reads.row' ho h (by simp)
theorem RB.nils {H : AHeap} : RB H .nils [] := Reads.nils
theorem RB.new {H : AHeap} {v : AV} {bs : List Bool} (h : RB H v bs) (x : AObj) : RB (H.new x) v bs := h.keep (Keeps.new H x)
theorem RB.ix {P : Program} {H : AHeap} {v : AV} {bs : List Bool} (h : RB H v bs) {t : TypeId} (ht : eszS P t = some 1) {i : Nat} (hi : i < bs.length) : aindexAddr P t v (i : Int) = some (ixp v 1 i) := Reads.addr h ht hi
theorem RB.at {P : Program} {H : AHeap} {v : AV} {bs : List Bool} (h : RB H v bs) {t : TypeId} (hl : ldS P t = some none) {i : Nat} (hi : i < bs.length) : aload P H t (ixp v 1 i) = some (.bool (bs.getD i false)) := by
  rw [Reads.at h hl rfl hi]; simp [hi]
theorem fills (g : Nat → AV) (z : AV) (w : Nat) : ∃ F : Nat → List AV, F 0 = List.replicate w z ∧ (∀ i, i < w → (F i).set i (g i) = F (i + 1)) ∧ (∀ i, i ≤ w → (F i).length = w) ∧ F w = (List.range w).map g := by
  refine ⟨fun i => ((List.range w).map g).take i ++ (List.replicate w z).drop i, by simp, fun i hi => ?_, fun i hi => by simp; omega, by simp [List.take_of_length_le]⟩
  have hl2 : (((List.range w).map g).take i).length = i := by simp; omega
  have h0 : i < ((List.range w).map g).length := by simpa using hi
  have h1 : i < (List.replicate w z).length := by simpa using hi
  show ((((List.range w).map g).take i ++ (List.replicate w z).drop i).set i (g i)) = ((List.range w).map g).take (i + 1) ++ (List.replicate w z).drop (i + 1)
  rw [List.set_append_right i _ (by omega), hl2, Nat.sub_self, List.drop_eq_getElem_cons h1, List.set_cons_zero, List.take_succ_eq_append_getElem h0, List.append_assoc]
  simp
end Go.Proofs.Ytiobohfiaapgeaa
namespace Go.Proofs.Ytiobohfiaapgeaa
set_option maxRecDepth 100000
structure BitsRun (w : Nat) (x : W128) (H : AHeap) (r : Option (AV × AHeap)) : Prop where
  ex : ∃ H', r = some (.row (H.size + 1) 0 1 w true, H') ∧ Keeps H H' ∧ H'.size = H.size + 2 ∧ H'.obj (H.size + 1) = .cells ((bn w x).map .bool)
theorem Upd.rb {o : Nat} {H0 H H' : AHeap} (h : Upd o H H') (k : Keeps H0 H) (ho : H0.size ≤ o) {v : AV} {bs : List Bool} (hv : RB H0 v bs) : RB H' v bs := hv.keep (h.keeps k ho)
end Go.Proofs.Ytiobohfiaapgeaa
end
section
namespace Go.Proofs.Ytiobohfiaapgeaa
set_option maxRecDepth 100000
set_option maxHeartbeats 2000000
def applyS (op p q : Int) (l : List Vl) : Vl × Int := if (sortS op p q (l.map Vl.sort)).2 = 0 then (meanV op p q l, 0) else (Vl.zero, (sortS op p q (l.map Vl.sort)).2)
theorem sort_ok {v : Vl} (h : v.ok = true) : v.sort = v.w := by unfold Vl.sort; rw [if_pos h]
theorem sorts_ok {l : List Vl} (h : ∀ v, v ∈ l → v.ok = true) : l.map Vl.sort = l.map Vl.w := List.map_congr_left fun v hv => sort_ok (h v hv)
theorem sort_all {op p q : Int} {l : List Int} (h : (sortS op p q l).2 = 0) : l.all isSort = true := by
  unfold sortS at h
  split at h
  · simp at h
  split at h
  · simp at h
  split at h
  · simp at h
  · rename_i a h3; clear h; cases h4 : l.all isSort <;> first | rfl | exact absurd h4 h3
theorem apply_fit {op p q : Int} {l : List Vl} (h : (sortS op p q (l.map Vl.sort)).2 = 0) : Fit op p q l (sortS op p q (l.map Vl.sort)).1 := by
  have hok : ∀ v, v ∈ l → v.ok = true := fun v hv => by
    have h1 := List.all_eq_true.1 (sort_all h) v.sort (List.mem_map_of_mem hv)
    cases hv : v.ok with
    | true => rfl
    | false =>
      rw [Vl.sort, hv] at h1
      simp [isSort] at h1
  rw [sorts_ok hok] at h ⊢
  exact fit_of (by rw [← h]) hok
theorem apply_loop {H0 H : AHeap} {s : AV} {l : List Vl} (hs : RV H0 s l) (hm : l.length ≤ 1000) (k0 : Keeps H0 H) (z : H0.size + 1 < H.size) {Z : List AV} (oz : H.obj H0.size = .cells Z) (ob : H.obj (H0.size + 1) = .cells (List.replicate l.length (.int .i64 0)))
    {e : Env} {r : Rn} (hL : loopL Try.prog KT R Zew e H = r) (e10 : e 10 = some (.row (H0.size + 1) 0 1 l.length true)) (e20 : e 20 = some s) (e21 : e 21 = some (.int .i64 l.length)) (e22 : e 22 = some (.int .i64 0)) :
    ∃ y e' H', r = some (y, e', H') ∧ (y = .exit 0 ∧ Keeps H0 H' ∧ H0.size + 1 < H'.size ∧ H'.obj H0.size = .cells Z ∧ H'.obj (H0.size + 1) = .cells ((l.map Vl.sort).map (.int .i64))) ∧ ∀ t, t ∉ defs Zew → e' t = e t := by
  obtain ⟨F, F0, Fs, Fl, Fw⟩ := fills (fun i => .int .i64 (l.getD i Vl.zero).sort) (.int .i64 0) l.length
  have hFw : F l.length = (l.map Vl.sort).map (.int .i64) := by
    rw [Fw]
    apply List.ext_getElem (by simp)
    intro i h1 h2
    simp at h1
    simp [List.getD_eq_getElem?_getD, h1]
  rw [← F0] at ob
  rw [← hFw]
  refine loop_count Zew.eq_1 hL l.length (fun i e1 H1 => e1 22 = some (.int .i64 i) ∧ Keeps H0 H1 ∧ H0.size + 1 < H1.size ∧ H1.obj H0.size = .cells Z ∧ H1.obj (H0.size + 1) = .cells (F i)) _ 0 (by omega) ⟨e22, k0, z, oz, ob⟩ ?_ ?_
  · rintro i f H1 hf - hlt ⟨f22, k, z1, o1, o2⟩
    have w1 := i64w (n := (i : Int) + 1) (by omega) (by omega)
    have c1 : (i : Int) < l.length := by omega
    have hs1 := Fs i hlt
    have hl : i < (F i).length := by rw [Fl i (by omega)]; exact hlt
    obtain ⟨v, hv⟩ : ∃ v, l[i]? = some v := ⟨l[i], by simp [hlt]⟩
    have hg : l.getD i Vl.zero = v := by simp [List.getD_eq_getElem?_getD, hv]
    rw [hg] at hs1
    obtain ⟨x0, y0⟩ := hs.at hv
    have y1 := y0 H1 k
    have hr := fun H => right_run (v := v) (H := H)
    have n1 : ¬ H0.size + 1 = H1.size := Nat.ne_of_lt z1
    have n2 : ¬ H0.size = H1.size := by omega
    have n3 : ¬ H1.size = H0.size + 1 := by omega
    have n4 : ¬ H1.size = H0.size := by omega
    have z2 : H0.size ≤ H1.size := by omega
    cases hv : v.ok with
    | true =>
      have hsv : v.sort = v.w := sort_ok hv
      rw [hsv] at hs1
      rw [hv] at hr
      simp (maxDischargeDepth := 20) [hf, e10, e20, e21, f22, c1, x0, y1, o1, o2, hl, w1, hr, n1, n2, n3, hs1, k, z2]
      omega
    | false =>
      have hsv : v.sort = -1 := by rw [Vl.sort, hv]; rfl
      rw [hsv] at hs1
      rw [hv] at hr
      simp (maxDischargeDepth := 20) [hf, e10, e20, e21, f22, c1, x0, y1, o1, o2, hl, w1, hr, n1, n2, n3, hs1, k, z2]
      omega
  · rintro f H1 hf ⟨f22, k, z1, o1, o2⟩
    simp [hf, e21, f22]
    exact ⟨k, z1, o1, o2⟩
theorem logic_told {H : AHeap} {s : AV} {l : List Vl} {op p q s' : Int} (hs : RV H s l) (hf : Fit op p q l s') (h3 : 3 ≤ op) (h8 : op ≤ 8) {o : Nat} (ho : o < H.size) (ob : H.obj o = .cells [.fn (.func (boolF op)) [] []]) :
    ∀ H', Keeps H H' → R Zb6 [.int .i64 p, .int .i64 q, s, .ptr o 0] H' = some (.tup [(meanV op p q l).av, .int .i64 0], H') := by
  intro H' k
  have hs' := hs.keep k
  have ob' : H'.obj o = .cells [.fn (.func (boolF op)) [] []] := (k.obj _ ho).trans ob
  rw [mean_bool h8]
  refine logic1_run (k.lt ho) ob' fun H2 k2 => ?_
  have hs2 := hs'.keep k2
  cases hf with
  | not a h1 => subst h1; exact bools1_run hs2
  | two a b h1 h2 => exact boolsB_run h1 (by omega) hs2
  | eq a b h1 => exact boolsB_run (by omega) (by omega) hs2
  | ite c a b h1 => omega
  | one => omega
  | word => omega
  | cmp => omega
  | comp => omega
  | concat => omega
  | extract => omega
  | ext => omega
  | rot => omega
  | rep => omega
theorem words_told {H : AHeap} {s : AV} {l : List Vl} {op p q s' : Int} (hs : RV H s l) (hf : Fit op p q l s') (h10 : 10 ≤ op) {o : Nat} (ho : o < H.size) (ob : H.obj o = .cells [.int .i64 op]) :
    ∀ H', Keeps H H' → R Zbt [.int .i64 p, .int .i64 q, s, .ptr o 0] H' = some (.tup [(meanV op p q l).av, .int .i64 0], H') := by
  intro H' k
  have hs' := hs.keep k
  have ob' : H'.obj o = .cells [.int .i64 op] := (k.obj _ ho).trans ob
  have ho' := k.lt ho
  cases hf with
  | not a h1 => omega
  | two a b h1 h2 => omega
  | eq a b h1 => omega
  | ite c a b h1 => omega
  | one n x h1 h2 h3 h4 h5 h6 =>
    refine words1_one hs' ho' ob' h3 h4 fun H2 => ?_
    have r := (one_run h1 h2 (n := op) (a := x) (H := H2)).run
    rcases (by omega : op = 10 ∨ op = 11) with rfl | rfl
    · rw [mean_not h2]; exact r
    · rw [mean_neg h2]; exact r
  | word n x y h1 h2 h3 h4 h5 h6 =>
    refine words1_two hs' ho' ob' h3 (by omega) fun H2 => ?_
    have r := (two_run h1 h2 (n := op) (a := x) (b := y) (H := H2)).run
    rw [twoF_word h2 ⟨h3, h4⟩, twoE, if_pos (by omega)] at r
    rw [mean_two h3 (by omega) h2, twoV, if_pos h4]
    exact r
  | cmp n x y h1 h2 h3 h4 h5 h6 =>
    refine words1_two hs' ho' ob' (by omega) (by omega) fun H2 => ?_
    have r := (two_run h1 h2 (n := op) (a := x) (b := y) (H := H2)).run
    rw [twoF, if_neg (by omega), if_neg (by omega), if_neg (by omega), if_pos (by omega), twoE, if_pos (by omega)] at r
    rw [mean_two (by omega) (by omega) h2, twoV, if_neg (by omega), if_pos h4]
    exact r
  | comp n x y h1 h2 h3 h4 h5 =>
    subst h3
    refine words1_two hs' ho' ob' (by omega) (by omega) fun H2 => ?_
    have r := (two_run h1 h2 (n := 37) (a := x) (b := y) (H := H2)).run
    rw [two_comp, show twoE 37 = 0 from rfl] at r
    rw [mean_two (by omega) (by omega) h2, twoV, if_neg (by omega), if_neg (by omega)]
    exact r
  | concat n m x y h1 h2 h3 h4 h5 h6 =>
    subst h4
    refine words1_concat hs' ho' ob' fun H2 => ?_
    rw [mean_concat (by omega) (by omega)]
    exact (concat_run h1 h2 rfl h3 (a := x) (b := y) (H := H2)).run
  | extract n i j x h1 h2 h3 h4 h5 h6 h7 =>
    subst h3; subst h4; subst h5
    refine words1_extract hs' ho' ob' fun H2 => ?_
    rw [mean_extract h2 h6]
    exact (extract_run h1 h2 (d := i - j) (by omega) h7 rfl (a := x) (H := H2)).run
  | ext n k x h1 h2 h3 h4 h5 h6 =>
    subst h5
    refine words1_ext hs' ho' ob' h3 h4 fun H2 => ?_
    have r := (extend_run h1 (n := k) rfl h2 (a := x) (sg := decide (op = 41)) (H := H2)).run
    rcases (by omega : op = 40 ∨ op = 41) with rfl | rfl
    · rw [mean_zext (by omega)]
      rw [show decide ((40 : Int) = 41) = false from rfl] at r ⊢
      simp only [Bool.false_and, Bool.false_eq_true, if_false] at r
      exact r
    · rw [mean_sext (by omega)]
      rw [show decide ((41 : Int) = 41) = true from rfl] at r ⊢
      simp only [Bool.true_and] at r
      exact r
  | rot n k x h1 h2 h3 h4 h5 h6 =>
    subst h5
    refine words1_rot hs' ho' ob' h3 h4 fun H2 => ?_
    rcases (by omega : op = 42 ∨ op = 43) with rfl | rfl
    · rw [mean_rotl h2]
      exact (rotate_left h1 h2 (n := k) rfl rfl (a := x) (H := H2)).run
    · rw [mean_rotr h2]
      exact (rotate_right h1 h2 (n := k) rfl rfl rfl rfl (a := x) (H := H2)).run
  | rep n k x h1 h2 h3 h4 h5 h6 =>
    subst h4; subst h5
    have hn : n ≤ 128 := Nat.le_trans (Nat.le_mul_of_pos_right n h2) h3
    refine words1_rep hs' ho' ob' fun H2 => ?_
    rw [mean_rep hn]
    exact (repeat_run h1 h3 h2 (x := x) (H := H2)).run
theorem Fit.op {op p q s : Int} {l : List Vl} (h : Fit op p q l s) : 3 ≤ op := by cases h <;> omega
theorem apply_run {op p q : Int} {H : AHeap} {s : AV} {l : List Vl} (hs : RV H s l) (hm : l.length ≤ 1000) : R Zez [.int .i64 op, .int .i64 p, .int .i64 q, s] H = some (.tup [(applyS op p q l).1.av, .int .i64 (applyS op p q l).2], H) := by
  have c1 : (l.length : Int) * 8 ≤ 140737488355328 := by omega
  have c2 : (l.length : Int) ≤ 9223372036854775807 := by omega
  have hlen := hs.len
  obtain ⟨N, hN⟩ : ∃ N, N = l.length := ⟨_, rfl⟩
  rw [← hN] at c1 c2 hlen
  rw [Zjv]
  simp (maxDischargeDepth := 40) [Zh4, hlen, c1, c2]
  generalize hL : loopL _ _ _ _ _ _ = y
  rw [hN] at hL
  obtain ⟨y, e1, H1, rfl, ⟨rfl, k1, z1, oz, ob⟩, fr⟩ := apply_loop hs hm (Z := [.int .i64 0, u 0#64, u 0#64]) (by simp) (by simp) (by simp) (by simp) hL (by simp) (by simp) (by simp) (by simp)
  have hS : RI H1 (.row (H.size + 1) 0 1 l.length true) (l.map Vl.sort) := RI.row z1 ob (by simp)
  have hsort := termSort_run hS (by simp; omega) (op := op) (p := p) (q := q)
  have n1 : ¬ H.size = H1.size := by omega
  have n2 : H.size ≤ H1.size := by omega
  unfold applyS
  generalize hT : sortS op p q (l.map Vl.sort) = T at hsort ⊢
  by_cases c : T.2 = 0
  · have hfit : Fit op p q l T.1 := hT ▸ apply_fit (by rw [hT]; exact c)
    rw [if_pos c]
    rw [c] at hsort
    have hs1 := hs.keep k1
    by_cases c3 : op ≤ 8
    · have g3 : 3 ≤ op := hfit.op
      obtain ⟨o, H2, hb, k2, ho, hf⟩ := (bools_run (H := H1) (op := op)).1 g3 c3
      have hl := logic_told (hs1.keep k2) hfit g3 c3 ho hf
      have kk := k1.trans k2
      have oz2 : H2.obj H.size = .cells [.int .i64 0, u 0#64, u 0#64] := (k2.obj _ (by omega)).trans oz
      have n3 : ¬ H.size = H2.size := by have := k2.size; omega
      have n4 : H.size ≤ H2.size := by have := k2.size; omega
      generalize meanV op p q l = v at *
      simp (maxDischargeDepth := 40) [fr, hsort, hb, hl, kk, n3, n4, oz2]
    · by_cases c9 : op = 9
      · subst c9
        have hb := (bools_run (H := H1) (op := 9)).2.1 rfl
        have hl : ∀ H', Keeps H1 H' → R Zd7 [.int .i64 p, .int .i64 q, s] H' = some (.tup [(meanV 9 p q l).av, .int .i64 0], H') := by
          generalize T.1 = t1 at hfit
          intro H' k
          cases hfit <;> first | omega | skip
          rw [mean_ite]
          exact ite_run (hs1.keep k)
        generalize meanV 9 p q l = v at *
        simp (maxDischargeDepth := 40) [fr, hsort, hb, hl, k1, n1, n2, oz]
      · have g10 : 10 ≤ op := by omega
        have hb := (bools_run (H := H1) (op := op)).2.2 (by omega)
        obtain ⟨o, H2, hw, k2, ho, hf⟩ := words_run (H := (H1.new (.cells [.nilf])).set H1.size (.cells [.nilf])) (op := op)
        have ka : Keeps H1 ((H1.new (.cells [.nilf])).set H1.size (.cells [.nilf])) := (Keeps.new _ _).set (Nat.le_refl _) _
        have kk := k1.trans (ka.trans k2)
        have sz := k2.size
        simp only [set_size, new_size] at sz
        have om : H2.obj H1.size = .cells [.nilf] := (k2.obj _ (by simp)).trans (by simp)
        have oz2 : H2.obj H.size = .cells [.int .i64 0, u 0#64, u 0#64] := ((ka.trans k2).obj _ (by omega)).trans oz
        have n3 : H1.size < H2.size := by omega
        have n4 : ¬ H.size = H2.size := by omega
        have n5 : H.size ≤ H2.size := by omega
        have n6 : ¬ H1.size = H.size := by omega
        have no : o ≠ H1.size := by
          rintro rfl
          rw [om] at hf
          cases hf
        have hl := words_told (H := H2.set H1.size (.cells [.fn (.func Zbt) [] [.ptr o 0]])) (hs1.keep ((ka.trans k2).set (Nat.le_refl _) _)) hfit g10 (by simpa using ho) (by rw [set_old no]; exact hf)
        generalize meanV op p q l = v at *
        simp (maxDischargeDepth := 40) [fr, hsort, hb, hw, hl, kk, n1, n2, oz2, om]
  · rw [if_neg c]
    simp (maxDischargeDepth := 40) [fr, hsort, c, k1, oz, Vl.zero]
end Go.Proofs.Ytiobohfiaapgeaa
end
section
namespace Go.Proofs.Ytiobohfiaapgeaa
set_option maxRecDepth 100000
def ixG (l : Option (Option Nat)) (cs : List AV) (i : Int) : Option (Nat × Nat) → Option AV
  | some (len, sz) => if 0 ≤ i ∧ i < len then ldK l cs (i.toNat * sz) else none
  | none => none
@[simp] theorem aindex_agg {P : Program} {t : TypeId} {cs : List AV} {i : Int} : aindex P t (.agg cs) i = ixG (arrL P t) cs i (arrS P t) := by
  unfold aindex ixG arrL arrS
  cases P.underlying t with
  | none => rfl
  | some d =>
    cases d <;> try rfl
    rename_i len el
    simp only [loadC_eq]
    cases tS P el <;> rfl
@[simp] theorem ixG_some {l : Option (Option Nat)} {cs : List AV} {i : Int} {len sz : Nat} : ixG l cs i (some (len, sz)) = if 0 ≤ i ∧ i < len then ldK l cs (i.toNat * sz) else none := nr rfl
structure Nd where
  op : Int
  sort : Int
  a : Int
  b : Int
  c : Int
  p : Int
  q : Int
  vw : Int
  vl : BitVec 64
  vh : BitVec 64
  name : ByteArray
  deriving DecidableEq
def Nd.cs (n : Nd) : List AV := [.int .i64 n.op, .int .i64 n.sort, .int .i64 n.a, .int .i64 n.b, .int .i64 n.c, .int .i64 n.p, .int .i64 n.q, .int .i64 n.vw, u n.vl, u n.vh, .str n.name]
@[simp] theorem Nd.cs_len (n : Nd) : n.cs.length = 11 := rfl
def Nd.zero : Nd := ⟨0, 0, 0, 0, 0, 0, 0, 0, 0#64, 0#64, .empty⟩
def shN' : KSh := .many [.i .i64, .i .i64, .i .i64, .i .i64, .i .i64, .i .i64, .i .i64, .i .i64, .i .u64, .i .u64, .s]
theorem keyEq_nd (n m : Nd) : keyEq (.agg n.cs) (.agg m.cs) = decide (n = m) := by
  have hu : ∀ x y : BitVec 64, scEq (u x) (u y) = decide (x = y) := fun x y => by
    simp only [u, scEq_int, decide_eq_decide]
    exact ⟨fun h => BitVec.eq_of_toNat_eq (Int.ofNat.inj h), fun h => by rw [h]⟩
  simp only [keyEq, Nd.cs, scsEq_cons, scsEq_nil, scEq_int, scEq_str, hu, Bool.and_true, ← Bool.decide_and]
  rw [decide_eq_decide]
  constructor
  · rintro ⟨h1, h2, h3, h4, h5, h6, h7, h8, h9, h10, h11⟩
    cases n; cases m
    simp only at h1 h2 h3 h4 h5 h6 h7 h8 h9 h10 h11
    subst h1 h2 h3 h4 h5 h6 h7 h8 h9 h10 h11
    rfl
  · rintro rfl; simp
theorem findE_append (k : AV) : ∀ (es : List AEnt) (e : AEnt), findE k (es ++ [e]) = (findE k es).or (if keyEq k e.key = true then some e else none)
  | [], e => by simp [findE]
  | x :: es, e => by
    simp only [List.cons_append, findE]
    split
    · rfl
    · exact findE_append k es e
def idx (ns : List Nd) (n : Nd) : Option Nat := ns.findIdx? (fun m => decide (n = m))
def vidx (ns : List Nd) (s : ByteArray) : Option Nat := ns.findIdx? (fun m => decide (m.op = 2) && decide (s = m.name))
theorem idx_append (ns : List Nd) (n m : Nd) : idx (ns ++ [m]) n = (idx ns n).or (if n = m then some ns.length else none) := by
  unfold idx
  rw [List.findIdx?_append]
  congr 1
  by_cases h : n = m <;> simp [h, List.findIdx?_cons]
theorem vidx_append (ns : List Nd) (s : ByteArray) (m : Nd) : vidx (ns ++ [m]) s = (vidx ns s).or (if m.op = 2 ∧ s = m.name then some ns.length else none) := by
  unfold vidx
  rw [List.findIdx?_append]
  congr 1
  by_cases h : m.op = 2 <;> by_cases h2 : s = m.name <;> simp [h, h2, List.findIdx?_cons]
def num (i : Nat) : AV := .int .i64 ((i : Int) + 1)
def slv (o : Nat) (ns : List Nd) : AV := if ns = [] then .nils else .row o 0 11 ns.length false
def flat (ns : List Nd) : List AV := ns.flatMap Nd.cs
theorem flat_len (ns : List Nd) : (flat ns).length = ns.length * 11 := by
  unfold flat
  induction ns with
  | nil => rfl
  | cons n ns ih => simp only [List.flatMap_cons, List.length_append, ih, Nd.cs_len, List.length_cons]; omega
theorem flat_append (ns : List Nd) (n : Nd) : flat (ns ++ [n]) = flat ns ++ n.cs := by simp [flat]
theorem flat_drop : ∀ (ns : List Nd) (i : Nat), (flat ns).drop (i * 11) = flat (ns.drop i)
  | ns, 0 => by simp
  | [], i + 1 => by simp [flat]
  | n :: ns, i + 1 => by
    have e : (i + 1) * 11 = 11 + i * 11 := by omega
    rw [e, ← List.drop_drop]
    have : (flat (n :: ns)).drop 11 = flat ns := by simp [flat, List.drop_append]
    rw [this, flat_drop ns i]; rfl
theorem flat_at {ns : List Nd} {i : Nat} {n : Nd} (h : ns[i]? = some n) : ((flat ns).drop (i * 11)).take 11 = n.cs := by
  have hlt := (List.getElem?_eq_some_iff.1 h).1
  rw [flat_drop, List.drop_eq_getElem_cons hlt]
  have : ns[i] = n := (List.getElem?_eq_some_iff.1 h).2
  simp [flat, this]
  exact List.take_left' rfl
theorem flat_get {ns : List Nd} {i : Nat} {n : Nd} (h : ns[i]? = some n) {j : Nat} (hj : j < 11) : (flat ns)[i * 11 + j]? = n.cs[j]? := by
  rw [← flat_at h, List.getElem?_take_of_lt hj, List.getElem?_drop]
structure TG (H : AHeap) (g : Nat) (most : Int) (ns : List Nd) (o1 o2 o3 : Nat) : Prop where
  lg : g < H.size
  l1 : ns ≠ [] → o1 < H.size
  l2 : o2 < H.size
  l3 : o3 < H.size
  og : H.obj g = .cells [.int .i64 most, slv o1 ns, .map o2, .map o3]
  b1 : ns ≠ [] → H.obj o1 = .cells (flat ns)
  b2 : ∃ es c, H.obj o2 = .map shN' es c ∧ ∀ n, (findE (.agg n.cs) es).map (·.val) = (idx ns n).map num
  b3 : ∃ es c, H.obj o3 = .map (.one .s) es c ∧ ∀ s, (findE (.str s) es).map (·.val) = (vidx ns s).map num
  n1 : ns ≠ [] → g ≠ o1
  n2 : g ≠ o2
  n3 : g ≠ o3
  n12 : ns ≠ [] → o1 ≠ o2
  n13 : ns ≠ [] → o1 ≠ o3
  n23 : o2 ≠ o3
  lim : (ns.length : Int) ≤ most
  lim2 : most ≤ 4096
theorem TG.keep {H H' : AHeap} {g : Nat} {most : Int} {ns : List Nd} {o1 o2 o3 : Nat} (h : TG H g most ns o1 o2 o3) (k : Keeps H H') : TG H' g most ns o1 o2 o3 :=
  ⟨k.lt h.lg, fun e => k.lt (h.l1 e), k.lt h.l2, k.lt h.l3, (k.obj _ h.lg).trans h.og, fun e => (k.obj _ (h.l1 e)).trans (h.b1 e), by rw [k.obj _ h.l2]; exact h.b2, by rw [k.obj _ h.l3]; exact h.b3, h.n1, h.n2, h.n3, h.n12, h.n13, h.n23, h.lim, h.lim2⟩
theorem slv_len (o : Nat) (ns : List Nd) : sliceLen (slv o ns) = some ns.length := by
  unfold slv
  split
  · rename_i h; subst h; rfl
  · rfl
theorem slv_reads {H : AHeap} {o : Nat} {ns : List Nd} (h1 : ns ≠ [] → o < H.size) (h2 : ns ≠ [] → H.obj o = .cells (flat ns)) : Reads H (slv o ns) 11 ns.length (flat ns) := by
  unfold slv
  split
  · rename_i h; subst h; exact Reads.nils
  · rename_i h; exact Reads.row' (h1 h) (h2 h) (flat_len ns)
theorem slv_grows (o : Nat) (ns : List Nd) : grows (slv o ns) := by unfold slv; split <;> trivial
theorem slv_row {o : Nat} {ns : List Nd} {i : Nat} (h : i < ns.length) : slv o ns = .row o 0 11 ns.length false := by
  unfold slv; rw [if_neg (by rintro rfl; simp at h)]
def nodeS (ns : List Nd) (id : Int) : Option Nd := if id < 1 ∨ (ns.length : Int) < id then none else ns[(id - 1).toNat]?
theorem node_run {H : AHeap} {g : Nat} {most : Int} {ns : List Nd} {o1 o2 o3 : Nat} (h : TG H g most ns o1 o2 o3) {id : Int} : R Zj [.ptr g 0, .int .i64 id] H = some (.tup [.agg ((nodeS ns id).getD Nd.zero).cs, .bool (nodeS ns id).isSome], H) := by
  have hl := h.lim
  have hl2 := h.lim2
  unfold nodeS
  rw [Zgs]
  have ng : ¬ g = H.size := Nat.ne_of_lt h.lg
  by_cases c1 : id < 1
  · simp (maxDischargeDepth := 40) [Zcy, c1, Nd.cs, Nd.zero]
  by_cases c2 : (ns.length : Int) < id
  · simp (maxDischargeDepth := 40) [Zcy, c1, c2, h.og, ng, slv_len, Nd.cs, Nd.zero]
  obtain ⟨i, rfl⟩ : ∃ i : Nat, id = (i : Int) + 1 := ⟨(id - 1).toNat, by omega⟩
  have hi : i < ns.length := by omega
  have hne : ns ≠ [] := by rintro rfl; simp at hi
  obtain ⟨n, hn⟩ : ∃ n, ns[i]? = some n := ⟨ns[i], by simp [hi]⟩
  have w1 : IntKind.i64.wrap (i : Int) = (i : Int) := i64w (by omega) (by omega)
  have hx : ns[i] = n := (List.getElem?_eq_some_iff.1 hn).2
  have hs := slv_row (o := o1) hi
  have hsl := slv_len o1 ns
  have ho := h.b1 hne
  have hlt := h.l1 hne
  have n1 : ¬ o1 = H.size := Nat.ne_of_lt hlt
  have hfl := flat_len ns
  have hat := flat_at hn
  have hle : i * 11 + 11 ≤ ns.length * 11 := by omega
  have e1 : ((i : Int) + 1 - 1).toNat = i := by omega
  have c3 : (i : Int) < ns.length := by omega
  have hg := h.og
  rw [hs] at hg hsl
  simp (maxDischargeDepth := 40) [Zcy, c1, c2, hg, hx, w1, c3, hi, ho, n1, ng, hfl, hat, hle]
  simp (maxDischargeDepth := 40) [Nd.cs]
end Go.Proofs.Ytiobohfiaapgeaa
end
section
namespace Go.Proofs.Ytiobohfiaapgeaa
set_option maxRecDepth 100000
set_option maxHeartbeats 4000000
def kidOK (N a : Int) (i : Nat) (k : Int) : Bool := if (i : Int) < a then decide (1 ≤ k ∧ k ≤ N) else decide (k = 0)
def kidsOK (N a : Int) (l : List Int) (i : Nat) : Bool := match l with
  | [] => true
  | k :: l => kidOK N a i k && kidsOK N a l (i + 1)
def formedF (N : Int) (n : Nd) : Bool :=
  kidsOK N (arity n.op) [n.a, n.b, n.c] 0 && (decide (0 ≤ arity n.op) && (decide (n.op = 1) || decide (n.vw = 0 ∧ n.vl = 0#64 ∧ n.vh = 0#64)) && (decide (n.op = 2) || decide (n.name = .empty)))
theorem formed_loop {H : AHeap} {g : Nat} {most : Int} {ns : List Nd} {o1 o2 o3 : Nat} (h : TG H g most ns o1 o2 o3) {a x y z : Int} {e : Env} {r : Rn} (hL : loopL Try.prog KT R Zbz e H = r)
    (e0 : e 0 = some (.ptr g 0)) (e5 : e 5 = some (.int .i64 a)) (e17 : e 17 = some (.agg [.int .i64 x, .int .i64 y, .int .i64 z])) (e18 : e 18 = some (.int .i64 0)) :
    ∃ y' e' H', r = some (y', e', H') ∧ (H' = H ∧ ((y' = .exit 0 ∧ kidsOK ns.length a [x, y, z] 0 = true) ∨ (y' = .ret ∧ kidsOK ns.length a [x, y, z] 0 = false ∧ e' 4 = some (.bool false)))) ∧ ∀ t, t ∉ defs Zbz → e' t = e t := by
  refine loop_count Zbz.eq_1 hL 3 (fun i e1 H1 => e1 18 = some (.int .i64 i) ∧ H1 = H ∧ (0 < i → kidOK ns.length a 0 x = true) ∧ (1 < i → kidOK ns.length a 1 y = true) ∧ (2 < i → kidOK ns.length a 2 z = true)) _ 0 (by omega) ⟨e18, rfl, by simp, by simp, by simp⟩ ?_ ?_
  · rintro i f H1 hf - hi ⟨f18, rfl, k0, k1, k2⟩
    have hw1 := i64w (n := (i : Int) + 1) (by omega) (by omega)
    have hc : (i : Int) < 3 := by omega
    have hlen := slv_len o1 ns
    have K : ∀ k : Int, kidOK ns.length a i k = if (i : Int) < a then decide (1 ≤ k ∧ k ≤ ns.length) else decide (k = 0) := fun k => rfl
    rcases (show i = 0 ∨ i = 1 ∨ i = 2 by omega) with rfl | rfl | rfl
    · have K0 := K x
      rw [show (((0 : Nat) : Int)) = 0 from rfl] at K0
      by_cases c1 : (0 : Int) < a
      · have c1' : ¬ a ≤ 0 := by omega
        by_cases c2 : x < 1
        · have kf : kidOK ns.length a 0 x = false := by rw [K0]; simp [c1]; omega
          have kk : kidsOK ns.length a [x, y, z] 0 = false := by simp [kidsOK, kf]
          simp [hf, e5, e17, f18, c1, c2, kk]
        · by_cases c3 : (ns.length : Int) < x
          · have kf : kidOK ns.length a 0 x = false := by rw [K0]; simp [c1]; omega
            have kk : kidsOK ns.length a [x, y, z] 0 = false := by simp [kidsOK, kf]
            simp [hf, e0, e5, e17, f18, c1, c2, c3, h.og, hlen, kk]
          · have kt : kidOK ns.length a 0 x = true := by rw [K0]; simp [c1]; omega
            simp [hf, e0, e5, e17, f18, c1, c1', c2, c3, h.og, hlen, kt]
      · have c1' : a ≤ 0 := by omega
        by_cases c2 : x = 0
        · have kt : kidOK ns.length a 0 0 = true := by rw [c2] at K0; rw [K0]; simp [c1]
          subst c2
          simp [hf, e5, e17, f18, c1, c1', kt]
        · have kf : kidOK ns.length a 0 x = false := by rw [K0]; simp [c1, c2]
          have kk : kidsOK ns.length a [x, y, z] 0 = false := by simp [kidsOK, kf]
          simp [hf, e5, e17, f18, c1, c1', c2, kk]
    · have K0 := K y
      rw [show (((1 : Nat) : Int)) = 1 from rfl] at K0
      by_cases c1 : (1 : Int) < a
      · have c1' : ¬ a ≤ 1 := by omega
        by_cases c2 : y < 1
        · have kf : kidOK ns.length a 1 y = false := by rw [K0]; simp [c1]; omega
          have kk : kidsOK ns.length a [x, y, z] 0 = false := by simp [kidsOK, kf]
          simp [hf, e5, e17, f18, c1, c2, kk]
        · by_cases c3 : (ns.length : Int) < y
          · have kf : kidOK ns.length a 1 y = false := by rw [K0]; simp [c1]; omega
            have kk : kidsOK ns.length a [x, y, z] 0 = false := by simp [kidsOK, kf]
            simp [hf, e0, e5, e17, f18, c1, c2, c3, h.og, hlen, kk]
          · have kt : kidOK ns.length a 1 y = true := by rw [K0]; simp [c1]; omega
            simp [hf, e0, e5, e17, f18, c1, c1', c2, c3, h.og, hlen, kt, k0 (by omega)]
      · have c1' : a ≤ 1 := by omega
        by_cases c2 : y = 0
        · have kt : kidOK ns.length a 1 0 = true := by rw [c2] at K0; rw [K0]; simp [c1]
          subst c2
          simp [hf, e5, e17, f18, c1, c1', kt, k0 (by omega)]
        · have kf : kidOK ns.length a 1 y = false := by rw [K0]; simp [c1, c2]
          have kk : kidsOK ns.length a [x, y, z] 0 = false := by simp [kidsOK, kf]
          simp [hf, e5, e17, f18, c1, c1', c2, kk]
    · have K0 := K z
      rw [show (((2 : Nat) : Int)) = 2 from rfl] at K0
      by_cases c1 : (2 : Int) < a
      · have c1' : ¬ a ≤ 2 := by omega
        by_cases c2 : z < 1
        · have kf : kidOK ns.length a 2 z = false := by rw [K0]; simp [c1]; omega
          have kk : kidsOK ns.length a [x, y, z] 0 = false := by simp [kidsOK, kf]
          simp [hf, e5, e17, f18, c1, c2, kk]
        · by_cases c3 : (ns.length : Int) < z
          · have kf : kidOK ns.length a 2 z = false := by rw [K0]; simp [c1]; omega
            have kk : kidsOK ns.length a [x, y, z] 0 = false := by simp [kidsOK, kf]
            simp [hf, e0, e5, e17, f18, c1, c2, c3, h.og, hlen, kk]
          · have kt : kidOK ns.length a 2 z = true := by rw [K0]; simp [c1]; omega
            simp [hf, e0, e5, e17, f18, c1, c1', c2, c3, h.og, hlen, kt, k0 (by omega), k1 (by omega)]
      · have c1' : a ≤ 2 := by omega
        by_cases c2 : z = 0
        · have kt : kidOK ns.length a 2 0 = true := by rw [c2] at K0; rw [K0]; simp [c1]
          subst c2
          simp [hf, e5, e17, f18, c1, c1', kt, k0 (by omega), k1 (by omega)]
        · have kf : kidOK ns.length a 2 z = false := by rw [K0]; simp [c1, c2]
          have kk : kidsOK ns.length a [x, y, z] 0 = false := by simp [kidsOK, kf]
          simp [hf, e5, e17, f18, c1, c1', c2, kk]
  · rintro f H1 hf ⟨f18, rfl, k0, k1, k2⟩
    simp [f18, kidsOK, k0, k1, k2]
theorem formed_run {H : AHeap} {g : Nat} {most : Int} {ns : List Nd} {o1 o2 o3 : Nat} (h : TG H g most ns o1 o2 o3) {n : Nd} : R Zcq [.ptr g 0, .agg n.cs] H = some (.bool (formedF ns.length n), H) := by
  obtain ⟨S, hS⟩ : ∃ S, S = formedF ns.length n := ⟨_, rfl⟩
  rw [← hS, Zgf]
  obtain ⟨op, sort, a, b, c, p, q, vw, vl, vh, name⟩ := n
  simp [Nd.cs, Zet, arity_run]
  generalize hL : loopL _ _ _ _ _ _ = r
  obtain ⟨y, e1, H1, rfl, ⟨rfl, h1⟩, fr⟩ := formed_loop (a := arity op) (x := a) (y := b) (z := c) (h.keep (by simp)) hL (by simp) (by simp) (by simp) (by simp)
  have hS2 : S = (kidsOK ns.length (arity op) [a, b, c] 0 && (decide (0 ≤ arity op) && (decide (op = 1) || decide (vw = 0 ∧ vl = 0#64 ∧ vh = 0#64)) && (decide (op = 2) || decide (name = .empty)))) := hS
  rw [hS2]; clear hS2 hS
  rcases h1 with ⟨rfl, h1⟩ | ⟨rfl, h1, h2⟩
  · rw [h1, Bool.true_and]
    have z1 : (0 : Int) ≤ arity 1 := by decide
    have z2 : (0 : Int) ≤ arity 2 := by decide
    by_cases c1 : 0 ≤ arity op
    · by_cases c2 : op = 1
      · subst c2
        simp [fr, z1, show (ByteArray.empty) = ⟨#[]⟩ from rfl]
      · cases hz : (decide (vw = 0) && (decide (vl = 0#64) && decide (vh = 0#64))) with
        | true =>
          by_cases c3 : op = 2
          · subst c3
            simp [fr, hz, z2]
          · simp [fr, c1, c2, c3, hz, show (ByteArray.empty) = ⟨#[]⟩ from rfl]
        | false =>
          by_cases c3 : op = 2
          · subst c3
            simp [fr, hz, z2]
          · simp [fr, c1, c2, c3, hz, show (ByteArray.empty) = ⟨#[]⟩ from rfl]
    · simp [fr, c1]
  · rw [h1, Bool.false_and]
    simp [h2]
end Go.Proofs.Ytiobohfiaapgeaa
end
section
namespace Go.Proofs.Ytiobohfiaapgeaa
set_option maxRecDepth 100000
set_option maxHeartbeats 4000000
structure OutT (H0 H : AHeap) (v : AV) (l : List Int) : Prop where
  rd : RI H v l
  gr : grows v
  new : ∀ p, p ∈ objs v → H0.size ≤ p
theorem OutT.push {H0 H : AHeap} {v : AV} {l : List Int} (h : OutT H0 H v l) (k : Keeps H0 H) {a : Int} (hl : l.length ≤ 1000000) {r : Option (AV × AHeap)}
    (hA : appU (H.new (.cells [.int .i64 a])) v (.row H.size 0 1 1 true) (some (1, 8, [.int .i64 0])) = r) :
    ∃ v' H', r = some (v', H') ∧ OutT H0 H' v' (l ++ [a]) ∧ Keeps H0 H' := by
  obtain ⟨H1, rfl, f1, s1, o1, rd⟩ := app_of hA (h.rd.keep (by simp)) h.gr (Reads.row' (all := [.int .i64 a]) (by simp) (by simp) (by simp)) (by omega) rfl (by omega) (by omega) (by omega) (by simp)
  simp only [new_size] at s1
  have := k.size
  refine ⟨_, H1, rfl, ⟨by simpa [RI] using rd, by simp, by simp; omega⟩, f1.keeps (by simp [k]) (fun p hp => h.new p hp)⟩
def ksort (ns : List Nd) (k : Int) : List Int := if 0 < k then [(ns.getD (k - 1).toNat Nd.zero).sort] else []
theorem ksort_len (ns : List Nd) (k : Int) : (ksort ns k).length ≤ 1 := by unfold ksort; split <;> simp
theorem sorted_loop {H0 H : AHeap} {g : Nat} {most : Int} {ns : List Nd} {o1 o2 o3 : Nat} (h0 : TG H0 g most ns o1 o2 o3) (k0 : Keeps H0 H) {x y z : Int} (hx : x ≤ ns.length) (hy : y ≤ ns.length) (hz : z ≤ ns.length) {e : Env} {r : Rn} (hL : loopL Try.prog KT R Zb0 e H = r)
    (e0 : e 0 = some (.ptr g 0)) (e7 : e 7 = some .nils) (e92 : e 92 = some (.agg [.int .i64 x, .int .i64 y, .int .i64 z])) (e93 : e 93 = some (.int .i64 0)) :
    ∃ y' e' H', r = some (y', e', H') ∧ (y' = .exit 1 ∧ Keeps H0 H' ∧ ∃ w, e' 7 = some w ∧ RI H' w (ksort ns x ++ ksort ns y ++ ksort ns z)) ∧ ∀ t, t ∉ defs Zb0 → e' t = e t := by
  have hl := h0.lim
  have hl2 := h0.lim2
  have at1 : ∀ j : Nat, j < ns.length → (flat ns)[j * 11 + 1]? = some (.int .i64 (ns.getD j Nd.zero).sort) := fun j hj => by
    rw [flat_get (n := ns.getD j Nd.zero) (by simp [hj]) (by omega)]; rfl
  refine loop_count Zb0.eq_1 hL 3 (fun i e1 H1 => ∃ w, e1 7 = some w ∧ e1 93 = some (.int .i64 i) ∧ Keeps H0 H1 ∧ OutT H0 H1 w (([x, y, z].take i).flatMap (ksort ns))) _ 0 (by omega) ⟨.nils, e7, e93, k0, ⟨by simpa using RI.nils, by simp, by simp⟩⟩ ?_ ?_
  · rintro i f H1 hf - hi ⟨w, f7, f93, k1, hout⟩
    have hw1 := i64w (n := (i : Int) + 1) (by omega) (by omega)
    have hc : (i : Int) < 3 := by omega
    have h1 := h0.keep k1
    have hlen := slv_len o1 ns
    have hle : (([x, y, z].take i).flatMap (ksort ns)).length ≤ 1000000 := by
      have := ksort_len ns x
      have := ksort_len ns y
      have := ksort_len ns z
      rcases (show i = 0 ∨ i = 1 ∨ i = 2 by omega) with rfl | rfl | rfl <;> simp [List.flatMap_cons] <;> omega
    rcases (show i = 0 ∨ i = 1 ∨ i = 2 by omega) with rfl | rfl | rfl
    · by_cases c2 : 0 < x
      · obtain ⟨j, rfl⟩ : ∃ j : Nat, x = (j : Int) + 1 := ⟨(x - 1).toNat, by omega⟩
        have hj : j < ns.length := by omega
        have hne : ns ≠ [] := by rintro rfl; simp at hj
        have wj : IntKind.i64.wrap (j : Int) = (j : Int) := i64w (by omega) (by omega)
        have cj : (j : Int) < ns.length := by omega
        have hs := slv_row (o := o1) hj
        have hat := at1 j hj
        have hg := h1.og
        have hb := h1.b1 hne
        have kk : ksort ns ((j : Int) + 1) = [(ns.getD j Nd.zero).sort] := by unfold ksort; rw [if_pos (by omega)]; simp
        rw [hs] at hg
        generalize (ns.getD j Nd.zero).sort = s at hat kk
        simp [hf, e0, f7, f93, e92, c2, wj, hg, cj, hb, hat]
        generalize hA : appU _ _ _ _ = q
        obtain ⟨w', H2, rfl, h2, k2⟩ := hout.push k1 hle hA
        simp [f93, k2, kk]
        simpa using h2
      · have kk : ksort ns x = [] := by unfold ksort; rw [if_neg c2]
        simp [hf, f7, f93, e92, c2, k1, kk]
        simpa using hout
    · by_cases c2 : 0 < y
      · obtain ⟨j, rfl⟩ : ∃ j : Nat, y = (j : Int) + 1 := ⟨(y - 1).toNat, by omega⟩
        have hj : j < ns.length := by omega
        have hne : ns ≠ [] := by rintro rfl; simp at hj
        have wj : IntKind.i64.wrap (j : Int) = (j : Int) := i64w (by omega) (by omega)
        have cj : (j : Int) < ns.length := by omega
        have hs := slv_row (o := o1) hj
        have hat := at1 j hj
        have hg := h1.og
        have hb := h1.b1 hne
        have kk : ksort ns ((j : Int) + 1) = [(ns.getD j Nd.zero).sort] := by unfold ksort; rw [if_pos (by omega)]; simp
        rw [hs] at hg
        generalize (ns.getD j Nd.zero).sort = s at hat kk
        simp [hf, e0, f7, f93, e92, c2, wj, hg, cj, hb, hat]
        generalize hA : appU _ _ _ _ = q
        obtain ⟨w', H2, rfl, h2, k2⟩ := hout.push k1 hle hA
        simp [f93, k2, kk]
        simpa using h2
      · have kk : ksort ns y = [] := by unfold ksort; rw [if_neg c2]
        simp [hf, f7, f93, e92, c2, k1, kk]
        simpa using hout
    · by_cases c2 : 0 < z
      · obtain ⟨j, rfl⟩ : ∃ j : Nat, z = (j : Int) + 1 := ⟨(z - 1).toNat, by omega⟩
        have hj : j < ns.length := by omega
        have hne : ns ≠ [] := by rintro rfl; simp at hj
        have wj : IntKind.i64.wrap (j : Int) = (j : Int) := i64w (by omega) (by omega)
        have cj : (j : Int) < ns.length := by omega
        have hs := slv_row (o := o1) hj
        have hat := at1 j hj
        have hg := h1.og
        have hb := h1.b1 hne
        have kk : ksort ns ((j : Int) + 1) = [(ns.getD j Nd.zero).sort] := by unfold ksort; rw [if_pos (by omega)]; simp
        rw [hs] at hg
        generalize (ns.getD j Nd.zero).sort = s at hat kk
        simp [hf, e0, f7, f93, e92, c2, wj, hg, cj, hb, hat]
        generalize hA : appU _ _ _ _ = q
        obtain ⟨w', H2, rfl, h2, k2⟩ := hout.push k1 hle hA
        simp [f93, k2, kk]
        simpa using h2
      · have kk : ksort ns z = [] := by unfold ksort; rw [if_neg c2]
        simp [hf, f7, f93, e92, c2, k1, kk]
        simpa using hout
  · rintro f H1 hf ⟨w, f7, f93, k1, hout⟩
    simp [f93, f7, k1]
    simpa using hout.rd
def nameBad (ns : List Nd) (n : Nd) : Bool := decide (n.name = .empty) || match vidx ns n.name with
  | some i => decide (¬ (ns.getD i Nd.zero).sort = n.sort)
  | none => false
def sortedF (ns : List Nd) (n : Nd) : Nd × Int :=
  if n.op = 1 then (n, if rightF n.vw n.vl n.vh = true ∧ n.vw = n.sort ∧ n.p = 0 ∧ n.q = 0 then 0 else 30)
  else if n.op = 2 then (n, if isSort n.sort = true ∧ n.p = 0 ∧ n.q = 0 then (if nameBad ns n then 34 else 0) else 30)
  else ({ n with sort := (sortS n.op n.p n.q (ksort ns n.a ++ ksort ns n.b ++ ksort ns n.c)).1 }, (sortS n.op n.p n.q (ksort ns n.a ++ ksort ns n.b ++ ksort ns n.c)).2)
theorem vidx_lt {ns : List Nd} {s : ByteArray} {i : Nat} (h : vidx ns s = some i) : i < ns.length := by
  unfold vidx at h
  exact (List.findIdx?_eq_some_iff_getElem.1 h).1
theorem sorted_run {H : AHeap} {g : Nat} {most : Int} {ns : List Nd} {o1 o2 o3 : Nat} (h : TG H g most ns o1 o2 o3) {n : Nd} (ha : n.a ≤ ns.length) (hb : n.b ≤ ns.length) (hc : n.c ≤ ns.length) :
    R Zcr [.ptr g 0, .agg n.cs] H = some (.tup [.agg (sortedF ns n).1.cs, .int .i64 (sortedF ns n).2], H) := by
  obtain ⟨S, hS⟩ : ∃ S, S = sortedF ns n := ⟨_, rfl⟩
  rw [← hS, Zgg]
  obtain ⟨op, sort, a, b, c, p, q, vw, vl, vh, name⟩ := n
  by_cases c1 : op = 1
  · subst c1
    have hS2 : S = (⟨1, sort, a, b, c, p, q, vw, vl, vh, name⟩, if rightF vw vl vh = true ∧ vw = sort ∧ p = 0 ∧ q = 0 then 0 else 30) := by rw [hS]; unfold sortedF; rw [if_pos rfl]
    rw [hS2]; clear hS2 hS
    cases d1 : rightF vw vl vh with
    | false => simp (maxDischargeDepth := 40) [Nd.cs, Zt, bvRight_run, d1]
    | true =>
      by_cases d2 : vw = sort
      · subst d2
        by_cases d3 : p = 0
        · subst d3
          by_cases d4 : q = 0
          · subst d4
            simp (maxDischargeDepth := 40) [Nd.cs, Zt, bvRight_run, d1]
          · simp (maxDischargeDepth := 40) [Nd.cs, Zt, bvRight_run, d1, d4]
        · simp (maxDischargeDepth := 40) [Nd.cs, Zt, bvRight_run, d1, d3]
      · simp (maxDischargeDepth := 40) [Nd.cs, Zt, bvRight_run, d1, d2]
  by_cases c2 : op = 2
  · subst c2
    have hS2 : S = (⟨2, sort, a, b, c, p, q, vw, vl, vh, name⟩, if isSort sort = true ∧ p = 0 ∧ q = 0 then (if nameBad ns ⟨2, sort, a, b, c, p, q, vw, vl, vh, name⟩ then 34 else 0) else 30) := by rw [hS]; unfold sortedF; rw [if_neg c1, if_pos rfl]
    rw [hS2]; clear hS2 hS
    cases d1 : isSort sort with
    | false => simp (maxDischargeDepth := 40) [Nd.cs, Zt, sort_run, d1]
    | true =>
      by_cases d3 : p = 0
      rotate_left
      · simp (maxDischargeDepth := 40) [Nd.cs, Zt, sort_run, d1, d3]
      subst d3
      by_cases d4 : q = 0
      rotate_left
      · simp (maxDischargeDepth := 40) [Nd.cs, Zt, sort_run, d1, d4]
      subst d4
      obtain ⟨es, cnt, m1, m2⟩ := h.b3
      have m3 := m2 name
      have og := h.og
      have hlm := h.lim
      have hlm2 := h.lim2
      have lts : g < H.size := h.lg
      have lt3 : o3 < H.size := h.l3
      have nam : nameBad ns ⟨2, sort, a, b, c, 0, 0, vw, vl, vh, name⟩ = (decide (name = ⟨#[]⟩) || match vidx ns name with | some i => decide (¬ (ns.getD i Nd.zero).sort = sort) | none => false) := rfl
      rw [nam]
      cases hv : vidx ns name with
      | none =>
        rw [hv] at m3
        cases hf : findE (.str name) es with
        | some x => rw [hf] at m3; cases m3
        | none =>
          by_cases d5 : name = ⟨#[]⟩
          · simp (maxDischargeDepth := 40) [Nd.cs, Zt, sort_run, d1, og, m1, lts, lt3, d5]
          · simp (maxDischargeDepth := 40) [Nd.cs, Zt, sort_run, d1, og, m1, hf, lts, lt3, d5]
      | some j =>
        rw [hv] at m3
        cases hf : findE (.str name) es with
        | none => rw [hf] at m3; cases m3
        | some x =>
          rw [hf] at m3
          have hx : x.val = num j := by simpa using m3
          have hj := vidx_lt hv
          have hne : ns ≠ [] := by rintro rfl; simp at hj
          have wj : IntKind.i64.wrap (j : Int) = (j : Int) := i64w (by omega) (by omega)
          have cj : (j : Int) < ns.length := by omega
          have hs := slv_row (o := o1) hj
          have hat : (flat ns)[j * 11 + 1]? = some (.int .i64 (ns.getD j Nd.zero).sort) := by
            rw [flat_get (n := ns.getD j Nd.zero) (by simp [hj]) (by omega)]; rfl
          have hb := h.b1 hne
          have lt1 := h.l1 hne
          have p1 : (0 : Int) < (j : Int) + 1 := by omega
          rw [hs] at og
          obtain ⟨s, hsd⟩ : ∃ s, s = (ns.getD j Nd.zero).sort := ⟨_, rfl⟩
          rw [← hsd] at hat
          simp only [← hsd]
          by_cases d5 : name = ⟨#[]⟩
          · simp (maxDischargeDepth := 40) [Nd.cs, Zt, sort_run, d1, og, m1, lts, lt3, d5]
          · by_cases d6 : s = sort
            · have d6' := eq_true d6
              simp (maxDischargeDepth := 40) [Nd.cs, Zt, sort_run, d1, og, m1, hf, hx, num, lts, lt3, lt1, d5, p1, wj, cj, hb, hat, d6']
            · simp (maxDischargeDepth := 40) [Nd.cs, Zt, sort_run, d1, og, m1, hf, hx, num, lts, lt3, lt1, d5, p1, wj, cj, hb, hat, d6]
  · have hS2 : S = (⟨op, (sortS op p q (ksort ns a ++ ksort ns b ++ ksort ns c)).1, a, b, c, p, q, vw, vl, vh, name⟩, (sortS op p q (ksort ns a ++ ksort ns b ++ ksort ns c)).2) := by rw [hS]; unfold sortedF; rw [if_neg c1, if_neg c2]
    obtain ⟨l, hl⟩ : ∃ l, l = ksort ns a ++ ksort ns b ++ ksort ns c := ⟨_, rfl⟩
    rw [hS2, ← hl]; clear hS2 hS
    have lts : g < H.size := h.lg
    simp (maxDischargeDepth := 40) [Nd.cs, Zt, c1, c2]
    generalize hL : loopL _ _ _ _ _ _ = r
    obtain ⟨y, e1, H1, rfl, ⟨rfl, k1, w, e7, hw⟩, fr⟩ := sorted_loop (x := a) (y := b) (z := c) (h.keep (by simp)) (Keeps.refl _) ha hb hc hL (by simp) (by simp) (by simp) (by simp)
    have hK : Keeps H H1 := Keeps.trans (by simp (maxDischargeDepth := 40)) k1
    have hlk : (ksort ns a ++ ksort ns b ++ ksort ns c).length ≤ 9223372036854775807 := by
      have := ksort_len ns a
      have := ksort_len ns b
      have := ksort_len ns c
      simp; omega
    rw [← hl] at hw hlk
    clear hl
    have o2' : H1.obj (H.size + 1) = .cells Nd.zero.cs := by
      rw [k1.obj _ (by simp)]; simp [Nd.cs, Nd.zero]
    simp only [Nd.cs, Nd.zero] at o2'
    have o1' : H1.obj H.size = .cells [.int .i64 op, .int .i64 sort, .int .i64 a, .int .i64 b, .int .i64 c, .int .i64 p, .int .i64 q, .int .i64 vw, u vl, u vh, .str name] := by
      rw [k1.obj _ (by simp)]; simp
    have sz := k1.size
    simp only [new_size] at sz
    have z1 : H.size < H1.size := by omega
    have z2 : H.size + 1 < H1.size := by omega
    have ts := termSort_pair hw hlk (op := op) (p := p) (q := q)
    simp (maxDischargeDepth := 40) [fr, e7, o1', o2', ts, pair, hK]
end Go.Proofs.Ytiobohfiaapgeaa
end
section
namespace Go.Proofs.Ytiobohfiaapgeaa
set_option maxRecDepth 100000
set_option maxHeartbeats 4000000
def Vok (ns : List Nd) : Prop := ∀ n ∈ ns, n.op = 2 → n = ⟨2, n.sort, 0, 0, 0, 0, 0, 0, 0#64, 0#64, n.name⟩
def makT (most : Int) (ns : List Nd) (n : Nd) : List Nd × Int × Int :=
  if formedF ns.length n = false then (ns, 0, 32)
  else if ¬ (sortedF ns n).2 = 0 then (ns, 0, (sortedF ns n).2)
  else match idx ns (sortedF ns n).1 with
    | some i => (ns, (i : Int) + 1, 0)
    | none => if most ≤ ns.length then (ns, 0, 33) else (ns ++ [(sortedF ns n).1], (ns.length : Int) + 1, 0)
def Kok (ns : List Nd) : Prop := ∀ (i : Nat) (n : Nd), ns[i]? = some n → (0 ≤ n.a ∧ n.a ≤ i) ∧ (0 ≤ n.b ∧ n.b ≤ i) ∧ (0 ≤ n.c ∧ n.c ≤ i)
theorem Kok.grow {ns : List Nd} {M : Nd} (h : Kok ns) (k : (0 ≤ M.a ∧ M.a ≤ ns.length) ∧ (0 ≤ M.b ∧ M.b ≤ ns.length) ∧ (0 ≤ M.c ∧ M.c ≤ ns.length)) : Kok (ns ++ [M]) := by
  intro i n hn
  by_cases c : i < ns.length
  · rw [List.getElem?_append_left c] at hn; exact h i n hn
  · rw [List.getElem?_append_right (by omega)] at hn
    have : i - ns.length = 0 := by
      have := (List.getElem?_eq_some_iff.1 hn).1
      simp at this; omega
    rw [this] at hn
    simp at hn
    subst hn
    have e : i = ns.length := by omega
    subst e; exact k
theorem formed_kids0 {ns : List Nd} {n : Nd} (h : formedF ns.length n = true) : 0 ≤ n.a ∧ 0 ≤ n.b ∧ 0 ≤ n.c := by
  unfold formedF at h
  simp only [kidsOK, Bool.and_eq_true] at h
  obtain ⟨⟨h1, h2, h3, -⟩, -⟩ := h
  have K : ∀ (i : Nat) (k : Int), kidOK ns.length (arity n.op) i k = true → 0 ≤ k := fun i k hk => by
    unfold kidOK at hk
    split at hk <;> simp at hk <;> omega
  exact ⟨K _ _ h1, K _ _ h2, K _ _ h3⟩
theorem sorted_kids (ns : List Nd) (n : Nd) : (sortedF ns n).1.a = n.a ∧ (sortedF ns n).1.b = n.b ∧ (sortedF ns n).1.c = n.c := by
  unfold sortedF
  split
  · exact ⟨rfl, rfl, rfl⟩
  · split <;> exact ⟨rfl, rfl, rfl⟩
theorem formed_kids {ns : List Nd} {n : Nd} (h : formedF ns.length n = true) : n.a ≤ ns.length ∧ n.b ≤ ns.length ∧ n.c ≤ ns.length := by
  unfold formedF at h
  simp only [kidsOK, Bool.and_eq_true] at h
  obtain ⟨⟨h1, h2, h3, -⟩, -⟩ := h
  have K : ∀ (i : Nat) (k : Int), kidOK ns.length (arity n.op) i k = true → k ≤ ns.length := fun i k hk => by
    unfold kidOK at hk
    split at hk <;> simp at hk <;> omega
  exact ⟨K _ _ h1, K _ _ h2, K _ _ h3⟩
theorem formed_var {ns : List Nd} {n : Nd} (h : formedF ns.length n = true) (h2 : n.op = 2) (hp : n.p = 0) (hq : n.q = 0) : n = ⟨2, n.sort, 0, 0, 0, 0, 0, 0, 0#64, 0#64, n.name⟩ := by
  unfold formedF at h
  obtain ⟨op, sort, a, b, c, p, q, vw, vl, vh, name⟩ := n
  simp only at h2 hp hq
  subst h2 hp hq
  have ar : arity 2 = 0 := by decide
  simp only [kidsOK, ar, kidOK] at h
  simp at h
  simp [h]
theorem vidx_some {ns : List Nd} {s : ByteArray} {i : Nat} (h : vidx ns s = some i) : ∃ m, ns[i]? = some m ∧ m ∈ ns ∧ m.op = 2 ∧ m.name = s := by
  unfold vidx at h
  obtain ⟨h1, h2, -⟩ := List.findIdx?_eq_some_iff_getElem.1 h
  simp at h2
  exact ⟨ns[i], by simp [h1], List.getElem_mem h1, h2.1, h2.2.symm⟩
theorem idx_none {ns : List Nd} {n : Nd} (h : idx ns n = none) : n ∉ ns := by
  unfold idx at h
  rw [List.findIdx?_eq_none_iff] at h
  intro hm
  have := h n hm
  simp at this
theorem var_new {ns : List Nd} {n : Nd} (hv : Vok ns) (h : formedF ns.length n = true) (h2 : n.op = 2) (hs : (sortedF ns n).2 = 0) (hi : idx ns (sortedF ns n).1 = none) : vidx ns n.name = none ∧ (sortedF ns n).1 = n ∧ n = ⟨2, n.sort, 0, 0, 0, 0, 0, 0, 0#64, 0#64, n.name⟩ := by
  have hn1 : ¬ n.op = 1 := by omega
  unfold sortedF at hs hi ⊢
  rw [if_neg hn1, if_pos h2] at hs hi ⊢
  simp only at hs hi
  split at hs
  rotate_left
  · cases hs
  rename_i hc
  have hb : nameBad ns n = false := by
    cases hb : nameBad ns n with
    | false => rfl
    | true => rw [hb] at hs; cases hs
  have hn := formed_var h h2 hc.2.1 hc.2.2
  refine ⟨?_, rfl, hn⟩
  cases hx : vidx ns n.name with
  | none => rfl
  | some i =>
    exfalso
    obtain ⟨m, m1, m2, m3, m4⟩ := vidx_some hx
    have mo := hv m m2 m3
    unfold nameBad at hb
    rw [hx] at hb
    have hg : ns.getD i Nd.zero = m := by simp [List.getD_eq_getElem?_getD, m1]
    simp only [hg] at hb
    simp at hb
    have : n = m := by rw [hn, mo, m4, hb.2]
    exact idx_none hi (this ▸ m2)
def GT (H : AHeap) (g : Nat) (most : Int) (ns : List Nd) (F : List Nat) : Prop := ∃ o1 o2 o3, TG H g most ns o1 o2 o3 ∧ Vok ns ∧ Kok ns ∧ F = g :: o2 :: o3 :: objs (slv o1 ns)
structure MvT (F : List Nat) (H : AHeap) (F' : List Nat) (H' : AHeap) : Prop where
  fr : Fr F H H'
  new : ∀ p, p ∈ F' → p ∈ F ∨ H.size ≤ p
theorem MvT.refl (F : List Nat) (H : AHeap) : MvT F H F H := ⟨Fr.refl _ _, fun _ h => .inl h⟩
theorem MvT.keeps {F : List Nat} {H H' : AHeap} (k : Keeps H H') : MvT F H F H' := ⟨k.fr F, fun _ h => .inl h⟩
theorem MvT.trans {F G E : List Nat} {A B D : AHeap} (h : MvT F A G B) (k : MvT G B E D) : MvT F A E D := by
  refine ⟨h.fr.trans k.fr h.new, fun p hp => ?_⟩
  rcases k.new p hp with h1 | h1
  · exact h.new p h1
  · exact .inr (Nat.le_trans h.fr.size h1)
def GvT (H : AHeap) (g : Nat) (most : Int) (F : List Nat) (x : List Nd × Int × Int) (r : Option (AV × AHeap)) : Prop :=
  ∃ H' F', r = some (.tup [.int .i64 x.2.1, .int .i64 x.2.2], H') ∧ GT H' g most x.1 F' ∧ MvT F H F' H'
theorem GvT.mk {H H' : AHeap} {g : Nat} {most l e : Int} {F : List Nat} {x : List Nd × Int × Int} {js : List Nd} {r : Option (AV × AHeap)} (h : some (.tup [.int .i64 l, .int .i64 e], H') = r) (hx : x = (js, l, e)) (F' : List Nat) (g' : GT H' g most js F') (k : MvT F H F' H') : GvT H g most F x r := by
  subst hx; exact ⟨H', F', h.symm, g', k⟩
theorem GT.keeps {H H' : AHeap} {g : Nat} {most : Int} {ns : List Nd} {F : List Nat} (h : GT H g most ns F) (k : Keeps H H') : GT H' g most ns F := by
  obtain ⟨o1, o2, o3, t, v, kk, rfl⟩ := h
  exact ⟨o1, o2, o3, t.keep k, v, kk, rfl⟩
theorem tell2 {es : List AEnt} {ns : List Nd} {M : Nd} {c : Nat} (i2 : ∀ n : Nd, (findE (.agg n.cs) es).map (·.val) = (idx ns n).map num) (n : Nd) : (findE (.agg n.cs) (es ++ [⟨.agg M.cs, num ns.length, c⟩])).map (·.val) = (idx (ns ++ [M]) n).map num := by
  have h := i2 n
  rw [findE_append, idx_append, keyEq_nd]
  cases hf : findE (.agg n.cs) es <;> cases hi : idx ns n <;> rw [hf, hi] at h <;> first | (cases h; done) | skip
  · by_cases e : n = M <;> simp [e]
  · simpa using h
theorem tell3 {es : List AEnt} {ns : List Nd} {M : Nd} {c : Nat} (hM : M.op = 2) (i3 : ∀ s, (findE (.str s) es).map (·.val) = (vidx ns s).map num) (s : ByteArray) : (findE (.str s) (es ++ [⟨.str M.name, num ns.length, c⟩])).map (·.val) = (vidx (ns ++ [M]) s).map num := by
  have h := i3 s
  have hk : keyEq (.str s) (.str M.name) = decide (s = M.name) := by simp [keyEq]
  rw [findE_append, vidx_append, hk]
  cases hf : findE (.str s) es <;> cases hi : vidx ns s <;> rw [hf, hi] at h <;> first | (cases h; done) | skip
  · by_cases e : s = M.name <;> simp [e, hM]
  · simpa using h
theorem tell3' {es : List AEnt} {ns : List Nd} {M : Nd} (hM : ¬ M.op = 2) (i3 : ∀ s, (findE (.str s) es).map (·.val) = (vidx ns s).map num) (s : ByteArray) : (findE (.str s) es).map (·.val) = (vidx (ns ++ [M]) s).map num := by
  rw [vidx_append, i3 s, if_neg (by simp [hM])]; simp
theorem grow {H H' : AHeap} {g : Nat} {most : Int} {ns : List Nd} {o1 o2 o3 o : Nat} {M : Nd} (t : TG H g most ns o1 o2 o3) (v : Vok ns) (kok : Kok (ns ++ [M])) (hm : M.op = 2 → M = ⟨2, M.sort, 0, 0, 0, 0, 0, 0, 0#64, 0#64, M.name⟩) (lim : (ns.length : Int) < most) (sz : H.size ≤ H'.size) (ho : H.size ≤ o) (ho' : o < H'.size)
    (hg : H'.obj g = .cells [.int .i64 most, .row o 0 11 (ns.length + 1) false, .map o2, .map o3]) (ho1 : H'.obj o = .cells (flat ns ++ M.cs))
    (h2 : ∃ es c, H'.obj o2 = .map shN' es c ∧ ∀ n : Nd, (findE (.agg n.cs) es).map (·.val) = (idx (ns ++ [M]) n).map num) (h3 : ∃ es c, H'.obj o3 = .map (.one .s) es c ∧ ∀ s, (findE (.str s) es).map (·.val) = (vidx (ns ++ [M]) s).map num) : GT H' g most (ns ++ [M]) [g, o2, o3, o] := by
  have hs : slv o (ns ++ [M]) = .row o 0 11 (ns.length + 1) false := by unfold slv; rw [if_neg (by simp)]; simp
  have lg := t.lg
  have l2 := t.l2
  have l3 := t.l3
  refine ⟨o, o2, o3, ⟨by omega, fun _ => ho', by omega, by omega, by rw [hs]; exact hg, fun _ => by rw [flat_append]; exact ho1, h2, h3, fun _ => by omega, t.n2, t.n3, fun _ => by omega, fun _ => by omega, t.n23, by simp; omega, t.lim2⟩, ?_, kok, by rw [hs]; simp⟩
  intro n hn
  simp at hn
  rcases hn with hn | rfl
  · exact v n hn
  · exact hm
theorem back_not {z : List Nat} {H H' : AHeap} {v : AV} (h : ¬ Shut H H') : back z H v H' = (v, H') := by unfold back; rw [if_neg (fun h2 => h h2.2)]
theorem mk_run {H : AHeap} {g : Nat} {most : Int} {ns : List Nd} {F : List Nat} (G : GT H g most ns F) {n : Nd} {r : Option (AV × AHeap)} (h : R Zl [.ptr g 0, .agg n.cs] H = r) : GvT H g most F (makT most ns n) r := by
  obtain ⟨o1, o2, o3, t, v, kok, rfl⟩ := id G
  rw [Zgt] at h
  have k0 := Keeps.new H (.cells n.cs)
  have hfm := formed_run (t.keep k0) (n := n)
  cases c1 : formedF ns.length n with
  | false =>
    rw [c1] at hfm
    simp (maxDischargeDepth := 40) [Zb4, Nd.cs] at h hfm
    simp (maxDischargeDepth := 40) [hfm] at h
    exact GvT.mk h (by unfold makT; rw [if_pos c1]) _ (G.keeps (by simp (maxDischargeDepth := 40))) (MvT.keeps (by simp (maxDischargeDepth := 40)))
  | true =>
    rw [c1] at hfm
    obtain ⟨ka, kb, kc⟩ := formed_kids c1
    have hsr := sorted_run (t.keep k0) ka kb kc
    have hnew := fun h2 h3 h4 => var_new v c1 h2 h3 h4
    have hmk : makT most ns n = if ¬ (sortedF ns n).2 = 0 then (ns, 0, (sortedF ns n).2) else match idx ns (sortedF ns n).1 with
      | some i => (ns, (i : Int) + 1, 0)
      | none => if most ≤ ns.length then (ns, 0, 33) else (ns ++ [(sortedF ns n).1], (ns.length : Int) + 1, 0) := by
      unfold makT; rw [if_neg (by simp [c1])]
    rw [hmk]
    clear hmk
    have lg := t.lg
    have l2 := t.l2
    have l3 := t.l3
    have ne2 := t.n2
    have ne3 := t.n3
    have ne23 := t.n23
    have og := t.og
    have hlen := slv_len o1 ns
    have lim := t.lim
    have lim2 := t.lim2
    obtain ⟨es2, cn2, b2, i2⟩ := t.b2
    obtain ⟨es3, cn3, b3, i3⟩ := t.b3
    have kb0 : ∀ m : Nd, Keeps H ((H.new (.cells n.cs)).set H.size (.cells m.cs)) := fun m => by simp (maxDischargeDepth := 40)
    have hkk : (0 ≤ (sortedF ns n).1.a ∧ (sortedF ns n).1.a ≤ ns.length) ∧ (0 ≤ (sortedF ns n).1.b ∧ (sortedF ns n).1.b ≤ ns.length) ∧ (0 ≤ (sortedF ns n).1.c ∧ (sortedF ns n).1.c ≤ ns.length) := by
      obtain ⟨s1, s2, s3⟩ := sorted_kids ns n
      obtain ⟨f1, f2, f3⟩ := formed_kids0 c1
      rw [s1, s2, s3]
      exact ⟨⟨f1, ka⟩, ⟨f2, kb⟩, ⟨f3, kc⟩⟩
    have kok' := kok.grow hkk
    have hop : (sortedF ns n).1.op = n.op := by unfold sortedF; split <;> first | rfl | (split <;> rfl)
    generalize hS : sortedF ns n = S at *
    obtain ⟨m, e⟩ := S
    have hm2 := i2 m
    clear hkk
    have hnm : e = 0 → m.op = 2 → idx ns m = none → vidx ns m.name = none ∧ m = ⟨2, m.sort, 0, 0, 0, 0, 0, 0, 0#64, 0#64, m.name⟩ := fun he h2 hi => by
      obtain ⟨a1, a2, a3⟩ := hnew (hop ▸ h2) he hi
      have a2' : m = n := a2
      rw [a2']; exact ⟨a1, a3⟩
    clear hnew hop
    obtain ⟨M, hM⟩ : ∃ M, M = m := ⟨_, rfl⟩
    rw [show ((m, e) : Nd × Int).1 = M from hM.symm] at kok'
    obtain ⟨op, sort, a, b, c, p, q, vw, vl, vh, name⟩ := n
    obtain ⟨op', sort', a', b', c', p', q', vw', vl', vh', name'⟩ := m
    simp only [Nd.cs] at h hfm hsr hm2
    simp only [shN'] at b2
    by_cases c2 : e = 0
    rotate_left
    · simp (maxDischargeDepth := 40) [Zb4, hfm, hsr, c2] at h
      exact GvT.mk h (by simp [c2]) _ (G.keeps (by simp (maxDischargeDepth := 40))) (MvT.keeps (by simp (maxDischargeDepth := 40)))
    subst c2
    cases hi : idx ns M with
    | some j =>
      rw [← hM, hi] at hm2
      simp only [Option.map_some, Option.map_eq_some_iff] at hm2
      obtain ⟨x, hx1, hx2⟩ := hm2
      have p1 : (0 : Int) < (j : Int) + 1 := by omega
      simp (maxDischargeDepth := 40) [Zb4, hfm, hsr, og, b2, hx1, hx2, num, lg, l2, p1] at h
      exact GvT.mk h (by simp [← hM, hi]) _ (G.keeps (by simp (maxDischargeDepth := 40))) (MvT.keeps (by simp (maxDischargeDepth := 40)))
    | none =>
      rw [← hM, hi] at hm2
      simp only [Option.map_none, Option.map_eq_none_iff] at hm2
      by_cases c3 : most ≤ ns.length
      · simp (maxDischargeDepth := 40) [Zb4, hfm, hsr, og, b2, hm2, lg, l2, hlen, c3] at h
        exact GvT.mk h (by simp [← hM, hi, c3]) _ (G.keeps (by simp (maxDischargeDepth := 40))) (MvT.keeps (by simp (maxDischargeDepth := 40)))
      · simp (maxDischargeDepth := 40) [Zb4, hfm, hsr, og, b2, hm2, lg, l2, hlen, c3] at h
        generalize hH1 : AHeap.set _ _ _ = H1 at h
        have k1 : Keeps H H1 := by rw [← hH1]; simp (maxDischargeDepth := 40)
        have z1 : H1.size = H.size + 1 := by rw [← hH1]; simp
        have c8 : H1.obj H.size = .cells M.cs := by rw [← hH1, hM]; simp [Nd.cs]
        clear hH1
        generalize hA : appU _ _ _ _ = q1 at h
        have t1 := t.keep (k1.new' (.cells M.cs))
        have hob : ∀ p, p ∈ objs (slv o1 ns) → ns ≠ [] ∧ p = o1 := fun p hp => by
          unfold slv at hp
          split at hp
          · simp at hp
          · rename_i hne; simp at hp; exact ⟨hne, hp⟩
        have hcs : [AV.int .i64 op', .int .i64 sort', .int .i64 a', .int .i64 b', .int .i64 c', .int .i64 p', .int .i64 q', .int .i64 vw', u vl', u vh', .str name'] = M.cs := by rw [hM]; rfl
        rw [hcs, ← z1] at hA
        obtain ⟨H2, rfl, f2, s2, oo, -⟩ := app_of hA (slv_reads t1.l1 t1.b1) (slv_grows _ _) (Reads.row' (all := M.cs) (by simp) (by simp) (by simp)) (by omega) rfl (by omega) (by omega) (by omega) (by simp [Nd.cs])
        simp only [new_size, z1] at s2 oo
        have F2 : ∀ p, p < H.size → (ns ≠ [] → p ≠ o1) → H2.obj p = H.obj p := fun p hp hne => by
          rw [f2.obj p (by simp; omega) (fun hh => hne (hob p hh).1 (hob p hh).2)]
          exact (k1.new' _).obj p hp
        have g2 : H2.obj g = .cells [.int .i64 most, slv o1 ns, .map o2, .map o3] := (F2 g lg t.n1).trans og
        have m2 := (F2 o2 l2 (fun e he => t.n12 e he.symm)).trans b2
        have m3 := (F2 o3 l3 (fun e he => t.n13 e he.symm)).trans b3
        have x2 : H2.obj H.size = .cells M.cs := by
          rw [f2.obj H.size (by simp; omega) (fun hh => by have := t.l1 (hob _ hh).1; have := (hob _ hh).2; omega)]
          rw [(Keeps.new H1 _).obj _ (by omega)]; exact c8
        rw [← hcs] at x2
        have ng : ¬ g = H.size := Nat.ne_of_lt lg
        have n2 : ¬ o2 = H.size := Nat.ne_of_lt l2
        have n3 : ¬ o3 = H.size := Nat.ne_of_lt l3
        have sz1 : H2.size = H.size + 3 := by omega
        have lg2 : g < H2.size := by omega
        have l22 : o2 < H2.size := by omega
        have l32 : o3 < H2.size := by omega
        have lim' : (ns.length : Int) < most := by omega
        have hres : (if ¬ (M, (0 : Int)).2 = 0 then (ns, (0 : Int), (M, (0 : Int)).2) else match idx ns (M, (0 : Int)).1 with
          | some i => (ns, (i : Int) + 1, 0)
          | none => if most ≤ ns.length then (ns, 0, 33) else (ns ++ [(M, (0 : Int)).1], (ns.length : Int) + 1, 0)) = (ns ++ [M], (ns.length : Int) + 1, 0) := by simp [hi, c3]
        have hMd : (⟨op', sort', a', b', c', p', q', vw', vl', vh', name'⟩ : Nd) = M := hM.symm
        rw [hMd, hres]
        have hop : M.op = op' := by rw [hM]
        have hname : M.name = name' := by rw [hM]
        have hnm' := fun e2 => hnm rfl e2 (hM ▸ hi)
        rw [hMd] at hnm'
        by_cases c4 : op' = 2
        · obtain ⟨v1, v2⟩ := hnm' (hop.trans c4)
          have hv3 := i3 name'
          rw [← hname, v1, hname] at hv3
          simp only [Option.map_none, Option.map_eq_none_iff] at hv3
          have hm2' := hm2
          rw [c4] at hm2'
          simp (maxDischargeDepth := 40) [g2, m2, m3, x2, Ne.symm ng, Ne.symm n2, hm2', hv3, c4, ne2, ne2.symm, ne3.symm, ne23.symm] at h
          generalize hH3 : AHeap.set _ _ _ = H3 at h
          have og3 : H3.obj g = .cells [.int .i64 most, .row (H1.size + 1) 0 11 (ns.length + 1) false, .map o2, .map o3] := by
            rw [← hH3]; simp [ne2, ne3]
          have oh3 : H3.obj (H1.size + 1) = .cells (flat ns ++ M.cs) := by
            have a1 : ¬ H1.size + 1 = g := by omega
            have a2 : ¬ H1.size + 1 = o2 := by omega
            have a3 : ¬ H1.size + 1 = o3 := by omega
            rw [← hH3]; simp [a1, a2, a3]; rw [z1]; exact oo
          have om2 : H3.obj o2 = .map shN' (es2 ++ [⟨.agg M.cs, num ns.length, cn2⟩]) (cn2 + 1) := by
            rw [← hH3, ← hcs]; simp [ne23, shN', num, c4]
          have om3 : H3.obj o3 = .map (.one .s) (es3 ++ [⟨.str M.name, num ns.length, cn3⟩]) (cn3 + 1) := by
            rw [← hH3]; simp [hname, num]
          have sz3 : H3.size = H.size + 3 := by rw [← hH3]; simp [sz1]
          have fr3 : Fr (g :: o2 :: o3 :: objs (slv o1 ns)) H H3 := by
            rw [← hH3]
            exact ((((k1.new' _).fr _).trans f2 (fun p hp => .inl (by simp [hp]))).set (.inl (by simp)) _ |>.set (.inl (by simp)) _ |>.set (.inl (by simp)) _)
          clear hH3
          have hns : ¬ Shut H H3 := fun hsh => by
            rcases hsh.obj g lg with e | e
            · rw [og3, og] at e
              have e2 : slv o1 ns = .row (H1.size + 1) 0 11 (ns.length + 1) false := by
                simp only [AObj.cells.injEq, List.cons.injEq] at e; exact e.2.1.symm
              unfold slv at e2
              split at e2
              · cases e2
              · simp at e2
            · rw [og3] at e
              simp [closedO] at e
              omega
          rw [back_not hns] at h
          refine GvT.mk h rfl [g, o2, o3, H1.size + 1] (grow t v kok' (fun e2 => (hnm' e2).2) lim' (by omega) (by omega) (by omega) og3 oh3 ⟨_, _, om2, tell2 i2⟩ ⟨_, _, om3, tell3 (hop.trans c4) i3⟩) ⟨fr3, fun p hp => ?_⟩
          simp at hp ⊢
          rcases hp with hp | hp | hp | hp
          · simp [hp]
          · simp [hp]
          · simp [hp]
          · right; omega
        · simp (maxDischargeDepth := 40) [g2, m2, x2, Ne.symm ng, Ne.symm n2, hm2, c4, ne2.symm] at h
          generalize hH3 : AHeap.set _ _ _ = H3 at h
          have og3 : H3.obj g = .cells [.int .i64 most, .row (H1.size + 1) 0 11 (ns.length + 1) false, .map o2, .map o3] := by
            rw [← hH3]; simp [ne2]
          have oh3 : H3.obj (H1.size + 1) = .cells (flat ns ++ M.cs) := by
            have a1 : ¬ H1.size + 1 = g := by omega
            have a2 : ¬ H1.size + 1 = o2 := by omega
            have a3 : ¬ H1.size + 1 = o3 := by omega
            rw [← hH3]; simp [a1, a2]; rw [z1]; exact oo
          have om2 : H3.obj o2 = .map shN' (es2 ++ [⟨.agg M.cs, num ns.length, cn2⟩]) (cn2 + 1) := by
            rw [← hH3, ← hcs]; simp [shN', num]
          have om3 : H3.obj o3 = .map (.one .s) es3 cn3 := by
            rw [← hH3]; simp [ne3.symm, ne23.symm, m3]
          have sz3 : H3.size = H.size + 3 := by rw [← hH3]; simp [sz1]
          have fr3 : Fr (g :: o2 :: o3 :: objs (slv o1 ns)) H H3 := by
            rw [← hH3]
            exact ((((k1.new' _).fr _).trans f2 (fun p hp => .inl (by simp [hp]))).set (.inl (by simp)) _ |>.set (.inl (by simp)) _)
          clear hH3
          have hns : ¬ Shut H H3 := fun hsh => by
            rcases hsh.obj g lg with e | e
            · rw [og3, og] at e
              have e2 : slv o1 ns = .row (H1.size + 1) 0 11 (ns.length + 1) false := by
                simp only [AObj.cells.injEq, List.cons.injEq] at e; exact e.2.1.symm
              unfold slv at e2
              split at e2
              · cases e2
              · simp at e2
            · rw [og3] at e
              simp [closedO] at e
              omega
          rw [back_not hns] at h
          refine GvT.mk h rfl [g, o2, o3, H1.size + 1] (grow t v kok' (fun e2 => (hnm' e2).2) lim' (by omega) (by omega) (by omega) og3 oh3 ⟨_, _, om2, tell2 i2⟩ ⟨_, _, om3, tell3' (fun e => c4 (hop.symm.trans e)) i3⟩) ⟨fr3, fun p hp => ?_⟩
          simp at hp ⊢
          rcases hp with hp | hp | hp | hp
          · simp [hp]
          · simp [hp]
          · simp [hp]
          · right; omega
end Go.Proofs.Ytiobohfiaapgeaa
end
section
namespace Go.Proofs.Ytiobohfiaapgeaa
set_option maxRecDepth 100000
set_option maxHeartbeats 4000000
theorem tnew_run {n : Int} {H : AHeap} {r : Option (AV × AHeap)} (h : R Zfd [.int .i64 n] H = r) : ∃ H' g F, r = some (.ptr g 0, H') ∧ GT H' g (min (max n 1) 4096) [] F ∧ Keeps H H' ∧ ∀ p, p ∈ F → H.size ≤ p := by
  rw [Zko] at h
  simp [Zjg] at h
  rw [back_open (by simp [closed])] at h
  subst h
  refine ⟨_, H.size + 2, [H.size + 2, H.size, H.size + 1], rfl, ⟨0, H.size, H.size + 1, ⟨by simp, by simp, by simp, by simp, by simp [slv], by simp, ⟨[], 0, by simp [shN'], fun n => by simp [findE, idx]⟩, ⟨[], 0, by simp, fun n => by simp [findE, vidx]⟩, by simp, by omega, by omega, by simp, by simp, by omega, by show (0 : Int) ≤ _; omega, by omega⟩, (fun n hn => by cases hn), (fun i n hn => by rw [List.getElem?_nil] at hn; cases hn), by simp [slv]⟩, by simp (maxDischargeDepth := 40), fun p hp => by simp at hp; omega⟩
def varsT (ns : List Nd) (i : Nat) : List Int := ((List.range i).filter fun j => decide ((ns.getD j Nd.zero).op = 2)).map fun (j : Nat) => (j : Int) + 1
theorem varsT_succ (ns : List Nd) (i : Nat) : varsT ns (i + 1) = varsT ns i ++ (if (ns.getD i Nd.zero).op = 2 then [(i : Int) + 1] else []) := by
  simp only [varsT, List.range_succ, List.filter_append, List.map_append]
  congr 1
  by_cases h : (ns.getD i Nd.zero).op = 2
  · simp only [List.filter_cons, List.filter_nil, h, decide_true, if_true, List.map_cons, List.map_nil]
  · simp only [List.filter_cons, List.filter_nil, h, decide_false, if_false, Bool.false_eq_true, List.map_nil]
theorem varsT_len (ns : List Nd) (i : Nat) : (varsT ns i).length ≤ i := by
  unfold varsT
  rw [List.length_map]
  exact Nat.le_trans (List.length_filter_le _ _) (by simp)
theorem OutT.keep {H0 H H' : AHeap} {v : AV} {l : List Int} (h : OutT H0 H v l) (k : Keeps H H') : OutT H0 H' v l := ⟨h.rd.keep k, h.gr, h.new⟩
theorem vars_loop {H : AHeap} {g : Nat} {most : Int} {ns : List Nd} {o1 o2 o3 : Nat} (h : TG H g most ns o1 o2 o3) {e : Env} {r : Rn} (hL : loopL Try.prog KT R Zb9 e H = r)
    (e3 : e 3 = some .nils) (e9 : e 9 = some (slv o1 ns)) (e10 : e 10 = some (.int .i64 ns.length)) (e11 : e 11 = some (.int .i64 0)) :
    ∃ y' e' H', r = some (y', e', H') ∧ (y' = .exit 0 ∧ Keeps H H' ∧ ∃ w, e' 3 = some w ∧ OutT H H' w (varsT ns ns.length)) ∧ ∀ t, t ∉ defs Zb9 → e' t = e t := by
  have hl := h.lim
  have hl2 := h.lim2
  refine loop_count Zb9.eq_1 hL ns.length (fun i e1 H1 => ∃ w, e1 3 = some w ∧ e1 11 = some (.int .i64 i) ∧ Keeps H H1 ∧ OutT H H1 w (varsT ns i)) _ 0 (by omega) ⟨.nils, e3, e11, Keeps.refl _, ⟨by simpa [varsT] using RI.nils, by simp, by simp⟩⟩ ?_ ?_
  · rintro i f H1 hf - hi ⟨w, f3, f11, k1, hout⟩
    have hw1 := i64w (n := (i : Int) + 1) (by omega) (by omega)
    have hc : (i : Int) < ns.length := by omega
    have hne : ns ≠ [] := by rintro rfl; simp at hi
    have hle := varsT_len ns i
    have hs := slv_row (o := o1) hi
    have hb := h.b1 hne
    have lt1 := h.l1 hne
    have hb1 : ∀ H2, Keeps H H2 → H2.obj o1 = .cells (flat ns) := fun H2 k => (k.obj _ lt1).trans hb
    rw [hs] at e9
    obtain ⟨n, hn⟩ : ∃ n, ns[i]? = some n := ⟨ns[i], by simp [hi]⟩
    have hat := flat_at hn
    have hfl := flat_len ns
    have hle2 : i * 11 + 11 ≤ ns.length * 11 := by omega
    have hg : ns.getD i Nd.zero = n := by simp [List.getD_eq_getElem?_getD, hn]
    rw [varsT_succ, hg]
    obtain ⟨op, sort, a, b, c, p, q, vw, vl, vh, name⟩ := n
    simp only [Nd.cs] at hat
    by_cases c2 : op = 2
    · simp (maxDischargeDepth := 40) [hf, f3, f11, e9, e10, hc, hb1, k1, hfl, hle2, hat, c2, hw1]
      generalize hH2 : AHeap.set _ _ _ = H2
      have K1 : Keeps H1 H2 := by rw [← hH2]; simp (maxDischargeDepth := 40)
      have z2 : H2.size = H1.size + 1 := by rw [← hH2]; simp
      clear hH2
      generalize hA : appU _ _ _ _ = q1
      rw [← z2] at hA
      obtain ⟨w', H3, rfl, h3, k3⟩ := (hout.keep K1).push (k1.trans K1) (by omega) hA
      simp [f11, hw1, k3]
      exact h3
    · simp (maxDischargeDepth := 40) [hf, f3, f11, e9, e10, hc, hb1, k1, hfl, hle2, hat, c2, hw1]
      generalize hH2 : AHeap.set _ _ _ = H2
      have K1 : Keeps H1 H2 := by rw [← hH2]; simp (maxDischargeDepth := 40)
      exact ⟨k1.trans K1, hout.keep K1⟩
  · rintro f H1 hf ⟨w, f3, f11, k1, hout⟩
    simp [hf, f3, f11, e10, k1]
    exact hout
end Go.Proofs.Ytiobohfiaapgeaa
end
section
namespace Go.Proofs.Ytiobohfiaapgeaa
set_option maxRecDepth 100000
theorem idx_more {ns ks : List Nd} {n : Nd} {i : Nat} (h : idx ns n = some i) : idx (ns ++ ks) n = some i := by
  unfold idx at h ⊢
  rw [List.findIdx?_append, h]; rfl
theorem vidx_more {ns ks : List Nd} {s : ByteArray} {i : Nat} (h : vidx ns s = some i) : vidx (ns ++ ks) s = some i := by
  unfold vidx at h ⊢
  rw [List.findIdx?_append, h]; rfl
theorem kidOK_more {N N' a : Int} {i : Nat} {k : Int} (hN : N ≤ N') (h : kidOK N a i k = true) : kidOK N' a i k = true := by
  unfold kidOK at h ⊢
  split at h <;> simp at h ⊢ <;> simp [*] <;> omega
theorem formed_more {N N' : Int} {n : Nd} (hN : N ≤ N') (h : formedF N n = true) : formedF N' n = true := by
  unfold formedF at h ⊢
  simp only [kidsOK, Bool.and_eq_true] at h ⊢
  obtain ⟨⟨h1, h2, h3, h4⟩, h5⟩ := h
  exact ⟨⟨kidOK_more hN h1, kidOK_more hN h2, kidOK_more hN h3, h4⟩, h5⟩
theorem ksort_more {ns ks : List Nd} {k : Int} (h : k ≤ ns.length) : ksort (ns ++ ks) k = ksort ns k := by
  unfold ksort
  split
  · rename_i hk
    have : (k - 1).toNat < ns.length := by omega
    rw [List.getD_eq_getElem?_getD, List.getD_eq_getElem?_getD, List.getElem?_append_left this]
  · rfl
theorem nameBad_more {ns ks : List Nd} {n : Nd} {i : Nat} (hv : vidx ns n.name = some i) (h : nameBad ns n = false) : nameBad (ns ++ ks) n = false := by
  unfold nameBad at h ⊢
  rw [hv] at h
  rw [vidx_more hv]
  have hi := vidx_lt hv
  simp only [List.getD_eq_getElem?_getD, List.getElem?_append_left hi] at h ⊢
  exact h
theorem sorted_more {ns ks : List Nd} {n M : Nd} (hf : formedF ns.length n = true) (hs : sortedF ns n = (M, 0)) (hv : n.op = 2 → ∃ i, vidx ns n.name = some i) : sortedF (ns ++ ks) n = (M, 0) := by
  obtain ⟨ka, kb, kc⟩ := formed_kids hf
  unfold sortedF at hs ⊢
  by_cases c1 : n.op = 1
  · rw [if_pos c1] at hs ⊢; exact hs
  rw [if_neg c1] at hs ⊢
  by_cases c2 : n.op = 2
  · rw [if_pos c2] at hs ⊢
    obtain ⟨i, hi⟩ := hv c2
    have hM : n = M := congrArg Prod.fst hs
    have h2 := congrArg Prod.snd hs
    simp only at h2
    split at h2
    rotate_left
    · cases h2
    rename_i hc
    cases hb : nameBad ns n with
    | true => rw [hb] at h2; cases h2
    | false =>
      rw [if_pos hc, nameBad_more hi hb, ← hM]; rfl
  · rw [if_neg c2] at hs ⊢
    rw [ksort_more ka, ksort_more kb, ksort_more kc]
    exact hs
theorem vidx_of_mem {ns : List Nd} {n : Nd} (h : n ∈ ns) (h2 : n.op = 2) : ∃ i, vidx ns n.name = some i := by
  cases hv : vidx ns n.name with
  | some i => exact ⟨i, rfl⟩
  | none =>
    unfold vidx at hv
    rw [List.findIdx?_eq_none_iff] at hv
    have := hv n h
    simp [h2] at this
theorem idx_mem {ns : List Nd} {n : Nd} {i : Nat} (h : idx ns n = some i) : n ∈ ns ∧ i < ns.length := by
  unfold idx at h
  obtain ⟨h1, h2, -⟩ := List.findIdx?_eq_some_iff_getElem.1 h
  simp at h2
  exact ⟨by rw [h2]; exact List.getElem_mem h1, h1⟩
structure Made (ns : List Nd) (n M : Nd) (i : Nat) : Prop where
  formed : formedF ns.length n = true
  sorted : sortedF ns n = (M, 0)
  at' : idx ns M = some i
theorem sorted_op {ns : List Nd} {n M : Nd} {e : Int} (h : sortedF ns n = (M, e)) : M.op = n.op ∧ (n.op = 2 → M = n) := by
  unfold sortedF at h
  split at h
  · have : n = M := congrArg Prod.fst h
    subst this; exact ⟨rfl, fun _ => rfl⟩
  · split at h
    · have : n = M := congrArg Prod.fst h
      subst this; exact ⟨rfl, fun _ => rfl⟩
    · rename_i h2
      have := congrArg Prod.fst h
      simp only at this
      subst this; exact ⟨rfl, fun h => absurd h h2⟩
theorem Made.more {ns ks : List Nd} {n M : Nd} {i : Nat} (h : Made ns n M i) : Made (ns ++ ks) n M i := by
  refine ⟨formed_more (by rw [List.length_append]; omega) h.formed, sorted_more h.formed h.sorted fun h2 => ?_, idx_more h.at'⟩
  have hM := (sorted_op h.sorted).2 h2
  have := (idx_mem h.at').1
  rw [hM] at this
  exact vidx_of_mem this h2
theorem Made.make {most : Int} {ns : List Nd} {n M : Nd} {i : Nat} (h : Made ns n M i) : makT most ns n = (ns, (i : Int) + 1, 0) := by
  unfold makT
  rw [if_neg (by simp [h.formed]), h.sorted]
  simp [h.at']
end Go.Proofs.Ytiobohfiaapgeaa
end
section
namespace Go.Proofs.Ytiobohfiaapgeaa
def NL (l : List Nd) : AV := .lst 11 l.length (flat l)
theorem GvT.go {H : AHeap} {g : Nat} {most : Int} {F : List Nat} {ns js : List Nd} {n : Nd} {l e : Int} (G : GT H g most ns F) (hx : makT most ns n = (js, l, e)) {r : Option (AV × AHeap)} (h : R Zl [.ptr g 0, .agg n.cs] H = r) :
    ∃ H' F', r = some (.tup [.int .i64 l, .int .i64 e], H') ∧ GT H' g most js F' ∧ MvT F H F' H' := by
  have := mk_run G h
  rw [hx] at this
  exact this
end Go.Proofs.Ytiobohfiaapgeaa
end
section
namespace Go.Proofs.Ytiobohfiaapgeaa
set_option maxRecDepth 100000
set_option maxHeartbeats 4000000
theorem marks_set {v : List Bool} {j : Nat} : (v.map AV.bool).set j (.bool true) = (v.set j true).map AV.bool := by rw [List.map_set]
theorem marks_at {v : List Bool} {j : Nat} (hj : j < v.length) : (v.map AV.bool)[j]? = some (.bool (v.getD j false)) := by simp [List.getD_eq_getElem?_getD, hj]
def mark1T (ns : List Nd) (n : Nat) (v : List Bool) : List Bool :=
  if v.getD (n + 1) false then ((v.set (ns.getD n Nd.zero).a.toNat true).set (ns.getD n Nd.zero).b.toNat true).set (ns.getD n Nd.zero).c.toNat true else v
def markT (ns : List Nd) : Nat → List Bool → List Bool
  | 0, v => v
  | n + 1, v => markT ns n (mark1T ns n v)
theorem mark1T_len (ns : List Nd) (n : Nat) (v : List Bool) : (mark1T ns n v).length = v.length := by unfold mark1T; split <;> simp
theorem markT_len (ns : List Nd) : ∀ (n : Nat) (v : List Bool), (markT ns n v).length = v.length
  | 0, _ => rfl
  | n + 1, v => by rw [markT, markT_len, mark1T_len]
def outT (v : List Bool) (i : Nat) : List Int := ((List.range i).filter fun n => decide (1 ≤ n) && v.getD n false).map fun (n : Nat) => (n : Int)
theorem outT_one (v : List Bool) : outT v 1 = [] := by simp [outT, List.range_succ]
theorem outT_succ (v : List Bool) {i : Nat} (hi : 1 ≤ i) : outT v (i + 1) = outT v i ++ (if v.getD i false = true then [(i : Int)] else []) := by
  simp only [outT, List.range_succ, List.filter_append, List.map_append]
  congr 1
  have e : decide (1 ≤ i) = true := by simpa using hi
  simp only [List.filter_cons, e, Bool.true_and]
  split <;> simp
theorem outT_len (v : List Bool) (i : Nat) : (outT v i).length ≤ i := by
  unfold outT
  rw [List.length_map]
  exact Nat.le_trans (List.length_filter_le _ _) (by simp)
def coneM (ns : List Nd) (n : Nat) : List Bool := markT ns n ((List.replicate (n + 1) false).set n true)
def coneT (ns : List Nd) (id : Int) : List Int := if id < 1 ∨ (ns.length : Int) < id then [] else outT (coneM ns id.toNat) (id.toNat + 1)
theorem tcone_loop0 {H0 H : AHeap} {g : Nat} {most : Int} {ns : List Nd} {o1 o2 o3 : Nat} (t : TG H0 g most ns o1 o2 o3) (kok : Kok ns) {e : Env} {r : Rn} (hL : loopL Try.prog KT R Zb7 e H = r)
    (k0 : Keeps H0 H) (z : H0.size < H.size) {n len : Nat} {v : List Bool} (hl : v.length = len) (hn : n < len) (hnk : n ≤ ns.length) (hv : H.obj H0.size = .cells (v.map .bool))
    (e0 : e 0 = some (.ptr g 0)) (e5 : e 5 = some (.row H0.size 0 1 len true)) (e6 : e 6 = some (.int .i64 0)) (e7 : e 7 = some (.int .i64 n)) :
    ∃ x e' H', r = some (x, e', H') ∧ (x = .exit 0 ∧ Keeps H0 H' ∧ H0.size < H'.size ∧ H'.obj H0.size = .cells ((markT ns n v).map .bool) ∧ ∃ c : Nat, c ≤ n ∧ e' 6 = some (.int .i64 c)) ∧ ∀ t, t ∉ defs Zb7 → e' t = e t := by
  have lim := t.lim
  have lim2 := t.lim2
  refine loop_rule Zb7.eq_1 hL (fun i e1 H1 => ∃ v1 : List Bool, ∃ c : Nat, i < len ∧ i ≤ ns.length ∧ v1.length = len ∧ e1 7 = some (.int .i64 i) ∧ e1 6 = some (.int .i64 c) ∧ c + i ≤ n ∧ Keeps H0 H1 ∧ H0.size < H1.size ∧ H1.obj H0.size = .cells (v1.map .bool) ∧ markT ns i v1 = markT ns n v) _ n ⟨v, 0, hn, hnk, hl, e7, e6, by omega, k0, z, hv, rfl⟩ ?_
  rintro i e1 H1 hf ⟨v1, c, hi, hik, hl1, f7, f6, hci, k1, z1, ho, hmk⟩
  cases i with
  | zero =>
    simp [f7]
    exact ⟨k1, z1, by rw [ho, ← hmk]; rfl, c, by omega, f6⟩
  | succ i =>
    have hik' : i < ns.length := hik
    have hne : ns ≠ [] := by rintro rfl; simp at hik'
    obtain ⟨m, hm⟩ : ∃ m, ns[i]? = some m := ⟨ns[i], List.getElem?_eq_getElem hik'⟩
    have hg : ns.getD i Nd.zero = m := by simp [List.getD_eq_getElem?_getD, hm]
    obtain ⟨⟨a0, a1⟩, ⟨b0, b1⟩, ⟨d0, d1⟩⟩ := kok i m hm
    have hself : ∀ H', Keeps H0 H' → H'.obj g = .cells [.int .i64 most, .row o1 0 11 ns.length false, .map o2, .map o3] := fun H' k => ((k.obj g t.lg).trans t.og).trans (by rw [slv_row hik'])
    have hb1 : ∀ H2, Keeps H0 H2 → H2.obj o1 = .cells (flat ns) := fun H2 k => (k.obj _ (t.l1 hne)).trans (t.b1 hne)
    have hat := flat_at hm
    have hfl := flat_len ns
    have hle2 : i * 11 + 11 ≤ ns.length * 11 := by omega
    have w1 : IntKind.i64.wrap (i : Int) = (i : Int) := i64w (by omega) (by omega)
    have w2 : IntKind.i64.wrap ((c : Int) + 1) = (c : Int) + 1 := i64w (by omega) (by omega)
    have z2 : H0.size ≤ H1.size := Nat.le_of_lt z1
    have c1 : ¬ ((i : Int) + 1 ≤ 0) := by omega
    have c2 : (i : Int) + 1 < len := by omega
    have c3 : (i : Int) < ns.length := by omega
    have t1 : ((i : Int) + 1).toNat = i + 1 := by omega
    have p1 : (0 : Int) < (i : Int) + 1 := by omega
    have mk := marks_at (v := v1) (j := i + 1) (by omega)
    rw [markT] at hmk
    cases hx : v1.getD (i + 1) false with
    | false =>
      rw [hx] at mk
      rw [mark1T, hx] at hmk
      simp (maxDischargeDepth := 20) [hf, f6, f7, e5, w1, z1, k1, c2, t1, p1, ho, mk]
      exact ⟨i, by omega, by omega, by omega, v1, hl1, rfl, c, rfl, by omega, rfl, by simpa using hmk⟩
    | true =>
      rw [hx] at mk
      rw [mark1T, hx, hg] at hmk
      obtain ⟨op, sort, a, b, d, p, q, vw, vl, vh, name⟩ := m
      simp only at a0 a1 b0 b1 d0 d1 hmk
      simp only [Nd.cs] at hat
      obtain ⟨a, rfl⟩ := Int.eq_ofNat_of_zero_le a0
      obtain ⟨b, rfl⟩ := Int.eq_ofNat_of_zero_le b0
      obtain ⟨d, rfl⟩ := Int.eq_ofNat_of_zero_le d0
      have q4 : (a : Int) < (len : Int) := by omega
      have q5 : (b : Int) < (len : Int) := by omega
      have q6 : (d : Int) < (len : Int) := by omega
      have q7 : a < v1.length := by omega
      have q8 : b < v1.length := by omega
      have q9 : d < v1.length := by omega
      have n4 : a < len := by omega
      have n5 : b < len := by omega
      have n6 : d < len := by omega
      simp (maxDischargeDepth := 20) [-List.map_set, hf, f6, f7, e0, e5, hself, hb1, hat, hfl, hle2, w1, w2, z1, z2, k1, c2, c3, t1, p1, ho, mk, q4, q5, q6, n4, n5, n6, marks_set, hl1]
      exact ⟨i, by omega, by omega, by omega, _, by simp [hl1], rfl, c + 1, by omega, by omega, rfl, by simpa using hmk⟩
theorem OutT.push2 {H0 H : AHeap} {v : AV} {l : List Int} (h : OutT H0 H v l) (hob : ∀ p, p ∈ objs v → H0.size < p) (k : Keeps H0 H) (z : H0.size < H.size) {a : Int} (hl : l.length ≤ 1000000) {r : Option (AV × AHeap)}
    (hA : appU (H.new (.cells [.int .i64 a])) v (.row H.size 0 1 1 true) (some (1, 8, [.int .i64 0])) = r) :
    ∃ v' H', r = some (v', H') ∧ OutT H0 H' v' (l ++ [a]) ∧ Keeps H0 H' ∧ (∀ p, p ∈ objs v' → H0.size < p) ∧ H0.size < H'.size ∧ H'.obj H0.size = H.obj H0.size := by
  obtain ⟨H1, rfl, f1, s1, o1, rd⟩ := app_of hA (h.rd.keep (by simp)) h.gr (Reads.row' (all := [.int .i64 a]) (by simp) (by simp) (by simp)) (by omega) rfl (by omega) (by omega) (by omega) (by simp)
  simp only [new_size] at s1
  have := k.size
  refine ⟨_, H1, rfl, ⟨by simpa [RI] using rd, by simp, by simp; omega⟩, f1.keeps (by simp [k]) (fun p hp => h.new p hp), by simp; omega, by omega, ?_⟩
  rw [f1.obj _ (by simp; omega) (fun hh => by have := hob _ hh; omega)]
  simp
  intro e; omega
theorem tcone_loop1 {H0 : AHeap} {len : Nat} {v : List Bool} (hlv : v.length = len) (h1 : 1 ≤ len) (hm : len ≤ 1000000)
    {e : Env} {H : AHeap} {r : Rn} (hL : loopL Try.prog KT R Zb8 e H = r) (k0 : Keeps H0 H) (z : H0.size < H.size) (hv : H.obj H0.size = .cells (v.map .bool)) {w0 : AV} (hw0 : OutT H0 H w0 []) (hw1 : ∀ p, p ∈ objs w0 → H0.size < p)
    (e1' : e 1 = some (.int .i64 ((len : Int) - 1))) (e5 : e 5 = some (.row H0.size 0 1 len true)) (e9 : e 9 = some w0) (e10 : e 10 = some (.int .i64 1)) :
    ∃ x e' H', r = some (x, e', H') ∧ (x = .exit 2 ∧ Keeps H0 H' ∧ ∃ w, e' 9 = some w ∧ OutT H0 H' w (outT v len)) ∧ ∀ t, t ∉ defs Zb8 → e' t = e t := by
  refine loop_count Zb8.eq_1 hL len (fun i e1 H1 => ∃ w, e1 9 = some w ∧ e1 10 = some (.int .i64 i) ∧ Keeps H0 H1 ∧ H0.size < H1.size ∧ H1.obj H0.size = .cells (v.map .bool) ∧ (∀ p, p ∈ objs w → H0.size < p) ∧ OutT H0 H1 w (outT v i)) _ 1 h1
    ⟨w0, e9, e10, k0, z, hv, hw1, by rw [outT_one]; exact hw0⟩ ?_ ?_
  · rintro i e1 H1 hf hi1 hi ⟨w, f9, f10, k1, z1, ho, hob, hout⟩
    have w1 : IntKind.i64.wrap ((i : Int) + 1) = (i : Int) + 1 := i64w (by omega) (by omega)
    have c2 : (i : Int) < len := by omega
    have c3 : (i : Int) ≤ (len : Int) - 1 := by omega
    have c4 : ¬ (len : Int) - 1 < (i : Int) := by omega
    have mk := marks_at (v := v) (j := i) (by omega)
    have hlo := outT_len v i
    rw [outT_succ v hi1]
    cases hx : v.getD i false with
    | false =>
      rw [hx] at mk
      simp (maxDischargeDepth := 20) [hf, f9, f10, e1', e5, c2, c3, w1, ho, mk, k1, z1]
      exact ⟨hob, hout⟩
    | true =>
      rw [hx] at mk
      simp (maxDischargeDepth := 20) [hf, f9, f10, e1', e5, c2, c3, ho, mk]
      generalize hA : appU _ _ _ _ = q
      obtain ⟨w', H2, rfl, h2, k2, b2, z2, o2⟩ := hout.push2 hob k1 z1 (by omega) hA
      simp [f10, w1, k2, z2, o2, ho]
      exact ⟨b2, h2⟩
  · rintro e1 H1 hf ⟨w, f9, f10, k1, z1, ho, hob, hout⟩
    have c3 : ¬ (len : Int) ≤ (len : Int) - 1 := by omega
    have c4 : (len : Int) - 1 < (len : Int) := by omega
    simp [hf, e1', f9, f10, c3]
    exact ⟨k1, hout⟩
end Go.Proofs.Ytiobohfiaapgeaa
end
section
namespace Go.Proofs.Ytiobohfiaapgeaa
set_option maxRecDepth 100000
def kidIn (m : Nd) (i : Nat) : Bool := decide (i = m.a.toNat) || (decide (i = m.b.toNat) || decide (i = m.c.toNat))
def mk1P (ns : List Nd) (n : Nat) (f : Nat → Bool) (i : Nat) : Bool := f i || (f (n + 1) && kidIn (ns.getD n Nd.zero) i)
def mkP (ns : List Nd) : Nat → (Nat → Bool) → Nat → Bool
  | 0, f => f
  | n + 1, f => mkP ns n (mk1P ns n f)
theorem set_getD {v : List Bool} {j i : Nat} (hi : i < v.length) : (v.set j true).getD i false = (v.getD i false || decide (i = j)) := by
  rw [List.getD_eq_getElem?_getD, List.getD_eq_getElem?_getD, List.getElem?_set]
  by_cases h : j = i
  · subst h; simp [hi]
  · have : ¬ i = j := fun e => h e.symm
    simp [h, this]
theorem mark1T_at {ns : List Nd} {n i : Nat} {v : List Bool} (hi : i < v.length) : (mark1T ns n v).getD i false = (v.getD i false || (v.getD (n + 1) false && kidIn (ns.getD n Nd.zero) i)) := by
  unfold mark1T kidIn
  split
  · rename_i h
    rw [set_getD (by simpa using hi), set_getD (by simpa using hi), set_getD hi, h, Bool.true_and, Bool.or_assoc, Bool.or_assoc]
  · rename_i h
    rw [Bool.eq_false_iff.2 h, Bool.false_and, Bool.or_false]
theorem markT_at {ns : List Nd} : ∀ {n : Nat} {v : List Bool} {f : Nat → Bool}, n < v.length → (∀ i, i < v.length → v.getD i false = f i) → ∀ i, i < v.length → (markT ns n v).getD i false = mkP ns n f i
  | 0, v, f, _, h, i, hi => h i hi
  | n + 1, v, f, hn, h, i, hi => by
    rw [markT, mkP]
    refine markT_at (by rw [mark1T_len]; omega) (fun j hj => ?_) i (by rw [mark1T_len]; exact hi)
    rw [mark1T_len] at hj
    rw [mark1T_at hj, mk1P, h j hj, h (n + 1) hn]
theorem mkP_or {ns : List Nd} : ∀ {n : Nat} {f g : Nat → Bool}, mkP ns n (fun i => f i || g i) = fun i => mkP ns n f i || mkP ns n g i
  | 0, _, _ => rfl
  | n + 1, f, g => by
    have : mk1P ns n (fun i => f i || g i) = fun i => mk1P ns n f i || mk1P ns n g i := by
      funext i
      simp only [mk1P]
      cases f i <;> cases g i <;> cases f (n + 1) <;> cases g (n + 1) <;> cases kidIn (ns.getD n Nd.zero) i <;> rfl
    rw [mkP, this, mkP_or]; rfl
theorem mkP_skip {ns : List Nd} {a : Nat} {f : Nat → Bool} : ∀ {n : Nat}, a ≤ n → (∀ j, a < j → j ≤ n → f j = false) → mkP ns n f = mkP ns a f
  | 0, h, _ => by have : a = 0 := by omega
                  rw [this]
  | n + 1, h, hf => by
    by_cases e : a = n + 1
    · rw [e]
    · have : mk1P ns n f = f := by funext i; unfold mk1P; rw [hf (n + 1) (by omega) (Nat.le_refl _)]; simp
      rw [mkP, this]
      exact mkP_skip (by omega) fun j h1 h2 => hf j h1 (by omega)
def cP (ns : List Nd) (n : Nat) : Nat → Bool := mkP ns n fun i => decide (i = n)
theorem cP_zero (ns : List Nd) (i : Nat) : cP ns 0 i = decide (i = 0) := rfl
theorem cP_succ {ns : List Nd} {n : Nat} {m : Nd} (hm : ns[n]? = some m) (ha : m.a.toNat ≤ n) (hb : m.b.toNat ≤ n) (hc : m.c.toNat ≤ n) (i : Nat) : cP ns (n + 1) i = (decide (i = n + 1) || (cP ns m.a.toNat i || (cP ns m.b.toNat i || cP ns m.c.toNat i))) := by
  have hg : ns.getD n Nd.zero = m := by simp [List.getD_eq_getElem?_getD, hm]
  have e1 : mk1P ns n (fun i => decide (i = n + 1)) = fun i => decide (i = n + 1) || (decide (i = m.a.toNat) || (decide (i = m.b.toNat) || decide (i = m.c.toNat))) := by
    funext i
    unfold mk1P kidIn
    rw [hg]; simp
  have e2 : mkP ns n (fun i => decide (i = n + 1)) = fun i => decide (i = n + 1) := mkP_skip (a := 0) (by omega) fun j h1 h2 => by simp; omega
  have K : ∀ k, k ≤ n → mkP ns n (fun i => decide (i = k)) = cP ns k := fun k hk => mkP_skip hk fun j h1 h2 => by simp; omega
  show mkP ns n (mk1P ns n fun i => decide (i = n + 1)) i = _
  rw [e1, mkP_or, mkP_or, mkP_or, e2, K _ ha, K _ hb, K _ hc]
theorem cP_high {ns : List Nd} (kok : Kok ns) : ∀ (n : Nat), n ≤ ns.length → ∀ i, n < i → cP ns n i = false := by
  intro n
  induction n using Nat.strongRecOn with
  | ind n ih =>
    intro hn i hi
    cases n with
    | zero => rw [cP_zero]; simp; omega
    | succ n =>
      obtain ⟨m, hm⟩ : ∃ m, ns[n]? = some m := ⟨ns[n], List.getElem?_eq_getElem hn⟩
      obtain ⟨⟨a0, a1⟩, ⟨b0, b1⟩, ⟨d0, d1⟩⟩ := kok n m hm
      rw [cP_succ hm (by omega) (by omega) (by omega), ih m.a.toNat (by omega) (by omega) i (by omega), ih m.b.toNat (by omega) (by omega) i (by omega), ih m.c.toNat (by omega) (by omega) i (by omega)]
      simp; omega
theorem coneM_at {ns : List Nd} {n i : Nat} (hi : i ≤ n) : (coneM ns n).getD i false = cP ns n i := by
  unfold coneM cP
  refine markT_at (by simp) (fun j hj => ?_) i (by simp; omega)
  rw [set_getD (by simpa using hj)]
  have : (List.replicate (n + 1) false).getD j false = false := by
    rw [List.getD_eq_getElem?_getD]; simp [List.getElem?_replicate]; split <;> rfl
  rw [this]; simp
theorem mem_outT {v : List Bool} {i j : Nat} : (j : Int) ∈ outT v i ↔ 1 ≤ j ∧ j < i ∧ v.getD j false = true := by
  unfold outT
  simp only [List.mem_map, List.mem_filter, List.mem_range, Bool.and_eq_true, decide_eq_true_eq]
  constructor
  · rintro ⟨k, ⟨h1, h2, h3⟩, h4⟩
    have : k = j := by omega
    subst this
    exact ⟨h2, h1, h3⟩
  · rintro ⟨h1, h2, h3⟩
    exact ⟨j, ⟨h2, h1, h3⟩, rfl⟩
theorem mem_cone {ns : List Nd} (kok : Kok ns) {a : Int} (h0 : 0 ≤ a) (h1 : a ≤ ns.length) {j : Nat} (hj : 1 ≤ j) : (j : Int) ∈ coneT ns a ↔ cP ns a.toNat j = true := by
  obtain ⟨n, rfl⟩ := Int.eq_ofNat_of_zero_le h0
  have hn : n ≤ ns.length := by omega
  simp only [Int.toNat_natCast]
  unfold coneT
  by_cases c : n = 0
  · subst c
    rw [if_pos (.inl (by simp)), cP_zero]
    simp; omega
  · rw [if_neg (by omega), Int.toNat_natCast, mem_outT]
    constructor
    · rintro ⟨-, h2, h3⟩
      rwa [coneM_at (by omega)] at h3
    · intro h
      by_cases c2 : j ≤ n
      · exact ⟨hj, by omega, by rw [coneM_at c2]; exact h⟩
      · rw [cP_high kok n hn j (by omega)] at h; cases h
theorem cone_mem {ns : List Nd} {a x : Int} (h : x ∈ coneT ns a) : ∃ j : Nat, x = j ∧ 1 ≤ j ∧ j ≤ ns.length := by
  unfold coneT at h
  split at h
  · cases h
  · rename_i c
    unfold outT at h
    simp only [List.mem_map, List.mem_filter, List.mem_range, Bool.and_eq_true, decide_eq_true_eq] at h
    obtain ⟨k, ⟨h1, h2, -⟩, rfl⟩ := h
    exact ⟨k, rfl, h2, by omega⟩
end Go.Proofs.Ytiobohfiaapgeaa
end
section
namespace Go.Proofs.Ytiobohfiaapgeaa
set_option maxRecDepth 100000
set_option maxHeartbeats 2000000
structure Gok (ns : List Nd) : Prop where
  kok : Kok ns
  vok : Vok ns
  form : ∀ n, n ∈ ns → formedF ns.length n = true
  srt : ∀ n, n ∈ ns → sortedF ns n = (n, 0)
  uniq : ∀ i n, ns[i]? = some n → n.op = 2 → vidx ns n.name = some i
theorem Gok.nil : Gok [] := ⟨fun i n h => by simp at h, fun n h => by simp at h, fun n h => by simp at h, fun n h => by simp at h, fun i n h => by simp at h⟩
theorem vidx_more' {ns : List Nd} {M : Nd} {i : Nat} {s : ByteArray} (h : vidx ns s = some i) : vidx (ns ++ [M]) s = some i := vidx_more h
theorem sorted_self {ns : List Nd} {n M : Nd} (h : sortedF ns n = (M, 0)) : sortedF ns M = (M, 0) ∧ ∀ N, formedF N M = formedF N n := by
  by_cases c1 : n.op = 1
  · have : (sortedF ns n).1 = n := by unfold sortedF; rw [if_pos c1]
    have e : M = n := by rw [h] at this; exact this
    subst e
    exact ⟨h, fun _ => rfl⟩
  by_cases c2 : n.op = 2
  · have : (sortedF ns n).1 = n := by unfold sortedF; rw [if_neg c1, if_pos c2]
    have e : M = n := by rw [h] at this; exact this
    subst e
    exact ⟨h, fun _ => rfl⟩
  · unfold sortedF at h
    rw [if_neg c1, if_neg c2] at h
    have e := congrArg Prod.fst h
    have e2 := congrArg Prod.snd h
    simp only at e e2
    subst e
    refine ⟨?_, fun _ => rfl⟩
    unfold sortedF
    simp only [c1, c2, if_false]
    rw [e2]
theorem sorted_zero {ns : List Nd} {n : Nd} (h : (sortedF ns n).2 = 0) : sortedF ns n = ((sortedF ns n).1, 0) := by rw [← h]
theorem Gok.make {most : Int} {ns : List Nd} {n : Nd} (g : Gok ns) : Gok (makT most ns n).1 := by
  unfold makT
  split
  · exact g
  rename_i h1
  split
  · exact g
  rename_i h2
  have hf : formedF ns.length n = true := by simpa using h1
  have hs : (sortedF ns n).2 = 0 := by simpa using h2
  split
  · exact g
  rename_i hi
  split
  · exact g
  have hss := sorted_zero hs
  generalize hM : (sortedF ns n).1 = M at *
  obtain ⟨s1, s2⟩ := sorted_self hss
  have fM : formedF ns.length M = true := by rw [s2]; exact hf
  obtain ⟨k1, k2, k3⟩ := formed_kids fM
  obtain ⟨k4, k5, k6⟩ := formed_kids0 fM
  have ho := sorted_op hss
  have hv2 : M.op = 2 → vidx ns M.name = none ∧ M = n ∧ M = ⟨2, M.sort, 0, 0, 0, 0, 0, 0, 0#64, 0#64, M.name⟩ := fun h => by
    have e := ho.2 (ho.1 ▸ h)
    have := var_new g.vok hf (ho.1 ▸ h) hs (by rw [hM]; exact hi)
    rw [← e] at this
    exact ⟨this.1, e, this.2.2⟩
  refine ⟨g.kok.grow ⟨⟨k4, k1⟩, ⟨k5, k2⟩, ⟨k6, k3⟩⟩, ?_, ?_, ?_, ?_⟩
  · intro m hm hm2
    rcases List.mem_append.1 hm with h | h
    · exact g.vok m h hm2
    · simp at h
      subst h
      exact (hv2 hm2).2.2
  · intro m hm
    rcases List.mem_append.1 hm with h | h
    · exact formed_more (by rw [List.length_append]; omega) (g.form m h)
    · simp at h
      subst h
      exact formed_more (by rw [List.length_append]; omega) fM
  · intro m hm
    rcases List.mem_append.1 hm with h | h
    · exact sorted_more (g.form m h) (g.srt m h) fun h2 => vidx_of_mem h h2
    · simp at h
      subst h
      by_cases c2 : m.op = 2
      · obtain ⟨v1, v2, v3⟩ := hv2 c2
        have c1 : ¬ m.op = 1 := by omega
        unfold sortedF at s1 ⊢
        rw [if_neg c1, if_pos c2] at s1 ⊢
        have e2 := congrArg Prod.snd s1
        simp only at e2
        split at e2
        rotate_left
        · cases e2
        rename_i hc
        rw [if_pos hc]
        cases hb : nameBad ns m with
        | true => rw [hb] at e2; cases e2
        | false =>
          unfold nameBad at hb ⊢
          rw [v1] at hb
          rw [vidx_append, v1]
          simp only [Bool.or_eq_false_iff] at hb
          simp [c2, hb.1]
      · exact sorted_more fM s1 fun h2 => absurd h2 c2
  · intro i m hm hm2
    by_cases c : i < ns.length
    · rw [List.getElem?_append_left c] at hm
      exact vidx_more' (g.uniq i m hm hm2)
    · have hl := (List.getElem?_eq_some_iff.1 hm).1
      rw [List.length_append, List.length_singleton] at hl
      have e : i = ns.length := by omega
      subst e
      rw [List.getElem?_append_right (Nat.le_refl _), Nat.sub_self] at hm
      simp at hm
      subst hm
      rw [vidx_append, (hv2 hm2).1]
      simp [hm2]
def Nd.v (n : Nd) : Vl := ⟨n.vw, mkN n.vl n.vh⟩
def pick (acc : List Vl) (k : Int) : Vl := if k ≤ 0 then Vl.zero else acc.getD (k - 1).toNat Vl.zero
def kidsV (acc : List Vl) (n : Nd) : List Vl := [pick acc n.a, pick acc n.b, pick acc n.c].take (arity n.op).toNat
def nodeV (look : ByteArray → Option Vl) (acc : List Vl) (n : Nd) : Vl :=
  if n.op = 1 then n.v else if n.op = 2 then (look n.name).getD Vl.zero else meanV n.op n.p n.q (kidsV acc n)
def valsV (look : ByteArray → Option Vl) (ns : List Nd) : List Vl := ns.foldl (fun acc n => acc ++ [nodeV look acc n]) []
theorem valsV_append (look : ByteArray → Option Vl) (ns : List Nd) (n : Nd) : valsV look (ns ++ [n]) = valsV look ns ++ [nodeV look (valsV look ns) n] := by simp [valsV]
theorem valsV_more (look : ByteArray → Option Vl) (ns : List Nd) : ∀ ks : List Nd, ∃ t, valsV look (ns ++ ks) = valsV look ns ++ t := by
  intro ks
  induction ks generalizing ns with
  | nil => exact ⟨[], by simp⟩
  | cons k ks ih =>
    obtain ⟨t, ht⟩ := ih (ns ++ [k])
    rw [List.append_assoc] at ht
    exact ⟨_, by rw [show ns ++ k :: ks = ns ++ ([k] ++ ks) from rfl, ht, valsV_append, List.append_assoc]⟩
theorem valsV_len (look : ByteArray → Option Vl) : ∀ ns : List Nd, (valsV look ns).length = ns.length := by
  suffices h : ∀ (ns : List Nd) (acc : List Vl), (ns.foldl (fun acc n => acc ++ [nodeV look acc n]) acc).length = acc.length + ns.length from fun ns => by have := h ns []; simpa [valsV] using this
  intro ns
  induction ns with
  | nil => intro acc; rfl
  | cons n ns ih => intro acc; rw [List.foldl_cons, ih]; simp; omega
theorem pick_more {acc t : List Vl} {k : Int} (h : k ≤ acc.length) : pick (acc ++ t) k = pick acc k := by
  unfold pick
  split
  · rfl
  · rename_i c
    rw [List.getD_eq_getElem?_getD, List.getD_eq_getElem?_getD, List.getElem?_append_left (by omega)]
theorem nodeV_more {look : ByteArray → Option Vl} {acc t : List Vl} {n : Nd} (ha : n.a ≤ acc.length) (hb : n.b ≤ acc.length) (hc : n.c ≤ acc.length) : nodeV look (acc ++ t) n = nodeV look acc n ∧ kidsV (acc ++ t) n = kidsV acc n := by
  have : kidsV (acc ++ t) n = kidsV acc n := by unfold kidsV; rw [pick_more ha, pick_more hb, pick_more hc]
  exact ⟨by unfold nodeV; rw [this], this⟩
def V (look : ByteArray → Option Vl) (ns : List Nd) (k : Int) : Vl := pick (valsV look ns) k
theorem V_zero (look : ByteArray → Option Vl) (ns : List Nd) {k : Int} (h : k ≤ 0) : V look ns k = Vl.zero := by unfold V pick; rw [if_pos h]
theorem V_more {look : ByteArray → Option Vl} {ns ks : List Nd} {k : Int} (h : k ≤ ns.length) : V look (ns ++ ks) k = V look ns k := by
  obtain ⟨t, ht⟩ := valsV_more look ns ks
  unfold V
  rw [ht, pick_more (by rw [valsV_len]; exact h)]
theorem V_node {look : ByteArray → Option Vl} {ns : List Nd} (kok : Kok ns) {i : Nat} {n : Nd} (hn : ns[i]? = some n) : V look ns ((i : Int) + 1) = nodeV look (valsV look ns) n := by
  have hi := (List.getElem?_eq_some_iff.1 hn).1
  obtain ⟨⟨a0, a1⟩, ⟨b0, b1⟩, ⟨d0, d1⟩⟩ := kok i n hn
  have e : ns = ns.take i ++ ([n] ++ ns.drop (i + 1)) := by
    rw [← List.append_assoc]
    have : ns.take i ++ [n] = ns.take (i + 1) := by rw [List.take_add_one, hn]; rfl
    rw [this, List.take_append_drop]
  have hl : (ns.take i).length = i := by simp; omega
  obtain ⟨t, ht⟩ := valsV_more look (ns.take i) ([n] ++ ns.drop (i + 1))
  have e1 : valsV look ns = valsV look (ns.take i) ++ t := by rw [← ht, ← e]
  have hvl : (valsV look (ns.take i)).length = i := by rw [valsV_len, hl]
  rw [e1, (nodeV_more (by rw [hvl]; exact a1) (by rw [hvl]; exact b1) (by rw [hvl]; exact d1)).1]
  obtain ⟨t2, ht2⟩ := valsV_more look (ns.take i ++ [n]) (ns.drop (i + 1))
  rw [List.append_assoc, ← e, valsV_append] at ht2
  unfold V pick
  rw [if_neg (by omega), ht2, show ((i : Int) + 1 - 1).toNat = i from by omega, List.getD_eq_getElem?_getD, List.getElem?_append_left (by simp; omega), List.getElem?_append_right (by omega), hvl, Nat.sub_self]
  rfl
def varFit (look : ByteArray → Option Vl) (n : Nd) : Bool := match look n.name with
  | some v => v.ok && decide (v.w = n.sort)
  | none => false
def Cl (ns : List Nd) (S : Nat → Prop) : Prop := ∀ i n, S i → ns[i]? = some n → ∀ k, (k = n.a ∨ k = n.b ∨ k = n.c) → 0 < k → S (k - 1).toNat
theorem ksort_pos {ns : List Nd} {k : Int} (h : 0 < k) {m : Nd} (hm : ns[(k - 1).toNat]? = some m) : ksort ns k = [m.sort] := by
  unfold ksort
  rw [if_pos h, List.getD_eq_getElem?_getD, hm]; rfl
theorem ksort_none {ns : List Nd} {k : Int} (h : k = 0) : ksort ns k = [] := by unfold ksort; rw [if_neg (by omega)]
theorem kids_list {ns : List Nd} {n : Nd} (hf : formedF ns.length n = true) (h3 : ¬ n.op = 1) (h2 : ¬ n.op = 2) (acc : List Vl) (hk : ∀ k, (k = n.a ∨ k = n.b ∨ k = n.c) → 0 < k → ∃ m, ns[(k - 1).toNat]? = some m ∧ (pick acc k).ok = true ∧ (pick acc k).w = m.sort) :
    (kidsV acc n).map Vl.w = ksort ns n.a ++ ksort ns n.b ++ ksort ns n.c ∧ ∀ v, v ∈ kidsV acc n → v.ok = true := by
  unfold formedF at hf
  simp only [kidsOK, Bool.and_eq_true, decide_eq_true_eq] at hf
  obtain ⟨⟨f1, f2, f3, -⟩, ⟨f4, -⟩, -⟩ := hf
  have K : ∀ k : Int, (k = n.a ∨ k = n.b ∨ k = n.c) → 1 ≤ k → ksort ns k = [(pick acc k).w] ∧ (pick acc k).ok = true := fun k h1 h2 => by
    obtain ⟨m, m1, m2, m3⟩ := hk k h1 (by omega)
    exact ⟨by rw [ksort_pos (by omega) m1, m3], m2⟩
  have har : arity n.op = 1 ∨ arity n.op = 2 ∨ arity n.op = 3 := by
    have h0 := arity_le n.op
    have : ¬ arity n.op = 0 := by
      unfold arity
      split
      · omega
      · split
        · omega
        · split
          · omega
          · split <;> omega
    omega
  unfold kidOK at f1 f2 f3
  unfold kidsV
  rcases har with h | h | h <;> rw [h] at f1 f2 f3 ⊢ <;> simp at f1 f2 f3
  · obtain ⟨q1, q2⟩ := K n.a (.inl rfl) f1.1
    rw [q1, ksort_none f2, ksort_none f3]
    simp [q2]
  · obtain ⟨q1, q2⟩ := K n.a (.inl rfl) f1.1
    obtain ⟨q3, q4⟩ := K n.b (.inr (.inl rfl)) f2.1
    rw [q1, q3, ksort_none f3]
    simp [q2, q4]
  · obtain ⟨q1, q2⟩ := K n.a (.inl rfl) f1.1
    obtain ⟨q3, q4⟩ := K n.b (.inr (.inl rfl)) f2.1
    obtain ⟨q5, q6⟩ := K n.c (.inr (.inr rfl)) f3.1
    rw [q1, q3, q5]
    simp [q2, q4, q6]
theorem val_good {look : ByteArray → Option Vl} {ns : List Nd} (g : Gok ns) {S : Nat → Prop} (hc : Cl ns S) (hv : ∀ i n, S i → ns[i]? = some n → n.op = 2 → varFit look n = true) : ∀ (i : Nat) (n : Nd), S i → ns[i]? = some n →
    (V look ns ((i : Int) + 1)).ok = true ∧ (V look ns ((i : Int) + 1)).w = n.sort ∧ (¬ n.op = 1 → ¬ n.op = 2 → Fit n.op n.p n.q (kidsV (valsV look ns) n) n.sort ∧ applyS n.op n.p n.q (kidsV (valsV look ns) n) = (V look ns ((i : Int) + 1), 0)) := by
  intro i
  induction i using Nat.strongRecOn with
  | ind i ih =>
    intro n hS hn
    obtain ⟨⟨a0, a1⟩, ⟨b0, b1⟩, ⟨d0, d1⟩⟩ := g.kok i n hn
    have hmem : n ∈ ns := List.mem_of_getElem? hn
    have hi := (List.getElem?_eq_some_iff.1 hn).1
    have hs := g.srt n hmem
    rw [V_node g.kok hn]
    by_cases c1 : n.op = 1
    · have e : nodeV look (valsV look ns) n = n.v := by unfold nodeV; rw [if_pos c1]
      rw [e]
      unfold sortedF at hs
      rw [if_pos c1] at hs
      have h2 := congrArg Prod.snd hs
      simp only at h2
      split at h2
      rotate_left
      · cases h2
      rename_i hc
      refine ⟨?_, hc.2.1, fun h => absurd c1 h⟩
      unfold Vl.ok Nd.v
      simp only
      rw [lo_mk, hi_mk]; exact hc.1
    by_cases c2 : n.op = 2
    · have e : nodeV look (valsV look ns) n = (look n.name).getD Vl.zero := by unfold nodeV; rw [if_neg c1, if_pos c2]
      rw [e]
      have hf := hv i n hS hn c2
      unfold varFit at hf
      split at hf
      · rename_i v hv
        rw [hv]
        simp at hf
        exact ⟨hf.1, hf.2, fun _ h => absurd c2 h⟩
      · cases hf
    · have hk := kids_list (g.form n hmem) c1 c2 (valsV look ns) fun k h1 h2 => by
        have hkl : k ≤ i := by rcases h1 with rfl | rfl | rfl <;> assumption
        have hlt : (k - 1).toNat < ns.length := by omega
        obtain ⟨m, hm⟩ : ∃ m, ns[(k - 1).toNat]? = some m := ⟨ns[(k - 1).toNat], List.getElem?_eq_getElem hlt⟩
        obtain ⟨g1, g2, -⟩ := ih (k - 1).toNat (by omega) m (hc i n hS hn k h1 h2) hm
        have e : (((k - 1).toNat : Int) + 1) = k := by omega
        rw [e] at g1 g2
        exact ⟨m, hm, g1, g2⟩
      have e : nodeV look (valsV look ns) n = meanV n.op n.p n.q (kidsV (valsV look ns) n) := by unfold nodeV; rw [if_neg c1, if_neg c2]
      unfold sortedF at hs
      rw [if_neg c1, if_neg c2, ← hk.1] at hs
      have h1 := congrArg (fun x => x.1.sort) hs
      have h2 := congrArg Prod.snd hs
      simp only at h1 h2
      have hfit : Fit n.op n.p n.q (kidsV (valsV look ns) n) n.sort := fit_of (by rw [← h1, ← h2]) hk.2
      rw [e]
      refine ⟨hfit.good.1, hfit.good.2, fun _ _ => ⟨hfit, ?_⟩⟩
      unfold applyS
      rw [sorts_ok hk.2, h2, if_pos rfl]
theorem cP_self {ns : List Nd} (kok : Kok ns) : ∀ n, n ≤ ns.length → cP ns n n = true := by
  intro n hn
  cases n with
  | zero => rfl
  | succ n =>
    obtain ⟨m, hm⟩ : ∃ m, ns[n]? = some m := ⟨ns[n], List.getElem?_eq_getElem hn⟩
    obtain ⟨⟨a0, a1⟩, ⟨b0, b1⟩, ⟨d0, d1⟩⟩ := kok n m hm
    rw [cP_succ hm (by omega) (by omega) (by omega)]
    simp
theorem cP_kids {ns : List Nd} (kok : Kok ns) : ∀ n, n ≤ ns.length → ∀ j m, cP ns n (j + 1) = true → ns[j]? = some m → ∀ k, (k = m.a.toNat ∨ k = m.b.toNat ∨ k = m.c.toNat) → cP ns n k = true := by
  intro n
  induction n using Nat.strongRecOn with
  | ind n ih =>
    intro hn j m hj hm k hk
    cases n with
    | zero => rw [cP_zero] at hj; simp at hj
    | succ n =>
      obtain ⟨m', hm'⟩ : ∃ m, ns[n]? = some m := ⟨ns[n], List.getElem?_eq_getElem hn⟩
      obtain ⟨⟨a0, a1⟩, ⟨b0, b1⟩, ⟨d0, d1⟩⟩ := kok n m' hm'
      rw [cP_succ hm' (by omega) (by omega) (by omega)] at hj ⊢
      simp only [Bool.or_eq_true, decide_eq_true_eq] at hj ⊢
      rcases hj with h | h | h | h
      · have : j = n := by omega
        subst this
        rw [hm] at hm'
        cases hm'
        rcases hk with rfl | rfl | rfl
        · exact .inr (.inl (cP_self kok _ (by omega)))
        · exact .inr (.inr (.inl (cP_self kok _ (by omega))))
        · exact .inr (.inr (.inr (cP_self kok _ (by omega))))
      · exact .inr (.inl (ih _ (by omega) (by omega) j m h hm k hk))
      · exact .inr (.inr (.inl (ih _ (by omega) (by omega) j m h hm k hk)))
      · exact .inr (.inr (.inr (ih _ (by omega) (by omega) j m h hm k hk)))
theorem cone_rises (ns : List Nd) (a : Int) : (coneT ns a).Pairwise (· < ·) := by
  unfold coneT
  split
  · exact .nil
  · unfold outT
    rw [List.pairwise_map]
    refine List.Pairwise.imp (R := fun (a b : Nat) => a < b) (fun h => by omega) ?_
    exact List.Pairwise.filter _ List.pairwise_lt_range
def unfit (look : ByteArray → Option Vl) (ns : List Nd) (x : Int) : Bool := decide ((ns.getD (x - 1).toNat Nd.zero).op = 2) && !varFit look (ns.getD (x - 1).toNat Nd.zero)
def worthS (look : ByteArray → Option Vl) (ns : List Nd) (id : Int) : Vl × Int :=
  if id < 1 ∨ (ns.length : Int) < id then (Vl.zero, 40) else if (coneT ns id).any (unfit look ns) = true then (Vl.zero, 41) else (V look ns id, 0)
end Go.Proofs.Ytiobohfiaapgeaa
end
section
namespace Go.Proofs.Ytiobohfiaapgeaa
set_option maxRecDepth 100000
def ndF (ns : List Nd) (id : Int) : Nd := (nodeS ns id).getD Nd.zero
def nodeO (op a b c p q : Int) : Nd := ⟨op, 0, a, b, c, p, q, 0, 0#64, 0#64, .empty⟩
def constN (v : Vl) : Nd := ⟨1, v.w, 0, 0, 0, 0, 0, v.w, lo v.n, hi v.n, .empty⟩
def conF (ns : List Nd) (id : Int) : Option Vl := if (ndF ns id).op = 1 then some (ndF ns id).v else none
def isF (ns : List Nd) (id : Int) (k : BitVec 64) : Bool := match conF ns id with
  | some v => decide (0 < v.w) && decide (lo v.n = k) && decide (hi v.n = 0#64)
  | none => false
def consF (ns : List Nd) : List Int → Option (List Vl)
  | [] => some []
  | k :: ks => match conF ns k with
    | none => none
    | some v => (consF ns ks).map (v :: ·)
def foldF (ns : List Nd) (n : Nd) : Option Vl := match consF ns ([n.a, n.b, n.c].take (arity n.op).toNat) with
  | none => none
  | some l => if (applyS n.op n.p n.q l).2 = 0 then some (applyS n.op n.p n.q l).1 else none
inductive Ch where
  | at (k : Int)
  | con (v : Vl)
  | mk
  | again (n : Nd)
  | shl (x : Int) (v : Vl)
def sliceF (ns : List Nd) (n k : Nd) : Ch :=
  if k.op = 39 then .again (nodeO 39 k.a 0 0 (n.p + k.q) (n.q + k.q))
  else if k.op = 38 then
    (if (ndF ns k.b).sort ≤ n.q then .again (nodeO 39 k.a 0 0 (n.p - (ndF ns k.b).sort) (n.q - (ndF ns k.b).sort))
    else if n.p < (ndF ns k.b).sort then .again (nodeO 39 k.b 0 0 n.p n.q) else .mk)
  else if k.op = 40 ∨ k.op = 41 then (if n.p < (ndF ns k.a).sort then .again (nodeO 39 k.a 0 0 n.p n.q) else .mk)
  else .mk
def unC (ns : List Nd) (n : Nd) : Ch := match foldF ns n with
  | some v => .con v
  | none =>
    let k := ndF ns n.a
    if (n.op = 3 ∨ n.op = 10 ∨ n.op = 11) ∧ k.op = n.op then .at k.a
    else if n.op = 39 ∧ n.q = 0 ∧ n.p = k.sort - 1 then .at n.a
    else if (n.op = 40 ∨ n.op = 41) ∧ n.p = 0 then .at n.a
    else if (n.op = 42 ∨ n.op = 43) ∧ n.p.tmod k.sort = 0 then .at n.a
    else if n.op = 44 ∧ n.p = 1 then .at n.a
    else if n.op = 39 then sliceF ns n k
    else .mk
def iteC (ns : List Nd) (n : Nd) : Ch :=
  if n.b = n.c then .at n.b else match conF ns n.a with
  | some v => if lo v.n = 1#64 then .at n.b else .at n.c
  | none => .mk
def logicC (op : Int) (v : Vl) (a b : Int) : Option Ch :=
  if 0 < v.w then none
  else if op = 4 then some (if v.yes = true then .at b else .at a)
  else if op = 5 then some (if v.yes = true then .at a else .at b)
  else if op = 7 then some (if v.yes = true then .at b else .con (Vl.bool true))
  else if op = 6 then some (if v.yes = true then .again (nodeO 3 b 0 0 0 0) else .at b)
  else some (if v.yes = true then .at b else .again (nodeO 3 b 0 0 0 0))
def logicF (ns : List Nd) (n : Nd) : Option Ch :=
  if n.op < 4 ∨ 8 < n.op then none else match conF ns n.a with
  | some v => logicC n.op v n.a n.b
  | none => if n.op = 7 then none else match conF ns n.b with
    | some v => logicC n.op v n.b n.a
    | none => none
def powF (v : Vl) : Option Nat := (List.range v.w.toNat).find? fun i => decide (v.n = (1#128 <<< i))
def doubleF (ns : List Nd) (n : Nd) : Ch := match (conF ns n.b).bind powF with
  | some i => .shl n.a ⟨((conF ns n.b).getD Vl.zero).w, BitVec.ofNat 128 i⟩
  | none => match (conF ns n.a).bind powF with
    | some i => .shl n.b ⟨((conF ns n.a).getD Vl.zero).w, BitVec.ofNat 128 i⟩
    | none => .mk
def besideF (ns : List Nd) (n : Nd) : Ch :=
  if (n.op = 12 ∨ n.op = 20) ∧ (isF ns n.a 0#64 = true ∨ isF ns n.b 0#64 = true) ∨ (n.op = 26 ∨ n.op = 27 ∨ n.op = 28) ∧ isF ns n.a 0#64 = true then .con ⟨(ndF ns n.a).sort, 0#128⟩
  else if (n.op = 13 ∨ n.op = 14 ∨ n.op = 18 ∨ n.op = 19 ∨ n.op = 26 ∨ n.op = 27 ∨ n.op = 28) ∧ isF ns n.b 0#64 = true ∨ (n.op = 20 ∨ n.op = 21) ∧ isF ns n.b 1#64 = true then .at n.a
  else if (n.op = 13 ∨ n.op = 14 ∨ n.op = 18) ∧ isF ns n.a 0#64 = true ∨ n.op = 20 ∧ isF ns n.a 1#64 = true then .at n.b
  else if n.op = 20 then doubleF ns n
  else .mk
def binC (ns : List Nd) (n : Nd) : Ch := match foldF ns n with
  | some v => .con v
  | none =>
    if n.a = n.b ∧ (n.op = 4 ∨ n.op = 5 ∨ n.op = 12 ∨ n.op = 13) then .at n.a
    else if n.a = n.b ∧ (n.op = 6 ∨ n.op = 29 ∨ n.op = 31 ∨ n.op = 33 ∨ n.op = 35 ∨ n.op = 14 ∨ n.op = 19) then .con (if n.op = 14 ∨ n.op = 19 then ⟨(ndF ns n.a).sort, 0#128⟩ else Vl.bool false)
    else if n.a = n.b ∧ (n.op = 8 ∨ n.op = 30 ∨ n.op = 32 ∨ n.op = 34 ∨ n.op = 36 ∨ n.op = 7) then .con (Vl.bool true)
    else match logicF ns n with
      | some c => c
      | none => besideF ns n
def pathF (ns : List Nd) (n : Nd) : Ch :=
  if arity n.op = 0 then .mk else if arity n.op = 1 then unC ns n else if arity n.op = 3 then iteC ns n else binC ns n
def normF (most : Int) : Nat → List Nd → Nd → List Nd × Int × Int
  | 0, ns, _ => (ns, 0, -1)
  | f + 1, ns, n => match pathF ns n with
    | .at k => (ns, k, 0)
    | .con v => makT most ns (constN v)
    | .mk => makT most ns n
    | .again m => normF most f ns m
    | .shl x v => if (makT most ns (constN v)).2.2 = 0 then normF most f (makT most ns (constN v)).1 (nodeO 26 x (makT most ns (constN v)).2.1 0 0 0) else ((makT most ns (constN v)).1, 0, (makT most ns (constN v)).2.2)
end Go.Proofs.Ytiobohfiaapgeaa
end
section
namespace Go.Proofs.Ytiobohfiaapgeaa
set_option maxRecDepth 100000
set_option maxHeartbeats 1000000
theorem of_eq {n m : Nat} {x : BitVec n} {y : BitVec m} (h : n = m) (hb : ∀ i, i < m → x.getLsbD i = y.getLsbD i) : Vl.of x = Vl.of y := by
  subst h
  rw [BitVec.eq_of_getLsbD_eq hb]
theorem of_inj {n : Nat} (hn : n ≤ 128) {x y : BitVec n} (h : Vl.of x = Vl.of y) : x = y := by
  have : E x = E y := by
    have := congrArg Vl.n h
    exact this
  exact E_inj hn this
theorem v_not2 {p q p' q' : Int} (a : Bool) : meanV 3 p q [meanV 3 p' q' [Vl.bool a]] = Vl.bool a := by cases a <;> rfl
theorem v_bvnot2 {p q p' q' : Int} {n : Nat} (hn : n ≤ 128) (x : BitVec n) : meanV 10 p q [meanV 10 p' q' [Vl.of x]] = Vl.of x := by
  rw [mean_not hn, mean_not hn, BitVec.not_not]
theorem v_neg2 {p q p' q' : Int} {n : Nat} (hn : n ≤ 128) (x : BitVec n) : meanV 11 p q [meanV 11 p' q' [Vl.of x]] = Vl.of x := by
  rw [mean_neg hn, mean_neg hn, BitVec.neg_neg]
theorem v_extract_all {n : Nat} (h1 : 1 ≤ n) (hn : n ≤ 128) (x : BitVec n) : meanV 39 ((n : Int) - 1) 0 [Vl.of x] = Vl.of x := by
  have := mean_extract (i := n - 1) (j := 0) hn (by omega) x
  rw [show ((n - 1 : Nat) : Int) = (n : Int) - 1 by omega] at this
  rw [show (0 : Int) = ((0 : Nat) : Int) from rfl, this]
  refine of_eq (by omega) fun i hi => ?_
  rw [BitVec.getLsbD_setWidth, BitVec.getLsbD_ushiftRight, E_bit hn]
  have h3 : i < n - 1 - 0 + 1 := by omega
  rw [decide_eq_true h3]
  simp
theorem v_zext0 {q : Int} {n : Nat} (hn : n ≤ 128) (x : BitVec n) : meanV 40 0 q [Vl.of x] = Vl.of x := by
  rw [show (0 : Int) = ((0 : Nat) : Int) from rfl, mean_zext hn]
  refine of_eq (by omega) fun i hi => ?_
  rw [BitVec.getLsbD_setWidth, E_bit hn]
  simp [hi]
theorem v_sext0 {q : Int} {n : Nat} (hn : n ≤ 128) (x : BitVec n) : meanV 41 0 q [Vl.of x] = Vl.of x := by
  rw [show (0 : Int) = ((0 : Nat) : Int) from rfl, mean_sext hn]
  refine of_eq (by omega) fun i hi => ?_
  rw [BitVec.getLsbD_setWidth]
  have h2 : i < n + 0 := by omega
  split
  · rw [BitVec.getLsbD_or, E_bit hn, BitVec.getLsbD_not, maskN_bit n i hn]
    simp [hi]
  · rw [E_bit hn]; simp [hi]
theorem rot0 {n : Nat} (hn : n ≤ 128) (x : BitVec n) : rotV x 0 = x := by
  unfold rotV
  apply BitVec.eq_of_getLsbD_eq
  intro i hi
  rw [BitVec.getLsbD_setWidth, BitVec.getLsbD_or, BitVec.getLsbD_shiftLeft, BitVec.getLsbD_ushiftRight, E_bit hn, E_bit hn]
  have h1 : x.getLsbD (n - 0 + i) = false := BitVec.getLsbD_of_ge _ _ (by omega)
  have h2 : i < 128 := by omega
  rw [h1]
  simp [hi, h2]
theorem v_rotl0 {q : Int} {n k : Nat} (hn : n ≤ 128) (h : k % n = 0) (x : BitVec n) : meanV 42 k q [Vl.of x] = Vl.of x := by rw [mean_rotl hn, h, rot0 hn]
theorem v_rotr0 {q : Int} {n k : Nat} (hn : n ≤ 128) (h : k % n = 0) (x : BitVec n) : meanV 43 k q [Vl.of x] = Vl.of x := by rw [mean_rotr hn, h, Nat.sub_zero, Nat.mod_self, rot0 hn]
theorem v_rep1 {q : Int} {n : Nat} (h1 : 1 ≤ n) (hn : n ≤ 128) (x : BitVec n) : meanV 44 1 q [Vl.of x] = Vl.of x := by
  rw [show (1 : Int) = ((1 : Nat) : Int) from rfl, mean_rep hn]
  unfold repB
  refine of_eq (by omega) fun i hi => ?_
  rw [BitVec.getLsbD_setWidth, rpt_bit (by omega) x 1 (by omega)]
  have h2 : i < n * 1 := by omega
  rw [decide_eq_true h2, Nat.mod_eq_of_lt hi]
  simp
theorem v_ext_ext {n i j i2 j2 : Nat} (hn : n ≤ 128) (h2 : j2 ≤ i2) (hi2 : i2 < n) (hj : j ≤ i) (hi : i < i2 - j2 + 1) (x : BitVec n) : meanV 39 i j [meanV 39 i2 j2 [Vl.of x]] = meanV 39 ((i : Int) + j2) ((j : Int) + j2) [Vl.of x] := by
  rw [mean_extract hn h2, mean_extract (by omega) hj, show (i : Int) + j2 = ((i + j2 : Nat) : Int) by omega, show (j : Int) + j2 = ((j + j2 : Nat) : Int) by omega, mean_extract hn (by omega)]
  refine of_eq (by omega) fun t ht => ?_
  rw [BitVec.getLsbD_setWidth, BitVec.getLsbD_ushiftRight, E_bit (by omega), BitVec.getLsbD_setWidth, BitVec.getLsbD_ushiftRight, E_bit hn, BitVec.getLsbD_setWidth, BitVec.getLsbD_ushiftRight, E_bit hn]
  have a1 : t < i - j + 1 := by omega
  have a2 : j + t < i2 - j2 + 1 := by omega
  have a3 : t < i + j2 - (j + j2) + 1 := by omega
  have a4 : j2 + (j + t) = j + j2 + t := by omega
  simp [a1, a2, a3, a4]
theorem v_ext_high {n m i j : Nat} (hnm : n + m ≤ 128) (hj : j ≤ i) (hi : i < n + m) (hm : m ≤ j) {p q : Int} (x : BitVec n) (y : BitVec m) : meanV 39 i j [meanV 38 p q [Vl.of x, Vl.of y]] = meanV 39 ((i : Int) - m) ((j : Int) - m) [Vl.of x] := by
  rw [mean_concat (by omega) (by omega), mean_extract (by omega) hj, show (i : Int) - m = ((i - m : Nat) : Int) by omega, show (j : Int) - m = ((j - m : Nat) : Int) by omega, mean_extract (by omega) (by omega)]
  refine of_eq (by omega) fun t ht => ?_
  rw [BitVec.getLsbD_setWidth, BitVec.getLsbD_ushiftRight, E_bit (by omega), BitVec.getLsbD_setWidth, BitVec.getLsbD_or, BitVec.getLsbD_shiftLeft, E_bit (by omega), E_bit (by omega), BitVec.getLsbD_setWidth, BitVec.getLsbD_ushiftRight, E_bit (by omega)]
  have a1 : t < i - j + 1 := by omega
  have a2 : j + t < n + m := by omega
  have a3 : t < i - m - (j - m) + 1 := by omega
  have a4 : j + t - m = j - m + t := by omega
  have a5 : y.getLsbD (j + t) = false := BitVec.getLsbD_of_ge _ _ (by omega)
  have a6 : j + t < 128 := by omega
  have a7 : ¬ j + t < m := by omega
  simp [a1, a2, a3, a4, a5, a6, a7]
theorem v_ext_low {n m i j : Nat} (hnm : n + m ≤ 128) (hj : j ≤ i) (hi : i < m) {p q : Int} (x : BitVec n) (y : BitVec m) : meanV 39 i j [meanV 38 p q [Vl.of x, Vl.of y]] = meanV 39 i j [Vl.of y] := by
  rw [mean_concat (by omega) (by omega), mean_extract (by omega) hj, mean_extract (by omega) hj]
  refine of_eq rfl fun t ht => ?_
  rw [BitVec.getLsbD_setWidth, BitVec.getLsbD_ushiftRight, E_bit (by omega), BitVec.getLsbD_setWidth, BitVec.getLsbD_or, BitVec.getLsbD_shiftLeft, E_bit (by omega), E_bit (by omega), BitVec.getLsbD_setWidth, BitVec.getLsbD_ushiftRight, E_bit (by omega)]
  have a2 : j + t < n + m := by omega
  have a7 : j + t < m := by omega
  simp [ht, a2, a7]
theorem v_ext_zext {n k i j : Nat} (hn : n + k ≤ 128) (hj : j ≤ i) (hi : i < n) {q : Int} (x : BitVec n) : meanV 39 i j [meanV 40 k q [Vl.of x]] = meanV 39 i j [Vl.of x] := by
  rw [mean_zext (by omega), mean_extract (by omega) hj, mean_extract (by omega) hj]
  refine of_eq rfl fun t ht => ?_
  rw [BitVec.getLsbD_setWidth, BitVec.getLsbD_ushiftRight, E_bit (by omega), BitVec.getLsbD_setWidth, E_bit (by omega), BitVec.getLsbD_setWidth, BitVec.getLsbD_ushiftRight, E_bit (by omega)]
  have a2 : j + t < n + k := by omega
  simp [ht, a2]
theorem v_ext_sext {n k i j : Nat} (hn : n + k ≤ 128) (hj : j ≤ i) (hi : i < n) {q : Int} (x : BitVec n) : meanV 39 i j [meanV 41 k q [Vl.of x]] = meanV 39 i j [Vl.of x] := by
  rw [mean_sext (by omega), mean_extract (by omega) hj, mean_extract (by omega) hj]
  refine of_eq rfl fun t ht => ?_
  rw [BitVec.getLsbD_setWidth, BitVec.getLsbD_ushiftRight, E_bit (by omega), BitVec.getLsbD_setWidth, BitVec.getLsbD_setWidth, BitVec.getLsbD_ushiftRight, E_bit (by omega)]
  have a2 : j + t < n + k := by omega
  have a3 : j + t < n := by omega
  split
  · rw [BitVec.getLsbD_or, E_bit (by omega), BitVec.getLsbD_not, maskN_bit n _ (by omega)]
    simp [ht, a2, a3]
  · rw [E_bit (by omega)]; simp [ht, a2]
theorem w_same {n : Nat} {op : Int} (h : op = 12 ∨ op = 13) (x : BitVec n) : wordV op x x = x := by
  rcases h with rfl | rfl <;> simp [wordV]
theorem w_none {n : Nat} {op : Int} (h : op = 14 ∨ op = 19) (x : BitVec n) : wordV op x x = 0#n := by
  rcases h with rfl | rfl <;> simp [wordV]
theorem w_zero {n : Nat} {op : Int} (h : op = 12 ∨ op = 20) (x : BitVec n) : wordV op x (0#n) = 0#n ∧ wordV op (0#n) x = 0#n := by
  rcases h with rfl | rfl <;> simp [wordV]
theorem w_shift0 {n : Nat} {op : Int} (h : op = 26 ∨ op = 27 ∨ op = 28) (y : BitVec n) : wordV op (0#n) y = 0#n := by
  rcases h with rfl | rfl | rfl
  · simp [wordV]
  · simp [wordV]
  · simp only [wordV]
    simp
theorem w_right {n : Nat} (_h1 : 1 ≤ n) {op : Int} (h : op = 13 ∨ op = 14 ∨ op = 18 ∨ op = 19 ∨ op = 26 ∨ op = 27 ∨ op = 28) (x : BitVec n) : wordV op x (0#n) = x := by
  have hs : shN (0#n) = 0 := by unfold shN; simp
  rcases h with rfl | rfl | rfl | rfl | rfl | rfl | rfl <;> simp [wordV, hs]
theorem w_one {n : Nat} (h1 : 1 ≤ n) {op : Int} (h : op = 20 ∨ op = 21) (x : BitVec n) : wordV op x (1#n) = x := by
  rcases h with rfl | rfl
  · simp [wordV]
  · have h0 : ¬ (1#n = 0#n) := fun e => by
      have := congrArg BitVec.toNat e
      simp at this
      omega
    simp [wordV, qB, h0]
theorem w_left {n : Nat} {op : Int} (h : op = 13 ∨ op = 14 ∨ op = 18) (x : BitVec n) : wordV op (0#n) x = x := by
  rcases h with rfl | rfl | rfl <;> simp [wordV]
theorem w_double {n i : Nat} (hi : i < n) (x y : BitVec n) (hy : y = 1#n <<< i) : wordV 20 x y = wordV 26 x (BitVec.ofNat n i) ∧ wordV 20 y x = wordV 26 x (BitVec.ofNat n i) := by
  have hlt : i < 2 ^ n := Nat.lt_trans hi (Nat.lt_two_pow_self)
  have hs : shN (BitVec.ofNat n i) = i := by
    unfold shN
    rw [BitVec.toNat_ofNat, Nat.mod_eq_of_lt hlt, if_pos hi]
  have h : x * (1#n <<< i) = x <<< i := BitVec.mul_twoPow_eq_shiftLeft x i
  subst hy
  refine ⟨?_, ?_⟩
  · simp [wordV, hs, h]
  · simp only [wordV]
    rw [BitVec.mul_comm]
    simp [hs, h]
theorem c_same {n : Nat} (op : Int) (h1 : 29 ≤ op) (h2 : op ≤ 36) (x : BitVec n) : cmpF op x x = decide (op = 30 ∨ op = 32 ∨ op = 34 ∨ op = 36) := by
  have : op = 29 ∨ op = 30 ∨ op = 31 ∨ op = 32 ∨ op = 33 ∨ op = 34 ∨ op = 35 ∨ op = 36 := by omega
  rcases this with rfl | rfl | rfl | rfl | rfl | rfl | rfl | rfl <;> simp [cmpF, cmpN]
end Go.Proofs.Ytiobohfiaapgeaa
end
section
namespace Go.Proofs.Ytiobohfiaapgeaa
set_option maxRecDepth 100000
set_option maxHeartbeats 2000000
structure Nm where
  name : ByteArray
  v : Vl
def Nm.cs (n : Nm) : List AV := .str n.name :: n.v.cs
def flatN (l : List Nm) : List AV := l.flatMap Nm.cs
theorem flatN_at {l : List Nm} : ∀ {i : Nat} {v : Nm}, l[i]? = some v → ((flatN l).drop (i * 4)).take 4 = v.cs := by
  induction l with
  | nil => intro i v h; simp at h
  | cons x l ih =>
    intro i v h
    cases i with
    | zero => simp at h; subst h; simp [flatN, Nm.cs, Vl.cs]
    | succ i =>
      simp at h
      rw [show (i + 1) * 4 = i * 4 + 4 from by omega]
      simpa [flatN, Nm.cs, Vl.cs] using ih h
def RN (H : AHeap) (v : AV) (l : List Nm) : Prop := Reads H v 4 l.length (flatN l)
theorem RN.len {H : AHeap} {v : AV} {l : List Nm} (h : RN H v l) : sliceLen v = some l.length := Reads.len h
theorem RN.keep {H H' : AHeap} {v : AV} {l : List Nm} (h : RN H v l) (k : Keeps H H') : RN H' v l := Reads.keep h k
theorem RN.at {H : AHeap} {v : AV} {l : List Nm} (h : RN H v l) {i : Nat} {x : Nm} (hx : l[i]? = some x) : aindexAddr Try.prog Z1 v (i : Int) = some (ixp v 4 i) ∧ ∀ H', Keeps H H' → aload Try.prog H' Zbx (ixp v 4 i) = some (.agg [.str x.name, .int .i64 x.v.w, u (lo x.v.n), u (hi x.v.n)]) := by
  have hlt := (List.getElem?_eq_some_iff.1 hx).1
  refine ⟨Reads.addr h (by simp) hlt, fun H' k => ?_⟩
  rw [Reads.atN (Reads.keep h k) (by simp) hlt, flatN_at hx]
  rfl
def lookL (l : List Nm) (s : ByteArray) : Option Vl := (l.find? fun n => decide (n.name = s)).map Nm.v
theorem lookL_snoc (l : List Nm) (n : Nm) (s : ByteArray) : lookL (l ++ [n]) s = (lookL l s).or (if s = n.name then some n.v else none) := by
  unfold lookL
  rw [List.find?_append]
  cases h : l.find? (fun n => decide (n.name = s)) with
  | some x => simp
  | none =>
    by_cases c : n.name = s
    · simp [c]
    · have c' : ¬ s = n.name := fun e => c e.symm
      simp [c, c']
def EnvM (es : List AEnt) (look : ByteArray → Option Vl) : Prop := ∀ s, (findE (.str s) es).map (·.val) = (look s).map Vl.av
theorem EnvM.add {es : List AEnt} {l : List Nm} {n : Nm} {c : Nat} (h : EnvM es (lookL l)) (_hn : lookL l n.name = none) : EnvM (es ++ [⟨.str n.name, n.v.av, c⟩]) (lookL (l ++ [n])) := by
  intro s
  have h1 := h s
  have hk : keyEq (.str s) (.str n.name) = decide (s = n.name) := by simp [keyEq, scEq]
  rw [findE_append, lookL_snoc, hk]
  cases hf : findE (.str s) es <;> cases hl : lookL l s <;> rw [hf, hl] at h1 <;> first | (cases h1; done) | skip
  · by_cases e : s = n.name <;> simp [e]
  · simpa using h1
theorem EnvM.find {es : List AEnt} {look : ByteArray → Option Vl} (h : EnvM es look) {s : ByteArray} : (look s = none ∧ findE (.str s) es = none) ∨ ∃ v x, look s = some v ∧ findE (.str s) es = some x ∧ x.val = v.av := by
  have h1 := h s
  cases hf : findE (.str s) es <;> cases hl : look s <;> rw [hf, hl] at h1 <;> first | (cases h1; done) | skip
  · exact .inl ⟨rfl, rfl⟩
  · exact .inr ⟨_, _, rfl, rfl, by simpa using h1⟩
theorem known_loop {H0 H : AHeap} {s : AV} {l : List Nm} (hs : RN H0 s l) (hm : l.length ≤ 1000000) (k0 : Keeps H0 H) (z : H0.size < H.size) (ob : H.obj H0.size = .map (.one .s) [] 0)
    {e : Env} {r : Rn} (hL : loopL Try.prog KT R Zeu e H = r) (e3 : e 3 = some (.map H0.size)) (e9 : e 9 = some s) (e10 : e 10 = some (.int .i64 l.length)) (e11 : e 11 = some (.int .i64 0)) :
    ∃ y e' H', r = some (y, e', H') ∧ (y = .exit 0 ∧ Keeps H0 H' ∧ H0.size < H'.size ∧ ∃ es c, H'.obj H0.size = .map (.one .s) es c ∧ EnvM es (lookL l)) ∧ ∀ t, t ∉ defs Zeu → e' t = e t := by
  refine loop_count Zeu.eq_1 hL l.length (fun i e1 H1 => e1 11 = some (.int .i64 i) ∧ Keeps H0 H1 ∧ H0.size < H1.size ∧ ∃ es c, H1.obj H0.size = .map (.one .s) es c ∧ EnvM es (lookL (l.take i))) _ 0 (by omega) ⟨e11, k0, z, [], 0, ob, fun s => by simp [lookL, findE]⟩ ?_ ?_
  · rintro i f H1 hf - hlt ⟨f11, k, z1, es, c, o1, he⟩
    have w1 := i64w (n := (i : Int) + 1) (by omega) (by omega)
    have c1 : (i : Int) < l.length := by omega
    obtain ⟨v, hv⟩ : ∃ v, l[i]? = some v := ⟨l[i], by simp [hlt]⟩
    have ht : l.take (i + 1) = l.take i ++ [v] := by rw [List.take_add_one, hv]; rfl
    obtain ⟨x0, y0⟩ := hs.at hv
    have y1 := y0 H1 k
    have n1 : ¬ H0.size = H1.size := Nat.ne_of_lt z1
    have n2 : ¬ H1.size = H0.size := by omega
    have n3 : H0.size ≤ H1.size := by omega
    have n4 : ¬ H0.size = H1.size + 1 := by omega
    have n5 : ¬ H1.size + 1 = H0.size := by omega
    rw [ht]
    rcases he.find (s := v.name) with ⟨hl, hfe⟩ | ⟨w, x, hl, hfe, hx⟩
    · have ha := he.add (c := c) hl
      simp (maxDischargeDepth := 20) [hf, e3, e9, e10, f11, c1, x0, y1, o1, w1, n1, n3, n4, k, hfe]
      refine ⟨by omega, ha⟩
    · have ha : EnvM es (lookL (l.take i ++ [v])) := by
        intro s
        rw [lookL_snoc, he s]
        by_cases e : s = v.name
        · subst e; rw [hl]; rfl
        · simp [e]
      simp (maxDischargeDepth := 20) [hf, e3, e9, e10, f11, c1, x0, y1, o1, w1, n1, n3, n4, k, hfe, hx]
      refine ⟨by omega, ha⟩
  · rintro f H1 hf ⟨f11, k, z1, es, c, o1, he⟩
    rw [List.take_of_length_le (Nat.le_refl _)] at he
    simp [hf, e10, f11]
    exact ⟨k, z1, es, ⟨c, o1⟩, he⟩
theorem known_env {H : AHeap} {s : AV} {l : List Nm} (hs : RN H s l) (hm : l.length ≤ 1000000) : ∃ H' es c, R Zfj [s] H = some (.map H.size, H') ∧ Keeps H H' ∧ H.size < H'.size ∧ H'.obj H.size = .map (.one .s) es c ∧ EnvM es (lookL l) := by
  have hlen := hs.len
  rw [Zjs]
  simp (maxDischargeDepth := 40) [Zh3, hlen]
  generalize hL : loopL _ _ _ _ _ _ = y
  obtain ⟨y, e1, H1, rfl, ⟨rfl, k1, z1, es, c, ob, he⟩, fr⟩ := known_loop hs hm (by simp) (by simp) (by simp) hL (by simp) (by simp) (by simp) (by simp)
  simp [fr]
  refine ⟨H1, back_open ?_, k1, z1, es, ⟨c, ob⟩, he⟩
  simp [closed]
end Go.Proofs.Ytiobohfiaapgeaa
end
section
namespace Go.Proofs.Ytiobohfiaapgeaa
set_option maxRecDepth 100000
set_option maxHeartbeats 4000000
theorem loadi_of {H : AHeap} {v : AV} {l : List Int} (hv : Reads H v 1 l.length (l.map (.int .i64))) {i : Nat} (hi : i < l.length) : aindexAddr Try.prog Z0 v (i : Int) = some (ixp v 1 i) ∧ ∀ H', Keeps H H' → aload Try.prog H' Zd (ixp v 1 i) = some (.int .i64 (l.getD i 0)) := by
  refine ⟨hv.addr (by simp) hi, fun H' k => ?_⟩
  rw [(hv.keep k).at (by simp) rfl hi]
  simp [List.getD_eq_getElem?_getD, hi]
theorem TG.same {H H' : AHeap} {g : Nat} {most : Int} {ns : List Nd} {o1 o2 o3 : Nat} (h : TG H g most ns o1 o2 o3) (z : H.size ≤ H'.size) (k : ∀ p, p ∈ g :: o2 :: o3 :: objs (slv o1 ns) → H'.obj p = H.obj p) : TG H' g most ns o1 o2 o3 := by
  have k1 : ns ≠ [] → H'.obj o1 = H.obj o1 := fun e => k o1 (by
    unfold slv; rw [if_neg e]; simp)
  exact ⟨Nat.lt_of_lt_of_le h.lg z, fun e => Nat.lt_of_lt_of_le (h.l1 e) z, Nat.lt_of_lt_of_le h.l2 z, Nat.lt_of_lt_of_le h.l3 z, (k _ (by simp)).trans h.og, fun e => (k1 e).trans (h.b1 e), by rw [k o2 (by simp)]; exact h.b2, by rw [k o3 (by simp)]; exact h.b3, h.n1, h.n2, h.n3, h.n12, h.n13, h.n23, h.lim, h.lim2⟩
theorem GT.same {H H' : AHeap} {g : Nat} {most : Int} {ns : List Nd} {F : List Nat} (h : GT H g most ns F) (z : H.size ≤ H'.size) (k : ∀ p, p ∈ F → H'.obj p = H.obj p) : GT H' g most ns F := by
  obtain ⟨o1, o2, o3, t, v, kk, rfl⟩ := h
  exact ⟨o1, o2, o3, t.same z k, v, kk, rfl⟩
theorem GT.lt {H : AHeap} {g : Nat} {most : Int} {ns : List Nd} {F : List Nat} (h : GT H g most ns F) : ∀ p, p ∈ F → p < H.size := by
  obtain ⟨o1, o2, o3, t, v, kk, rfl⟩ := h
  intro p hp
  simp only [List.mem_cons] at hp
  rcases hp with rfl | rfl | rfl | hp
  · exact t.lg
  · exact t.l2
  · exact t.l3
  · unfold slv at hp
    split at hp
    · simp at hp
    · rename_i hne
      simp at hp
      subst hp
      exact t.l1 hne
theorem back_ints2 {H H' : AHeap} {w : AV} {l : List Int} (k : Keeps H H') (h : OutT H H' w l) : ∃ v, back [0] H w H' = (v, H) ∧ ∀ H2, RI H2 v l := by
  obtain ⟨rd, gr, new⟩ := h
  cases w <;> first | (exact gr.elim) | skip
  · have e : l = [] := by
      have := rd.len
      simp [sliceLen] at this
      cases l with
      | nil => rfl
      | cons a l => simp at this
    subst e
    refine ⟨.nils, ?_, fun _ => RI.nils⟩
    rw [back_cons (by simp [frz]) k.shut, cut_keeps k]
    simp [frz]
  · rename_i o off sz m full
    have rd' := rd
    obtain ⟨g1, g2, g3, g4⟩ := rd
    obtain ⟨rfl, g4⟩ := g4
    simp [sliceLen] at g1
    subst g1
    have ho : ¬ o < H.size := by have := new o (by simp); omega
    unfold sliceCells at g2
    simp only at g2
    split at g2 <;> first | (cases g2; done) | skip
    rename_i all hob
    split at g2 <;> first | (cases g2; done) | skip
    rename_i hle
    simp only [Option.some.injEq] at g2
    have hf : frz H' H.size [0] (.row o off 1 l.length full) = IL l := by
      rw [frz_row, if_neg ho, hob, frzO_cells, if_pos hle, g2, frz_nil', List.map_id]; rfl
    refine ⟨IL l, ?_, fun _ => RI.lst⟩
    rw [back_cons (by rw [hf]; unfold IL; simp only [closed]; rw [closedL_all, List.all_map, List.all_eq_true]; intro x _; rfl) k.shut, cut_keeps k, hf]
theorem cone_run2 {H : AHeap} {g : Nat} {most : Int} {ns : List Nd} {F : List Nat} (G : GT H g most ns F) {id : Int} : ∃ v, R Z4 [.ptr g 0, .int .i64 id] H = some (v, H) ∧ ∀ H', RI H' v (coneT ns id) := by
  obtain ⟨o1, o2, o3, t, v, kok, rfl⟩ := G
  rw [Zgr]
  have hlen := slv_len o1 ns
  have lim := t.lim
  have lim2 := t.lim2
  have og := t.og
  unfold coneT
  by_cases c1 : id < 1
  · rw [if_pos (.inl c1)]
    simp (maxDischargeDepth := 40) [Zcx, c1]
    exact fun _ => RI.nils
  by_cases c2 : (ns.length : Int) < id
  · rw [if_pos (.inr c2)]
    simp (maxDischargeDepth := 40) [Zcx, c1, c2, og, hlen]
    exact fun _ => RI.nils
  rw [if_neg (by omega)]
  obtain ⟨n, rfl⟩ : ∃ n : Nat, id = (n : Int) := ⟨id.toNat, by omega⟩
  have hnl : n ≤ ns.length := by omega
  have w1 : IntKind.i64.wrap ((n : Int) + 1) = (n : Int) + 1 := i64w (by omega) (by omega)
  have c3 : (n : Int) + 1 ≤ 140737488355328 := by omega
  have c4 : (n : Int) + 1 ≤ 9223372036854775807 := by omega
  have c5 : n < n + 1 := by omega
  have c6 : (n : Int) < (n : Int) + 1 := by omega
  have c7 : (0 : Int) ≤ (n : Int) + 1 := by omega
  simp (maxDischargeDepth := 40) [Zcx, c1, c2, og, hlen, w1, c3, c4, c5, c6, c7]
  generalize hL : loopL _ _ _ _ _ _ = q
  obtain ⟨x, e1, H1, rfl, ⟨rfl, k1, z1, ob1, c, hc, e6⟩, fr1⟩ := tcone_loop0 t kok hL (by simp) (by simp) (n := n) (v := (List.replicate (n + 1) false).set n true) (len := n + 1) (by simp) (by omega) hnl (by rw [List.map_set]; simp) (by simp) (by simp) (by simp) (by simp)
  have d1 : (c : Int) ≤ 140737488355328 := by omega
  have d2 : (c : Int) ≤ 9223372036854775807 := by omega
  have d3 : (c : Int) * 8 ≤ 140737488355328 := by omega
  simp (maxDischargeDepth := 40) [e6, d2, d3]
  generalize hL2 : loopL _ _ _ _ _ _ = q
  have K1 := k1.new' (.cells (List.replicate c (AV.int .i64 0)))
  obtain ⟨x, e2, H2, rfl, ⟨rfl, k2, w, e9, hout⟩, fr2⟩ := tcone_loop1 (v := markT ns n ((List.replicate (n + 1) false).set n true)) (len := n + 1) (by rw [markT_len]; simp) (by omega) (by omega) hL2 K1 (by simp; omega) (by simp [ob1, z1])
    (w0 := .row H1.size 0 1 0 (decide (0 = (c : Int)))) ⟨⟨rfl, by simp [sliceCells], rfl, ⟨rfl, by simp⟩⟩, by simp, by simp; omega⟩ (by simp; omega) (by simp [fr1]) (by simp [fr1]) (by simp) (by simp)
  simp (maxDischargeDepth := 40) [e9]
  exact back_ints2 k2 hout
end Go.Proofs.Ytiobohfiaapgeaa
end
