/- The document's own sets of literals: Set. -/
import Derived.Test.YtdbbkhmiflignaaCZ
namespace Go.Proofs.Ytdbbkhmiflignaa
set_option maxRecDepth 100000
set_option maxHeartbeats 1000000

/-- A row of numbers of one's own. -/
def OwnI (H0 H : AHeap) (v : AV) (out : List Int) : Prop := (out = [] ∧ v = .nils) ∨ ∃ o, v = .row o 0 1 out.length false ∧ H0.size ≤ o ∧ o < H.size ∧ H.obj o = .cells (out.map (.int .i64))
theorem OwnI.rd {H0 H : AHeap} {v : AV} {out : List Int} (h : OwnI H0 H v out) : Reads H v 1 out.length (out.map (.int .i64)) := by
  rcases h with ⟨rfl, rfl⟩ | ⟨o, rfl, h1, h2, h3⟩
  · exact Reads.nils
  · exact Reads.row' h2 h3 (by simp)
theorem OwnI.gr {H0 H : AHeap} {v : AV} {out : List Int} (h : OwnI H0 H v out) : grows v := by
  rcases h with ⟨rfl, rfl⟩ | ⟨o, rfl, h1, h2, h3⟩ <;> simp
theorem OwnI.new {H0 H : AHeap} {v : AV} {out : List Int} (h : OwnI H0 H v out) : ∀ p, p ∈ objs v → H0.size ≤ p := by
  rcases h with ⟨rfl, rfl⟩ | ⟨o, rfl, h1, h2, h3⟩ <;> simp
  exact h1
theorem set_loop {H0 : AHeap} {w : AV} {c : List Int} (hw : Reads H0 w 1 c.length (c.map (.int .i64))) (hl : c.length ≤ 100000) (hb : ∀ x, x ∈ c → x ≠ 0 ∧ -2147483647 ≤ x ∧ x ≤ 2147483647) {ev : Env} {r : Rn}
    (hL : loopL Go.Proofs.Try.prog KT R l_plaitref12_Set_0 ev H0 = r) (e0 : ev 0 = some w) (e4 : ev 4 = some .nils) (e5 : ev 5 = some (.int .i64 0)) :
    ∃ x e' H', r = some (x, e', H') ∧ (x = .exit 0 ∧ Keeps H0 H' ∧ ∃ v, e' 4 = some v ∧ OwnI H0 H' v (setF c)) ∧ ∀ t, t ∉ defs l_plaitref12_Set_0 → e' t = ev t := by
  refine loop_count l_plaitref12_Set_0.eq_1 hL c.length (fun i e1 H1 => e1 5 = some (.int .i64 i) ∧ Keeps H0 H1 ∧ ∃ v, e1 4 = some v ∧ OwnI H0 H1 v (setF (c.take i))) _ 0 (Nat.zero_le _) ⟨e5, Keeps.refl _, .nils, e4, .inl ⟨rfl, rfl⟩⟩ ?_ ?_
  · rintro i e1 H1 hf - hi ⟨f5, k1, v, f4, ho⟩
    have hw1 := hw.keep k1
    obtain ⟨a1, a2⟩ := loadi_of hw1 hi
    have a3 := a2 H1 (Keeps.refl _)
    have w1 : IntKind.i64.wrap ((i : Int) + 1) = (i : Int) + 1 := i64w (by omega) (by omega)
    have c1 : (i : Int) < c.length := by omega
    have ta : c.take (i + 1) = c.take i ++ [c.getD i 0] := by rw [List.take_add_one]; simp [List.getD_eq_getElem?_getD, hi]
    obtain ⟨x, hx⟩ : ∃ x, x = c.getD i 0 := ⟨_, rfl⟩
    have hm : x ∈ c := by rw [hx]; simp [List.getD_eq_getElem?_getD, hi]
    rw [ta, setF_snoc, ← hx]
    rw [← hx] at a3
    obtain ⟨b1, b2, b3⟩ := hb x hm
    obtain ⟨out, hout⟩ : ∃ out, out = setF (c.take i) := ⟨_, rfl⟩
    have hol : out.length ≤ 100000 := by
      have := setF_le (c.take i)
      rw [← hout] at this
      have : (c.take i).length ≤ i := by simp; omega
      omega
    rw [← hout] at ho ⊢
    have d1 : ¬ 2147483647 < x := by omega
    have d2 : ¬ x < -2147483647 := by omega
    simp (maxDischargeDepth := 40) [hf, f5, e0, hw.len, c1, a1, a3, b1, d1, d2]
    generalize hF : loopL _ _ _ _ _ _ = q
    obtain ⟨y, e2, H2, rfl, ⟨rfl, rfl, f6⟩, fr2⟩ := find_loop ho.rd hw1 (by omega) hi hF (by simp [hf, e0]) (by simp [f4]) (by simp [f5]) (by simp)
    rw [← hx] at f6
    have hpl := posF_le out x
    obtain ⟨k, hk⟩ : ∃ k, k = posF out x := ⟨_, rfl⟩
    have hadd : addS out x = if out[k]? = some x then out else out.take k ++ x :: out.drop k := by rw [hk]; rfl
    rw [← hk] at f6 hpl
    rw [hadd]
    have hrd := ho.rd
    by_cases hq : out[k]? = some x
    · obtain ⟨hk1, -⟩ := List.getElem?_eq_some_iff.1 hq
      obtain ⟨p1, p2⟩ := loadi_of hrd hk1
      have p3 := p2 H2 (Keeps.refl _)
      have hkx : out.getD k 0 = x := by simp [List.getD_eq_getElem?_getD, hq]
      rw [hkx] at p3
      have hk1' : (k : Int) < out.length := by omega
      rw [if_pos hq]
      simp (maxDischargeDepth := 40) [fr2, f6, f4, f5, hf, e0, hrd.len, hk1', p1, p3, a1, a3, w1]
      exact ⟨k1, ho⟩
    rw [if_neg hq]
    have w5 : IntKind.i64.wrap (out.length : Int) = out.length := i64w (by omega) (by omega)
    have w4 : IntKind.i64.wrap ((out.length : Int) + 1 - 1) = out.length := by rw [show (out.length : Int) + 1 - 1 = out.length by omega]; exact w5
    by_cases hk1 : k < out.length
    · obtain ⟨p1, p2⟩ := loadi_of hrd hk1
      have p3 := p2 H2 (Keeps.refl _)
      have hk1' : (k : Int) < out.length := by omega
      have hne : ¬ out.getD k 0 = x := by
        intro h
        apply hq
        rw [← h]
        simp [List.getD_eq_getElem?_getD, hk1]
      generalize out.getD k 0 = z at *
      simp (maxDischargeDepth := 40) [fr2, f6, f4, f5, hf, e0, hrd.len, hk1', p1, p3, a1, a3, hne]
      generalize hA : appU _ _ _ _ = q
      obtain ⟨H3, rfl, F3, s3, o3, rd3⟩ := app_of hA (hrd.keep (by simp)) ho.gr (Reads.row' (all := [.int .i64 0]) (by simp) (by simp) (by simp)) (by omega) rfl (by omega) (by omega) (by omega) (by simp)
      simp only [new_size] at s3 o3
      have k3 : Keeps H0 H3 := F3.keeps (k1.new' _) ho.new
      simp (maxDischargeDepth := 40) [w5]
      generalize hS : loopL _ _ _ _ _ _ = q
      obtain ⟨y2, e9, H4, rfl, ⟨rfl, F4, s4, yv, o4⟩, fr4⟩ := shift_loop (H := H3) (o := H2.size + 1) (out := out) (by omega) o3 (by omega) hpl hS (by simp) (by simp [f6]) (by simp)
      have z1 := k1.size
      have k4 : Keeps H0 H4 := F4.keeps k3 (by simp; omega)
      have a4 := (loadi_of hw hi).2 H4 k4
      rw [← hx] at a4
      have hkl : (k : Int) < (out.length : Int) + 1 := by omega
      have hset : ((out.take k).map (AV.int .i64) ++ yv :: (out.drop k).map (AV.int .i64)).set k (.int .i64 x) = (out.take k).map (AV.int .i64) ++ .int .i64 x :: (out.drop k).map (AV.int .i64) := by
        rw [List.set_append_right _ _ (by simp; omega), show k - ((out.take k).map (AV.int .i64)).length = 0 by simp; omega]
        rfl
      obtain ⟨L, hL'⟩ : ∃ L, L = (out.take k).map (AV.int .i64) ++ yv :: (out.drop k).map (AV.int .i64) := ⟨_, rfl⟩
      rw [← hL'] at o4 hset
      have hLl : k < L.length := by rw [hL']; simp; omega
      have a1' := (loadi_of hw hi).1
      simp (maxDischargeDepth := 40) [fr4, fr2, f6, f5, hf, e0, a1', a4, o4, hkl, hLl, hset, w1]
      refine ⟨k4.set (by omega) _, .inr ⟨H2.size + 1, ?_, by omega, by simp; omega, by simp⟩⟩
      simp
      omega
    · have hk1' : ¬ (k : Int) < out.length := by omega
      simp (maxDischargeDepth := 40) [fr2, f6, f4, hrd.len, hk1']
      generalize hA : appU _ _ _ _ = q
      obtain ⟨H3, rfl, F3, s3, o3, rd3⟩ := app_of hA (hrd.keep (by simp)) ho.gr (Reads.row' (all := [.int .i64 0]) (by simp) (by simp) (by simp)) (by omega) rfl (by omega) (by omega) (by omega) (by simp)
      simp only [new_size] at s3 o3
      have k3 : Keeps H0 H3 := F3.keeps (k1.new' _) ho.new
      simp (maxDischargeDepth := 40) [w5]
      generalize hS : loopL _ _ _ _ _ _ = q
      obtain ⟨y2, e9, H4, rfl, ⟨rfl, F4, s4, yv, o4⟩, fr4⟩ := shift_loop (H := H3) (o := H2.size + 1) (out := out) (by omega) o3 (by omega) hpl hS (by simp) (by simp [f6]) (by simp)
      have z1 := k1.size
      have k4 : Keeps H0 H4 := F4.keeps k3 (by simp; omega)
      have a4 := (loadi_of hw hi).2 H4 k4
      rw [← hx] at a4
      have hkl : (k : Int) < (out.length : Int) + 1 := by omega
      have hset : ((out.take k).map (AV.int .i64) ++ yv :: (out.drop k).map (AV.int .i64)).set k (.int .i64 x) = (out.take k).map (AV.int .i64) ++ .int .i64 x :: (out.drop k).map (AV.int .i64) := by
        rw [List.set_append_right _ _ (by simp; omega), show k - ((out.take k).map (AV.int .i64)).length = 0 by simp; omega]
        rfl
      obtain ⟨L, hL'⟩ : ∃ L, L = (out.take k).map (AV.int .i64) ++ yv :: (out.drop k).map (AV.int .i64) := ⟨_, rfl⟩
      rw [← hL'] at o4 hset
      have hLl : k < L.length := by rw [hL']; simp; omega
      have a1' := (loadi_of hw hi).1
      simp (maxDischargeDepth := 40) [fr4, fr2, f6, f5, hf, e0, a1', a4, o4, hkl, hLl, hset, w1]
      refine ⟨k4.set (by omega) _, .inr ⟨H2.size + 1, ?_, by omega, by simp; omega, by simp⟩⟩
      simp
      omega
  · rintro e1 H1 hf ⟨f5, k1, v, f4, ho⟩
    rw [List.take_of_length_le (Nat.le_refl _)] at ho
    simp [hf, f4, f5, e0, hw.len]
    exact ⟨k1, ho⟩
theorem set_run {H : AHeap} {w : AV} {c : List Int} (hw : Reads H w 1 c.length (c.map (.int .i64))) (hl : c.length ≤ 100000) (hc : c ≠ []) (hb : ∀ x, x ∈ c → x ≠ 0 ∧ -2147483647 ≤ x ∧ x ≤ 2147483647) {r : Option (AV × AHeap)} (h : R f_plaitref12_Set [w] H = r) :
    ∃ o H', r = some (.tup [.row o 0 1 (setF c).length false, .bool true], H') ∧ Keeps H H' ∧ H.size ≤ o ∧ o < H'.size ∧ H'.obj o = .cells ((setF c).map (.int .i64)) := by
  rw [e_plaitref12_Set] at h
  simp [c_plaitref12_Set] at h
  generalize hL : loopL _ _ _ _ _ _ = q at h
  obtain ⟨x, ev1, H1, rfl, ⟨rfl, k1, v, f4, ho⟩, fr1⟩ := set_loop hw hl hb hL (by simp) (by simp) (by simp)
  simp [f4] at h
  have hne : setF c ≠ [] := fun e => by
    obtain ⟨x, hx⟩ := List.exists_mem_of_ne_nil _ hc
    have := setF_mem.2 hx
    rw [e] at this
    cases this
  rcases ho with ⟨h1, -⟩ | ⟨o, rfl, h1, h2, h3⟩
  · exact absurd h1 hne
  · rw [back_open (by simp [closedL]; omega)] at h
    exact ⟨o, H1, h.symm, k1, h1, h2, h3⟩
end Go.Proofs.Ytdbbkhmiflignaa
