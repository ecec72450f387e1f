/- The statements' own helpers: lists copied and spoilt. -/
import Derived.Test.YtdbbkhmiflignaaCS
namespace Go.Proofs.Ytdbbkhmiflignaa
set_option maxRecDepth 100000

theorem copy_run {H : AHeap} {w : AV} {c : List Int} (hw : Reads H w 1 c.length (c.map (.int .i64))) (hc : c ≠ []) (hl : c.length ≤ 1000000) {r : Option (AV × AHeap)} (h : R f_plaithelp_CopyInts [w] H = r) :
    ∃ H', r = some (.row H.size 0 1 c.length false, H') ∧ Keeps H H' ∧ H'.size = H.size + 1 ∧ H'.obj H.size = .cells (c.map (.int .i64)) := by
  rw [e_plaithelp_CopyInts] at h
  simp [c_plaithelp_CopyInts] at h
  generalize hA : appU _ _ _ _ = q at h
  have hp : 0 < c.length := List.length_pos_iff.2 hc
  obtain ⟨H1, rfl, f1, s1, o1, rd⟩ := app_of hA Reads.nils (by simp) hw hp rfl (by omega) (by omega) (by omega) (ints_one c)
  simp at h
  rw [back_open (by simp)] at h
  subst h
  exact ⟨H1, by simp, f1.none, s1, by simpa using o1⟩
theorem CR.at {H : AHeap} {v : AV} {vs : List AV} {C : List (List Int)} (h : CR H v vs C) {i : Nat} (hi : i < C.length) : ∃ o f, vs[i]? = some (.row o 0 1 (C.getD i []).length f) ∧ o < H.size ∧ H.obj o = .cells ((C.getD i []).map (.int .i64)) ∧ o ∉ objs v := by
  have hi' : i < vs.length := by rw [h.len]; exact hi
  obtain ⟨o, f, h1, h2⟩ := h.row i _ _ (List.getElem?_eq_getElem hi') (List.getElem?_eq_getElem hi)
  have e : C.getD i [] = C[i] := by simp [List.getD_eq_getElem?_getD, hi]
  rw [e]
  exact ⟨o, f, by rw [List.getElem?_eq_getElem hi', h1], h2⟩
theorem CR.ldr {H : AHeap} {v : AV} {vs : List AV} {C : List (List Int)} (h : CR H v vs C) {i : Nat} (hi : i < C.length) : ∃ o f, aindexAddr Go.Proofs.Try.prog T_s_s_int v (i : Int) = some (ixp v 1 i) ∧ aload Go.Proofs.Try.prog H T_s_int (ixp v 1 i) = some (.row o 0 1 (C.getD i []).length f) ∧ o < H.size ∧ H.obj o = .cells ((C.getD i []).map (.int .i64)) ∧ o ∉ objs v ∧ o ∈ vs.flatMap objs := by
  obtain ⟨o, f, h1, h2, h3, h4⟩ := h.at hi
  refine ⟨o, f, h.rd.addr (by simp) hi, ?_, h2, h3, h4, List.mem_flatMap.2 ⟨_, List.mem_of_getElem? h1, by simp⟩⟩
  rw [h.rd.at (by simp) rfl hi, h1]
/-- Lists, told anew. -/
theorem copies_run {H : AHeap} {w : AV} {ws : List AV} {C : List (List Int)} (hw : CR H w ws C) (hne : ∀ c, c ∈ C → c ≠ [] ∧ c.length ≤ 1000000) (hl : C.length ≤ 1000000) {r : Option (AV × AHeap)} (h : R f_plaithelp_CopyLists [w] H = r) :
    ∃ v vs H', r = some (v, H') ∧ Keeps H H' ∧ CR H' v vs C ∧ ∀ p, p ∈ crO v vs → H.size ≤ p := by
  rw [e_plaithelp_CopyLists] at h
  simp [c_plaithelp_CopyLists] at h
  generalize hL : loopL _ _ _ _ _ _ = q at h
  obtain ⟨x, ev1, H1, rfl, ⟨rfl, k1, v, vs, f3, cr, new⟩, fr1⟩ : ∃ x e' H', q = some (x, e', H') ∧ (x = .exit 0 ∧ Keeps H H' ∧ ∃ v vs, e' 3 = some v ∧ CR H' v vs C ∧ ∀ p, p ∈ crO v vs → H.size ≤ p) ∧ ∀ t, t ∉ defs l_plaithelp_CopyLists_0 → e' t = _ := by
    refine loop_count l_plaithelp_CopyLists_0.eq_1 hL C.length (fun i e1 H1 => ∃ v vs, e1 3 = some v ∧ e1 4 = some (.int .i64 i) ∧ Keeps H H1 ∧ CR H1 v vs (C.take i) ∧ ∀ p, p ∈ crO v vs → H.size ≤ p) _ 0 (Nat.zero_le _) ⟨.nils, [], by simp, by simp, Keeps.refl _, by simpa using CR.nil, by simp [crO]⟩ ?_ ?_
    · rintro i e1 H1 hf - hi ⟨v, vs, f3, f4, k1, cr, new⟩
      have w1 : IntKind.i64.wrap ((i : Int) + 1) = (i : Int) + 1 := i64w (by omega) (by omega)
      have c1 : (i : Int) < C.length := by omega
      have ta : C.take (i + 1) = C.take i ++ [C.getD i []] := by rw [List.take_add_one]; simp [List.getD_eq_getElem?_getD, hi]
      obtain ⟨o, f, a1, a2, a3, a4, -, -⟩ := (hw.keeps k1).ldr hi
      have hmem : C.getD i [] ∈ C := by simp [List.getD_eq_getElem?_getD, hi]
      obtain ⟨n1, n2⟩ := hne _ hmem
      rw [ta]
      generalize C.getD i [] = c at *
      simp (maxDischargeDepth := 40) [hf, f3, f4, hw.rd.len, c1, a1, a2]
      generalize hA : R f_plaithelp_CopyInts _ _ = q
      obtain ⟨H2, rfl, k2, s2, o2⟩ := copy_run (c := c) (Reads.row' a3 a4 (by simp)) n1 n2 hA
      simp
      generalize hB : appU _ _ _ _ = q
      have htl : (C.take i).length = i := by simp; omega
      have hrd := cr.rd
      rw [htl] at hrd
      obtain ⟨H3, rfl, f5, s3, o3, rd⟩ := app_of hB (hrd.keep (k2.new' _)) cr.gr (Reads.row' (all := [.row H1.size 0 1 c.length false]) (by simp) (by simp) (by simp)) (by omega) rfl (by omega) (by omega) (by omega) (by simp)
      have z1 := k1.size
      have F3 : Fr (objs v) H1 H3 := ((k2.new' _).fr _).trans f5 fun p hp => .inl hp
      have hnv : ∀ p, p ∈ objs v → p < H1.size := fun p hp => cr.rd.lt hp
      simp [f4, w1]
      refine ⟨F3.keeps k1 fun p hp => new p (by simp [crO, hp]), vs ++ [.row H1.size 0 1 c.length false], ?_, fun p hp => ?_⟩
      · have F2 : Fr (objs v) H2 H3 := ((Keeps.new H2 _).fr _).trans f5 fun p hp => .inl hp
        refine CR.snoc (H := H2) (X := objs v) (o := H1.size) (f := false) (cr.keeps k2) F2 (fun p hp hq => ?_) (by simpa [htl] using rd) (by simp) rfl (by omega) ?_ (by simp)
        · obtain ⟨w', hw', hpw⟩ := List.mem_flatMap.1 hp
          obtain ⟨c', -, o', f', rfl, -, -, hno⟩ := cr.get hw'
          simp at hpw
          subst hpw; exact hno hq
        · rw [F2.obj _ (by omega) (fun h => by have := hnv _ h; omega)]; exact o2
      · unfold crO at hp
        simp only [List.flatMap_append, List.flatMap_cons, List.flatMap_nil, List.mem_append, objs_row, List.append_nil, List.mem_singleton] at hp
        rcases hp with rfl | hp | rfl
        · have := k2.size; simp; omega
        · exact new p (by unfold crO; exact List.mem_append_right _ hp)
        · exact z1
    · rintro e1 H1 hf ⟨v, vs, f3, f4, k1, cr, new⟩
      rw [List.take_of_length_le (Nat.le_refl _)] at cr
      simp [hf, f3, f4, hw.rd.len]
      exact ⟨k1, vs, cr, new⟩
  simp [f3] at h
  cases hgr : v <;> first | (exact absurd cr.gr (by rw [hgr]; exact fun h => h)) | skip
  · rw [hgr] at h cr new
    have hD : C = [] := by
      have := cr.rd.len
      simp [sliceLen] at this
      exact List.eq_nil_of_length_eq_zero this.symm
    subst hD
    rw [back_k (by simp) k1] at h
    exact ⟨_, [], _, h.symm, Keeps.refl _, CR.nil, by simp [crO]⟩
  · rename_i o off sz n f
    rw [hgr] at h cr new
    have := new o (by simp [crO])
    rw [back_open (by simp; omega)] at h
    exact ⟨_, vs, _, h.symm, k1, cr, new⟩
/-- A list is written over. -/
theorem spoil_run {H : AHeap} {o n : Nat} {f : Bool} {cs : List AV} (ho : o < H.size) (hob : H.obj o = .cells cs) (hn : cs.length = n) (hm : n ≤ 1000000) {r : Option (AV × AHeap)} (h : R f_plaithelp_Spoil [.row o 0 1 n f] H = r) :
    ∃ H' cs', r = some (.tup [], H') ∧ Fr [o] H H' ∧ H'.obj o = .cells cs' ∧ cs'.length = n := by
  rw [e_plaithelp_Spoil] at h
  simp [c_plaithelp_Spoil] at h
  generalize hL : loopL _ _ _ _ _ _ = q at h
  obtain ⟨x, ev1, H1, rfl, ⟨rfl, F1, cs1, o1, l1⟩, fr1⟩ : ∃ x e' H', q = some (x, e', H') ∧ (x = .exit 0 ∧ Fr [o] H H' ∧ ∃ cs', H'.obj o = .cells cs' ∧ cs'.length = n) ∧ ∀ t, t ∉ defs l_plaithelp_Spoil_0 → e' t = _ := by
    refine loop_count l_plaithelp_Spoil_0.eq_1 hL n (fun i e1 H1 => e1 2 = some (.int .i64 i) ∧ Fr [o] H H1 ∧ ∃ cs', H1.obj o = .cells cs' ∧ cs'.length = n) _ 0 (Nat.zero_le _) ⟨by simp, Fr.refl _ _, cs, hob, hn⟩ ?_ ?_
    · rintro i e1 H1 hf - hi ⟨f2, F1, cs1, o1, l1⟩
      have w1 : IntKind.i64.wrap ((i : Int) + 1) = (i : Int) + 1 := i64w (by omega) (by omega)
      have c1 : (i : Int) < n := by omega
      have c2 : i < cs1.length := by omega
      simp (maxDischargeDepth := 40) [hf, f2, c1, o1, c2, w1]
      exact ⟨F1.set (.inl (by simp)) _, l1⟩
    · rintro e1 H1 hf ⟨f2, F1, cs1, o1, l1⟩
      simp [hf, f2]
      exact ⟨F1, cs1, o1, l1⟩
  simp at h
  obtain ⟨K, hK, d1, d2⟩ := back_two (A := H) (B := H1) (v := .tup []) (by simp [closedL]) F1.size
  rw [hK] at h
  exact ⟨K, cs1, h.symm, F1.two d1 d2, by rw [(d2 o ho).1]; exact o1, l1⟩
end Go.Proofs.Ytdbbkhmiflignaa
