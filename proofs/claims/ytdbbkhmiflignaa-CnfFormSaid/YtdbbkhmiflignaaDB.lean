/- The statements' own script of an encoder in the heap: from the start. -/
import Derived.Test.YtdbbkhmiflignaaCXE
namespace Go.Proofs.Ytdbbkhmiflignaa
set_option maxRecDepth 100000

theorem cnew_run {H : AHeap} {g : Nat} (hg : g < H.size) {first : Int} (h1 : 1 ≤ first) (h2 : first ≤ 100000) {r : Option (AV × AHeap)} (h : R f_cnf_New [.ptr g 0, .int .i64 first] H = r) :
    ∃ H', r = some (.ptr (H.size + 2) 0, H') ∧ Keeps H H' ∧ H'.size = H.size + 3 ∧ ERep H' (H.size + 2) g (En.start first) H.size (H.size + 1) .nils [] [] := by
  rw [e_cnf_New] at h
  have hm : max first 1 = first := by omega
  have w1 : IntKind.i64.wrap (first - 1) = first - 1 := i64w (by omega) (by omega)
  simp [c_cnf_New, hm, w1] at h
  rw [back_open (by simp)] at h
  subst h
  refine ⟨_, rfl, (((Keeps.refl H).new' _).new' _).new' _, by simp, ⟨by simp [En.start], by simp, by simp only [new_size]; omega, by simp, by simp, by omega, by omega, by omega, ⟨[], 0, by simp, IM.nil⟩, ⟨[], 0, by simp, ?_⟩, CR.nil, by simp [crO]⟩⟩
  have e : (En.start first).tf = fun _ => none := by
    funext n
    unfold En.tf En.told En.start
    simp
  rw [e]; exact IM.nil
set_option maxHeartbeats 1000000 in
/-- A script is played. -/
theorem play_run {Hb : AHeap} {first : Int} {ss : List St3} {w : AV} (hw : Reads Hb w 3 ss.length (s3c ss)) (hn : ss.length ≤ 100) (h1 : 1 ≤ first) (hf1 : first ≤ 1000) {r : Option (AV × AHeap)} (h : R f_plaitlaw10_play [w, .int .i64 first] Hb = r) :
    ∃ H' x g e mo to av lv rv vs G, r = some (.ptr x 0, H') ∧ XR Hb H' x g e mo to av lv rv vs G ((PS.start first).play ss) ∧ PI first ((PS.start first).play ss) ss.length := by
  rw [e_plaitlaw10_play] at h
  simp [c_plaitlaw10_play] at h
  generalize hN : R f_aig_New _ _ = q at h
  obtain ⟨H1, g, G, rfl, g1, k1, n1⟩ := new_run hN
  rw [show (min (max (60 : Int) 1) 32768) = 60 from by decide] at g1
  simp at h
  generalize hN : R f_cnf_New _ _ = q at h
  have glt := g1.lt g1.mem
  have gn := n1 g g1.mem
  obtain ⟨H2, rfl, k2, s2, er⟩ := cnew_run (by simp; omega) h1 (by omega) hN
  simp only [new_size] at er s2
  have hx : H2.obj H1.size = .cells [.ptr g 0, .nilp, .nils, .nils, .nils, .bool true] := by
    rw [k2.obj _ (by simp)]; simp
  have hxl : H1.size < H2.size := by omega
  simp [hx] at h
  generalize hH3 : H2.set H1.size (.cells [.ptr g 0, .ptr (H1.size + 1 + 2) 0, .nils, .nils, .nils, .bool true]) = H3 at h
  have F3 : Fr [H1.size] H2 H3 := by rw [← hH3]; exact (Fr.refl _ H2).set (.inl (by simp)) _
  have z1 := k1.size
  have X : XR Hb H3 H1.size g (H1.size + 1 + 2) (H1.size + 1) (H1.size + 1 + 1) .nils .nils .nils [] G (PS.start first) := by
    refine ⟨by rw [← hH3]; simp, F3.lt hxl, er.keep F3 fun p hp => ?_, ((g1.keeps (Keeps.new H1 _)).keeps k2).keep F3 fun p hp => ?_, CR.nil, Reads.nils, by simp, Reads.nils, by simp, F3.keeps ((k1.new' _).trans k2) fun p hp => ?_, fun p hp => ?_, ⟨fun p => if p < H1.size then 2 else if p = H1.size then 0 else 1, by simp, ?_, ?_, ?_, fun p hp => ?_, by simp [crO], by simp, by simp⟩⟩
    · simp [crO] at hp
      simp; omega
    · have := g1.lt hp; simp; omega
    · simp at hp; omega
    · rcases hp with h | h | h | h | h | h | h | h
      · omega
      · omega
      · omega
      · omega
      · exact n1 p h
      · simp [crO] at h
      · simp at h
      · simp at h
    · show ite _ _ _ = _
      rw [if_neg (by omega), if_neg (by omega)]
    · show ite _ _ _ = _
      rw [if_neg (by omega), if_neg (by omega)]
    · show ite _ _ _ = _
      rw [if_neg (by omega), if_neg (by omega)]
    · show ite _ _ _ = _
      rw [if_pos (g1.lt hp)]
  generalize hL : loopL _ _ _ _ _ _ = q at h
  obtain ⟨y, ev, H4, rfl, ⟨rfl, av, lv, rv, vs, G', X', P'⟩, fr⟩ := play_loop hw hn hf1 X (PI.start h1) hL (by simp) (by simp) (by simp)
  simp [fr] at h
  have := X'.nb H1.size (by simp)
  rw [back_open (by simp; omega)] at h
  exact ⟨H4, _, _, _, _, _, av, lv, rv, vs, G', h.symm, X', P'⟩
end Go.Proofs.Ytdbbkhmiflignaa
