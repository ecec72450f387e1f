/- And-inverter graphs: cones, told as slices of their own. -/
import Derived.Test.YtdbbkhmiflignaaAX2
namespace Go.Proofs.Ytdbbkhmiflignaa
set_option maxRecDepth 100000

theorem cone_runC {H : AHeap} {o : Nat} {m : Int} {ks : Kd} {F : List Nat} (g : GAt H o m ks F) (hr : Rt m ks) {l : Int} {r : Option (AV × AHeap)} (h : R f_plait_aig_Graph_Cone [.ptr o 0, .int .i64 l] H = r) : RetC H (coneF ks l) r := by
  have hlit := lit_run g (l := l)
  obtain ⟨kv, mo, iv, g, rfl⟩ := g
  rw [e_plait_aig_Graph_Cone] at h
  have hm := hr.most
  have hle := hr.le
  by_cases ha : isL ks.length l
  rotate_left
  · simp [c_plait_aig_Graph_Cone, hlit, ha] at h
    subst h
    exact ⟨_, _, rfl, Keeps.refl _, by simp [coneF, ha], by simp, by simp⟩
  obtain ⟨n, hn⟩ : ∃ n : Nat, l / 2 = n := ⟨(l / 2).toNat, by have := ha.1; omega⟩
  have hnl : n ≤ ks.length := by have := ha.2; omega
  have w1 : IntKind.i64.wrap ((n : Int) + 1) = (n : Int) + 1 := i64w (by omega) (by omega)
  have c1 : (n : Int) + 1 ≤ 140737488355328 := by omega
  have c2 : (n : Int) + 1 ≤ 9223372036854775807 := by omega
  have c3 : n < n + 1 := by omega
  have c4 : (n : Int) < (n : Int) + 1 := by omega
  simp [c_plait_aig_Graph_Cone, hlit, ha, hn, w1, c1, c2, c3, c4] at h
  generalize hL : loopL _ _ _ _ _ _ = q at h
  obtain ⟨x, e1, H1, rfl, ⟨rfl, k1, z1, o1⟩, fr1⟩ := cone_loop0 hr g hL (by simp) (by simp) (n := n) (v := (List.replicate (n + 1) false).set n true) (len := n + 1) (by simp) (by omega) hnl (by rw [List.map_set]; simp) (by simp) (by simp) (by simp)
  simp at h
  generalize hL2 : loopL _ _ _ _ _ _ = q at h
  obtain ⟨x, e2, H2, rfl, ⟨rfl, k2, w, f8, rd⟩, fr2⟩ := cone_loop1 (v := markF ks n ((List.replicate (n + 1) false).set n true)) (len := n + 1) (by rw [markF_len]; simp) (by omega) (by omega) hL2 k1 z1 o1 (by simp [fr1]) (by simp) (by simp)
  simp [f8] at h
  subst h
  rw [coneF, if_pos ha, coneM, hn]
  exact back_grow k2 rd.rd rd.gr (fun p hp => Nat.le_of_lt (rd.new p hp))
end Go.Proofs.Ytdbbkhmiflignaa
