/- And-inverter graphs: the statement that each call means what it is called. -/
import Derived.Test.YtphkkcocimmmfaaAW3
import Derived.Test.YtphkkcocimmmfaaAM2
namespace Go.Proofs.Ytphkkcocimmmfaa
set_option maxRecDepth 100000

set_option maxHeartbeats 2000000 in
theorem known_run {H : AHeap} : Pure R f_plaitlaw8_known [] H (.bool true) := by
  refine pure_of ?_
  generalize h : R f_plaitlaw8_known [] H = r
  rw [e_plaitlaw8_known] at h
  simp [c_plaitlaw8_known] at h
  generalize hN : R f_aig_New _ _ = q at h
  obtain ⟨H0, o, F0, rfl, g0, k0, n0⟩ := new_run hN
  rw [show (min (max (50 : Int) 1) 32768) = 50 from by decide] at g0
  simp at h
  have r0 : Rt 50 [] := ⟨by decide, by decide, by simp⟩
  generalize hN : R f_plait_aig_Graph_Input _ _ = q at h
  obtain ⟨H1, F1, rfl, g1, m1⟩ := input_run g0 r0 hN
  have r1 := (r0.put (k := (0, 0)) (by simp)).rt
  rw [show putF 50 [] (0, 0) = ⟨2, 0, [(0, 0)]⟩ from rfl] at g1 h r1
  simp at h
  generalize hN : R f_plait_aig_Graph_Input _ _ = q at h
  obtain ⟨H2, F2, rfl, g2, m2⟩ := input_run g1 r1 hN
  have r2 := (r1.put (k := (0, 0)) (by simp)).rt
  simp only at g2 h r2
  rw [show putF 50 [(0, 0)] (0, 0) = ⟨4, 0, [(0, 0), (0, 0)]⟩ from rfl] at g2 h r2
  simp at h
  generalize hN : R f_plait_aig_Graph_And _ _ = q at h
  obtain ⟨H3, F3, rfl, g3, m3⟩ := and_run g2 r2 hN
  have r3 := (r2.and 4 2).rt
  simp only at g3 h r3
  rw [show andF 50 [(0, 0), (0, 0)] 4 2 = ⟨6, 0, [(0, 0), (0, 0), (2, 4)]⟩ from rfl] at g3 h r3
  simp at h
  generalize hN : R f_plait_aig_Graph_And _ _ = q at h
  obtain ⟨H4, F4, rfl, g4, m4⟩ := and_run g3 r3 hN
  have r4 := (r3.and 2 3).rt
  simp only at g4 h r4
  rw [show andF 50 [(0, 0), (0, 0), (2, 4)] 2 3 = ⟨0, 0, [(0, 0), (0, 0), (2, 4)]⟩ from rfl] at g4 h r4
  simp at h
  generalize hN : R f_plait_aig_Graph_Or _ _ = q at h
  obtain ⟨H5, F5, rfl, g5, m5⟩ := or_run g4 r4 hN
  have r5 := (r4.or 2 4).rt
  simp only at g5 h r5
  rw [show orF 50 [(0, 0), (0, 0), (2, 4)] 2 4 = ⟨9, 0, [(0, 0), (0, 0), (2, 4), (3, 5)]⟩ from rfl] at g5 h r5
  simp at h
  generalize hN : R f_plait_aig_Graph_Xor _ _ = q at h
  obtain ⟨H6, F6, rfl, g6, m6⟩ := xor_run g5 r5 hN
  have r6 := (r5.xor 2 4).rt
  simp only at g6 h r6
  rw [show xorF 50 [(0, 0), (0, 0), (2, 4), (3, 5)] 2 4 = ⟨15, 0, [(0, 0), (0, 0), (2, 4), (3, 5), (2, 5), (3, 4), (11, 13)]⟩ from rfl] at g6 h r6
  simp at h
  generalize hN : R f_plait_aig_Graph_And _ _ = q at h
  obtain ⟨H7, F7, rfl, g7, m7⟩ := and_run g6 r6 hN
  simp only at g7 h
  rw [show andF 50 [(0, 0), (0, 0), (2, 4), (3, 5), (2, 5), (3, 4), (11, 13)] 2 99 = ⟨0, 80, [(0, 0), (0, 0), (2, 4), (3, 5), (2, 5), (3, 4), (11, 13)]⟩ from rfl] at g7 h
  simp at h
  generalize hN : R f_plait_aig_Graph_Eval _ _ = q at h
  have g7 := g7.keeps (Keeps.new H7 (.cells [.bool true, .bool false]))
  obtain ⟨H8, rfl, k8⟩ := eval_run g7 r6 (inp := [true, false]) (Reads.row' (all := [.bool true, .bool false]) (by simp) (by simp) (by simp)) hN
  rw [show evalF [(0, 0), (0, 0), (2, 4), (3, 5), (2, 5), (3, 4), (11, 13)] 15 [true, false] = (true, 0) from rfl] at h
  have g8 := g7.keeps k8
  simp at h
  have hk := (kids_run g8 r6 (n := 3)).run
  have kk := (kids_run g8 r6 (n := 3)).keeps
  have g9 := g8.keeps kk
  rw [show kidsF [(0, 0), (0, 0), (2, 4), (3, 5), (2, 5), (3, 4), (11, 13)] 3 = (2, 4, true) from rfl] at hk
  simp [hk] at h
  generalize aft R f_plait_aig_Graph_Kids [AV.ptr o 0, AV.int IntKind.i64 3] H8 = H9 at h kk g9
  have z0 : IntKind.i64.wrap 0 = 0 := by decide
  simp [z0, nodes_run g9] at h
  generalize hN : R f_plait_aig_Graph_Inputs _ _ = q at h
  obtain ⟨v, H10, rfl, k10, rd⟩ := inputs_run g9 r6 hN
  simp only at rd
  have hi := ints_run (H := H10.new (.cells [.int .i64 2, .int .i64 4])) (rd.keep (by simp)) (b := [2, 4]) (Reads.row' (o := H10.size) (all := [.int .i64 2, .int .i64 4]) (full := true) (by simp) (by simp) (by simp)) (by decide)
  rw [show decide (insF [(0, 0), (0, 0), (2, 4), (3, 5), (2, 5), (3, 4), (11, 13)] 0 = [2, 4]) = true from rfl] at hi
  simp at hi
  simp [hi] at h
  have g10 := (g9.keeps k10).keeps (Keeps.new _ (.cells [.int .i64 2, .int .i64 4]))
  generalize hN : R f_plait_aig_Graph_Cone _ _ = q at h
  obtain ⟨v, H11, rfl, k11, rd⟩ := cone_run g10 r6 hN
  simp only at rd
  have hi := ints_run (H := H11.new (.cells [.int .i64 1, .int .i64 2, .int .i64 4])) (rd.keep (by simp)) (b := [1, 2, 4]) (Reads.row' (o := H11.size) (all := [.int .i64 1, .int .i64 2, .int .i64 4]) (full := true) (by simp) (by simp) (by simp)) (by decide)
  rw [show decide (coneF [(0, 0), (0, 0), (2, 4), (3, 5), (2, 5), (3, 4), (11, 13)] 9 = [1, 2, 4]) = true from rfl] at hi
  simp at hi
  simp [hi] at h
  refine ⟨_, _, h.symm, rfl, ?_⟩
  have mv : Mv F0 H0 F7 H7 := (((((m1.trans m2).trans m3).trans m4).trans m5).trans m6).trans m7
  have k7 : Keeps H H7 := mv.fr.keeps k0 n0
  exact ((((k7.new' _).trans k8).trans kk).trans k10).new' _ |>.trans k11 |>.new' _

def wantF (w : Int) (p q s : Bool) : Bool := if w = 4 then p || q else if w = 5 then p != q else if w = 6 then s && p || !s && q else p && q

theorem evalF_V {ks : Kd} {l : Int} {inp : List Bool} (hl : isL ks.length l) (hi : inp.length = (insF ks 0).length) : evalF ks l inp = (V inp ks l, 0) := by
  rw [evalF, if_pos hl, if_pos hi]; rfl

theorem does_means {m : Int} {ks : Kd} (hr : Rt m ks) {w a b c : Int} (h1 : ¬ w < 1) (h6 : ¬ 6 < w) (he : (doesF m ks w a b c).e = 0) {inp : List Bool} (hi : inp.length = (insF ks 0).length) :
    evalF (doesF m ks w a b c).ks (doesF m ks w a b c).l inp = (wantF w (evalF (doesF m ks w a b c).ks a inp).1 (evalF (doesF m ks w a b c).ks b inp).1 (evalF (doesF m ks w a b c).ks c inp).1, 0) := by
  have hf := hr.does w a b c
  have hn := (Ands.does (m := m) (ks := ks) (w := w) (a := a) (b := b) (c := c) (by omega)).ins 0
  have hi' : inp.length = (insF (doesF m ks w a b c).ks 0).length := by rw [hn]; exact hi
  have hlen := hf.len
  rw [evalF_V hf.lit hi']
  have lift : ∀ l, isL ks.length l → (evalF (doesF m ks w a b c).ks l inp).1 = V inp ks l := fun l hl => by rw [evalF_V (isL_mono hl hlen) hi', hf.V inp hl]
  have hw : w = 1 ∨ w = 2 ∨ w = 3 ∨ w = 4 ∨ w = 5 ∨ w = 6 := by omega
  rcases hw with hw | hw | hw | hw | hw | hw
  · subst hw
    rw [show doesF m ks 1 a b c = andF m ks a b from by simp [doesF]] at *
    obtain ⟨la, lb, hv⟩ := V_and hr inp he
    rw [hv, lift a la, lift b lb]; simp [wantF]
  · subst hw
    rw [show doesF m ks 2 a b c = andF m ks a b from by simp [doesF]] at *
    obtain ⟨la, lb, hv⟩ := V_and hr inp he
    rw [hv, lift a la, lift b lb]; simp [wantF]
  · subst hw
    rw [show doesF m ks 3 a b c = andF m ks a b from by simp [doesF]] at *
    obtain ⟨la, lb, hv⟩ := V_and hr inp he
    rw [hv, lift a la, lift b lb]; simp [wantF]
  · subst hw
    rw [show doesF m ks 4 a b c = orF m ks a b from by simp [doesF]] at *
    obtain ⟨la, lb, hv⟩ := V_or hr inp he
    rw [hv, lift a la, lift b lb]; simp [wantF]
  · subst hw
    rw [show doesF m ks 5 a b c = xorF m ks a b from by simp [doesF]] at *
    obtain ⟨la, lb, hv⟩ := V_xor hr inp he
    rw [hv, lift a la, lift b lb]; simp [wantF]
  · subst hw
    rw [show doesF m ks 6 a b c = muxF m ks c a b from by simp [doesF]] at *
    obtain ⟨lc, la, lb, hv⟩ := V_mux hr inp he
    rw [hv, lift a la, lift b lb, lift c lc]; simp [wantF]

end Go.Proofs.Ytphkkcocimmmfaa
