/- The statements' own known. -/
import Derived.Test.YtdbbkhmiflignaaDA
import Derived.Test.YtdbbkhmiflignaaDB
namespace Go.Proofs.Ytdbbkhmiflignaa
set_option maxRecDepth 100000

def kn : List St3 := [(0, 0, 0), (0, 0, 0), (1, 2, 4), (5, 6, 0)]
def knS : PS := (PS.start 1).play kn
theorem kn_ks : knS.ks = [(0, 0), (0, 0), (2, 4)] := by kernel_rfl
theorem kn_C : knS.C = [[-3, 1], [-3, 2]] := by kernel_rfl
theorem kn_r : knS.roots = [3] := by kernel_rfl
theorem kn_l : knS.lits = [6] := by kernel_rfl
theorem kn_last : knS.E.last = 3 := by kernel_rfl
theorem kn_v : knS.E.vr 1 = some 1 := by kernel_rfl
theorem kn_can : canF [[-3, 1], [-3, 2], [3]] 3 = true := by kernel_rfl
theorem eroot_bad {H : AHeap} {e g : Nat} {E : En} {mo to : Nat} {m : Int} {ks : Kd} {G : List Nat} (h : ERep H e g E mo to .nils [] []) (gg : GAt H g m ks G) (hr : Rt m ks) {l : Int} (hl : ¬ isL ks.length l) {r : Option (AV × AHeap)} (hR : R f_plait_cnf_Encoder_Root [.ptr e 0, .int .i64 l] H = r) :
    ∃ H' G', r = some (.tup [.int .i64 0, .nils, .int .i64 100], H') ∧ GAt H' g m ks G' ∧ Mv G H G' H' := by
  rw [e_plait_cnf_Encoder_Root] at hR
  simp [c_plait_cnf_Encoder_Root, h.self] at hR
  generalize hA : R f_plait_aig_Graph_And _ _ = q at hR
  obtain ⟨H1, G1, rfl, g1, m1⟩ := and_run gg hr hA
  have ha : andF m ks l l = ⟨0, 80, ks⟩ := by unfold andF; rw [if_neg (by simp [hl])]
  rw [ha] at g1 hR
  simp at hR g1
  by_cases hs : Shut H H1
  · rw [back_nil (by simp [closedL]) hs] at hR
    obtain ⟨g2, -⟩ := gg.cut g1 hs
    exact ⟨_, _, hR.symm, g2, m1.fr.cutF, m1.new⟩
  · rw [back_not hs] at hR
    exact ⟨_, _, hR.symm, g1, m1⟩
set_option maxHeartbeats 2000000 in
theorem known_run {H : AHeap} : R f_plaitlaw10_known [] H = some (.bool true, H) := by
  generalize h : R f_plaitlaw10_known [] H = r
  rw [e_plaitlaw10_known] at h
  simp [c_plaitlaw10_known] at h
  generalize hN : R f_plaitlaw10_play _ _ = q at h
  have k0 := Keeps.new H (.cells [.int .i64 0, .int .i64 0, .int .i64 0, .int .i64 0, .int .i64 0, .int .i64 0, .int .i64 1, .int .i64 2, .int .i64 4, .int .i64 5, .int .i64 6, .int .i64 0])
  obtain ⟨H1, x, g, e, mo, to, av, lv, rv, vs, G, rfl, X, P⟩ := play_run (ss := kn) (first := 1) (Reads.row' (by simp) (by simp [s3c, kn]) (by simp [s3c, kn])) (by simp [kn]) (by omega) (by omega) hN
  have hS : (PS.start 1).play kn = knS := rfl
  rw [hS] at X P
  obtain ⟨S, hSS⟩ : ∃ S, S = knS := ⟨_, rfl⟩
  rw [← hSS] at X P
  have e1 : S.ks = [(0, 0), (0, 0), (2, 4)] := by rw [hSS]; exact kn_ks
  have e2 : S.C = [[-3, 1], [-3, 2]] := by rw [hSS]; exact kn_C
  have e3 : S.roots = [3] := by rw [hSS]; exact kn_r
  have e5 : S.E.last = 3 := by rw [hSS]; exact kn_last
  have e6 : S.E.vr 1 = some 1 := by rw [hSS]; exact kn_v
  have hnod := nodes_run X.ga
  have hof := of_run X.er 1
  rw [e6] at hof
  have hv1 : S.E.v 1 = 1 := by unfold En.v; rw [e6]; rfl
  rw [hv1] at hof
  have hrl := X.rr.len
  have hcl := X.cr.rd.len
  rw [e3] at hrl
  rw [e2] at hcl
  rw [e1] at hnod
  simp at hrl hcl hnod hof
  simp (maxDischargeDepth := 40) [X.self, hrl, hcl, hnod, hof] at h
  generalize hB : R f_plait_cnf_Encoder_Root _ _ = q at h
  obtain ⟨H2, G2, rfl, g2, m2⟩ := eroot_bad X.er X.ga P.rt (l := 99) (by rw [e1]; unfold isL; simp) hB
  have X2 : XR _ H2 x g e mo to av lv rv vs G2 S := X.grow g2 m2
  have hev := evars_run X2.er
  rw [e5] at hev
  have hr1 : 0 < S.roots.length := by rw [e3]; simp
  have had : aindexAddr Go.Proofs.Try.prog T_s_int rv 0 = some (ixp rv 1 0) := X2.rr.addr (by simp) (i := 0) hr1
  have hat : aload Go.Proofs.Try.prog H2 T_int (ixp rv 1 0) = some (.int .i64 3) := by
    rw [X2.rr.at (by simp) rfl hr1, e3]; rfl
  simp (maxDischargeDepth := 40) [X2.self, hev, had, hat] at h
  generalize hA : appU _ _ _ _ = q at h
  have hcn : S.C.length = 2 := by rw [e2]; rfl
  obtain ⟨H3, rfl, F3, s3, o3, rd3⟩ := app_of hA (((X2.cr.rd.keep (Keeps.new H2 _)).keep (Keeps.new _ _))) X2.cr.gr (Reads.row' (all := [.row H2.size 0 1 1 true]) (by simp) (by simp) (by simp)) (by omega) rfl (by omega) (by omega) (by omega) (by simp)
  simp only [new_size] at s3 o3 rd3
  have F23 : Fr (objs av) H2 H3 := (((Keeps.new H2 _).new' _).fr _).trans F3 fun p hp => .inl hp
  have hav : ∀ p, p ∈ objs av → p < H2.size := fun p hp => X2.cr.rd.lt hp
  have cr3 : CR H3 (.row (H2.size + 1 + 1) 0 1 (S.C.length + 1) false) (vs ++ [.row H2.size 0 1 [(3 : Int)].length true]) (S.C ++ [[3]]) := by
    refine CR.snoc (H := H2.new (.cells [.int .i64 3])) (X := objs av) (o := H2.size) (f := true) (X2.cr.keeps (Keeps.new H2 _)) (((Keeps.new _ _).fr _).trans F3 fun p hp => .inl hp) (fun p hp hq => ?_) (by simpa using rd3) (by simp) rfl (by simp) ?_ (by simp)
    · obtain ⟨w', hw', hpw⟩ := List.mem_flatMap.1 hp
      obtain ⟨c', -, o', f', rfl, -, -, hno⟩ := X2.cr.get hw'
      simp at hpw
      subst hpw; exact hno hq
    · rw [F3.obj _ (by simp) (fun hm => by have := hav _ hm; omega)]
      simp
  rw [hcn] at cr3
  have hcan := can_run cr3 (by rw [e2]; simp) (fun c hc => by
    rw [e2] at hc
    simp at hc
    rcases hc with rfl | rfl | rfl <;> simp) (v := 3) (by omega)
  have hct : canF (S.C ++ [[3]]) 3 = true := by rw [e2]; exact kn_can
  rw [hct] at hcan
  simp [hcn] at h
  simp at hcan
  simp [hcan] at h
  have kF : Keeps H H3 := F23.keeps (k0.trans X2.kb) fun p hp => by
    have := X2.nb p (by simp [crO, hp])
    simp at this
    omega
  rw [back_k (by simp) kF] at h
  exact h.symm
end Go.Proofs.Ytdbbkhmiflignaa
