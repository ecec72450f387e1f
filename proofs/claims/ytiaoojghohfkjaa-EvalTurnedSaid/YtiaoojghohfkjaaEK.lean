/- The evaluator: All. -/
import Derived.Test.YtiaoojghohfkjaaEJ
namespace Go.Proofs.Ytiaoojghohfkjaa
set_option maxRecDepth 100000
set_option maxHeartbeats 2000000

theorem flatV_append (l m : List Vl) : flatV (l ++ m) = flatV l ++ flatV m := by simp [flatV]
theorem closed_flatV {n : Nat} : ∀ l : List Vl, closedL n (flatV l) = true
  | [] => rfl
  | x :: l => by
    rw [show flatV (x :: l) = x.cs ++ flatV l from rfl, closedL_append, closed_flatV l]
    simp [Vl.cs]
theorem all_loop {H0 H : AHeap} {g em : Nat} {most : Int} {ns : List Nd} {F : List Nat} (G : GT H0 g most ns F) (gok : Gok ns) {look : ByteArray → Option Vl} {es0 : List AEnt} {c0 : Nat} (lem : em < H0.size) (oem : H0.obj em = .map (.one .s) es0 c0) (hem : EnvM es0 look) (k0 : Keeps H0 H)
    {s : AV} {ids : List Int} (hs : RI H0 s ids) (hm : ids.length ≤ 1000000) {e : Env} {r : Rn} (hL : loopL Go.Proofs.Try.prog KT R l_eval_All_0 e H = r) (e0 : e 0 = some (.ptr g 0)) (e8 : e 8 = some (.map em)) (e9 : e 9 = some .nils) (e16 : e 16 = some s) (e17 : e 17 = some (.int .i64 ids.length)) (e18 : e 18 = some (.int .i64 0)) :
    ∃ y e' H', r = some (y, e', H') ∧ (Keeps H0 H' ∧ (((∀ x, x ∈ ids → (worthS look ns x).2 = 0) ∧ y = .exit 0 ∧ ∃ w, e' 9 = some w ∧ OutC H0 H' w 3 ids.length (flatV (ids.map fun x => (worthS look ns x).1))) ∨
      ∃ i x, (∀ y, y ∈ ids.take i → (worthS look ns y).2 = 0) ∧ ids[i]? = some x ∧ ¬ (worthS look ns x).2 = 0 ∧ y = .ret ∧ e' 6 = some .nils ∧ e' 7 = some (.int .i64 (worthS look ns x).2))) ∧ ∀ t, t ∉ defs l_eval_All_0 → e' t = e t := by
  refine loop_count l_eval_All_0.eq_1 hL ids.length (fun i e1 H1 => e1 18 = some (.int .i64 i) ∧ Keeps H0 H1 ∧ (∀ y, y ∈ ids.take i → (worthS look ns y).2 = 0) ∧ ∃ w, e1 9 = some w ∧ OutC H0 H1 w 3 i (flatV ((ids.take i).map fun x => (worthS look ns x).1))) _ 0 (by omega)
    ⟨e18, k0, by simp, .nils, e9, OutC.nils⟩ ?_ ?_
  · rintro i f H1 hf - hlt ⟨f18, k, hok, w, f9, hw⟩
    have w1 := i64w (n := (i : Int) + 1) (by omega) (by omega)
    have c1 : (i : Int) < ids.length := by omega
    obtain ⟨x, hx⟩ : ∃ x, ids[i]? = some x := ⟨ids[i], by simp [hlt]⟩
    have ht : ids.take (i + 1) = ids.take i ++ [x] := by rw [List.take_add_one, hx]; rfl
    obtain ⟨x0, y0⟩ := loadi_of hs hlt
    replace y0 := y0 H1 k
    have hg : ids.getD i 0 = x := by simp [List.getD_eq_getElem?_getD, hx]
    rw [hg] at y0
    have lem1 : em < H1.size := k.lt lem
    have oem1 := (k.obj _ lem).trans oem
    have hwr := worth_run (G.keeps k) gok lem1 oem1 hem (id := x)
    have hmap : (ids.take (i + 1)).map (fun x => (worthS look ns x).1) = (ids.take i).map (fun x => (worthS look ns x).1) ++ [(worthS look ns x).1] := by rw [ht]; simp
    rw [hmap]
    by_cases c0 : (worthS look ns x).2 = 0
    · rw [c0] at hwr
      have hok' : ∀ y, y ∈ ids.take i ∨ y = x → (worthS look ns y).2 = 0 := fun y hy => by
        rcases hy with h | h
        · exact hok y h
        · rw [h]; exact c0
      rw [ht]
      generalize (worthS look ns x).1 = X at *
      have key : ∀ (H2 : AHeap) (r : Option (AV × AHeap)), Keeps H1 H2 → appU (H2.new (.cells [.int .i64 X.w, u (lo X.n), u (hi X.n)])) w (.row H2.size 0 3 1 true) (some (3, 24, [.int .i64 0, u 0#64, u 0#64])) = r → ∃ v' H', r = some (v', H') ∧ OutC H0 H' v' 3 (i + 1) (flatV ((ids.take i).map (fun x => (worthS look ns x).1) ++ [X])) ∧ Keeps H0 H' := fun H2 r k2 hA => by
        obtain ⟨v', H', h1, h2, h3, -⟩ := (hw.keep k2).push (k.trans k2) hA rfl rfl (by omega) (by omega) (by omega) rfl
        refine ⟨v', H', h1, ?_, h3⟩
        rw [flatV_append]
        simpa [flatV, Vl.cs] using h2
      simp (maxDischargeDepth := 20) [hf, e0, e8, e16, e17, f18, f9, c1, x0, y0, hwr]
      generalize hA : appU _ _ _ _ = q
      obtain ⟨v', H', rfl, h2, h3⟩ := key _ q (by simp (maxDischargeDepth := 20)) hA
      simp [f18, w1, h3]
      exact ⟨hok', by simpa using h2⟩
    · simp (maxDischargeDepth := 20) [hf, e0, e8, e16, e17, f18, c1, x0, y0, k, hwr, c0]
      exact ⟨(k.new' _).set k.size _, i, hok, x, hx, c0, rfl⟩
  · rintro f H1 hf ⟨f18, k, hok, w, f9, hw⟩
    rw [List.take_of_length_le (Nat.le_refl _)] at hw hok
    simp [hf, e17, f18]
    exact ⟨k, hok, w, f9, hw⟩
theorem all_run {H : AHeap} {g : Nat} {most : Int} {ns : List Nd} {F : List Nat} (G : GT H g most ns F) (gok : Gok ns) {s t : AV} {env : List Nm} (hs : RN H s env) (hm : env.length ≤ 1000000) {ids : List Int} (ht : RI H t ids) (hi' : ids.length ≤ 1000000) :
    ((∀ x, x ∈ ids → (worthS (lookL env) ns x).2 = 0) ∧ ∃ v, R f_eval_All [.ptr g 0, t, s] H = some (.tup [v, .int .i64 0], H) ∧ ∀ H', RV H' v (ids.map fun x => (worthS (lookL env) ns x).1)) ∨
    ∃ i x, (∀ y, y ∈ ids.take i → (worthS (lookL env) ns y).2 = 0) ∧ ids[i]? = some x ∧ ¬ (worthS (lookL env) ns x).2 = 0 ∧ R f_eval_All [.ptr g 0, t, s] H = some (.tup [.nils, .int .i64 (worthS (lookL env) ns x).2], H) := by
  obtain ⟨H1, es, c, hk, k1, z1, o1, he⟩ := known_env hs hm
  have hlen := ht.len
  rw [e_eval_All]
  simp (maxDischargeDepth := 40) [c_eval_All, hk, hlen]
  generalize hL : loopL _ _ _ _ _ _ = r
  obtain ⟨y, e1, H2, rfl, ⟨k2, hy⟩, fr⟩ := all_loop (G.keeps k1) gok z1 o1 he (Keeps.refl _) (ht.keep k1) hi' hL (by simp) (by simp) (by simp) (by simp) (by simp) (by simp)
  have kk := k1.trans k2
  rcases hy with ⟨hok, rfl, w, e9, hw⟩ | ⟨i, x, hok, hx, h0, rfl, e6, e7⟩
  · left
    refine ⟨hok, ?_⟩
    simp (maxDischargeDepth := 40) [e9]
    obtain ⟨v', b1, b2⟩ := back_outI (kk := .i64) (i := 0) kk (hw.base k1.size) (closed_flatV _)
    refine ⟨v', by rw [b1], fun H' => ?_⟩
    have := b2 H'
    unfold RV
    rw [List.length_map]
    exact this
  · right
    refine ⟨i, hok, x, hx, h0, ?_⟩
    simp (maxDischargeDepth := 40) [e6, e7]
    rw [back_cons (by simp) kk.shut, cut_keeps kk]
    simp
end Go.Proofs.Ytiaoojghohfkjaa
